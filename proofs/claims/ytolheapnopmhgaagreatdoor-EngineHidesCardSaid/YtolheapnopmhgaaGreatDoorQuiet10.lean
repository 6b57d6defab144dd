/- The same, on maps that are read. -/
import Derived.Test.YtolheapnopmhgaaGreatDoorQuiet9
set_option linter.all false
namespace Go.Proofs.YtolheapnopmhgaaGreatDoor
open Go

section
variable {C : Ctx} {ρ : Sym} {Φ : Env} {base : Nat} {h : H} {w : World}

def KeyOk (C : Ctx) (ρ : Sym) (Φ : Env) (d : Nat) : Prop := ∀ (t : TypeId) (v : V) (x : Value), keyB C d t v = true → denA ρ Φ v = some x → ∀ em m w, (Instr.checkKey em (d + m) t x).run C.P w = .ok () w
theorem keyFs_run {d : Nat} (hd : KeyOk C ρ Φ d) {c : Tr V} {off n : Nat} {l : List Value} (hl : denRow ρ Φ c off n = some l) (em : Bool) (m : Nat) (w : World) :
    ∀ (fs : List Field), keyFs C (keyB C d) c off n fs = true → (forIn fs PUnit.unit fun f (_ : PUnit) => (do
      if f.name ≠ "_" then Instr.checkKey em (d + m) f.type (← part f.type l.toArray f.offset)
      pure (ForInStep.yield PUnit.unit) : Sem (ForInStep PUnit))).run C.P w = .ok PUnit.unit w := by
  intro fs
  induction fs with
  | nil => intro _; rfl
  | cons f fs ih =>
    intro hk
    change ((f.name == "_" || Option.rec false (keyB C d f.type) (partV C f.type c off n f.offset)) && keyFs C (keyB C d) c off n fs) = true at hk
    simp only [Bool.and_eq_true, Bool.or_eq_true] at hk
    obtain ⟨h1, h2⟩ := hk
    rw [List.forIn_cons, Sem.run_bind]
    by_cases hn : f.name = "_"
    · simp only [hn, ne_eq, not_true_eq_false, if_false, Sem.run_bind, Sem.run_pure, Result.andThen]
      exact ih h2
    · have h1 : Option.rec false (keyB C d f.type) (partV C f.type c off n f.offset) = true := h1.resolve_left (by simpa using hn)
      cases hp : partV C f.type c off n f.offset with
      | none => rw [hp] at h1; cases h1
      | some v =>
        rw [hp] at h1
        obtain ⟨x, hx, hrun⟩ := partV_run hl hp
        have := hd f.type v x h1 hx em m w
        simp only [hn, ne_eq, not_false_eq_true, if_true, Sem.run_bind, hrun, this, Sem.run_pure, Result.andThen]
        exact ih h2
theorem keyB_succ {d : Nat} (hd : KeyOk C ρ Φ d) : KeyOk C ρ Φ (d + 1) := by
  intro t v x hk hx em m w
  change Option.rec false (keyU C (keyB C d) v) (C.P.underlying t) = true at hk
  cases hu : C.P.underlying t with
  | none => rw [hu] at hk; cases hk
  | some u =>
    rw [hu] at hk
    change keyU C (keyB C d) v u = true at hk
    rw [show d + 1 + m = (d + m) + 1 by omega]
    unfold keyU at hk
    have flat : flatB v = true → (∀ fs, u ≠ .struct fs) → (∀ n e, u ≠ .array n e) → (∀ ms, u ≠ .interface ms) → (Instr.checkKey em ((d + m) + 1) t x).run C.P w = .ok () w := fun _ h1 h2 h3 => by
      simp only [Instr.checkKey, Sem.run_bind, under_run hu, Result.andThen]
      cases u <;> first | rfl | exact absurd rfl (h1 _) | exact absurd rfl (h2 _ _) | exact absurd rfl (h3 _)
    split at hk
    · rename_i fs
      unfold keySt at hk
      split at hk
      · simp only [denA] at hx
        obtain ⟨l, hl, rfl⟩ := Option.map_eq_some_iff.1 hx
        simp only [Instr.checkKey, Sem.run_bind, under_run hu, Result.andThen]
        rw [← Array.forIn_toList]
        have := keyFs_run hd hl em m w fs.toList hk
        simp only [Sem.run_bind] at this ⊢
        rw [this]
        rfl
      · cases hk
    · cases hk
    · cases hk
    · rename_i h1 h2 h3
      exact flat hk h1 h2 h3
theorem keyB_run {t : TypeId} {v : V} {x : Value} (hk : keyB C 40 t v = true) (hx : denA ρ Φ v = some x) (em : Bool) (w : World) : (Instr.checkKey em 10000 t x).run C.P w = .ok () w := by
  have key : ∀ d, KeyOk C ρ Φ d := fun d => by
    induction d with
    | zero => intro t v x hk; cases hk
    | succ d ih => exact keyB_succ ih
  exact key 40 t v x hk hx em 9960 w

def FoundR (ρ : Sym) (Φ : Env) (es' : List MapEntry) (i0 : Nat) (r : Option (Nat × V × V × Nat)) (r' : Option (Nat × Value)) : Prop := match r with
  | none => r' = none
  | some e => ∃ e', r' = some (e.1, e'.val) ∧ i0 ≤ e.1 ∧ es'[e.1 - i0]? = some e' ∧ EntR ρ Φ e.2 e'
theorem sameNow_run {kt : TypeId} {u : TypeDesc} {x y : Value} {b : Bool} (hu : C.P.underlying kt = some u) (hs : Instr.sameNow u x y = some b) : (Op.equal kt x y).run C.P w = .ok b w := by
  have key : ∀ d, (Op.equalIn (d + 1) kt x y).run C.P w = .ok b w := fun d => by
    unfold Instr.sameNow at hs
    split at hs
    · split at hs
      · rename_i hk
        subst hk
        cases hs
        simp [Op.equalIn, under_run hu, Result.andThen]
      · cases hs
    · cases hs; simp [Op.equalIn, under_run hu, Result.andThen]
    · cases hs; simp [Op.equalIn, under_run hu, Result.andThen]
    · cases hs
  exact key 9999
theorem findV_run {kt : TypeId} {u : TypeDesc} {k : V} {k' : Value} (hu : C.P.underlying kt = some u) (hk : denA ρ Φ k = some k') (w : World) :
    ∀ {es : List (V × V × Nat)} {es' : List MapEntry} {i : Nat} {r : Option (Nat × V × V × Nat)}, Two (EntR ρ Φ) es es' → findV C kt k es i = some r →
      ∃ r', FoundR ρ Φ es' i r r' ∧ (Instr.findAsking kt k' es' i).run C.P w = .ok r' w ∧ ∀ q, Instr.findNow u k' es' i = some q → q = r' := by
  intro es
  induction es with
  | nil =>
    intro es' i r h2 hf
    cases h2; cases hf
    exact ⟨none, rfl, rfl, fun q hq => by cases hq; rfl⟩
  | cons e es ih =>
    intro es' i r h2 hf
    cases h2 with
    | @cons _ e' _ es'' he ht =>
    change ob (eqV C 40 kt k e.1) (fun b => Bool.rec (findV C kt k es (i + 1)) (some (some (i, e))) b) = some r at hf
    replace hf := ob_some hf
    obtain ⟨b, hb, hf⟩ := hf
    have heq := equal_run hb hk he.1 w
    have hnow : ∀ b', Instr.sameNow u k' e'.key = some b' → b' = b := fun b' hb' => by
      have := (sameNow_run (w := w) hu hb').symm.trans heq
      cases this; rfl
    cases b with
    | true =>
      have hf : some (some (i, e)) = some r := hf
      cases hf
      refine ⟨some (i, e'.val), ⟨e', rfl, Nat.le_refl _, by simp, he⟩, ?_, fun q hq => ?_⟩
      · simp only [Instr.findAsking, Sem.run_bind, heq, Result.andThen, if_true, Sem.run_pure]
      · simp only [Instr.findNow] at hq
        cases hs : Instr.sameNow u k' e'.key with
        | none => rw [hs] at hq; cases hq
        | some b' => rw [hs] at hq; cases hnow b' hs; cases hq; rfl
    | false =>
      have hf : findV C kt k es (i + 1) = some r := hf
      obtain ⟨r', h3, h4, h5⟩ := ih ht hf
      refine ⟨r', ?_, ?_, fun q hq => ?_⟩
      · cases r with
        | none => exact h3
        | some p =>
          obtain ⟨e2, g1, g2, g3, g4⟩ := h3
          refine ⟨e2, g1, by omega, ?_, g4⟩
          have : p.1 - i = (p.1 - (i + 1)) + 1 := by omega
          rw [this]; simpa using g3
      · simp only [Instr.findAsking, Sem.run_bind, heq, Result.andThen, Bool.false_eq_true, if_false]
        exact h4
      · simp only [Instr.findNow] at hq
        cases hs : Instr.sameNow u k' e'.key with
        | none => rw [hs] at hq; cases hq
        | some b' => rw [hs] at hq; cases hnow b' hs; exact h5 q hq
theorem findKey_run {kt : TypeId} {k : V} {k' : Value} {es : List (V × V × Nat)} {es' : List MapEntry} {r : Option (Nat × V × V × Nat)} (hk : denA ρ Φ k = some k') (hkb : keyB C 40 kt k = true) (h2 : Two (EntR ρ Φ) es es') (hf : findV C kt k es 0 = some r) (w : World) :
    ∃ r', FoundR ρ Φ es' 0 r r' ∧ (Instr.findKey kt k' es').run C.P w = .ok r' w := by
  have : ∃ u, C.P.underlying kt = some u := by
    cases hu : C.P.underlying kt with
    | some u => exact ⟨u, rfl⟩
    | none => change Option.rec false (keyU C (keyB C 39) k) (C.P.underlying kt) = true at hkb; rw [hu] at hkb; cases hkb
  obtain ⟨u, hu⟩ := this
  obtain ⟨r', h3, h4, h5⟩ := findV_run hu hk w h2 hf
  refine ⟨r', h3, ?_⟩
  unfold Instr.findKey
  rw [Sem.run_bind, under_run hu, Result.andThen]
  cases hn : Instr.findNow u k' es' 0 with
  | some q => cases h5 q hn; rfl
  | none => exact h4
theorem two_toList {es : List (V × V × Nat)} {es' : Array MapEntry} (h2 : Two (EntR ρ Φ) es es'.toList) : es.length = es'.size := by
  have : ∀ {l : List (V × V × Nat)} {r : List MapEntry}, Two (EntR ρ Φ) l r → l.length = r.length := fun h => by
    induction h with
    | nil => rfl
    | cons _ _ ih => simp [ih]
  simpa using this h2
/-- What a map's value leads to. -/
theorem mapOf_den (H1 : HR C.odd ρ Φ base h w) {m : V} {m' : Value} {es : List (V × V × Nat) × Nat} (hm : mapOf h m = some es) (hd : denA ρ Φ m = some m') :
    (m = .mn ∧ m' = .map none ∧ es = ([], 0)) ∨ ∃ j L es', m = .m j ∧ Φ j = some L ∧ m' = .map (some L.blk) ∧ h.t.get j = some (.map es.1 es.2) ∧ base ≤ L.blk ∧ w.heap[L.blk]? = some (.map es' es.2) ∧ Two (EntR ρ Φ) es.1 es'.toList := by
  unfold mapOf at hm
  split at hm
  · cases hm; cases hd; exact .inl ⟨rfl, rfl, rfl⟩
  · rename_i j
    replace hm := ob_some hm
    obtain ⟨o, ho, hm⟩ := hm
    unfold mapO at hm
    split at hm
    · cases hm
      simp only [denA, denC, den0] at hd
      obtain ⟨L, hL, rfl⟩ := Option.map_eq_some_iff.1 hd
      obtain ⟨h1, es', h2, h3⟩ := H1.obj j L _ hL ho
      exact .inr ⟨j, L, es', rfl, hL, rfl, ho, h1, h2, h3⟩
    · cases hm
  · cases hm
theorem getObj_map {r : Nat} {es : Array MapEntry} {c : Nat} (hb : w.heap[r]? = some (.map es c)) : (getObj r).run C.P w = .ok (.map es c) w := by
  simp [getObj, Sem.run, hb]
theorem mapT_some {t : TypeId} {q : TypeId × TypeId} (hq : mapT C t = some q) : C.P.underlying t = some (.map q.1 q.2) := by
  unfold mapT at hq
  split at hq
  · rename_i k e hu; cases hq; exact hu
  · cases hq
theorem den_pair {z : V} {x : Value} (hz : denA ρ Φ z = some x) (b : Bool) : den ρ Φ (.tup [z, .b b]) = some (.tuple #[x, .bool b]) := by
  have h2 : mapO' (denA ρ Φ) [z, .b b] = some [x, .bool b] := by
    show ((denA ρ Φ z).bind fun y => (mapO' (denA ρ Φ) [.b b]).map fun r => y :: r) = _
    rw [hz]; rfl
  show Option.map _ (mapO' (denA ρ Φ) [z, .b b]) = _
  rw [h2]; rfl
theorem lookup_run (H1 : HR C.odd ρ Φ base h w) {t : TypeId} {ok : Bool} {m k v : V} {m' k' : Value} (hv : qLookup C h t ok m k = some v) (hm : denA ρ Φ m = some m') (hk : denA ρ Φ k = some k') :
    ∃ r, den ρ Φ v = some r ∧ (Instr.lookup t m' k' ok).run C.P w = .ok r w := by
  unfold qLookup at hv
  replace hv := ob_some hv
  obtain ⟨q, hq, hv⟩ := hv
  replace hv := ob_some hv
  obtain ⟨z, hz, hv⟩ := hv
  replace hv := guardO_some hv
  obtain ⟨hkb, hv⟩ := hv
  replace hv := ob_some hv
  obtain ⟨es, hes, hv⟩ := hv
  replace hv := om_some hv
  obtain ⟨r, hr, hv⟩ := hv
  have hu := mapT_some hq
  obtain ⟨zx, hzrun, hzd⟩ := zeroT_run (ρ := ρ) hz w
  have hck := keyB_run hkb hk
  -- the entries
  have main : ∀ es' : Array MapEntry, Two (EntR ρ Φ) es.1 es'.toList → ∃ x : Value × Bool, (∃ r', (Instr.findKey q.1 k' es'.toList).run C.P w = .ok r' w ∧ x = match r' with
      | some p => (p.2, true)
      | none => (zx, false)) ∧ den ρ Φ v = some (if ok then .tuple #[x.1, .bool x.2] else x.1) := fun es' h2 => by
    obtain ⟨r', h3, h4⟩ := findKey_run hk hkb h2 hr w
    refine ⟨_, ⟨r', h4, rfl⟩, ?_⟩
    subst hv
    cases r with
    | none =>
      cases h3
      cases ok
      · exact den_ofA (hzd Φ)
      · exact den_pair (hzd Φ) false
    | some e =>
      obtain ⟨e', h5, _, _, h6⟩ := h3
      subst h5
      cases ok
      · exact den_ofA h6.2.1
      · exact den_pair h6.2.1 true
  unfold Instr.lookup
  rw [Sem.run_bind, under_run hu, Result.andThen]
  rcases mapOf_den H1 hes hm with ⟨rfl, rfl, rfl⟩ | ⟨j, L, es', rfl, hL, rfl, ho, _, hb, h2⟩
  · obtain ⟨x, ⟨r', hrun, hx⟩, hd⟩ := main #[] .nil
    refine ⟨_, hd, ?_⟩
    have hrun' : (Instr.findKey q.1 k' []).run C.P w = .ok r' w := hrun
    subst hx
    cases r' <;> simp [hck, hrun', hzrun, Result.andThen] <;> split <;> rfl
  · obtain ⟨x, ⟨r', hrun, hx⟩, hd⟩ := main es' h2
    refine ⟨_, hd, ?_⟩
    subst hx
    cases r' <;> simp [getObj_map hb, hck, hrun, hzrun, Result.andThen] <;> split <;> rfl
end
end Go.Proofs.YtolheapnopmhgaaGreatDoor
