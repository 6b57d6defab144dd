/- Regions: the evaluator goes ahead through operations that do nothing, or only make a block; they are carried out later. -/
import Derived.Test.YtolheapnopmhgaaGreatDoorSame
set_option linter.all false
namespace Go.Proofs.YtolheapnopmhgaaGreatDoor
open Go

section
variable {C : Ctx} {ρ : Sym} {Φ : Env} {base : Nat} {w0 : World} {F : Fence}

def DefOne (ρ : Sym) (Φ : Env) : AD → Deferred → Prop
  | .mark j, d => ∃ L, Φ j = some L ∧ d = { target := .collected L.blk, args := #[] }
  | .call g args, d => ∃ cap da : List Value, d = { target := .fn (.func g) cap.toArray, args := da.toArray } ∧ Two (fun v x => den ρ Φ v = some x) args (da ++ cap)
def DefR (ρ : Sym) (Φ : Env) (l : List AD) (ds : List Deferred) : Prop := Two (DefOne ρ Φ) l ds
theorem DefR.ge {Φ' : Env} (hge : Ge Φ Φ') {l : List AD} {ds : List Deferred} (h : DefR ρ Φ l ds) : DefR ρ Φ' l ds := h.imp fun ad d hd => by
  cases ad with
  | mark j => obtain ⟨L, h1, h2⟩ := hd; exact ⟨L, hge _ _ h1, h2⟩
  | call g args => obtain ⟨cap, da, h1, h2⟩ := hd; exact ⟨cap, da, h1, h2.imp fun _ _ h => den_ge hge h⟩
/-- Within a round, or not. -/
def RoundOk (Φ : Env) (r : Option Nat) (F : Fence) : Prop := (r = none ∧ F = Fence.wide) ∨ ∃ l L, r = some l ∧ Φ l = some L ∧ F = Fence.wide.inRound L.blk
theorem RoundOk.ge {Φ' : Env} (hge : Ge Φ Φ') {r : Option Nat} (h : RoundOk Φ r F) : RoundOk Φ' r F := by
  rcases h with h | ⟨l, L, h1, h2, h3⟩
  · exact .inl h
  · exact .inr ⟨l, L, h1, hge _ _ h2, h3⟩
theorem RoundOk.free {r : Option Nat} (h : RoundOk Φ r F) : Free F := by
  rcases h with ⟨_, rfl⟩ | ⟨l, L, _, _, rfl⟩
  · exact ⟨fun _ => trivial, rfl⟩
  · exact ⟨fun _ => trivial, rfl⟩

/-! Slots. -/
theorem AR.ge {Φ' : Env} (hge : Ge Φ Φ') {pend : Nat → Prop} {A : A} {a : Act} (h : AR ρ Φ pend A a) : AR ρ Φ' pend A a :=
  ⟨h.lt, fun s v hv hp => let ⟨x, h1, h2⟩ := h.at_ s v hv hp; ⟨x, h1, den_ge hge h2⟩⟩
theorem put_size (a : Act) (d : Option Tmp) (x : Value) : (a.put d x).tmps.size = a.tmps.size := by cases d <;> simp [Act.put]
theorem put_defers (a : Act) (d : Option Tmp) (x : Value) : (a.put d x).defers = a.defers := by cases d <;> rfl
theorem put_d (E : A) (d : Option Tmp) (v : V) : (E.put d v).d = E.d := by cases d <;> rfl
theorem put_at {a : Act} {d : Tmp} {x : Value} (h : d < a.tmps.size) : (a.put (some d) x).tmps[d]? = some x := by simp [Act.put, h]
theorem put_off {a : Act} {d : Option Tmp} {x : Value} {s : Nat} (h : d ≠ some s) : (a.put d x).tmps[s]? = a.tmps[s]? := by
  cases d with
  | none => rfl
  | some d => simp only [Act.put]; rw [Array.getElem?_setIfInBounds_ne (fun e => h (by rw [e]))]
theorem AR.put_ {pend : Nat → Prop} {E : A} {a : Act} (h : AR ρ Φ pend E a) {d : Option Tmp} {v : V} {x : Value} (hlt : ∀ t, d = some t → t < a.tmps.size) (hd : den ρ Φ v = some x) : AR ρ Φ pend (E.put d v) (a.put d x) := by
  refine ⟨fun s u hu => ?_, fun s u hu hp => ?_⟩
  · rw [put_size]
    by_cases e : d = some s
    · exact hlt s e
    · rw [put_get e] at hu; exact h.lt s u hu
  · by_cases e : d = some s
    · subst e
      rw [put_get_same] at hu; cases hu
      exact ⟨x, put_at (hlt s rfl), hd⟩
    · rw [put_get e] at hu
      rw [put_off e]
      exact h.at_ s u hu hp
theorem AR.ahead {pend pend' : Nat → Prop} {E : A} {a : Act} (h : AR ρ Φ pend E a) {d : Option Tmp} {v : V} (hlt : ∀ t, d = some t → t < a.tmps.size) (hp : ∀ s, pend s → pend' s) (hd : ∀ s, d = some s → pend' s) : AR ρ Φ pend' (E.put d v) a := by
  refine ⟨fun s u hu => ?_, fun s u hu hn => ?_⟩
  · by_cases e : d = some s
    · exact hlt s e
    · rw [put_get e] at hu; exact h.lt s u hu
  · by_cases e : d = some s
    · exact absurd (hd s e) hn
    · rw [put_get e] at hu; exact h.at_ s u hu fun h2 => hn (hp s h2)
theorem AR.fill {pend pend' : Nat → Prop} {E : A} {a : Act} (h : AR ρ Φ pend E a) {t : Tmp} {v : V} {x : Value} (hv : E.t.get t = some v) (hd : den ρ Φ v = some x) (hp : ∀ s, pend s → pend' s ∨ s = t) : AR ρ Φ pend' E (a.put (some t) x) := by
  have hlt := h.lt t v hv
  refine ⟨fun s u hu => by rw [put_size]; exact h.lt s u hu, fun s u hu hn => ?_⟩
  by_cases e : s = t
  · subst e
    rw [hv] at hu; cases hu
    exact ⟨x, put_at hlt, hd⟩
  · rw [put_off (fun e2 => e (by cases e2; rfl))]
    exact h.at_ s u hu fun h2 => (hp s h2).elim hn e

/-- WHAT IS ASKED OF THE EVALUATOR's OPERATIONS THAT ACT. -/
def ActS (C : Ctx) (ρ : Sym) (base : Nat) (w0 : World) (F : Fence) (ih : Ih) : Prop :=
  ∀ (o : Oper) (pend : Nat → Prop) (Φ : Env) (E : A) (a : Act) (h : H) (w : World) (k : A → H → Bool) (K : Act → World → Prop) (Q : Exit → Act → World → Prop),
    AR ρ Φ pend E a → (∀ x ∈ o.op.operands.toList, free pend x) → HR C.odd ρ Φ base h w → GR C Φ → Fr base w0 w → Free F → (F.round = none ∨ ∀ c, o.op ≠ .defer c) → DefR ρ Φ E.d a.defers → evAct C ih E h o k = true →
    (∀ (d2 : List AD) (a2 : List Deferred) (v : V) (x : Value) (h' : H) (Φ' : Env) (w' : World), Fw Φ h.n Φ' h'.n → HR C.odd ρ Φ' base h' w' → Fr base w0 w' → DefR ρ Φ' d2 a2 → den ρ Φ' v = some x → k (A.put ⟨E.t, d2⟩ o.dst v) h' = true → K (Act.put ⟨a.tmps, a2⟩ o.dst x) w') →
    o.wpIn F 0 C.P a w K Q
theorem AR.cast {pend : Nat → Prop} {E : A} {a : Act} (h : AR ρ Φ pend E a) (d2 : List AD) (a2 : List Deferred) : AR ρ Φ pend ⟨E.t, d2⟩ ⟨a.tmps, a2⟩ := ⟨h.lt, h.at_⟩

/-- An operation that the evaluator has done, and that isn't done yet. -/
def Late (C : Ctx) (ρ : Sym) (ops : Array Oper) (Φ : Env) (J : Option Nat) (E : A) (h : H) (k : Nat) : Prop :=
  ∃ o t v, ops[k]? = some o ∧ o.dst = some t ∧ E.t.get t = some v ∧
    ((guardV ops E o = some false ∧ J = none ∧ ∀ Φ, den ρ Φ v = den ρ Φ (.tup [])) ∨
     (guardV ops E o = some true ∧ isQuiet o = true ∧ J = none ∧ ∃ v', quietV C E h o = some v' ∧ ∀ Φ, den ρ Φ v = den ρ Φ v') ∨
     (guardV ops E o = some true ∧ isQuiet o = false ∧ ∃ q j ob, mkV C E o = some q ∧ J = some j ∧ blkOf v = some j ∧ (∀ Φ, den ρ Φ v = den ρ Φ (q.at_ j)) ∧ h.t.get j = some ob ∧
       (∀ (Φ : Env) (b : Nat) (w : World), ObjR C.odd ρ Φ (locOf b q.o) base q.o w → ObjR C.odd ρ Φ (locOf b q.o) base ob w) ∧ j < h.n ∧ Φ j = none))
def pendD (ops : Array Oper) (D : List Nat) (t : Nat) : Prop := ∃ d ∈ D, ∃ o, ops[d]? = some o ∧ o.dst = some t

structure Sim (C : Ctx) (ρ : Sym) (base : Nat) (w0 : World) (ops : Array Oper) (N n0 : Nat) (Φ0 : Env) (D : List Nat) (J : Nat → Option Nat) (Φ : Env) (E : A) (a : Act) (h : H) (w : World) : Prop where
  ar : AR ρ Φ (pendD ops D) E a
  hr : HR C.odd ρ Φ base h w
  gr : GR C Φ
  fr : Fr base w0 w
  late : ∀ k ∈ D, Late (base := base) C ρ ops Φ (J k) E h k
  dj : D.Pairwise fun k m => ∀ j, J k = some j → J m ≠ some j
  jn : ∀ k ∈ D, ∀ j, J k = some j → n0 ≤ j
  fw : Fw Φ0 n0 Φ h.n
  df : DefR ρ Φ E.d a.defers
  sz : a.tmps.size = N

theorem mkV_blk {E : A} {o : Oper} {q : Mk} (hq : mkV C E o = some q) (j : Nat) : blkOf (q.at_ j) = some j := by
  obtain ⟨dst, op, type, pos, after, guard⟩ := o
  unfold mkV at hq
  simp only at hq
  have box : ∀ {z : V}, boxV z = some q → blkOf (q.at_ j) = some j := fun {z} hz => by
    unfold boxV at hz
    replace hz := om_some hz
    obtain ⟨c, _, rfl⟩ := hz
    rfl
  cases op <;> simp only [mkO] at hq <;> first | (cases hq; done) | skip
  case alloc t =>
    replace hq := ob_some hq
    obtain ⟨z, _, hq⟩ := hq
    exact box hq
  case box t x =>
    replace hq := ob_some hq
    obtain ⟨z, _, hq⟩ := hq
    exact box hq
  case buildSlice t n ps =>
    replace hq := ob_some hq
    obtain ⟨l, _, hq⟩ := hq
    unfold aBuildSlice at hq
    replace hq := ob_some hq
    obtain ⟨e, _, hq⟩ := hq
    replace hq := ob_some hq
    obtain ⟨sz, _, hq⟩ := hq
    replace hq := ob_some hq
    obtain ⟨z, _, hq⟩ := hq
    unfold aSlice at hq
    replace hq := guardO_some hq
    obtain ⟨_, hq⟩ := hq
    replace hq := ob_some hq
    obtain ⟨c, _, hq⟩ := hq
    replace hq := om_some hq
    obtain ⟨c', _, rfl⟩ := hq
    rfl
  case makeMap t r =>
    cases r with
    | some r => cases hq
    | none => cases hq; rfl
  case makeSlice t l c =>
    replace hq := ob_some hq
    obtain ⟨x, _, hq⟩ := hq
    replace hq := ob_some hq
    obtain ⟨y, _, hq⟩ := hq
    unfold aMakeSlice at hq
    replace hq := ob_some hq
    obtain ⟨e, _, hq⟩ := hq
    replace hq := ob_some hq
    obtain ⟨sz, _, hq⟩ := hq
    replace hq := ob_some hq
    obtain ⟨by_, _, hq⟩ := hq
    replace hq := ob_some hq
    obtain ⟨z, _, hq⟩ := hq
    replace hq := ob_some hq
    obtain ⟨n, _, hq⟩ := hq
    replace hq := ob_some hq
    obtain ⟨m, _, hq⟩ := hq
    unfold aMake at hq
    replace hq := guardO_some hq
    obtain ⟨_, hq⟩ := hq
    replace hq := om_some hq
    obtain ⟨c', _, rfl⟩ := hq
    rfl

/-- What is made is a row of cells, or a map. -/
theorem mkV_soft {E : A} {o : Oper} {q : Mk} (hq : mkV C E o = some q) : (∃ n sz t, q.o = .cells false n sz t) ∨ ∃ es c, q.o = .map es c := by
  obtain ⟨dst, op, type, pos, after, guard⟩ := o
  unfold mkV at hq
  simp only at hq
  have box : ∀ {z : V}, boxV z = some q → (∃ n sz t, q.o = .cells false n sz t) ∨ ∃ es c, q.o = .map es c := fun {z} hz => by
    unfold boxV at hz
    replace hz := om_some hz
    obtain ⟨c, _, rfl⟩ := hz
    exact .inl ⟨_, _, _, rfl⟩
  cases op <;> simp only [mkO] at hq <;> first | (cases hq; done) | skip
  case alloc t =>
    replace hq := ob_some hq
    obtain ⟨z, _, hq⟩ := hq
    exact box hq
  case box t x =>
    replace hq := ob_some hq
    obtain ⟨z, _, hq⟩ := hq
    exact box hq
  case buildSlice t n ps =>
    replace hq := ob_some hq
    obtain ⟨l, _, hq⟩ := hq
    unfold aBuildSlice at hq
    replace hq := ob_some hq
    obtain ⟨e, _, hq⟩ := hq
    replace hq := ob_some hq
    obtain ⟨sz, _, hq⟩ := hq
    replace hq := ob_some hq
    obtain ⟨z, _, hq⟩ := hq
    unfold aSlice at hq
    replace hq := guardO_some hq
    obtain ⟨_, hq⟩ := hq
    replace hq := ob_some hq
    obtain ⟨c, _, hq⟩ := hq
    replace hq := om_some hq
    obtain ⟨c', _, rfl⟩ := hq
    exact .inl ⟨_, _, _, rfl⟩
  case makeMap t r =>
    cases r with
    | some r => cases hq
    | none => cases hq; exact .inr ⟨_, _, rfl⟩
  case makeSlice t l c =>
    replace hq := ob_some hq
    obtain ⟨x, _, hq⟩ := hq
    replace hq := ob_some hq
    obtain ⟨y, _, hq⟩ := hq
    unfold aMakeSlice at hq
    replace hq := ob_some hq
    obtain ⟨e, _, hq⟩ := hq
    replace hq := ob_some hq
    obtain ⟨sz, _, hq⟩ := hq
    replace hq := ob_some hq
    obtain ⟨by_, _, hq⟩ := hq
    replace hq := ob_some hq
    obtain ⟨z, _, hq⟩ := hq
    replace hq := ob_some hq
    obtain ⟨n, _, hq⟩ := hq
    replace hq := ob_some hq
    obtain ⟨m, _, hq⟩ := hq
    unfold aMake at hq
    replace hq := guardO_some hq
    obtain ⟨_, hq⟩ := hq
    replace hq := om_some hq
    obtain ⟨c', _, rfl⟩ := hq
    exact .inl ⟨_, _, _, rfl⟩

theorem mk_soft {E : A} {o : Oper} {q : Mk} (hq : mkV C E o = some q) {Φ : Env} {w : World} {obj : Obj} (hr : ObjR C.odd ρ Φ (locOf w.heap.size q.o) base q.o (w.alloc obj)) : Soft obj := by
  intro c t f e
  subst e
  rcases mkV_soft hq with ⟨n, sz, tt, hk⟩ | ⟨es, cl, hk⟩
  · rw [hk] at hr
    obtain ⟨_, _, _, cs, e, fz, h4, hfz, _⟩ := hr
    have h5 : (w.alloc (.cells c t f)).heap[w.heap.size]? = some (.cells cs e fz) := h4
    rw [alloc_at] at h5
    cases h5
    exact hfz rfl
  · rw [hk] at hr
    obtain ⟨_, es', h4, _⟩ := hr
    have h5 : (w.alloc (.cells c t f)).heap[w.heap.size]? = some (.map es' cl) := h4
    rw [alloc_at] at h5
    cases h5
/-- The evaluator goes on; what is late is so still. -/
theorem Late.ahead {ops : Array Oper} {J : Option Nat} {E : A} {h h' : H} {k : Nat} (hl : Late (base := base) C ρ ops Φ J E h k) {d : Option Tmp} {u : V} (hfree : ∀ o, ops[k]? = some o → ∀ t, d = some t → t ∉ o.looksAt ops ∧ o.dst ≠ some t)
    (hh : HLe h h') (hn : h.n ≤ h'.n) : Late (base := base) C ρ ops Φ J (E.put d u) h' k := by
  obtain ⟨o, t, v, ho, hdst, hv, hc⟩ := hl
  have hsame : ∀ s ∈ o.looksAt ops, (E.put d u).t.get s = E.t.get s := fun s hs => put_get fun e => (hfree o ho s e).1 hs
  have hg : guardV ops (E.put d u) o = guardV ops E o := guardV_congr hsame
  have hops := ev_looks (C := C) hsame
  refine ⟨o, t, v, ho, hdst, by rw [put_get fun e => (hfree o ho t e).2 hdst]; exact hv, ?_⟩
  rcases hc with ⟨h1, h2⟩ | ⟨h1, h2, h3, v', h4, h5⟩ | ⟨h1, h2, q, j, ob, h3, h4, h5, h6, h7, h8, h9, h10⟩
  · exact .inl ⟨hg.trans h1, h2⟩
  · exact .inr (.inl ⟨hg.trans h1, h2, h3, v', quietV_mono hh ((quietV_congr hops).trans h4), h5⟩)
  · exact .inr (.inr ⟨hg.trans h1, h2, q, j, ob, (mkV_congr hops).trans h3, h4, h5, h6, hh j ob h7, h8, Nat.lt_of_lt_of_le h9 hn, h10⟩)
theorem Late.cast {ops : Array Oper} {J : Option Nat} {E : A} {h : H} {k : Nat} (hl : Late (base := base) C ρ ops Φ J E h k) (d2 : List AD) : Late (base := base) C ρ ops Φ J ⟨E.t, d2⟩ h k := by
  obtain ⟨o, t, v, ho, hdst, hv, hc⟩ := hl
  have hsame : ∀ s ∈ o.looksAt ops, (A.mk E.t d2).t.get s = E.t.get s := fun s _ => rfl
  have hg : guardV ops (A.mk E.t d2) o = guardV ops E o := guardV_congr hsame
  have hops := ev_looks (C := C) hsame
  refine ⟨o, t, v, ho, hdst, hv, ?_⟩
  rcases hc with ⟨h1, h2⟩ | ⟨h1, h2, h3, v', h4, h5⟩ | ⟨h1, h2, q, j, ob, h3, h4⟩
  · exact .inl ⟨hg.trans h1, h2⟩
  · exact .inr (.inl ⟨hg.trans h1, h2, h3, v', (quietV_congr hops).trans h4, h5⟩)
  · exact .inr (.inr ⟨hg.trans h1, h2, q, j, ob, (mkV_congr hops).trans h3, h4⟩)
/-- What is late is so still where the evaluator has seen to it. -/
theorem Late.stab {ops : Array Oper} {J : Option Nat} {E : A} {h h' : H} {k : Nat} {Φ' : Env} (hl : Late (base := base) C ρ ops Φ J E h k) {d : Option Tmp} {u : V} (hfree : ∀ o, ops[k]? = some o → ∀ t, d = some t → t ∉ o.looksAt ops ∧ o.dst ≠ some t)
    (hst : Option.rec false (stabO C ops (E.put d u) h') (opAt ops k) = true) (hn : h.n ≤ h'.n) (hold : ∀ j, j < h.n → Φ' j = Φ j) : Late (base := base) C ρ ops Φ' J (E.put d u) h' k := by
  obtain ⟨o, t, v, ho, hdst, hv, hc⟩ := hl
  have hsame : ∀ s ∈ o.looksAt ops, (E.put d u).t.get s = E.t.get s := fun s hs => put_get fun e => (hfree o ho s e).1 hs
  have hg : guardV ops (E.put d u) o = guardV ops E o := guardV_congr hsame
  have hv' : (E.put d u).t.get t = some v := by rw [put_get fun e => (hfree o ho t e).2 hdst]; exact hv
  rw [opAt_eq, ho] at hst
  change Option.rec false (fun v => stabG C (E.put d u) h' o v (guardV ops (E.put d u) o)) (ob o.dst (E.put d u).t.get) = true at hst
  rw [hdst] at hst
  change Option.rec false (fun v => stabG C (E.put d u) h' o v (guardV ops (E.put d u) o)) ((E.put d u).t.get t) = true at hst
  rw [hv'] at hst
  change stabG C (E.put d u) h' o v (guardV ops (E.put d u) o) = true at hst
  rw [hg] at hst
  refine ⟨o, t, v, ho, hdst, hv', ?_⟩
  rcases hc with ⟨h1, h2⟩ | ⟨h1, h2, h3, v', h4, h5⟩ | ⟨h1, h2, q, j, ob, h3, h4, h5, h6, h7, h8, h9, h10⟩
  · exact .inl ⟨hg.trans h1, h2⟩
  · rw [h1] at hst
    change (Bool.rec _ (Option.rec false (sameV v) (quietV C (E.put d u) h' o)) (isQuiet o) : Bool) = true at hst
    rw [h2] at hst
    change Option.rec false (sameV v) (quietV C (E.put d u) h' o) = true at hst
    cases hq : quietV C (E.put d u) h' o with
    | none => rw [hq] at hst; cases hst
    | some v'' => rw [hq] at hst; exact .inr (.inl ⟨hg.trans h1, h2, h3, v'', by first | exact hq | rfl, sameV_den hst⟩)
  · rw [h1] at hst
    change (Bool.rec (Option.rec false (fun q => Option.rec false (stabM h' v q) (blkOf v)) (mkV C (E.put d u) o)) _ (isQuiet o) : Bool) = true at hst
    rw [h2] at hst
    change Option.rec false (fun q => Option.rec false (stabM h' v q) (blkOf v)) (mkV C (E.put d u) o) = true at hst
    have hops := ev_looks (C := C) hsame
    have hm : mkV C (E.put d u) o = some q := (mkV_congr hops).trans h3
    rw [hm] at hst
    change Option.rec false (stabM h' v q) (blkOf v) = true at hst
    rw [h5] at hst
    change (sameV v (q.at_ j) && Option.rec false (sameO q.o) (h'.t.get j)) = true at hst
    simp only [Bool.and_eq_true] at hst
    cases hob : h'.t.get j with
    | none => rw [hob] at hst; cases hst.2
    | some ob' =>
      rw [hob] at hst
      exact .inr (.inr ⟨hg.trans h1, h2, q, j, ob', hm, h4, h5, sameV_den hst.1, hob, fun Φ b w ho => sameO_obj hst.2 ho, Nat.lt_of_lt_of_le h9 hn, (hold j h9).trans h10⟩)
theorem stabV_mem {ops : Array Oper} {E : A} {h : H} : ∀ {l : List Nat}, stabV C ops E h l = true → ∀ k ∈ l, Option.rec false (stabO C ops E h) (opAt ops k) = true := by
  intro l
  induction l with
  | nil => intro _ k hk; cases hk
  | cons x l ih =>
    intro hs k hk
    change (Option.rec false (stabO C ops E h) (opAt ops x) && stabV C ops E h l) = true at hs
    simp only [Bool.and_eq_true] at hs
    rcases List.mem_cons.1 hk with rfl | hk
    · exact hs.1
    · exact ih hs.2 k hk
end
end Go.Proofs.YtolheapnopmhgaaGreatDoor
