/- What the evaluator says of operations that act is so: maps, iterators, copy, clear. -/
import Derived.Test.YtolheapnopmhgaaGreatDoorApp
set_option linter.all false
namespace Go.Proofs.YtolheapnopmhgaaGreatDoor
open Go

theorem Two.app {α β : Type} {R : α → β → Prop} {l : List α} {r : List β} (h : Two R l r) {x : α} {y : β} (hx : R x y) : Two R (l ++ [x]) (r ++ [y]) := by
  induction h with
  | nil => exact .cons hx .nil
  | cons h1 _ ih => exact .cons h1 ih
theorem Two.set_ {α β : Type} {R : α → β → Prop} {l : List α} {r : List β} (h : Two R l r) (x : α) (f : β → β) : ∀ (i : Nat), (∀ y, r[i]? = some y → R x (f y)) → Two R (setAt l i x) (r.modify i f) := by
  induction h with
  | nil => intro i _; rw [List.modify_nil]; exact .nil
  | @cons a b l r h1 ht ih =>
    intro i hi
    cases i with
    | zero => rw [List.modify_zero_cons]; exact .cons (hi b rfl) ht
    | succ i => rw [List.modify_succ_cons]; exact .cons h1 (ih i fun y hy => hi y (by simpa using hy))
theorem Two.drop_ {α β : Type} {R : α → β → Prop} {l : List α} {r : List β} (h : Two R l r) : ∀ (i : Nat), Two R (dropAt l i) (r.eraseIdx i) := by
  induction h with
  | nil => intro i; exact .nil
  | @cons a b l r h1 ht ih =>
    intro i
    cases i with
    | zero => exact ht
    | succ i => exact .cons h1 (ih i)
theorem eqS_eq {a b : ByteArray} (h : eqS a b = true) : a = b := by
  unfold eqS at h
  rw [eqBy_eq] at h
  have h : a.data.toList = b.data.toList := by simpa using h
  cases a; cases b
  congr 1
  exact Array.ext' h

section
variable {C : Ctx} {ρ : Sym} {Φ : Env} {base : Nat} {h : H} {w : World}

/-- An operation that acts. -/
def ActR (C : Ctx) (ρ : Sym) (Φ : Env) (base n : Nat) (h' : H) (v : V) (w : World) (s : Sem Value) : Prop :=
  ∃ r w' Φ', Fw Φ n Φ' h'.n ∧ HR C.odd ρ Φ' base h' w' ∧ Fr base w w' ∧ den ρ Φ' v = some r ∧ s.run C.P w = .ok r w'
def ActU (C : Ctx) (ρ : Sym) (Φ : Env) (base n : Nat) (h' : H) (w : World) (s : Sem Unit) : Prop :=
  n ≤ h'.n ∧ ∃ w', HR C.odd ρ Φ base h' w' ∧ Fr base w w' ∧ s.run C.P w = .ok () w'

theorem sameOne_den {u v : V} {x y : Value} (hs : sameOne u v = true) (hu : denC ρ Φ u = some x) (hv : denC ρ Φ v = some y) : x = y ∧ ∀ n, Instr.sameBits n x x = true := by
  unfold sameOne at hs
  split at hs
  · simp only [Bool.and_eq_true] at hs
    have h1 := kN_inj hs.1
    have h2 := hs.2
    rw [eqI_eq] at h2
    have h2 := eq_of_beq h2
    subst h1; subst h2
    cases hu; cases hv
    exact ⟨rfl, fun n => by simp [Instr.sameBits]⟩
  · have h1 := Nat.eq_of_beq_eq_true hs
    subst h1
    cases hu; cases hv
    exact ⟨rfl, fun n => by simp [Instr.sameBits]⟩
  · rename_i a b
    have : a = b := by cases a <;> cases b <;> first | rfl | cases hs
    subst this
    cases hu; cases hv
    exact ⟨rfl, fun n => by simp [Instr.sameBits]⟩
  · have h1 := eqS_eq hs
    subst h1
    cases hu; cases hv
    exact ⟨rfl, fun n => by simp only [Instr.sameBits]; exact beq_self_eq_true (ByteArray.data _)⟩
  · cases hs
theorem sameAll_den {a b : Tr V} : ∀ {n i j : Nat} {la lb : List Value}, sameAll a b n i j = true → denRow ρ Φ a i n = some la → denRow ρ Φ b j n = some lb → la = lb ∧ ∀ x ∈ la, ∀ d, Instr.sameBits d x x = true := by
  intro n
  induction n with
  | zero => intro i j la lb _ h1 h2; cases h1; cases h2; exact ⟨rfl, fun x hx => by cases hx⟩
  | succ n ih =>
    intro i j la lb hs h1 h2
    simp only [denRow] at h1 h2
    obtain ⟨u, hu, h1⟩ := Option.bind_eq_some_iff.1 h1
    obtain ⟨x, hx, h1⟩ := Option.bind_eq_some_iff.1 h1
    obtain ⟨r, hr, rfl⟩ := Option.map_eq_some_iff.1 h1
    obtain ⟨v, hv, h2⟩ := Option.bind_eq_some_iff.1 h2
    obtain ⟨y, hy, h2⟩ := Option.bind_eq_some_iff.1 h2
    obtain ⟨s, hs2, rfl⟩ := Option.map_eq_some_iff.1 h2
    change (Option.rec false (fun x => Option.rec false (fun y => sameOne x y) (b.get j)) (a.get i) && sameAll a b n (i + 1) (j + 1)) = true at hs
    rw [hu, hv] at hs
    simp only [Bool.and_eq_true] at hs
    obtain ⟨e1, e2⟩ := sameOne_den hs.1 hx hy
    obtain ⟨e3, e4⟩ := ih hs.2 hr hs2
    subst e1; subst e3
    refine ⟨rfl, fun z hz => ?_⟩
    rcases List.mem_cons.1 hz with rfl | hz
    · exact e2
    · exact e4 z hz
theorem sameKey_den {a b : V} {x y : Value} (hs : sameKey a b = true) (ha : denA ρ Φ a = some x) (hb : denA ρ Φ b = some y) : x = y ∧ ∀ d, Instr.sameBits (d + 1) x x = true := by
  unfold sameKey at hs
  split at hs
  · rename_i a ao an b bo bn
    simp only [Bool.and_eq_true] at hs
    have h1 := Nat.eq_of_beq_eq_true hs.1
    subst h1
    simp only [denA] at ha hb
    obtain ⟨la, hla, rfl⟩ := Option.map_eq_some_iff.1 ha
    obtain ⟨lb, hlb, rfl⟩ := Option.map_eq_some_iff.1 hb
    obtain ⟨e1, e2⟩ := sameAll_den hs.2 hla hlb
    subst e1
    refine ⟨rfl, fun d => ?_⟩
    simp only [Instr.sameBits, beq_self_eq_true, Bool.true_and, List.all_eq_true]
    intro p hp
    have : ∀ (l : List Value) (p : Value × Value), p ∈ l.zip l → p.1 = p.2 ∧ p.1 ∈ l := fun l => by
      induction l with
      | nil => intro p hp; cases hp
      | cons z l ih =>
        intro p hp
        rw [List.zip_cons_cons] at hp
        rcases List.mem_cons.1 hp with rfl | hp
        · exact ⟨rfl, List.mem_cons_self⟩
        · exact ⟨(ih p hp).1, List.mem_cons_of_mem _ (ih p hp).2⟩
    obtain ⟨k1, k2⟩ := this _ p hp
    obtain ⟨p1, p2⟩ := p
    simp only at k1 k2
    subst k1
    exact e2 _ (by simpa using k2) d
  · rename_i hno
    have flat : ∀ {v : V} {z : Value}, (∀ t o n, v ≠ .agg t o n) → denA ρ Φ v = some z → denC ρ Φ v = some z := fun {v z} hn hd => by cases v <;> first | exact hd | exact absurd rfl (hn _ _ _)
    have ha' : ∀ t o n, a ≠ .agg t o n := fun t o n e => by subst e; unfold sameOne at hs; cases hs
    have hb' : ∀ t o n, b ≠ .agg t o n := fun t o n e => by
      subst e; unfold sameOne at hs
      split at hs <;> first | (rename_i e2; cases e2; done) | cases hs
    obtain ⟨e1, e2⟩ := sameOne_den hs (flat ha' ha) (flat hb' hb)
    exact ⟨e1, fun d => e2 _⟩
theorem keyStays_run {a b : V} {x y : Value} (hs : sameKey a b = true) (ha : denA ρ Φ a = some x) (hb : denA ρ Φ b = some y) : (Instr.keyThatStays y x).run C.P w = .ok x w := by
  obtain ⟨e1, e2⟩ := sameKey_den hs ha hb
  subst e1
  unfold Instr.keyThatStays
  rw [if_pos (e2 9999)]
  rfl
/-- Another object is laid in a block's place. -/
theorem setObj_run (H1 : HR C.odd ρ Φ base h w) {j : Nat} {L : Loc} {o o' : O} {old obj : Obj} (hj : Φ j = some L) (ho : h.t.get j = some o) (hl : live (some o) = true) (hb : w.heap[L.blk]? = some old) (hp : ∀ c t f, old ≠ .cells c t f) (hbase : base ≤ L.blk)
    (hobj : ∀ w' : World, w'.heap[L.blk]? = some obj → ObjR C.odd ρ Φ L base o' w') (hp2 : ∀ c t f, obj ≠ .cells c t f := by intro _ _ _ e; cases e) : ActU C ρ Φ base h.n (h.set j o') w (setObj L.blk obj) := by
  have hlt := (Array.getElem?_eq_some_iff.1 hb).1
  have hne : ∀ b, b ≠ L.blk → ({ w with heap := w.heap.setIfInBounds L.blk obj } : World).heap[b]? = w.heap[b]? := fun b hne => by simp [Array.getElem?_setIfInBounds, Ne.symm hne]
  have hat : ({ w with heap := w.heap.setIfInBounds L.blk obj } : World).heap[L.blk]? = some obj := by simp [hlt]
  refine ⟨Nat.le_refl _, { w with heap := w.heap.setIfInBounds L.blk obj }, ?_, ?_, ?_⟩
  · exact H1.swap hj ho hl (by simp) hne (hobj _ hat)
  · exact ⟨by simp, fun b hb2 => hne b (by omega), frz_swap hne hb hat (fun c t f e => absurd e (hp c t f)) (fun c t f e => absurd e (hp2 c t f)), rfl, rfl⟩
  · simp only [setObj, Sem.run, hb]
theorem mapAt (H1 : HR C.odd ρ Φ base h w) {j : Nat} {m' : Value} {es : List (V × V × Nat) × Nat} (he : ob (h.t.get j) mapO = some es) (hd : denA ρ Φ (.m j) = some m') :
    ∃ L es', Φ j = some L ∧ m' = .map (some L.blk) ∧ h.t.get j = some (.map es.1 es.2) ∧ base ≤ L.blk ∧ w.heap[L.blk]? = some (.map es' es.2) ∧ Two (EntR ρ Φ) es.1 es'.toList := by
  rcases mapOf_den H1 (m := .m j) he hd with ⟨e, _⟩ | ⟨k, L, es', e, h1, h2, h3, h4, h5, h6⟩
  · cases e
  · cases e; exact ⟨L, es', h1, h2, h3, h4, h5, h6⟩
theorem mapPut_run (H1 : HR C.odd ρ Φ base h w) {t : TypeId} {m k y v : V} {m' k' y' : Value} {h' : H} (hv : aMapPut C h t k y m = some (v, h')) (hm : denA ρ Φ m = some m') (hk : denA ρ Φ k = some k') (hy : denA ρ Φ y = some y') :
    v = .tup [] ∧ ActU C ρ Φ base h.n h' w (Instr.mapUpdate t m' k' y') := by
  unfold aMapPut at hv
  split at hv
  · rename_i j
    replace hv := ob_some hv
    obtain ⟨q, hq, hv⟩ := hv
    replace hv := guardO_some hv
    obtain ⟨hkb, hv⟩ := hv
    replace hv := ob_some hv
    obtain ⟨es, hes, hv⟩ := hv
    replace hv := ob_some hv
    obtain ⟨r, hr, hv⟩ := hv
    replace hv := om_some hv
    obtain ⟨h2, hput, hv⟩ := hv
    cases hv
    refine ⟨rfl, ?_⟩
    have hu := mapT_some hq
    obtain ⟨L, es', hL, rfl, ho, hbase, hb, h2⟩ := mapAt H1 hes hm
    obtain ⟨r', h3, h4⟩ := findKey_run hk hkb h2 hr w
    have hck := keyB_run hkb hk false w
    cases r with
    | none =>
      cases h3
      have hput : some (h.set j (.map (es.1 ++ [(k, y, es.2)]) (es.2 + 1))) = some h' := hput
      cases hput
      obtain ⟨kn, w', k1, k2, k3⟩ := setObj_run (o' := .map (es.1 ++ [(k, y, es.2)]) (es.2 + 1)) (obj := .map (es'.push { key := k', val := y', born := es.2 }) (es.2 + 1)) H1 hL ho rfl hb (fun _ _ _ e => by cases e) hbase
        (fun w' hw => ⟨hbase, _, hw, by rw [Array.toList_push]; exact h2.app ⟨hk, hy, rfl⟩⟩)
      refine ⟨kn, w', k1, k2, ?_⟩
      simp only [Instr.mapUpdate, Sem.run_bind, under_run hu, Result.andThen, getObj_map hb, hck, h4]
      exact k3
    | some e =>
      obtain ⟨e', rfl, _, h5, h6⟩ := h3
      rw [Nat.sub_zero] at h5
      replace hput := guardO_some hput
      obtain ⟨hsk, hput⟩ := hput
      cases hput
      have hks := keyStays_run (C := C) (w := w) hsk hk h6.1
      obtain ⟨kn, w', k1, k2, k3⟩ := setObj_run (o' := .map (setAt es.1 e.1 (k, y, e.2.2.2)) es.2) (obj := .map (es'.modify e.1 fun e => { e with key := k', val := y' }) es.2) H1 hL ho rfl hb (fun _ _ _ e => by cases e) hbase
        (fun w' hw => ⟨hbase, _, hw, by rw [Array.toList_modify]; exact h2.set_ _ _ _ fun z hz => by rw [h5] at hz; cases hz; exact ⟨hk, hy, h6.2.2⟩⟩)
      refine ⟨kn, w', k1, k2, ?_⟩
      have h5' : es'[e.1]? = some e' := by simpa using h5
      simp only [Instr.mapUpdate, Sem.run_bind, under_run hu, Result.andThen, getObj_map hb, hck, h4, h5', Option.map_some, Option.getD_some, hks]
      exact k3
  · cases hv
theorem mapEntry_run (H1 : HR C.odd ρ Φ base h w) {t : TypeId} {m k v : V} {m' k' : Value} {h' : H} (hv : aMapEntry C h t k m = some (v, h')) (hm : denA ρ Φ m = some m') (hk : denA ρ Φ k = some k') :
    ActR C ρ Φ base h.n h' v w (Instr.mapEntry t m' k') := by
  have pair : ∀ {z : V} {x : Value} (n : Nat), denA ρ Φ z = some x → den ρ Φ (.tup [z, .i .i64 (.ofNat n)]) = some (.tuple #[x, goInt n]) := fun {z x} n hz => by
    have h2 : mapO' (denA ρ Φ) [z, .i .i64 (.ofNat n)] = some [x, goInt n] := by
      show ((denA ρ Φ z).bind fun y => (mapO' (denA ρ Φ) [.i .i64 (.ofNat n)]).map fun r => y :: r) = _
      rw [hz]; rfl
    show Option.map _ (mapO' (denA ρ Φ) [z, .i .i64 (.ofNat n)]) = _
    rw [h2]; rfl
  unfold aMapEntry at hv
  split at hv
  · rename_i j
    replace hv := ob_some hv
    obtain ⟨q, hq, hv⟩ := hv
    replace hv := ob_some hv
    obtain ⟨z, hz, hv⟩ := hv
    replace hv := guardO_some hv
    obtain ⟨hkb, hv⟩ := hv
    replace hv := ob_some hv
    obtain ⟨es, hes, hv⟩ := hv
    replace hv := ob_some hv
    obtain ⟨r, hr, hv⟩ := hv
    have hu := mapT_some hq
    obtain ⟨zx, hzrun, hzd⟩ := zeroT_run (ρ := ρ) hz w
    obtain ⟨L, es', hL, rfl, ho, hbase, hb, h2⟩ := mapAt H1 hes hm
    obtain ⟨r', h3, h4⟩ := findKey_run hk hkb h2 hr w
    have hck := keyB_run hkb hk false w
    cases r with
    | none =>
      cases h3
      have hput : some (V.tup [z, .i .i64 (.ofNat es.2)], h.set j (.map (es.1 ++ [(k, z, es.2)]) (es.2 + 1))) = some (v, h') := hv
      cases hput
      obtain ⟨kn, w', k1, k2, k3⟩ := setObj_run (o' := .map (es.1 ++ [(k, z, es.2)]) (es.2 + 1)) (obj := .map (es'.push { key := k', val := zx, born := es.2 }) (es.2 + 1)) H1 hL ho rfl hb (fun _ _ _ e => by cases e) hbase
        (fun w' hw => ⟨hbase, _, hw, by rw [Array.toList_push]; exact h2.app ⟨hk, hzd Φ, rfl⟩⟩)
      refine ⟨_, w', Φ, Fw.refl Φ _, k1, k2, pair es.2 (hzd Φ), ?_⟩
      simp only [Instr.mapEntry, Sem.run_bind, under_run hu, Result.andThen, getObj_map hb, hck, h4, hzrun, k3, Sem.run_pure]
    | some e =>
      obtain ⟨e', rfl, _, h5, h6⟩ := h3
      rw [Nat.sub_zero] at h5
      replace hv := guardO_some hv
      obtain ⟨hsk, hv⟩ := hv
      cases hv
      have hks := keyStays_run (C := C) (w := w) hsk hk h6.1
      obtain ⟨kn, w', k1, k2, k3⟩ := setObj_run (o' := .map (setAt es.1 e.1 (k, e.2.2.1, e.2.2.2)) es.2) (obj := .map (es'.modify e.1 fun e => { e with key := k' }) es.2) H1 hL ho rfl hb (fun _ _ _ e => by cases e) hbase
        (fun w' hw => ⟨hbase, _, hw, by rw [Array.toList_modify]; exact h2.set_ _ _ _ fun z hz => by rw [h5] at hz; cases hz; exact ⟨hk, h6.2.1, h6.2.2⟩⟩)
      have h5' : es'[e.1]? = some e' := by simpa using h5
      refine ⟨_, w', Φ, Fw.refl Φ _, k1, k2, pair e.2.2.2 h6.2.1, ?_⟩
      simp only [Instr.mapEntry, Sem.run_bind, under_run hu, Result.andThen, getObj_map hb, hck, h4, h5', Option.map_some, Option.getD_some, hks, k3, Sem.run_pure, h6.2.2]
  · cases hv
end
end Go.Proofs.YtolheapnopmhgaaGreatDoor
