/- What the evaluator says of operations that do nothing is so. -/
import Derived.Test.YtolheapnopmhgaaGreatDoorDen
import Derived.Laws.Sem
import Derived.Laws.Cells
import Derived.Laws.Entries
set_option linter.all false
namespace Go.Proofs.YtolheapnopmhgaaGreatDoor
open Go

section
variable {C : Ctx} {ρ : Sym} {Φ : Env} {base : Nat} {h : H} {w : World}

/-! Types. -/
theorem sizeT_run {t : TypeId} {n : Nat} (hs : sizeT C t = some n) (w : World) : (sizeOf t).run C.P w = .ok n w := by
  unfold sizeT at hs
  obtain ⟨i, hi, rfl⟩ := Option.map_eq_some_iff.1 hs
  simp [sizeOf, typeInfo, hi]
theorem bytesT_run {t : TypeId} {n : Nat} (hs : bytesT C t = some n) : ∃ i, C.P.info? t = some i ∧ i.bytes = n := by
  unfold bytesT at hs
  obtain ⟨i, hi, rfl⟩ := Option.map_eq_some_iff.1 hs
  exact ⟨i, hi, rfl⟩
theorem under_run {t : TypeId} {d : TypeDesc} (hs : C.P.underlying t = some d) (w : World) : (underlying t).run C.P w = .ok d w := run_underlying hs w
theorem aggT_run {t : TypeId} {b : Bool} (hs : aggT C t = some b) (w : World) : (isAgg t).run C.P w = .ok b w := by
  unfold aggT at hs
  unfold isAgg
  cases hu : C.P.underlying t with
  | none => rw [hu] at hs; cases hs
  | some d =>
    rw [hu] at hs
    rw [Sem.run_bind, under_run hu, Result.andThen]
    cases d <;> simp only [Option.some.injEq] at hs <;> subst hs <;> rfl
theorem elemT_some {t e : TypeId} (hs : elemT C t = some e) : C.P.underlying t = some (.slice e) := by
  unfold elemT at hs
  split at hs
  · rename_i e' he; cases hs; exact he
  · cases hs

theorem ofOne_den {x : Value} {v : V} (h : ofOne x = some v) (Φ : Env) : den0 ρ Φ v = some x ∧ (∀ cs, x ≠ .agg cs) := by
  unfold ofOne at h
  split at h <;> first | (cases h; exact ⟨rfl, fun cs e => by cases e⟩) | cases h
theorem denC_of0 {v : V} {x : Value} (h : den0 ρ Φ v = some x) : denC ρ Φ v = some x := by
  cases v <;> first | exact h | (simp only [den0] at h; cases h)
theorem denA_ofC {v : V} {x : Value} (h : denC ρ Φ v = some x) : denA ρ Φ v = some x := by
  cases v <;> first | exact h | (simp only [denC, den0] at h; cases h)
theorem den_ofA {v : V} {x : Value} (h : denA ρ Φ v = some x) : den ρ Φ v = some x := by
  cases v <;> first | exact h | (simp only [denA, denC, den0] at h; cases h)
theorem den_of0 {v : V} {x : Value} (h : den0 ρ Φ v = some x) : den ρ Φ v = some x := den_ofA (denA_ofC (denC_of0 h))
theorem ofCells_some {l : List Value} {r : List V} (h : ofCells l = some r) : r.length = l.length ∧ ∀ (i : Nat) (x : Value), l[i]? = some x → ∃ v : V, r[i]? = some v ∧ ∀ Φ, den0 ρ Φ v = some x := by
  induction l generalizing r with
  | nil => cases h; exact ⟨rfl, fun i x hx => by simp at hx⟩
  | cons x l ih =>
    simp only [ofCells] at h
    obtain ⟨v, hv, h⟩ := ob_some h
    obtain ⟨s, hs, rfl⟩ := om_some h
    obtain ⟨h1, h2⟩ := ih hs
    refine ⟨by simp [h1], fun i y hy => ?_⟩
    cases i with
    | zero => simp at hy; subst hy; exact ⟨v, rfl, fun Φ => (ofOne_den hv Φ).1⟩
    | succ i => simpa using h2 i y (by simpa using hy)
theorem ofV_den {x : Value} {v : V} (h : ofV x = some v) (Φ : Env) : denA ρ Φ v = some x := by
  unfold ofV at h
  split at h
  · rename_i cs
    obtain ⟨l, hl, rfl⟩ := om_some h
    obtain ⟨h1, h2⟩ := ofCells_some (ρ := ρ) hl
    simp only [denA]
    have hr : denRow ρ Φ (Tr.lay l .nil 0) 0 l.length = some ((List.range l.length).map fun i => cs.toList.getD i undef) := by
      refine denRow_of _ _ _ fun i hi => ?_
      obtain ⟨x, hx⟩ : ∃ x, cs.toList[i]? = some x := ⟨_, List.getElem?_eq_getElem (by omega)⟩
      obtain ⟨v, hv, hd⟩ := h2 i x hx
      refine ⟨v, by rw [Tr.get_lay, if_pos (by omega)]; rw [← hv]; congr 1; omega, ?_⟩
      rw [List.getD_eq_getElem?_getD, hx]
      exact denC_of0 (hd Φ)
    rw [hr]
    simp only [Option.map_some]
    congr 2
    apply Array.ext'
    simp only [List.toList_toArray]
    apply List.ext_getElem?
    intro i
    rw [List.getElem?_map, h1]
    by_cases hi : i < cs.toList.length
    · have hi' : i < cs.size := by simpa using hi
      rw [List.getElem?_range hi]; simp [List.getD_eq_getElem?_getD, hi']
    · rw [List.getElem?_eq_none (by simpa using hi), List.getElem?_eq_none (by omega)]; rfl
  · exact denA_ofC (denC_of0 (ofOne_den h Φ).1)
theorem zeroT_run {t : TypeId} {v : V} (hs : zeroT C t = some v) (w : World) : ∃ x, (zeroValue t).run C.P w = .ok x w ∧ ∀ Φ, denA ρ Φ v = some x := by
  unfold zeroT at hs
  obtain ⟨i, hi, hs⟩ := ob_some hs
  obtain ⟨x, hx, hs⟩ := ob_some hs
  exact ⟨x, by simp [zeroValue, typeInfo, hi, hx], ofV_den hs⟩

/-! Slots. -/
structure AR (ρ : Sym) (Φ : Env) (pend : Nat → Prop) (A : A) (a : Act) : Prop where
  lt : ∀ s v, A.t.get s = some v → s < a.tmps.size
  at_ : ∀ s v, A.t.get s = some v → ¬ pend s → ∃ x, a.tmps[s]? = some x ∧ den ρ Φ v = some x
/-- Where variables of the program's lie. -/
def GR (C : Ctx) (Φ : Env) : Prop := ∀ g j, C.G g = some j → ∃ L, Φ j = some L ∧ L.blk = g ∧ L.d = 0
theorem GR.ge {Φ' : Env} (hg : GR C Φ) (h : Ge Φ Φ') : GR C Φ' := fun g j hj => let ⟨L, h1, h2⟩ := hg g j hj; ⟨L, h _ _ h1, h2⟩
def free (pend : Nat → Prop) (x : Operand) : Prop := ∀ t, x = .tmp t → ¬ pend t

theorem ev_den {pend : Nat → Prop} {A : A} {a : Act} (hg : GR C Φ) (ha : AR ρ Φ pend A a) {x : Operand} (hx : free pend x) {v : V} (h : A.ev C x = some v) : den ρ Φ v = some (a.eval x) := by
  cases x with
  | tmp t =>
    obtain ⟨y, hy, hd⟩ := ha.at_ t v h (hx t rfl)
    have : a.eval (.tmp t) = y := by simp [Act.eval, Array.getD_eq_getD_getElem?, hy]
    rw [this]; exact hd
  | const c => exact den_ofA (ofV_den h Φ)
  | global g =>
    obtain ⟨j, hj, rfl⟩ := om_some h
    obtain ⟨L, h1, h2, h3⟩ := hg g j hj
    simp only [den, denA, denC, den0, h1, Option.map_some, Loc.at_, h2, h3]; rfl
  | func f => cases h; rfl

/-! Memory. -/
theorem cell_of {L : Loc} {cs : Array Value} {e : TypeId} {fz : Nat × Nat} (hb : w.heap[L.blk]? = some (.cells cs e fz)) (off : Nat) : w.cell? (L.at_ off) = cs[L.d + off]? := by
  simp [World.cell?, Loc.at_, hb]
theorem at_add (L : Loc) (off n : Nat) : (L.at_ off).add n = L.at_ (off + n) := by
  unfold Addr.add Loc.at_
  split
  · subst_vars; rfl
  · simp [Nat.add_assoc]
theorem HR.cells (H1 : HR C.odd ρ Φ base h w) {j : Nat} {L : Loc} (hj : Φ j = some L) {ro : Bool} {n sz : Nat} {t : Tr V} (ho : h.t.get j = some (.cells ro n sz t)) : CellsR ρ Φ L base ro n sz t w := H1.obj j L _ hj ho

theorem viewB_load {t : TypeId} {c : Tr V} {off n : Nat} {L : Loc} {ro : Bool} {sz : Nat} {b : Bool} {v : V} (hc : CellsR ρ Φ L base ro n sz c w) (hb : aggT C t = some b) (hv : viewB C t c off n b = some v) :
    ∃ x, denA ρ Φ v = some x ∧ (loadVar t (L.at_ off)).run C.P w = .ok x w := by
  obtain ⟨_, hn, _, cs, e, fz, hblk, _, hsz, hcell⟩ := hc
  cases b with
  | true =>
    have hv : ob (sizeT C t) (fun k => guardO (Nat.ble (off + k) n) (some (V.agg c off k))) = some v := hv
    obtain ⟨k, hk, hv⟩ := ob_some hv
    obtain ⟨hle, hv⟩ := guardO_some hv
    cases hv
    have hle : off + k ≤ n := Nat.le_of_ble_eq_true hle
    have hrow : denRow ρ Φ c off k = some ((List.range k).map fun i => (cs[L.d + (off + i)]?).getD undef) := denRow_of _ _ _ fun i hi => by
      obtain ⟨u, x, h1, h2, h3⟩ := hcell (off + i) (by omega)
      exact ⟨u, h1, by rw [h3]; exact h2⟩
    refine ⟨.agg ((List.range k).map fun i => (cs[L.d + (off + i)]?).getD undef).toArray, by simp only [denA, hrow, Option.map_some], ?_⟩
    have hl := run_loadCells (P := C.P) (w := w) (L.at_ off) k (fun i => (cs[L.d + (off + i)]?).getD undef) (fun i hi => by
      obtain ⟨u, x, h1, h2, h3⟩ := hcell (off + i) (by omega)
      rw [at_add, cell_of hblk, h3]; rfl)
    unfold loadVar
    rw [Sem.run_bind, aggT_run hb, Result.andThen]
    simp only [if_true]
    rw [Sem.run_bind, sizeT_run hk, Result.andThen, Sem.run_bind, hl]
    rfl
  | false =>
    have hv : guardO (Nat.blt off n) (c.get off) = some v := hv
    obtain ⟨hle, hv⟩ := guardO_some hv
    have hle : off < n := by simpa [Nat.blt_eq] using hle
    obtain ⟨u, x, h1, h2, h3⟩ := hcell off hle
    rw [hv] at h1; cases h1
    refine ⟨x, denA_ofC h2, ?_⟩
    unfold loadVar
    rw [Sem.run_bind, aggT_run hb, Result.andThen]
    simp only [Bool.false_eq_true, if_false]
    rw [run_load, cell_of hblk, h3]
theorem qLoad_run (H1 : HR C.odd ρ Φ base h w) {t : TypeId} {p v : V} {px : Value} (hp : den ρ Φ p = some px) (hv : qLoad C h t p = some v) :
    ∃ x, denA ρ Φ v = some x ∧ (Instr.loadAt t px).run C.P w = .ok x w := by
  unfold qLoad at hv
  split at hv
  · rename_i j off
    simp only [den, denA, denC, den0] at hp
    obtain ⟨L, hL, rfl⟩ := Option.map_eq_some_iff.1 hp
    obtain ⟨o, ho, hv⟩ := ob_some hv
    unfold loadO at hv
    split at hv
    · rename_i ro n sz c
      obtain ⟨b, hb, hv⟩ := ob_some hv
      obtain ⟨x, h1, h2⟩ := viewB_load (H1.cells hL ho) hb hv
      exact ⟨x, h1, by simp [Instr.loadAt, Instr.sureAddr, h2]⟩
    · cases hv
  · cases hv
end
end Go.Proofs.YtolheapnopmhgaaGreatDoor
