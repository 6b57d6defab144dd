/- Heaps in relation, when something is laid, or written. -/
import Derived.Test.YtolheapnopmhgaaGreatDoorMake
set_option linter.all false
namespace Go.Proofs.YtolheapnopmhgaaGreatDoor
open Go

section
variable {odd : List (Nat × Nat)} {ρ : Sym} {Φ : Env} {base : Nat} {h : H} {w : World}

theorem Two.imp {α β : Type} {R S : α → β → Prop} (hi : ∀ x y, R x y → S x y) {l : List α} {r : List β} (h : Two R l r) : Two S l r := by
  induction h with
  | nil => exact .nil
  | cons h _ ih => exact .cons (hi _ _ h) ih
theorem EntR.ge {Φ' : Env} (hge : Ge Φ Φ') {e : V × V × Nat} {e' : MapEntry} (h : EntR ρ Φ e e') : EntR ρ Φ' e e' := ⟨denA_ge hge h.1, denA_ge hge h.2.1, h.2.2⟩
theorem SlotsR.ge {Φ' : Env} (hge : Ge Φ Φ') {t : Tr V} {a : Array Value} (h : SlotsR ρ Φ t a) : SlotsR ρ Φ' t a := fun s v hv => let ⟨x, h1, h2⟩ := h s v hv; ⟨x, h1, den_ge hge h2⟩
/-- An object is as it was, where its block is. -/
theorem ObjR.keep {Φ' : Env} (hge : Ge Φ Φ') {L : Loc} {o : O} {w' : World} (hw : w'.heap[L.blk]? = w.heap[L.blk]?) (h : ObjR odd ρ Φ L base o w) : ObjR odd ρ Φ' L base o w' := by
  cases o with
  | dead => trivial
  | cells ro n sz t =>
    obtain ⟨h1, h2, h3, cs, e, fz, h4, hfz, h5, h6⟩ := h
    refine ⟨h1, h2, h3, cs, e, fz, hw.trans h4, hfz, h5, fun i hi => ?_⟩
    obtain ⟨v, x, h7, h8, h9⟩ := h6 i hi
    exact ⟨v, x, h7, denC_ge hge h8, h9⟩
  | map es c =>
    obtain ⟨h1, es', h2, h3⟩ := h
    exact ⟨h1, es', hw.trans h2, h3.imp fun _ _ => EntR.ge hge⟩
  | iter m since seen st =>
    obtain ⟨h1, h0, m', h2, h3⟩ := h
    refine ⟨h1, h0, m', hw.trans h2, ?_⟩
    cases m with
    | none => exact h3
    | some j => obtain ⟨M, h4, h5⟩ := h3; exact ⟨M, hge _ _ h4, h5⟩
  | loop st pd t ps asg body dfr =>
    obtain ⟨h1, h2, fn, tmps, D, h5, h6, h7, h8⟩ := h
    exact ⟨h1, h2, fn, tmps, D, hge _ _ h5, hw.trans h6, h7.ge hge, h8⟩
  | defs c =>
    obtain ⟨h1, h2⟩ := h
    exact ⟨h1, hw.trans h2⟩
/-- What lay there lies there. -/
theorem HR.grown (H1 : HR odd ρ Φ base h w) {w' : World} (hs : w.heap.size ≤ w'.heap.size) (hw : ∀ b, b < w.heap.size → w'.heap[b]? = w.heap[b]?) : HR odd ρ Φ base h w' :=
  ⟨Nat.le_trans H1.bs hs, fun j L hj => ⟨(H1.lt j L hj).1, Nat.lt_of_lt_of_le (H1.lt j L hj).2 hs⟩,
    fun j L o hj ho => (H1.obj j L o hj ho).keep (Ge.refl Φ) (hw _ (H1.lt j L hj).2), H1.one⟩
theorem HR.drew (H1 : HR odd ρ Φ base h w) (k : Nat) : HR odd ρ Φ base h { w with drawn := k } := H1.grown (Nat.le_refl _) fun _ _ => rfl
/-- A block that isn't told of yet. -/
theorem HR.later (H1 : HR odd ρ Φ base h w) (o : O) : HR odd ρ Φ base (h.new o) w := by
  have hne : ∀ j L, Φ j = some L → h.n ≠ j := fun j L hj e => by have := (H1.lt j L hj).1; omega
  refine ⟨H1.bs, fun j L hj => ⟨Nat.lt_succ_of_lt (H1.lt j L hj).1, (H1.lt j L hj).2⟩, fun j L o' hj ho => ?_, fun j j' L L' hj hj' hl hl' hb => ?_⟩
  · refine H1.obj j L o' hj ?_
    rw [← ho]; exact (Tr.get_put_ne _ _ (hne j L hj)).symm
  · have e1 : (h.new o).t.get j = h.t.get j := Tr.get_put_ne _ _ (hne j L hj)
    have e2 : (h.new o).t.get j' = h.t.get j' := Tr.get_put_ne _ _ (hne j' L' hj')
    rw [e1] at hl; rw [e2] at hl'
    exact H1.one j j' L L' hj hj' hl hl' hb
def upd (Φ : Env) (j : Nat) (L : Loc) : Env := fun k => if k = j then some L else Φ k
theorem upd_ge {j : Nat} (hn : Φ j = none) (L : Loc) : Ge Φ (upd Φ j L) := fun k M hk => by
  unfold upd
  rw [if_neg (fun e => by subst e; rw [hn] at hk; cases hk)]
  exact hk
theorem upd_same (j : Nat) (L : Loc) : upd Φ j L j = some L := by simp [upd]
theorem alloc_at (w : World) (o : Obj) : (w.alloc o).heap[w.heap.size]? = some o := by
  show (w.heap.push o)[w.heap.size]? = some o
  simp
theorem alloc_old (w : World) (o : Obj) {b : Nat} (hb : b < w.heap.size) : (w.alloc o).heap[b]? = w.heap[b]? := by
  show (w.heap.push o)[b]? = _
  rw [Array.getElem?_push, if_neg (by omega)]
/-- A block that was not told of is there now. -/
theorem HR.tell (H1 : HR odd ρ Φ base h w) {j : Nat} {L : Loc} {o : O} {obj : Obj} (hn : Φ j = none) (hj : j < h.n) (ho : h.t.get j = some o) (hL : L.blk = w.heap.size)
    (hobj : ObjR odd ρ (upd Φ j L) L base o (w.alloc obj)) : HR odd ρ (upd Φ j L) base h (w.alloc obj) := by
  have hge := upd_ge (Φ := Φ) hn L
  have hsz : (w.alloc obj).heap.size = w.heap.size + 1 := World.size_alloc w obj
  have old : ∀ k M, upd Φ j L k = some M → (k = j ∧ M = L) ∨ (k ≠ j ∧ Φ k = some M) := fun k M hk => by
    unfold upd at hk
    split at hk
    · rename_i e; cases hk; exact .inl ⟨e, rfl⟩
    · rename_i e; exact .inr ⟨e, hk⟩
  refine ⟨by have := H1.bs; omega, fun k M hk => ?_, fun k M o' hk ho' => ?_, fun k k' M M' hk hk' hl hl' hb => ?_⟩
  · rcases old k M hk with ⟨rfl, rfl⟩ | ⟨_, hk⟩
    · exact ⟨hj, by omega⟩
    · have := H1.lt k M hk; exact ⟨this.1, by omega⟩
  · rcases old k M hk with ⟨rfl, rfl⟩ | ⟨_, hk⟩
    · rw [ho] at ho'; cases ho'; exact hobj
    · exact (H1.obj k M o' hk ho').keep hge (alloc_old w obj (H1.lt k M hk).2)
  · rcases old k M hk with ⟨e1, e2⟩ | ⟨_, g1⟩ <;> rcases old k' M' hk' with ⟨e3, e4⟩ | ⟨_, g2⟩
    · rw [e1, e3]
    · exfalso; have := (H1.lt k' M' g2).2; rw [e2] at hb; omega
    · exfalso; have := (H1.lt k M g1).2; rw [e4] at hb; omega
    · exact H1.one k k' M M' g1 g2 hl hl' hb
theorem Fr.alloc (hb : base ≤ w.heap.size) (o : Obj) (hs : Soft o := by intro _ _ _ e; first | (cases e; rfl) | cases e) : Fr base w (w.alloc o) :=
  ⟨by rw [World.size_alloc]; omega, fun b hlt => alloc_old w o (by omega), fun a => by
    rcases Nat.lt_trichotomy a.block w.heap.size with h1 | h1 | h1
    · unfold World.frozen?; rw [alloc_old w o h1]
    · rw [hs.frozen (alloc_at w o) h1]
      unfold World.frozen?
      rw [Array.getElem?_eq_none (by omega)]
    · unfold World.frozen?
      rw [Array.getElem?_eq_none (by rw [World.size_alloc]; omega), Array.getElem?_eq_none (by omega)], rfl, rfl⟩
end
end Go.Proofs.YtolheapnopmhgaaGreatDoor
