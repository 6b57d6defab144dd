/- Laws of the evaluator's tables, and what its values stand for. -/
import Derived.Test.YtolheapnopmhgaaGreatDoorEv
set_option linter.all false
namespace Go.Proofs.YtolheapnopmhgaaGreatDoor
open Go

section
variable {α β : Type}
theorem ob_some {o : Option α} {f : α → Option β} {y : β} (h : ob o f = some y) : ∃ x, o = some x ∧ f x = some y := by
  cases o with
  | none => cases h
  | some x => exact ⟨x, rfl, h⟩
theorem om_some {o : Option α} {f : α → β} {y : β} (h : om o f = some y) : ∃ x, o = some x ∧ f x = y := by
  cases o with
  | none => cases h
  | some x => exact ⟨x, rfl, Option.some.inj h⟩
theorem guardO_some {b : Bool} {o : Option α} {y : α} (h : guardO b o = some y) : b = true ∧ o = some y := by
  cases b with
  | false => cases h
  | true => exact ⟨rfl, h⟩
theorem boolRec_eq (b : Bool) (x y : α) : (Bool.rec x y b : α) = if b = true then y else x := by cases b <;> rfl
theorem nthL_eq (l : List α) : ∀ i, nthL l i = l[i]? := by
  induction l with
  | nil => intro i; rfl
  | cons x l ih => intro i; cases i with
    | zero => rfl
    | succ i => exact ih i

namespace Tr
theorem get_nil (i : Nat) : (Tr.nil : Tr α).get i = none := rfl
theorem get_zero (v : Option α) (l r : Tr α) : (Tr.node v l r).get 0 = v := rfl
theorem get_succ (v : Option α) (l r : Tr α) (i : Nat) : (Tr.node v l r).get (i + 1) = if i % 2 = 0 then l.get (i / 2) else r.get (i / 2) := by
  show (Bool.rec (r.get (Nat.div i 2)) (l.get (Nat.div i 2)) (Nat.beq (Nat.mod i 2) 0) : Option α) = _
  rw [boolRec_eq]
  show (if Nat.beq (i % 2) 0 = true then l.get (i / 2) else r.get (i / 2)) = _
  simp
theorem path_zero (x : α) (d : Nat) : Tr.path x (d + 1) 0 = .node (some x) .nil .nil := rfl
theorem path_succ (x : α) (d i : Nat) : Tr.path x (d + 1) (i + 1) = if i % 2 = 0 then .node none (Tr.path x d (i / 2)) .nil else .node none .nil (Tr.path x d (i / 2)) := by
  show (Bool.rec (Tr.node none .nil (Tr.path x d (Nat.div i 2))) (.node none (Tr.path x d (Nat.div i 2)) .nil) (Nat.beq (Nat.mod i 2) 0) : Tr α) = _
  rw [boolRec_eq]
  by_cases h : i % 2 = 0
  · rw [if_pos h, if_pos (by show Nat.beq (i % 2) 0 = true; rw [h]; rfl)]; rfl
  · rw [if_neg h, if_neg (by show ¬ Nat.beq (i % 2) 0 = true; intro e; exact h (Nat.eq_of_beq_eq_true e))]; rfl
theorem put_nil (i : Nat) (x : α) : (Tr.nil : Tr α).put i x = Tr.path x (i + 1) i := rfl
theorem put_zero (v : Option α) (l r : Tr α) (x : α) : (Tr.node v l r).put 0 x = .node (some x) l r := rfl
theorem put_succ (v : Option α) (l r : Tr α) (i : Nat) (x : α) : (Tr.node v l r).put (i + 1) x = if i % 2 = 0 then .node v (l.put (i / 2) x) r else .node v l (r.put (i / 2) x) := by
  show (Bool.rec (Tr.node v l (r.put (Nat.div i 2) x)) (.node v (l.put (Nat.div i 2) x) r) (Nat.beq (Nat.mod i 2) 0) : Tr α) = _
  rw [boolRec_eq]
  by_cases h : i % 2 = 0
  · rw [if_pos h, if_pos (by show Nat.beq (i % 2) 0 = true; rw [h]; rfl)]; rfl
  · rw [if_neg h, if_neg (by show ¬ Nat.beq (i % 2) 0 = true; intro e; exact h (Nat.eq_of_beq_eq_true e))]; rfl
theorem get_path (x : α) : ∀ (d i j : Nat), i < d → (Tr.path x d i).get j = if i = j then some x else none := by
  intro d
  induction d with
  | zero => intro i j h; omega
  | succ d ih =>
    intro i j h
    cases i with
    | zero =>
      rw [path_zero]
      cases j with
      | zero => rfl
      | succ j => rw [get_succ, get_nil]; simp
    | succ i =>
      rw [path_succ]
      cases j with
      | zero => split <;> simp [get_zero]
      | succ j =>
        split <;> rw [get_succ, get_nil]
        · split
          · rw [ih _ _ (by omega)]
            by_cases e : i = j
            · subst e; simp
            · rw [if_neg (by omega), if_neg (by omega)]
          · rw [if_neg (by omega)]
        · split
          · rw [if_neg (by omega)]
          · rw [ih _ _ (by omega)]
            by_cases e : i = j
            · subst e; simp
            · rw [if_neg (by omega), if_neg (by omega)]
theorem get_put (t : Tr α) (x : α) : ∀ i j, (t.put i x).get j = if i = j then some x else t.get j := by
  induction t with
  | nil => intro i j; rw [put_nil, get_path _ _ _ _ (by omega), get_nil]
  | node v l r ihl ihr =>
    intro i j
    cases i with
    | zero =>
      rw [put_zero]
      cases j with
      | zero => rfl
      | succ j => rw [get_succ, get_succ]; simp
    | succ i =>
      rw [put_succ]
      cases j with
      | zero => split <;> simp [get_zero]
      | succ j =>
        split <;> rw [get_succ, get_succ]
        · split
          · rw [ihl]
            by_cases e : i = j
            · subst e; simp
            · rw [if_neg (by omega), if_neg (by omega)]
          · rw [if_neg (by omega)]
        · split
          · rw [if_neg (by omega)]
          · rw [ihr]
            by_cases e : i = j
            · subst e; simp
            · rw [if_neg (by omega), if_neg (by omega)]
theorem get_put_same (t : Tr α) (x : α) (i : Nat) : (t.put i x).get i = some x := by rw [get_put]; simp
theorem get_put_ne (t : Tr α) (x : α) {i j : Nat} (h : i ≠ j) : (t.put i x).get j = t.get j := by rw [get_put, if_neg h]
theorem get_lay (l : List α) : ∀ (t : Tr α) (i j : Nat), (Tr.lay l t i).get j = if i ≤ j ∧ j < i + l.length then l[j - i]? else t.get j := by
  induction l with
  | nil => intro t i j; show t.get j = _; rw [if_neg (fun h => by have := h.2; simp at this; omega)]
  | cons x l ih =>
    intro t i j
    show (Tr.lay l (t.put i x) (i + 1)).get j = _
    rw [ih, get_put]
    by_cases h1 : i + 1 ≤ j ∧ j < i + 1 + l.length
    · rw [if_pos h1, if_pos (by simp; omega)]
      have : j - i = (j - (i + 1)) + 1 := by omega
      rw [this]; simp
    · rw [if_neg h1]
      by_cases h2 : i = j
      · subst h2; simp
      · rw [if_neg h2, if_neg (by simp; omega)]
theorem cpy_some {s : Tr α} : ∀ (n so : Nat) (t : Tr α) (i : Nat) (t' : Tr α), s.cpy n so t i = some t' →
    ∀ j, (i ≤ j ∧ j < i + n → t'.get j = s.get (so + (j - i)) ∧ ∃ x, t'.get j = some x) ∧ (¬ (i ≤ j ∧ j < i + n) → t'.get j = t.get j) := by
  intro n
  induction n with
  | zero =>
    intro so t i t' h j
    have : t = t' := Option.some.inj h
    subst this
    exact ⟨fun h => by omega, fun _ => rfl⟩
  | succ n ih =>
    intro so t i t' h j
    have h1 : (Option.rec none (fun x => s.cpy n (so + 1) (t.put i x) (i + 1)) (s.get so) : Option (Tr α)) = some t' := h
    cases hs : s.get so with
    | none => rw [hs] at h1; cases h1
    | some x =>
      rw [hs] at h1
      obtain ⟨h2, h3⟩ := ih (so + 1) (t.put i x) (i + 1) t' h1 j
      refine ⟨fun hj => ?_, fun hj => ?_⟩
      · by_cases e : i = j
        · subst e
          rw [h3 (by omega), get_put_same]
          refine ⟨?_, _, rfl⟩
          rw [show so + (i - i) = so by omega, hs]
        · have h4 := h2 (by omega)
          rw [show so + (j - i) = so + 1 + (j - (i + 1)) by omega]
          exact h4
      · rw [h3 (by omega), get_put_ne _ _ (by omega)]
theorem row_of_get {s : Tr α} (n so : Nat) (h : ∀ j, j < n → ∃ x, s.get (so + j) = some x) : ∃ t', s.cpy n so (Tr.nil : Tr α) 0 = some t' := by
  have key : ∀ (n so : Nat) (t : Tr α) (i : Nat), (∀ j, j < n → ∃ x, s.get (so + j) = some x) → ∃ t', s.cpy n so t i = some t' := by
    intro n
    induction n with
    | zero => intro so t i _; exact ⟨t, rfl⟩
    | succ n ih =>
      intro so t i h
      obtain ⟨x, hx⟩ := h 0 (by omega)
      obtain ⟨t', ht⟩ := ih (so + 1) (t.put i x) (i + 1) (fun j hj => by obtain ⟨y, hy⟩ := h (j + 1) (by omega); exact ⟨y, by rw [← hy, show so + 1 + j = so + (j + 1) by omega]⟩)
      refine ⟨t', ?_⟩
      show (Option.rec none (fun x => s.cpy n (so + 1) (t.put i x) (i + 1)) (s.get so) : Option (Tr α)) = some t'
      rw [show so = so + 0 by omega, hx]
      exact ht
  exact key n so _ 0 h
end Tr
end
end Go.Proofs.YtolheapnopmhgaaGreatDoor
