/- The same, on: sums, tests, slices, addresses. -/
import Derived.Test.YtolheapnopmhgaaGreatDoorQuiet
set_option linter.all false
namespace Go.Proofs.YtolheapnopmhgaaGreatDoor
open Go

theorem eqI_eq : ∀ a b : Int, eqI a b = (a == b)
  | .ofNat a, .ofNat b => by
    show Nat.beq a b = (Int.ofNat a == Int.ofNat b)
    by_cases h : a = b
    · subst h; simp
    · have : Nat.beq a b = false := by cases hb : Nat.beq a b with
        | false => rfl
        | true => exact absurd (Nat.eq_of_beq_eq_true hb) h
      rw [this]; symm; simp; omega
  | .negSucc a, .negSucc b => by
    show Nat.beq a b = (Int.negSucc a == Int.negSucc b)
    by_cases h : a = b
    · subst h; simp
    · have : Nat.beq a b = false := by cases hb : Nat.beq a b with
        | false => rfl
        | true => exact absurd (Nat.eq_of_beq_eq_true hb) h
      rw [this]; symm; simp; omega
  | .ofNat a, .negSucc b => by show false = _; symm; simp
  | .negSucc a, .ofNat b => by show false = _; symm; simp
theorem ltI_eq : ∀ a b : Int, ltI a b = decide (a < b)
  | .ofNat a, .ofNat b => by
    show Nat.blt a b = _
    by_cases h : a < b
    · rw [show Nat.blt a b = true by simpa [Nat.blt_eq] using h]; symm; simp; omega
    · rw [show Nat.blt a b = false by cases hb : Nat.blt a b with
        | false => rfl
        | true => exact absurd (by simpa [Nat.blt_eq] using hb) h]; symm; simp; omega
  | .negSucc a, .negSucc b => by
    show Nat.blt b a = _
    by_cases h : b < a
    · rw [show Nat.blt b a = true by simpa [Nat.blt_eq] using h]; symm; simp; omega
    · rw [show Nat.blt b a = false by cases hb : Nat.blt b a with
        | false => rfl
        | true => exact absurd (by simpa [Nat.blt_eq] using hb) h]; symm; simp; omega
  | .ofNat a, .negSucc b => by show false = _; symm; simp; omega
  | .negSucc a, .ofNat b => by show true = _; symm; simp; omega
theorem kN_inj {k k' : IntKind} (h : Nat.beq (kN k) (kN k') = true) : k = k' := by
  cases k <;> cases k' <;> first | rfl | (exact absurd h (by decide))
theorem wrapI_eq (k : IntKind) (n : Int) : wrapI k n = k.wrap n := by
  have key : ∀ (k : IntKind) (big : Nat), (∀ m : Nat, m < big → k.wrap (.ofNat m) = .ofNat m) → ∀ n, wrapN k big n = k.wrap n := by
    intro k big h n
    cases n with
    | negSucc m => rfl
    | ofNat m =>
      show (Bool.rec (IntKind.wrap k (.ofNat m)) (.ofNat m) (Nat.blt m big) : Int) = _
      rw [boolRec_eq]
      split
      · rename_i hb; exact (h m (by simpa [Nat.blt_eq] using hb)).symm
      · rfl
  unfold wrapI
  split
  · refine key _ _ (fun m hm => ?_) n
    have h1 : ((m : Int) % 2 ^ 64) = m := Int.emod_eq_of_lt (by omega) (by omega)
    have h2 : ¬ ((m : Int) ≥ 2 ^ 63) := by omega
    have : IntKind.wrap .i64 (m : Int) = if (true && decide ((m : Int) % 2 ^ 64 ≥ 2 ^ 63)) = true then (m : Int) % 2 ^ 64 - 2 ^ 64 else (m : Int) % 2 ^ 64 := rfl
    show IntKind.wrap .i64 (m : Int) = (m : Int)
    rw [this]
    simp only [h1]
    rw [if_neg (by simpa using h2)]
  · refine key _ _ (fun m hm => ?_) n
    have h1 : ((m : Int) % 2 ^ 8) = m := Int.emod_eq_of_lt (by omega) (by omega)
    show IntKind.wrap .u8 (m : Int) = (m : Int)
    show ((m : Int) % 2 ^ 8) = (m : Int)
    exact h1
  · rfl
theorem eqBy_eq : ∀ a b : List UInt8, eqBy a b = (a == b)
  | [], [] => rfl
  | [], _ :: _ => rfl
  | _ :: _, [] => rfl
  | x :: l, y :: r => by
    show (Nat.beq x.toNat y.toNat && eqBy l r) = _
    rw [eqBy_eq l r]
    by_cases h : x = y
    · subst h; simp
    · have : Nat.beq x.toNat y.toNat = false := by cases hb : Nat.beq x.toNat y.toNat with
        | false => rfl
        | true => exact absurd (UInt8.toNat_inj.1 (Nat.eq_of_beq_eq_true hb)) h
      rw [this]; simp [h]

section
variable {C : Ctx} {ρ : Sym} {Φ : Env} {base : Nat} {h : H} {w : World}

theorem not_lt_dec (a b : Int) : (!decide (b < a)) = decide (a ≤ b) := by
  by_cases h : b < a
  · rw [decide_eq_true h, decide_eq_false (by omega)]; rfl
  · rw [decide_eq_false h, decide_eq_true (by omega)]; rfl
theorem binI_run {op : BinOp} {k : IntKind} {a b : Int} {v : V} (hs : isShift op = false) (hv : binI op k a b = some v) (t : TypeId) :
    ∃ x, den0 ρ Φ v = some x ∧ (binOp op t (.int k a) (.int k b)).run C.P w = .ok x w := by
  cases op <;> simp only [binI] at hv <;> first
    | (simp [isShift] at hs; done)
    | (cases hv; exact ⟨_, rfl, by simp only [binOp, Op.intArith, ne_eq, not_true_eq_false, if_false, wrapI_eq]; rfl⟩)
    | (cases hv; refine ⟨_, rfl, ?_⟩; simp [binOp, Op.intArith, Op.intBits, Op.intCmp, wrapI_eq, eqI_eq, ltI_eq, bne]; done)
    | (obtain ⟨hb, hv⟩ := guardO_some hv
       cases hv
       rw [eqI_eq] at hb
       have hb' : b ≠ 0 := by simpa using hb
       refine ⟨_, rfl, ?_⟩
       simp [binOp, Op.intDiv, hb', wrapI_eq, Int.tdiv, Int.tmod]; done)
    | skip
  case leq => cases hv; exact ⟨.bool (decide (a ≤ b)), by simp only [den0, ltI_eq, not_lt_dec], by simp [binOp, Op.intCmp]⟩
  case geq => cases hv; exact ⟨.bool (decide (b ≤ a)), by simp only [den0, ltI_eq, not_lt_dec], by simp [binOp, Op.intCmp]⟩
theorem shiftI_run {op : BinOp} {k k' : IntKind} {a b : Int} {v : V} (hs : isShift op = true) (hv : shiftI op k a b = some v) (t : TypeId) :
    ∃ x, den0 ρ Φ v = some x ∧ (binOp op t (.int k a) (.int k' b)).run C.P w = .ok x w := by
  unfold shiftI at hv
  obtain ⟨hb, hv⟩ := guardO_some hv
  rw [ltI_eq] at hb
  have hb' : ¬ b < 0 := by simpa using hb
  cases op <;> simp only [isShift, Bool.false_eq_true] at hs <;> simp only [Option.some.injEq] at hv <;> subst hv
  · exact ⟨_, rfl, by simp [binOp, Op.shift, hb']⟩
  · exact ⟨_, rfl, by simp [binOp, Op.shift, hb']⟩
theorem toList_data (a : ByteArray) : a.toList = a.data.toList := by
  exact ByteArray.toList_eq a
theorem binS_run {op : BinOp} {a b : ByteArray} {v : V} (hv : binS op a b = some v) (t : TypeId) :
    ∃ x, den0 ρ Φ v = some x ∧ (binOp op t (.string a) (.string b)).run C.P w = .ok x w := by
  cases op <;> simp only [binS, Option.some.injEq] at hv <;> first | (cases hv; done) | subst hv
  all_goals (refine ⟨_, rfl, ?_⟩; simp [binOp, Op.stringOp, eqS, eqBy_eq, toList_data])
end
end Go.Proofs.YtolheapnopmhgaaGreatDoor
