/- What is known of whole numbers that aren't looked into: how they compare with some. -/
import Derived.Test.YtolheapnopmhgaaGreatDoorEngAw
import Derived.Test.YtolheapnopmhgaaGreatDoorFactDef
set_option linter.all false
namespace Go.Proofs.YtolheapnopmhgaaGreatDoor
open Go

def FactsOk (ρ : Sym) (fs : List Fact) : Prop := ∀ q ∈ fs, q.op ≤ 5 ∧ q.r = if q.sw = true then cmpI q.op q.n (ρ.y q.k) else cmpI q.op (ρ.y q.k) q.n
theorem findF_some {fs : List Fact} {op : Nat} {sw : Bool} {k : Nat} {n : Int} {v : V} (h : findF fs op sw k n = some v) : ∃ q ∈ fs, v = .b q.r ∧ q.op = op ∧ q.sw = sw ∧ q.k = k ∧ q.n = n := by
  induction fs with
  | nil => cases h
  | cons q fs ih =>
    change (Bool.rec (findF fs op sw k n) (some (.b q.r)) (Nat.beq q.op op && sameB q.sw sw && Nat.beq q.k k && eqI q.n n) : Option V) = some v at h
    rw [boolRec_eq] at h
    split at h
    · rename_i hc
      simp only [Bool.and_eq_true] at hc
      obtain ⟨⟨⟨h1, h2⟩, h3⟩, h4⟩ := hc
      cases h
      rw [eqI_eq] at h4
      refine ⟨q, List.mem_cons_self, rfl, Nat.eq_of_beq_eq_true h1, ?_, Nat.eq_of_beq_eq_true h3, eq_of_beq h4⟩
      revert h2
      cases q.sw <;> cases sw <;> intro h2 <;> first | rfl | (cases h2)
    · obtain ⟨q', hq, hr⟩ := ih h
      exact ⟨q', List.mem_cons_of_mem _ hq, hr⟩
theorem cmp_run {P : Program} {op : BinOp} (ho : opC op ≤ 5) (a b : Int) (t : TypeId) (w : World) : (binOp op t (.int .i64 a) (.int .i64 b)).run P w = .ok (.bool (cmpI (opC op) a b)) w := by
  cases op <;> first
    | (exfalso; simp [opC] at ho; done)
    | (simp [binOp, Op.intCmp, cmpI, opC]; done)
    | (simp [binOp, Op.intCmp, cmpI, opC, bne]; done)
theorem factB_ok {ρ : Sym} {fs : List Fact} {known : Nat → List V → H → Option V} (hf : FactsOk ρ fs) : BinR (ctxOf (factB fs) known) ρ := by
  intro op x y v hv Φ x' y' hx hy
  change factB fs op x y = some v at hv
  unfold factB at hv
  split at hv
  · rename_i k
    cases hx
    refine ⟨⟨_, _, rfl⟩, fun t w => ?_⟩
    unfold factY at hv
    split at hv
    · rename_i kk n
      cases hy
      obtain ⟨hk, hv⟩ := guardO_some hv
      have hk : kk = .i64 := kN_inj (k := kk) (k' := .i64) hk
      subst hk
      obtain ⟨q, hq, rfl, h1, h2, h3, h4⟩ := findF_some hv
      obtain ⟨h5, h6⟩ := hf q hq
      rw [h1] at h5
      refine ⟨_, rfl, ?_⟩
      rw [cmp_run h5, h6, h2, h1, h3, h4]
      rfl
    · cases hv
  · rename_i kk n
    cases hx
    refine ⟨⟨_, _, rfl⟩, fun t w => ?_⟩
    unfold factI at hv
    split at hv
    · rename_i k
      cases hy
      obtain ⟨hk, hv⟩ := guardO_some hv
      have hk : kk = .i64 := kN_inj (k := kk) (k' := .i64) hk
      subst hk
      obtain ⟨q, hq, rfl, h1, h2, h3, h4⟩ := findF_some hv
      obtain ⟨h5, h6⟩ := hf q hq
      rw [h1] at h5
      refine ⟨_, rfl, ?_⟩
      rw [cmp_run h5, h6, h2, h1, h3, h4]
      rfl
    · cases hv
  · cases hv

/-- What was there is as it was. -/
theorem kept_of {w w' : World} {may : MemPlace → Prop} (h : Fr w.heap.size w w') : w.keptBut w' may := by
  refine ⟨h.os, h.out, fun i hi => ?_⟩
  rw [h.old i hi]
  cases w.heap[i]? with
  | none => rfl
  | some o => cases o <;> first
    | exact ⟨rfl, rfl, rfl, fun _ _ => rfl⟩
    | exact .inr ⟨rfl, rfl⟩
    | rfl
end Go.Proofs.YtolheapnopmhgaaGreatDoor
