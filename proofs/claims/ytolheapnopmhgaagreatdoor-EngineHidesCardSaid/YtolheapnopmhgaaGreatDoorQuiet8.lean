/- The same, on parts that are laid together. -/
import Derived.Test.YtolheapnopmhgaaGreatDoorQuiet7
set_option linter.all false
namespace Go.Proofs.YtolheapnopmhgaaGreatDoor
open Go

section
variable {C : Ctx} {ρ : Sym} {Φ : Env} {base : Nat} {h : H} {w : World}

/-- What there is of a table is a row's. -/
def PartR (ρ : Sym) (Φ : Env) (c : Tr V) (n : Nat) (arr : Array Value) : Prop := arr.size = n ∧ ∀ j v, j < n → c.get j = some v → ∃ x, denC ρ Φ v = some x ∧ arr[j]? = some x

theorem layParts_fill {place : Nat → Option (Nat × Nat)} {place' : Nat → Option (Nat × Nat)} {n : Nat} (hp : ∀ i q, place i = some q → place' i = some q ∧ q.1 + q.2 ≤ n) :
    ∀ {ps : List (Nat × V)} {ps' : List (Nat × Value)} {c c' : Tr V} {arr : Array Value}, Two (fun (v : Nat × V) (x : Nat × Value) => v.1 = x.1 ∧ denA ρ Φ v.2 = some x.2) ps ps' → PartR ρ Φ c n arr → layParts place ps c = some c' →
      ∃ arr', Instr.fill place' arr ps' = some arr' ∧ PartR ρ Φ c' n arr' ∧ (∀ j, (∃ v, c.get j = some v) → ∃ v, c'.get j = some v) ∧ ∀ p ∈ ps, ∀ q, place p.1 = some q → ∀ j, q.1 ≤ j → j < q.1 + q.2 → ∃ v, c'.get j = some v := by
  intro ps
  induction ps with
  | nil =>
    intro ps' c c' arr h2 hr hl
    cases h2
    have : c = c' := Option.some.inj hl
    subst this
    exact ⟨arr, rfl, hr, fun j h => h, fun p hp => by cases hp⟩
  | cons p ps ih =>
    intro ps' c c' arr h2 hr hl
    cases h2 with
    | @cons _ x _ ps'' hx ht =>
    change ob (place p.1) (fun q => guardO (Nat.beq p.2.size q.2) (ob (p.2.into c q.1) (layParts place ps))) = some c' at hl
    replace hl := ob_some hl
    obtain ⟨q, hq, hl⟩ := hl
    replace hl := guardO_some hl
    obtain ⟨hsz, hl⟩ := hl
    replace hl := ob_some hl
    obtain ⟨c1, hc1, hl⟩ := hl
    obtain ⟨hq', hqn⟩ := hp _ _ hq
    have hsz : p.2.size = q.2 := Nat.eq_of_beq_eq_true hsz
    obtain ⟨hcs, hcells⟩ := cells_den hx.2
    have hin := into_some hc1
    have hfold := fold_setCells arr q.1 x.2.cells.toList 0 arr
    obtain ⟨arr1, harr1⟩ : ∃ a, x.2.cells.zipIdx.foldl (fun cs (c, j) => cs.setIfInBounds (q.1 + j) c) arr = a := ⟨_, rfl⟩
    have hlist : (x.2.cells.toList.zipIdx 0).foldl (fun cs (c, j) => cs.setIfInBounds (q.1 + j) c) arr = arr1 := by
      rw [← harr1, ← Array.foldl_toList, Array.toList_zipIdx]
    rw [hlist] at hfold
    have hr1 : PartR ρ Φ c1 n arr1 := by
      refine ⟨?_, fun j v hj hv => ?_⟩
      · have : ∀ (l : List (Value × Nat)) (a : Array Value), (l.foldl (fun cs (c, j) => cs.setIfInBounds (q.1 + j) c) a).size = a.size := by
          intro l
          induction l with
          | nil => intro a; rfl
          | cons y l ih => intro a; rw [List.foldl_cons, ih]; simp
        rw [← hlist, this]; exact hr.1
      · have hf := hfold j
        simp only [Nat.add_zero, Array.length_toList] at hf
        by_cases hjq : q.1 ≤ j ∧ j < q.1 + q.2
        · rw [(hin j).1 (by omega)] at hv
          obtain ⟨u, y, h3, h4, h5⟩ := hcells (j - q.1) (by omega)
          rw [hv] at h3; cases h3
          refine ⟨y, h4, ?_⟩
          rw [hf, if_pos (by rw [hcs, hr.1]; omega)]
          simpa using h5
        · rw [(hin j).2 (by omega)] at hv
          obtain ⟨y, h4, h5⟩ := hr.2 j v hj hv
          exact ⟨y, h4, by rw [hf, if_neg (by rw [hcs]; omega)]; exact h5⟩
    obtain ⟨arr', h6, h7, h8, h9⟩ := ih ht hr1 hl
    refine ⟨arr', ?_, h7, fun j hj => ?_, fun p' hp' q' hq2 j h10 h11 => ?_⟩
    · obtain ⟨xi, xv⟩ := x
      simp only [Instr.fill]
      simp only at hx hcs harr1
      rw [← hx.1, hq']
      simp only []
      rw [if_neg (by rw [hcs, hr.1]; simp; omega), harr1]
      exact h6
    · refine h8 j ?_
      by_cases hjq : q.1 ≤ j ∧ j < q.1 + q.2
      · obtain ⟨u, y, h3, _, _⟩ := hcells (j - q.1) (by omega)
        exact ⟨u, by rw [(hin j).1 (by omega)]; exact h3⟩
      · rw [(hin j).2 (by omega)]; exact hj
    · rcases List.mem_cons.1 hp' with rfl | hp'
      · rw [hq] at hq2; cases hq2
        obtain ⟨u, y, h3, _, _⟩ := hcells (j - q.1) (by omega)
        exact h8 j ⟨u, by rw [(hin j).1 (by omega)]; exact h3⟩
      · exact h9 p' hp' q' hq2 j h10 h11
end
end Go.Proofs.YtolheapnopmhgaaGreatDoor
