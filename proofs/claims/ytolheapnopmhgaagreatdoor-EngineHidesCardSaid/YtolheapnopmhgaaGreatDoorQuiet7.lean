/- The same, on: parts laid together, maps that are read, lengths; and all of them. -/
import Derived.Test.YtolheapnopmhgaaGreatDoorQuiet6
import Derived.MapKept
set_option linter.all false
namespace Go.Proofs.YtolheapnopmhgaaGreatDoor
open Go

section
variable {C : Ctx} {ρ : Sym} {Φ : Env} {base : Nat} {h : H} {w : World}

theorem evParts_den {pend : Nat → Prop} {A : A} {a : Act} (hg : GR C Φ) (ha : AR ρ Φ pend A a) : ∀ {l : List (Nat × Operand)} {vs : List (Nat × V)}, (∀ x ∈ l, free pend x.2) → evParts C A l = some vs →
    Two (fun (v : Nat × V) (x : Nat × Value) => v.1 = x.1 ∧ denA ρ Φ v.2 = some x.2) vs (l.map fun x => (x.1, a.eval x.2)) := by
  intro l
  induction l with
  | nil => intro vs _ h; cases h; exact .nil
  | cons x l ih =>
    intro vs hx h
    change ob (A.ev1 C x.2) (fun v => om (evParts C A l) fun r => (x.1, v) :: r) = some vs at h
    replace h := ob_some h
    obtain ⟨v, hv, h⟩ := h
    replace h := om_some h
    obtain ⟨r, hr, rfl⟩ := h
    exact .cons ⟨rfl, ev1_den hg ha (hx x List.mem_cons_self) hv⟩ (ih (fun y hy => hx y (List.mem_cons_of_mem _ hy)) hr)
/-- A value's cell. -/
noncomputable def V.nth (v : V) (i : Nat) : Option V := match v with
  | .agg c off _ => c.get (off + i)
  | v => some v
/-- A value's cells. -/
theorem cells_den {v : V} {x : Value} (hd : denA ρ Φ v = some x) : x.cells.size = v.size ∧ ∀ i, i < v.size → ∃ u y, v.nth i = some u ∧ denC ρ Φ u = some y ∧ x.cells[i]? = some y := by
  by_cases hag : ∃ t off n, v = .agg t off n
  · obtain ⟨t, off, n, rfl⟩ := hag
    simp only [denA] at hd
    obtain ⟨l, hl, rfl⟩ := Option.map_eq_some_iff.1 hd
    obtain ⟨h1, h2⟩ := denRow_some hl
    refine ⟨by simpa [Value.cells, V.size] using h1, fun i hi => ?_⟩
    obtain ⟨u, y, h3, h4, h5⟩ := h2 i hi
    exact ⟨u, y, h3, h4, by simpa [Value.cells] using h5⟩
  · have hc : denC ρ Φ v = some x := by
      cases v <;> first | exact hd | exact absurd ⟨_, _, _, rfl⟩ hag
    have hs : v.size = 1 := by cases v <;> first | rfl | exact absurd ⟨_, _, _, rfl⟩ hag
    have hm : v.nth 0 = some v := by cases v <;> first | rfl | exact absurd ⟨_, _, _, rfl⟩ hag
    rw [cells_of_cell (denC_cell hc).1, hs]
    refine ⟨rfl, fun i hi => ?_⟩
    cases Nat.lt_one_iff.1 hi
    exact ⟨v, x, hm, hc, rfl⟩
/-- A value is laid into a table: its cells lie there, the others are as they were. -/
theorem into_some {v : V} {t t' : Tr V} {i : Nat} (hv : v.into t i = some t') :
    ∀ j, (i ≤ j ∧ j < i + v.size → t'.get j = v.nth (j - i)) ∧ (¬ (i ≤ j ∧ j < i + v.size) → t'.get j = t.get j) := by
  intro j
  by_cases hag : ∃ c off n, v = .agg c off n
  · obtain ⟨c, off, n, rfl⟩ := hag
    have hv : c.cpy n off t i = some t' := hv
    obtain ⟨h1, h2⟩ := Tr.cpy_some _ _ _ _ _ hv j
    exact ⟨fun hj => (h1 hj).1, h2⟩
  · by_cases htup : ∃ l, v = .tup l
    · obtain ⟨l, rfl⟩ := htup; cases hv
    · have hs : v.size = 1 := by cases v <;> first | rfl | exact absurd ⟨_, _, _, rfl⟩ hag
      have hp : t.put i v = t' := by
        cases v <;> first | exact Option.some.inj hv | exact absurd ⟨_, _, _, rfl⟩ hag | exact absurd ⟨_, rfl⟩ htup
      have hm : v.nth (j - i) = some v := by cases v <;> first | rfl | exact absurd ⟨_, _, _, rfl⟩ hag
      rw [hs, hm, ← hp]
      refine ⟨fun hj => ?_, fun hj => Tr.get_put_ne _ _ (by omega)⟩
      have : j = i := by omega
      subst this; exact Tr.get_put_same _ _ _
theorem fold_setCells (cells : Array Value) (off : Nat) : ∀ (vs : List Value) (k : Nat) (out : Array Value),
    (∀ j, ((vs.zipIdx k).foldl (fun cs (c, i) => cs.setIfInBounds (off + i) c) cells)[j]? = if off + k ≤ j ∧ j < off + k + vs.length ∧ j < cells.size then vs[j - (off + k)]? else cells[j]?) := by
  intro vs
  induction vs generalizing cells with
  | nil => intro k out j; simp; intro h1 h2; omega
  | cons v vs ih =>
    intro k out j
    simp only [List.zipIdx_cons, List.foldl_cons]
    rw [ih _ (k + 1) out j, Array.size_setIfInBounds]
    by_cases h1 : off + (k + 1) ≤ j ∧ j < off + (k + 1) + vs.length ∧ j < cells.size
    · rw [if_pos h1, if_pos (by simp; omega)]
      have : j - (off + k) = (j - (off + (k + 1))) + 1 := by omega
      rw [this]; simp
    · rw [if_neg h1, Array.getElem?_setIfInBounds]
      by_cases h2 : off + k = j
      · subst h2
        by_cases h3 : off + k < cells.size
        · rw [if_pos rfl, if_pos h3, if_pos (by simp; omega)]; simp
        · rw [if_pos rfl, if_neg h3, if_neg (by omega), Array.getElem?_eq_none (by omega)]
      · rw [if_neg h2, if_neg (by simp; omega)]
end
end Go.Proofs.YtolheapnopmhgaaGreatDoor
