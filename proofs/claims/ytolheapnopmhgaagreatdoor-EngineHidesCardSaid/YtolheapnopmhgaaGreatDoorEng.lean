/- The engine's seat: its two tables; its example. -/
import Derived.Test.YtolheapnopmhgaaGreatDoorLaid
import Derived.Test.YtolheapnopmhgaaGreatDoorEngDef
import Derived.Test.YtolheapnopmhgaaGreatDoorRows
set_option linter.all false
namespace Go.Proofs.YtolheapnopmhgaaGreatDoor
open Go

/-- A value that is written down. -/
def litV : V → Value
  | .b x => .bool x
  | .i k n => .int k n
  | .s x => .string x
  | _ => undef
/-- The two tables lie there. -/
def Two2 (w : World) : Prop := (∃ t fz, w.heap[0]? = some (.cells (levelsV.map litV).toArray t fz)) ∧ ∃ t fz, w.heap[1]? = some (.cells (againstV.map litV).toArray t fz)

set_option maxRecDepth 100000
theorem gLevels : Tryz.prog.globalNamed "ratline/protocol.levels" = some 0 := by kernel_rfl
theorem gAgainst : Tryz.prog.globalNamed "ratline/mode.against" = some 1 := by kernel_rfl
theorem layLevels : (Option.rec false (fun t => layB Tryz.prog 8 t) ((Tryz.prog.globals[0]?).map (·.type)) : Bool) = true := by kernel_rfl
theorem layAgainst : (Option.rec false (fun t => layB Tryz.prog 8 t) ((Tryz.prog.globals[1]?).map (·.type)) : Bool) = true := by kernel_rfl
theorem var_heap {P : Program} {w : World} {n : String} {g : Nat} {cs : Array Value} (hg : P.globalNamed n = some g) (hv : w.var? P n = some cs) : ∃ t fz, w.heap[g]? = some (.cells cs t fz) := by
  unfold World.var? at hv
  rw [hg] at hv
  simp only [Option.bind_some] at hv
  split at hv
  · rename_i c t fz h
    cases hv
    exact ⟨t, fz, h⟩
  · cases hv
theorem laid_two {W : World} (h : laidMetH Tryz.prog [("ratline/mode.against", Rows.laid_ratline_mode_against), ("ratline/protocol.levels", Rows.laid_ratline_protocol_levels)] W) : Two2 W := by
  have h' : laidMet Tryz.prog [("ratline/mode.against", Rows.laid_ratline_mode_against), ("ratline/protocol.levels", Rows.laid_ratline_protocol_levels)] W := h
  obtain ⟨ps, ⟨g1, t1, cs1, f1, p1, q1, hg1, ht1, hv1, hd1, ⟨g2, t2, cs2, f2, p2, q2, hg2, ht2, hv2, hd2, _, _⟩, _⟩, _⟩ := h'
  obtain rfl := Option.some.inj (gAgainst.symm.trans hg1)
  obtain rfl := Option.some.inj (gLevels.symm.trans hg2)
  have hl1 := layAgainst
  rw [ht1] at hl1
  have hl2 := layLevels
  rw [ht2] at hl2
  have e1 := flat_trod 8 f1 t1 cs1.toList _ p1 (againstV.map litV) hl1 hd1 (by rfl)
  have e2 := flat_trod 8 f2 t2 cs2.toList _ p2 (levelsV.map litV) hl2 hd2 (by rfl)
  have a1 : cs1 = (againstV.map litV).toArray := by rw [← e1]
  have a2 : cs2 = (levelsV.map litV).toArray := by rw [← e2]
  obtain ⟨u1, z1, k1⟩ := var_heap gAgainst hv1
  obtain ⟨u2, z2, k2⟩ := var_heap gLevels hv2
  exact ⟨⟨u2, z2, by rw [k2, a2]⟩, ⟨u1, z1, by rw [k1, a1]⟩⟩
noncomputable def Φ0 : Env := fun j => if j = 0 then some ⟨0, 0, 60, 1⟩ else if j = 1 then some ⟨1, 0, 7, 1⟩ else none
def isLit : V → Bool
  | .b _ => true
  | .i _ _ => true
  | .s _ => true
  | _ => false
theorem lit_one {v : V} (h : isLit v = true) : ofOne (litV v) = some v := by
  cases v <;> first | rfl | (cases h)
theorem lit_den {ρ : Sym} {Φ : Env} {v : V} (h : ∃ x, ofOne (litV v) = some v ∧ x = litV v) : denC ρ Φ v = some (litV v) := by
  obtain ⟨x, h1, rfl⟩ := h
  exact denC_of0 (ofOne_den h1 Φ).1
theorem table_den {ρ : Sym} {Φ : Env} {l : List V} (hl : l.all isLit = true) {n : Nat} (hn : n = l.length) : ∀ i, i < n → ∃ v x, (Tr.lay l .nil 0).get i = some v ∧ denC ρ Φ v = some x ∧ (l.map litV).toArray[i]? = some x := fun i hi => by
  subst hn
  have hg : l[i]? = some l[i] := List.getElem?_eq_getElem hi
  refine ⟨l[i], litV l[i], ?_, lit_den ⟨_, lit_one (List.all_eq_true.1 hl _ (List.getElem_mem hi)), rfl⟩, ?_⟩
  · rw [Tr.get_lay, if_pos (by omega), Nat.sub_zero]; exact hg
  · simp [hi]
theorem start_hr {ρ : Sym} {w : World} (h : Two2 w) : HR oddL ρ Φ0 w.heap.size h0 w := by
  obtain ⟨⟨t1, f1, h1⟩, ⟨t2, f2, h2⟩⟩ := h
  have s1 := (Array.getElem?_eq_some_iff.1 h1).1
  have s2 := (Array.getElem?_eq_some_iff.1 h2).1
  have hg0 : h0.t.get 0 = some (.cells true 60 1 (Tr.lay levelsV .nil 0)) := rfl
  have hg1 : h0.t.get 1 = some (.cells true 7 1 (Tr.lay againstV .nil 0)) := rfl
  have two : ∀ j L, Φ0 j = some L → (j = 0 ∧ L = ⟨0, 0, 60, 1⟩) ∨ (j = 1 ∧ L = ⟨1, 0, 7, 1⟩) := fun j L hj => by
    unfold Φ0 at hj
    split at hj
    · cases hj; exact .inl ⟨by assumption, rfl⟩
    · split at hj
      · cases hj; exact .inr ⟨by assumption, rfl⟩
      · cases hj
  refine ⟨Nat.le_refl _, fun j L hj => ?_, fun j L o hj ho => ?_, fun j j' L L' hj hj' _ _ hb => ?_⟩
  · rcases two j L hj with ⟨rfl, rfl⟩ | ⟨rfl, rfl⟩
    · exact ⟨by show 0 < 2; omega, s1⟩
    · exact ⟨by show 1 < 2; omega, s2⟩
  · rcases two j L hj with ⟨rfl, rfl⟩ | ⟨rfl, rfl⟩
    · rw [hg0] at ho; cases ho
      refine ⟨rfl, by show 60 ≤ 60 * 1; omega, (fun e => by cases e), _, t1, f1, h1, (fun e => by cases e), (by show 0 + 60 * 1 ≤ _; simp [levelsV]), fun i hi => ?_⟩
      have := table_den (ρ := ρ) (Φ := Φ0) (l := levelsV) rfl (n := 60) rfl i hi
      simpa using this
    · rw [hg1] at ho; cases ho
      refine ⟨rfl, by show 7 ≤ 7 * 1; omega, (fun e => by cases e), _, t2, f2, h2, (fun e => by cases e), (by show 0 + 7 * 1 ≤ _; simp [againstV]), fun i hi => ?_⟩
      have := table_den (ρ := ρ) (Φ := Φ0) (l := againstV) rfl (n := 7) rfl i hi
      simpa using this
  · rcases two j L hj with ⟨rfl, rfl⟩ | ⟨rfl, rfl⟩ <;> rcases two j' L' hj' with ⟨rfl, rfl⟩ | ⟨rfl, rfl⟩ <;> first | rfl | (cases hb)
end Go.Proofs.YtolheapnopmhgaaGreatDoor
