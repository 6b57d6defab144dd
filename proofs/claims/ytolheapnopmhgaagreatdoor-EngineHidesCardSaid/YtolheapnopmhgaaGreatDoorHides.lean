/- EngineHides: for every level, every writer's level, commit or not, the law returns true. No condition. -/
import Derived.Test.YtolheapnopmhgaaGreatDoorFact
import Derived.Test.YtolheapnopmhgaaGreatDoorHidesS
import Derived.Test.YtolheapnopmhgaaGreatDoorHidesC
import Derived.Test.YtolheapnopmhgaaGreatDoorHidesW1
import Derived.Test.YtolheapnopmhgaaGreatDoorHidesW2
import Derived.Test.YtolheapnopmhgaaGreatDoorHidesW3
import Derived.Test.YtolheapnopmhgaaGreatDoorHidesW4
import Derived.Test.YtolheapnopmhgaaGreatDoorHidesW5
import Derived.Test.YtolheapnopmhgaaGreatDoorCards
import Derived.Test.YtolheapnopmhgaaGreatDoorTie
import Derived.WalkKit
import Derived.ProofKit
import Derived.OpenShut
import Derived.Deep.DeepHandedRow
set_option linter.all false
namespace Go.Proofs.YtolheapnopmhgaaGreatDoor.engineHides
open Go.ChangeShapes Go.WideShapes Go.ChangeAt Go.RowKit

theorem own : ownKnob Tryz.prog.godebug = none := by kernel_rfl
set_option maxRecDepth 100000
theorem walk (a0 a1 : Int) (a2 : Bool) (w : World) (h : Two2 w) : Calls Tryz.prog 3 #[.int .i64 a0, .int .i64 a1, .bool a2] w fun e w' => e = .returned (.bool true) ∧ Fr w.heap.size w w' := by
  let ρ : Sym := sym0 (fun k => if k = 0 then a0 else a1) (fun _ => a2)
  have sym : ∀ fs : List (Nat × Nat × Int × Bool), FactsOk ρ (factsOf fs) → runF (ctxOf (factB (factsOf fs)) knownAw) 100000 3 [.y 0, .y 1, .z 0] h0 yes = true →
      Calls Tryz.prog 3 #[.int .i64 a0, .int .i64 a1, .bool a2] w fun e w' => e = .returned (.bool true) ∧ Fr w.heap.size w w' := fun fs hf hr =>
    law_calls (ρ := ρ) (args' := [.int .i64 a0, .int .i64 a1, .bool a2]) h (factB_ok hf) (.cons rfl (.cons rfl (.cons rfl .nil))) hr
  have num : ∀ (v : V), den ρ Φ0 v = some (.bool a2) → runF (ctxOf noBin knownAw) 100000 3 [.i .i64 a0, .i .i64 a1, v] h0 yes = true →
      Calls Tryz.prog 3 #[.int .i64 a0, .int .i64 a1, .bool a2] w fun e w' => e = .returned (.bool true) ∧ Fr w.heap.size w w' := fun v hv hr =>
    law_calls (ρ := ρ) (args' := [.int .i64 a0, .int .i64 a1, .bool a2]) h (noBin_ok _ _) (.cons rfl (.cons rfl (.cons hv .nil))) hr
  have y0 : ρ.y 0 = a0 := rfl
  have y1 : ρ.y 1 = a1 := rfl
  by_cases c1 : a0 < 1
  · refine sym _ ?_ run_a
    intro q hq
    simp only [factsOf, List.map_cons, List.map_nil, List.mem_cons, List.not_mem_nil, or_false] at hq
    subst hq
    simp [cmpI, y0, c1]
  by_cases c2 : 5 < a0
  · refine sym _ ?_ run_b
    intro q hq
    simp only [factsOf, List.map_cons, List.map_nil, List.mem_cons, List.not_mem_nil, or_false] at hq
    rcases hq with rfl | rfl
    · simp [cmpI, y0]; omega
    · simp [cmpI, y0]; omega
  by_cases c3 : a1 < 1
  · refine sym _ ?_ run_c
    intro q hq
    simp only [factsOf, List.map_cons, List.map_nil, List.mem_cons, List.not_mem_nil, or_false] at hq
    rcases hq with rfl | rfl | rfl
    · simp [cmpI, y0]; omega
    · simp [cmpI, y0]; omega
    · simp [cmpI, y1]; omega
  by_cases c4 : 5 < a1
  · refine sym _ ?_ run_d
    intro q hq
    simp only [factsOf, List.map_cons, List.map_nil, List.mem_cons, List.not_mem_nil, or_false] at hq
    rcases hq with rfl | rfl | rfl | rfl
    · simp [cmpI, y0]; omega
    · simp [cmpI, y0]; omega
    · simp [cmpI, y1]; omega
    · simp [cmpI, y1]; omega
  have e0 : a0 = 1 ∨ a0 = 2 ∨ a0 = 3 ∨ a0 = 4 ∨ a0 = 5 := by omega
  have e1 : a1 = 1 ∨ a1 = 2 ∨ a1 = 3 ∨ a1 = 4 ∨ a1 = 5 := by omega
  clear c1 c2 c3 c4 sym y0 y1
  rcases e0 with rfl | rfl | rfl | rfl | rfl
  · rcases e1 with rfl | rfl | rfl | rfl | rfl
    · exact num (.z 0) rfl hides_1_1_z
    · exact num (.z 0) rfl hides_1_2_z
    · exact num (.z 0) rfl hides_1_3_z
    · exact num (.z 0) rfl hides_1_4_z
    · exact num (.z 0) rfl hides_1_5_z
  · rcases e1 with rfl | rfl | rfl | rfl | rfl
    · cases a2 with
      | true => exact num (.b true) rfl hides_2_1_t
      | false => exact num (.b false) rfl hides_2_1_f
    · cases a2 with
      | true => exact num (.b true) rfl hides_2_2_t
      | false => exact num (.b false) rfl hides_2_2_f
    · cases a2 with
      | true => exact num (.b true) rfl hides_2_3_t
      | false => exact num (.b false) rfl hides_2_3_f
    · cases a2 with
      | true => exact num (.b true) rfl hides_2_4_t
      | false => exact num (.b false) rfl hides_2_4_f
    · cases a2 with
      | true => exact num (.b true) rfl hides_2_5_t
      | false => exact num (.b false) rfl hides_2_5_f
  · rcases e1 with rfl | rfl | rfl | rfl | rfl
    · cases a2 with
      | true => exact num (.b true) rfl hides_3_1_t
      | false => exact num (.b false) rfl hides_3_1_f
    · cases a2 with
      | true => exact num (.b true) rfl hides_3_2_t
      | false => exact num (.b false) rfl hides_3_2_f
    · cases a2 with
      | true => exact num (.b true) rfl hides_3_3_t
      | false => exact num (.b false) rfl hides_3_3_f
    · cases a2 with
      | true => exact num (.b true) rfl hides_3_4_t
      | false => exact num (.b false) rfl hides_3_4_f
    · cases a2 with
      | true => exact num (.b true) rfl hides_3_5_t
      | false => exact num (.b false) rfl hides_3_5_f
  · rcases e1 with rfl | rfl | rfl | rfl | rfl
    · cases a2 with
      | true => exact num (.b true) rfl hides_4_1_t
      | false => exact num (.b false) rfl hides_4_1_f
    · cases a2 with
      | true => exact num (.b true) rfl hides_4_2_t
      | false => exact num (.b false) rfl hides_4_2_f
    · cases a2 with
      | true => exact num (.b true) rfl hides_4_3_t
      | false => exact num (.b false) rfl hides_4_3_f
    · cases a2 with
      | true => exact num (.b true) rfl hides_4_4_t
      | false => exact num (.b false) rfl hides_4_4_f
    · cases a2 with
      | true => exact num (.b true) rfl hides_4_5_t
      | false => exact num (.b false) rfl hides_4_5_f
  · rcases e1 with rfl | rfl | rfl | rfl | rfl
    · cases a2 with
      | true => exact num (.b true) rfl hides_5_1_t
      | false => exact num (.b false) rfl hides_5_1_f
    · cases a2 with
      | true => exact num (.b true) rfl hides_5_2_t
      | false => exact num (.b false) rfl hides_5_2_f
    · cases a2 with
      | true => exact num (.b true) rfl hides_5_3_t
      | false => exact num (.b false) rfl hides_5_3_f
    · cases a2 with
      | true => exact num (.b true) rfl hides_5_4_t
      | false => exact num (.b false) rfl hides_5_4_f
    · cases a2 with
      | true => exact num (.b true) rfl hides_5_5_t
      | false => exact num (.b false) rfl hides_5_5_f
theorem contract (H : Type) (enc : TypeId × Value → H) (W : World) (base : Nat) (args : Array Value) (ds gs : List (DataW H)) (before : List MemPlace)
    (hval : ∀ (j : Nat) t v, Tryz.f3.params[j]? = some t → args[j]? = some v → Value.okWide Tryz.prog W .any base t v)
    (hW : DataW.Whole enc Tryz.prog Tryz.f3.params.toList Rows.engineHidesSpec.vars false W args.toList ds gs before) (hL : laidMetH Tryz.prog Rows.engineHidesRow.laid W) :
    Calls Tryz.prog 3 args W fun e W' => ∃ v, e = .returned v ∧ Rows.engineHidesSpec.post enc Tryz.prog Tryz.f3 false true false false W args v W' := by
  have hW' := hW
  obtain ⟨p, q, hA0, hV, rfl, hfz, hnd⟩ := hW
  have hA : DataW.TrodAll enc Tryz.prog W 0 (fun _ => true) true Tryz.f3.params.toList args.toList ds p := hA0
  rw [Tryz.params3] at hA hval
  obtain ⟨v0, vs0, d0, ds0, p0, q0, hargs, rfl, rfl, h0, r0⟩ := trodAll_cons hA
  obtain ⟨v1, vs1, d1, ds1, p1, q1, rfl, rfl, rfl, h1, r1⟩ := trodAll_cons r0
  obtain ⟨v2, vs2, d2, ds2, p2, q2, rfl, rfl, rfl, h2, r2⟩ := trodAll_cons r1
  obtain ⟨rfl, rfl, rfl⟩ := trodAll_nil r2
  obtain rfl : args = #[v0, v1, v2] := by cases args; simp_all
  obtain ⟨rfl, rfl⟩ := trodVars_none hV
  obtain ⟨a0, rfl, rfl, rfl, w0⟩ := open_int Tryz.underlying3 (hval 0 3 v0 rfl rfl) h0
  obtain ⟨a1, rfl, rfl, rfl, w1⟩ := open_int Tryz.underlying3 (hval 1 3 v1 rfl rfl) h1
  obtain ⟨a2, rfl, rfl, rfl⟩ := open_bool Tryz.underlying4 (hval 2 4 v2 rfl rfl) h2
  clear hA0
  simp only [List.append_nil] at hW'
  refine (walk a0 a1 a2 W (laid_two hL)).mono fun e W' ⟨he, hg⟩ => ?_
  subst he
  exact ⟨_, rfl, post_of_same (pa := []) (pv := []) hW' (fun _ _ _ => trodAll_cons_mk (shut_bool Tryz.underlying4 _) trodAll_mk0)
    (fun _ _ => trodAll_cons_mk (shut_int Tryz.underlying3 w0) (trodAll_cons_mk (shut_int Tryz.underlying3 w1) (trodAll_cons_mk (shut_bool Tryz.underlying4 _) trodAll_mk0))) (fun _ _ => rfl) rfl
    (kept_of hg) hg.frz (ok_one (by kernel_rfl) rfl (okWide_bool_mk Tryz.underlying4 _))⟩

/-- A WORLD FOR THE WITNESS: the settled one, the two tables holding what their initialisers lay. -/
noncomputable def layAt (g : Nat) (cs : Array Value) (hp : Array Obj) : Array Obj := hp.modify g fun
  | .cells _ t frozen => .cells cs t frozen
  | o => o
noncomputable def laidWorld (os : Os) : World :=
  { World.holding Tryz.prog os ⟨#[], #[], []⟩ with heap := layAt 1 (againstV.map litV).toArray (layAt 0 (levelsV.map litV).toArray (World.holding Tryz.prog os ⟨#[], #[], []⟩).heap) }
set_option maxRecDepth 100000
theorem laid_met (os : Os) : laidMet Tryz.prog Rows.engineHidesRow.laid ((laidWorld os).forCall (fun _ _ => 0) ⟨#[], #[.int .i64 0, .int .i64 0, .bool false], []⟩).memory :=
  laidMet_of_run' 8 (by kernel_rfl) (by kernel_rfl)
theorem reads (os : Os) {H : Type} (enc : TypeId × Value → H) : ∃ places, DataW.whole enc Tryz.prog ((laidWorld os).forCall (fun _ _ => 0) ⟨#[], #[.int .i64 0, .int .i64 0, .bool false], []⟩).memory Tryz.f3.params.toList Rows.engineHidesSpec.vars false #[Value.int .i64 0, .int .i64 0, .bool false].toList 8 = some ([.lit (.int .i64 0), .lit (.int .i64 0), .lit (.bool false)], [], places) :=
  ⟨[], by kernel_rfl⟩
theorem lifted (os : Os) (started : os.Started) (H : Type) (enc : TypeId × Value → H) (F : Stop.Interp) :
    ReturnsInHanded {} Tryz.checked os 3 .any ((OpenSpec.ofChange Rows.engineHidesSpec).preRow enc Tryz.prog Tryz.f3 Rows.engineHidesRow.domain false Rows.engineHidesRow.laid) (((OpenSpec.ofChange Rows.engineHidesSpec).at F).post enc Tryz.prog Tryz.f3 false true false false) := by
  obtain ⟨places, hx⟩ := reads os enc
  refine returnsInHanded_of_row (C := Tryz.checked) (s := OpenSpec.ofChange Rows.engineHidesSpec) own started (by kernel_rfl) Tryz.func3
    (witness_row_at (enc := enc) (C := Tryz.checked) false (laidWorld os) #[.int .i64 0, .int .i64 0, .bool false] rfl (by kernel_rfl) (by kernel_rfl) (by kernel_rfl)
      (OpenSpec.preRow_of_cond 8 hx (by kernel_rfl) (fun k hk => by cases hk) (by kernel_rfl) (laid_met os))) ?_
  intro W base args ds gs before hval hW _ _ _ hL _ _
  exact contract H enc W base args ds gs before hval hW hL
theorem said : Rows.EngineHidesSaid :=
  OpenClaim.holds_of_cond 3 Tryz.f3 rfl rfl rfl rfl rfl rfl rfl ⟨rfl, rfl, rfl, rfl, rfl⟩ rfl rfl rfl rfl rfl (by kernel_rfl) Tryz.func3 closed
    (of_decide_eq_true (by kernel_rfl)) (by unfold Func.isWrapper; first | (rw [if_pos (by decide +kernel)]; kernel_rfl) | (rw [if_neg (by decide +kernel)]; exact ⟨rfl, rfl⟩))
    (fun os started H enc _ F => by rw [OpenClaim.pre_eq_preRow]; exact lifted os started H enc F)
/-- No parameter wants a stand-in; the program's own looks are off. -/
theorem plain (f : FuncId) (fn : Func) (hf : Tryz.pinned.checked.prog.funcNamed "ratline/ratlinelaw16.EngineHides" = some f) (hfn : Tryz.pinned.checked.prog.funcs[f]? = some fn) :
    false = Tryz.pinned.checked.prog.looks [] ∧ ∀ (j : Nat) t, fn.params[j]? = some t → Tryz.pinned.checked.prog.wantsStandIn t = false := by
  obtain rfl : f = 3 := Option.some.inj ((show Tryz.prog.funcNamed "ratline/ratlinelaw16.EngineHides" = some 3 by kernel_rfl).symm.trans hf) |>.symm
  obtain rfl : fn = Tryz.f3 := (Option.some.inj (Tryz.func3.symm.trans hfn)).symm
  refine ⟨by kernel_rfl, fun j t ht => ?_⟩
  rw [Tryz.params3] at ht
  have hm := Array.mem_of_getElem? ht
  simp only [List.mem_toArray, List.mem_cons, List.not_mem_nil, or_false] at hm
  rcases hm with rfl | rfl | rfl
  · exact (show Tryz.prog.wantsStandIn 3 = false by kernel_rfl)
  · exact (show Tryz.prog.wantsStandIn 3 = false by kernel_rfl)
  · exact (show Tryz.prog.wantsStandIn 4 = false by kernel_rfl)
/-- THE CARD. -/
theorem card : Rows.EngineHidesCardSaid :=
  Claim7.holds_tied_plain_at .later [] _ _ _ _ said (fun _ h => by cases h) (by kernel_rfl) (fun _ h => by cases h) engineHides_row_tie rfl ⟨rfl, rfl⟩ (by kernel_rfl) rfl plain (by kernel_rfl)
end Go.Proofs.YtolheapnopmhgaaGreatDoor.engineHides
