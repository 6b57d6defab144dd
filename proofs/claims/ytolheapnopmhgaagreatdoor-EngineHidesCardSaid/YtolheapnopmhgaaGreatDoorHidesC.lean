/- The closed facts of EngineHides's row, in parts. -/
import Derived.Test.YtolheapnopmhgaaGreatDoorRows
import Derived.JoinedCond
import Derived.KernelRfl
set_option linter.all false
namespace Go.Proofs.YtolheapnopmhgaaGreatDoor.engineHides
open Go
set_option maxRecDepth 100000
theorem c_inPlace : (Rows.engineHidesRow.inPlace == Tryz.prog.inPlace 3) = true := by kernel_rfl
theorem c_unfollowed : (Rows.engineHidesRow.unfollowed == Tryz.prog.unfollowed 3) = true := by kernel_rfl
theorem c_recurses : (Rows.engineHidesRow.recurses == Tryz.prog.recurses 3) = true := by kernel_rfl
theorem c_named : (Rows.engineHidesRow.named == Tryz.prog.varsNamed 3) = true := by kernel_rfl
theorem c_laidOut : laidOutB Tryz.prog = true := by kernel_rfl
theorem c_mapsRowed : mapsRowed Tryz.prog = true := by kernel_rfl
theorem closed : joinedFacts Tryz.prog 3 Tryz.f3 (OpenSpec.ofChange Rows.engineHidesSpec).bare Rows.engineHidesRow = true := by
  unfold joinedFacts
  simp only [Bool.and_eq_true]
  repeat' apply And.intro
  all_goals first
    | with_reducible exact c_inPlace
    | with_reducible exact c_unfollowed
    | with_reducible exact c_recurses
    | with_reducible exact c_named
    | with_reducible exact c_laidOut
    | with_reducible exact c_mapsRowed
    | kernel_rfl
end Go.Proofs.YtolheapnopmhgaaGreatDoor.engineHides
