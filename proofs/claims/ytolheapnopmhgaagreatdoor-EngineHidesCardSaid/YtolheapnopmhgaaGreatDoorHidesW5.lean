/- EngineHides, reckoned: the writer's level is 5. -/
import Derived.Test.YtolheapnopmhgaaGreatDoorEngDef
set_option linter.all false
namespace Go.Proofs.YtolheapnopmhgaaGreatDoor
open Go
set_option maxRecDepth 100000
theorem hides_1_5_z : runF (ctxOf noBin knownAw) 100000 3 [.i .i64 1, .i .i64 5, .z 0] h0 yes = true := by kernel_rfl
theorem hides_2_5_t : runF (ctxOf noBin knownAw) 100000 3 [.i .i64 2, .i .i64 5, .b true] h0 yes = true := by kernel_rfl
theorem hides_2_5_f : runF (ctxOf noBin knownAw) 100000 3 [.i .i64 2, .i .i64 5, .b false] h0 yes = true := by kernel_rfl
theorem hides_3_5_t : runF (ctxOf noBin knownAw) 100000 3 [.i .i64 3, .i .i64 5, .b true] h0 yes = true := by kernel_rfl
theorem hides_3_5_f : runF (ctxOf noBin knownAw) 100000 3 [.i .i64 3, .i .i64 5, .b false] h0 yes = true := by kernel_rfl
theorem hides_4_5_t : runF (ctxOf noBin knownAw) 100000 3 [.i .i64 4, .i .i64 5, .b true] h0 yes = true := by kernel_rfl
theorem hides_4_5_f : runF (ctxOf noBin knownAw) 100000 3 [.i .i64 4, .i .i64 5, .b false] h0 yes = true := by kernel_rfl
theorem hides_5_5_t : runF (ctxOf noBin knownAw) 100000 3 [.i .i64 5, .i .i64 5, .b true] h0 yes = true := by kernel_rfl
theorem hides_5_5_f : runF (ctxOf noBin knownAw) 100000 3 [.i .i64 5, .i .i64 5, .b false] h0 yes = true := by kernel_rfl
end Go.Proofs.YtolheapnopmhgaaGreatDoor
