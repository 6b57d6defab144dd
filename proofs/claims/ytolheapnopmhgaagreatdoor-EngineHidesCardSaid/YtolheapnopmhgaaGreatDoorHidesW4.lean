/- EngineHides, reckoned: the writer's level is 4. -/
import Derived.Test.YtolheapnopmhgaaGreatDoorEngDef
set_option linter.all false
namespace Go.Proofs.YtolheapnopmhgaaGreatDoor
open Go
set_option maxRecDepth 100000
theorem hides_1_4_z : runF (ctxOf noBin knownAw) 100000 3 [.i .i64 1, .i .i64 4, .z 0] h0 yes = true := by kernel_rfl
theorem hides_2_4_t : runF (ctxOf noBin knownAw) 100000 3 [.i .i64 2, .i .i64 4, .b true] h0 yes = true := by kernel_rfl
theorem hides_2_4_f : runF (ctxOf noBin knownAw) 100000 3 [.i .i64 2, .i .i64 4, .b false] h0 yes = true := by kernel_rfl
theorem hides_3_4_t : runF (ctxOf noBin knownAw) 100000 3 [.i .i64 3, .i .i64 4, .b true] h0 yes = true := by kernel_rfl
theorem hides_3_4_f : runF (ctxOf noBin knownAw) 100000 3 [.i .i64 3, .i .i64 4, .b false] h0 yes = true := by kernel_rfl
theorem hides_4_4_t : runF (ctxOf noBin knownAw) 100000 3 [.i .i64 4, .i .i64 4, .b true] h0 yes = true := by kernel_rfl
theorem hides_4_4_f : runF (ctxOf noBin knownAw) 100000 3 [.i .i64 4, .i .i64 4, .b false] h0 yes = true := by kernel_rfl
theorem hides_5_4_t : runF (ctxOf noBin knownAw) 100000 3 [.i .i64 5, .i .i64 4, .b true] h0 yes = true := by kernel_rfl
theorem hides_5_4_f : runF (ctxOf noBin knownAw) 100000 3 [.i .i64 5, .i .i64 4, .b false] h0 yes = true := by kernel_rfl
end Go.Proofs.YtolheapnopmhgaaGreatDoor
