/- EngineHides, reckoned: the writer's level is 3. -/
import Derived.Test.YtolheapnopmhgaaGreatDoorEngDef
set_option linter.all false
namespace Go.Proofs.YtolheapnopmhgaaGreatDoor
open Go
set_option maxRecDepth 100000
theorem hides_1_3_z : runF (ctxOf noBin knownAw) 100000 3 [.i .i64 1, .i .i64 3, .z 0] h0 yes = true := by kernel_rfl
theorem hides_2_3_t : runF (ctxOf noBin knownAw) 100000 3 [.i .i64 2, .i .i64 3, .b true] h0 yes = true := by kernel_rfl
theorem hides_2_3_f : runF (ctxOf noBin knownAw) 100000 3 [.i .i64 2, .i .i64 3, .b false] h0 yes = true := by kernel_rfl
theorem hides_3_3_t : runF (ctxOf noBin knownAw) 100000 3 [.i .i64 3, .i .i64 3, .b true] h0 yes = true := by kernel_rfl
theorem hides_3_3_f : runF (ctxOf noBin knownAw) 100000 3 [.i .i64 3, .i .i64 3, .b false] h0 yes = true := by kernel_rfl
theorem hides_4_3_t : runF (ctxOf noBin knownAw) 100000 3 [.i .i64 4, .i .i64 3, .b true] h0 yes = true := by kernel_rfl
theorem hides_4_3_f : runF (ctxOf noBin knownAw) 100000 3 [.i .i64 4, .i .i64 3, .b false] h0 yes = true := by kernel_rfl
theorem hides_5_3_t : runF (ctxOf noBin knownAw) 100000 3 [.i .i64 5, .i .i64 3, .b true] h0 yes = true := by kernel_rfl
theorem hides_5_3_f : runF (ctxOf noBin knownAw) 100000 3 [.i .i64 5, .i .i64 3, .b false] h0 yes = true := by kernel_rfl
end Go.Proofs.YtolheapnopmhgaaGreatDoor
