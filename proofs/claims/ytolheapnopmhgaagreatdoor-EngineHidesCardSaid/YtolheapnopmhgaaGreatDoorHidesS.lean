/- EngineHides, reckoned: levels that may not be. -/
import Derived.Test.YtolheapnopmhgaaGreatDoorFactDef
set_option linter.all false
namespace Go.Proofs.YtolheapnopmhgaaGreatDoor.engineHides
open Go
/-- What is known of levels that may not be. -/
def factsOf (l : List (Nat × Nat × Int × Bool)) : List Fact := l.map fun q => ⟨q.1, false, q.2.1, q.2.2.1, q.2.2.2⟩
set_option maxRecDepth 100000
theorem run_a : runF (ctxOf (factB (factsOf [(0, 0, 1, true)])) knownAw) 100000 3 [.y 0, .y 1, .z 0] h0 yes = true := by kernel_rfl
theorem run_b : runF (ctxOf (factB (factsOf [(0, 0, 1, false), (2, 0, 5, true)])) knownAw) 100000 3 [.y 0, .y 1, .z 0] h0 yes = true := by kernel_rfl
theorem run_c : runF (ctxOf (factB (factsOf [(0, 0, 1, false), (2, 0, 5, false), (0, 1, 1, true)])) knownAw) 100000 3 [.y 0, .y 1, .z 0] h0 yes = true := by kernel_rfl
theorem run_d : runF (ctxOf (factB (factsOf [(0, 0, 1, false), (2, 0, 5, false), (0, 1, 1, false), (2, 1, 5, true)])) knownAw) 100000 3 [.y 0, .y 1, .z 0] h0 yes = true := by kernel_rfl
end Go.Proofs.YtolheapnopmhgaaGreatDoor.engineHides
