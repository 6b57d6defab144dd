/- The engine's example, reckoned. -/
import Derived.Test.YtolheapnopmhgaaGreatDoorEngDef
set_option linter.all false
namespace Go.Proofs.YtolheapnopmhgaaGreatDoor
open Go
set_option maxRecDepth 100000
theorem awake_run : runF (ctxOf noBin noKnown) 100000 8 [] h0 yes = true := by kernel_rfl
end Go.Proofs.YtolheapnopmhgaaGreatDoor
