/- Regions whose operations are taken in another order than the text's. -/
import Derived.Test.YtolheapnopmhgaaGreatDoorEv
set_option linter.all false
namespace Go.Proofs.YtolheapnopmhgaaGreatDoor
def oddL : List (Nat × Nat) := [(15, 41), (21, 18), (21, 87), (17, 14), (12, 23), (29, 23), (9, 26), (18, 13), (12, 14), (19, 21), (15, 16), (13, 82), (15, 13), (20, 10), (19, 25), (11, 68), (17, 42), (6, 7)]
end Go.Proofs.YtolheapnopmhgaaGreatDoor
