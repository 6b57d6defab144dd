/- The engine's seat: what its calls are reckoned in. -/
import Derived.Test.YtolheapnopmhgaaGreatDoorOdd
import Derived.Test.YtolheapnopmhgaaGreatDoorProg
import Derived.KernelRfl
set_option linter.all false
namespace Go.Proofs.YtolheapnopmhgaaGreatDoor
open Go

def levelsV : List V := [.s ⟨#[]⟩, .i .i64 0, .i .i64 0, .i .i64 0, .i .i64 0, .i .i64 0, .i .i64 0, .i .i64 0, .i .i64 0, .i .i64 0, .s ⟨#[80, 76, 45, 49]⟩, .i .i64 0, .i .i64 0, .i .i64 0, .i .i64 0, .i .i64 0, .i .i64 0, .i .i64 5, .i .i64 2, .i .i64 0, .s ⟨#[80, 76, 45, 50]⟩, .i .i64 3, .i .i64 1, .i .i64 0, .i .i64 0, .i .i64 3, .i .i64 1, .i .i64 5, .i .i64 2, .i .i64 1, .s ⟨#[80, 76, 45, 67, 83]⟩, .i .i64 3, .i .i64 1, .i .i64 0, .i .i64 0, .i .i64 3, .i .i64 2, .i .i64 5, .i .i64 2, .i .i64 1, .s ⟨#[80, 76, 45, 50, 46, 57, 57]⟩, .i .i64 3, .i .i64 3, .i .i64 3, .i .i64 3, .i .i64 3, .i .i64 3, .i .i64 5, .i .i64 3, .i .i64 1, .s ⟨#[80, 76, 45, 51]⟩, .i .i64 3, .i .i64 3, .i .i64 3, .i .i64 3, .i .i64 3, .i .i64 3, .i .i64 5, .i .i64 3, .i .i64 3]
def againstV : List V := [.i .u8 0, .i .u8 64, .i .u8 120, .i .u8 84, .i .u8 124, .i .u8 116, .i .u8 126]
noncomputable def ctxOf (bin : BinOp → V → V → Option V) (known : Nat → List V → H → Option V) : Ctx := ⟨Tryz.prog, fun g => Bool.rec (Bool.rec none (some 1) (Nat.beq g 1)) (some 0) (Nat.beq g 0), bin, oddL, known⟩
noncomputable def h0 : H := ⟨Tr.lay [.cells true 60 1 (Tr.lay levelsV .nil 0), .cells true 7 1 (Tr.lay againstV .nil 0)] .nil 0, 2⟩
noncomputable def yes : KV := fun v _ => match v with
  | .b x => x
  | _ => false
noncomputable def noBin : BinOp → V → V → Option V := fun _ _ _ => none
noncomputable def noKnown : Nat → List V → H → Option V := fun _ _ _ => none
/-- The examples are known. -/
noncomputable def knownAw : Nat → List V → H → Option V := fun f l _ => List.rec (Bool.rec none (some (.b true)) (Nat.beq f 8)) (fun _ _ _ => none) l
end Go.Proofs.YtolheapnopmhgaaGreatDoor
