/- What is known of whole numbers that aren't looked into: the reckoning. -/
import Derived.Test.YtolheapnopmhgaaGreatDoorEngDef
set_option linter.all false
namespace Go.Proofs.YtolheapnopmhgaaGreatDoor
open Go

noncomputable def opC : BinOp → Nat
  | .lss => 0
  | .leq => 1
  | .gtr => 2
  | .geq => 3
  | .eql => 4
  | .neq => 5
  | _ => 9
def cmpI : Nat → Int → Int → Bool
  | 0, a, b => decide (a < b)
  | 1, a, b => decide (a ≤ b)
  | 2, a, b => decide (b < a)
  | 3, a, b => decide (b ≤ a)
  | 4, a, b => a == b
  | 5, a, b => !(a == b)
  | _, _, _ => false
structure Fact where
  op : Nat
  /-- Is the number on the left? -/
  sw : Bool
  k : Nat
  n : Int
  r : Bool
noncomputable def sameB (a b : Bool) : Bool := Bool.rec (!b) b a
noncomputable def findF (fs : List Fact) (op : Nat) (sw : Bool) (k : Nat) (n : Int) : Option V :=
  List.rec none (fun q _ g => Bool.rec g (some (.b q.r)) (Nat.beq q.op op && sameB q.sw sw && Nat.beq q.k k && eqI q.n n)) fs
noncomputable def factY (fs : List Fact) (op : Nat) (k : Nat) : V → Option V
  | .i kk n => guardO (Nat.beq (kN kk) 3) (findF fs op false k n)
  | _ => none
noncomputable def factI (fs : List Fact) (op : Nat) (kk : IntKind) (n : Int) : V → Option V
  | .y k => guardO (Nat.beq (kN kk) 3) (findF fs op true k n)
  | _ => none
noncomputable def factB (fs : List Fact) : BinOp → V → V → Option V := fun op x y => match x with
  | .y k => factY fs (opC op) k y
  | .i kk n => factI fs (opC op) kk n y
  | _ => none
end Go.Proofs.YtolheapnopmhgaaGreatDoor
