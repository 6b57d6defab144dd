/-
  NARROWER THAN 'FOR EVERY INPUT', by the rows' own cells (each row's printed sentence says how): EngineHides: laid · EngineStands: laid · EngineFull: laid · EngineNone: loops, laid · SessionTimes: laid.
  DERIVED. THE GIVEN ROWS OF THIS SEAT. 5 by the template 'for every input the law returns true; each argument reads behind the call as it read before'; 0 by the template 'total and deterministic' (their statements: YtolheapnopmhgaaGreatDoorTotals.lean).
  GIVEN WITH THE SEED: the statements are not yours to turn. If you find one false, say at which input.
  Laid BY PROGRAM, IN A SANDBOX (cutbox-rows.mjs): the forced cells as the released guide's own fill.sh prints them over the translation 738060a6ccce7bc5… (all of the seat's roots in one cut). By AI agents, Wed Nov 11 2026. No macro, syntax, notation, axiom, sorry.
-/
import Derived.Test.YtolheapnopmhgaaGreatDoorChecked
import GoSem.Claim
import GoSem.ClaimJoined
import GoSem.ClaimMapViews
import Derived.JoinedTies
import Derived.KernelRfl
namespace Go.Proofs.YtolheapnopmhgaaGreatDoor
/- THE CELL 'sum', in the pinned program and in every row, IS THE sha256 OF THE DUMP (.gsa) THAT YtolheapnopmhgaaGreatDoorProg.lean LOADS. Nothing in Lean hashes anything: it is a label: what it is worth is what the hold of that sum in a sandbox is worth. -/
noncomputable def Tryz.pinned : Pinned := { name := "ytolheapnopmhgaagreatdoor", sum := "738060a6ccce7bc5c0759592ad03aefa45ea25f9ab31e973fb53de57effde3fb", checked := Tryz.checked }
namespace Rows
def none {H : Type} : Left H := { results := [], args := [] }

/- WHAT THE LISTED PACKAGE-LEVEL VARIABLES READ AS WHEN THE CALL BEGINS. Each datum BY PROGRAM (the guide's laid-datum.mjs) off the statement by which the dump's own 'gosem.cut.vars' lays the variable. In a bare row this is a premise. The card (YtolheapnopmhgaaGreatDoorCards.lean) ties it to the program's text. -/
def laid_ratline_mode_against {H : Type} : DataW H := .agg [.lit (.int .u8 0), .lit (.int .u8 64), .lit (.int .u8 120), .lit (.int .u8 84), .lit (.int .u8 124), .lit (.int .u8 116), .lit (.int .u8 126)]
def laid_ratline_protocol_levels {H : Type} : DataW H := .agg [.agg [.lit (.string []), .agg [.lit (.int .i64 0), .lit (.int .i64 0)], .agg [.lit (.int .i64 0), .lit (.int .i64 0)], .agg [.lit (.int .i64 0), .lit (.int .i64 0)], .agg [.lit (.int .i64 0), .lit (.int .i64 0)], .lit (.int .i64 0)], .agg [.lit (.string [80, 76, 45, 49]), .agg [.lit (.int .i64 0), .lit (.int .i64 0)], .agg [.lit (.int .i64 0), .lit (.int .i64 0)], .agg [.lit (.int .i64 0), .lit (.int .i64 0)], .agg [.lit (.int .i64 5), .lit (.int .i64 2)], .lit (.int .i64 0)], .agg [.lit (.string [80, 76, 45, 50]), .agg [.lit (.int .i64 3), .lit (.int .i64 1)], .agg [.lit (.int .i64 0), .lit (.int .i64 0)], .agg [.lit (.int .i64 3), .lit (.int .i64 1)], .agg [.lit (.int .i64 5), .lit (.int .i64 2)], .lit (.int .i64 1)], .agg [.lit (.string [80, 76, 45, 67, 83]), .agg [.lit (.int .i64 3), .lit (.int .i64 1)], .agg [.lit (.int .i64 0), .lit (.int .i64 0)], .agg [.lit (.int .i64 3), .lit (.int .i64 2)], .agg [.lit (.int .i64 5), .lit (.int .i64 2)], .lit (.int .i64 1)], .agg [.lit (.string [80, 76, 45, 50, 46, 57, 57]), .agg [.lit (.int .i64 3), .lit (.int .i64 3)], .agg [.lit (.int .i64 3), .lit (.int .i64 3)], .agg [.lit (.int .i64 3), .lit (.int .i64 3)], .agg [.lit (.int .i64 5), .lit (.int .i64 3)], .lit (.int .i64 1)], .agg [.lit (.string [80, 76, 45, 51]), .agg [.lit (.int .i64 3), .lit (.int .i64 3)], .agg [.lit (.int .i64 3), .lit (.int .i64 3)], .agg [.lit (.int .i64 3), .lit (.int .i64 3)], .agg [.lit (.int .i64 5), .lit (.int .i64 3)], .lit (.int .i64 3)]]

/-- 'ratlinelaw16.EngineHides': WHATEVER THE INPUT: true; the input reads as it did. -/
def engineHidesSpec : ChangeSpec := { name := "engineHides", fn := fun _ => fun
  | [d1, d2, d3] => { results := [.lit (.bool true)], args := [d1, d2, d3] }
  | _ => none }
def engineHidesRow : OpenClaim := { program := "ytolheapnopmhgaagreatdoor", sum := "738060a6ccce7bc5c0759592ad03aefa45ea25f9ab31e973fb53de57effde3fb", func := "ratline/ratlinelaw16.EngineHides", spec := "engineHides", inPlace := ["slices.overlaps[ratline/api.Value]", "slices.overlaps[ratline/store.slot]", "slices.overlaps[int]", "slices.overlaps[ratline/fifo.entry[ratline/api.Claim]]"], unfollowed := true, recurses := true, named := ["ratline/mode.against", "ratline/protocol.levels"], plainKeys := false, apart := false, laid := [("ratline/mode.against", laid_ratline_mode_against), ("ratline/protocol.levels", laid_ratline_protocol_levels)] }
def EngineHidesSaid : Prop := engineHidesRow.holds Tryz.pinned (OpenSpec.ofChange engineHidesSpec)

/-- ITS FALSE NEIGHBOUR: 'it returns false'. Refute it at one input. -/
def engineHidesWrong : ChangeSpec := { name := "engineHides", fn := fun _ => fun
  | [d1, d2, d3] => { results := [.lit (.bool false)], args := [d1, d2, d3] }
  | _ => none }
def EngineHidesWrongFalsely : Prop := engineHidesRow.holds Tryz.pinned (OpenSpec.ofChange engineHidesWrong)

/-- 'ratlinelaw16.EngineStands': WHATEVER THE INPUT: true; the input reads as it did. -/
def engineStandsSpec : ChangeSpec := { name := "engineStands", fn := fun _ => fun
  | [d1, d2, d3] => { results := [.lit (.bool true)], args := [d1, d2, d3] }
  | _ => none }
def engineStandsRow : OpenClaim := { program := "ytolheapnopmhgaagreatdoor", sum := "738060a6ccce7bc5c0759592ad03aefa45ea25f9ab31e973fb53de57effde3fb", func := "ratline/ratlinelaw16.EngineStands", spec := "engineStands", inPlace := ["slices.overlaps[ratline/api.Value]", "slices.overlaps[ratline/store.slot]", "slices.overlaps[int]", "slices.overlaps[ratline/fifo.entry[ratline/api.Claim]]"], unfollowed := true, recurses := true, named := ["ratline/mode.against", "ratline/protocol.levels"], plainKeys := false, apart := false, laid := [("ratline/mode.against", laid_ratline_mode_against), ("ratline/protocol.levels", laid_ratline_protocol_levels)] }
def EngineStandsSaid : Prop := engineStandsRow.holds Tryz.pinned (OpenSpec.ofChange engineStandsSpec)

/-- ITS FALSE NEIGHBOUR: 'it returns false'. Refute it at one input. -/
def engineStandsWrong : ChangeSpec := { name := "engineStands", fn := fun _ => fun
  | [d1, d2, d3] => { results := [.lit (.bool false)], args := [d1, d2, d3] }
  | _ => none }
def EngineStandsWrongFalsely : Prop := engineStandsRow.holds Tryz.pinned (OpenSpec.ofChange engineStandsWrong)

/-- 'ratlinelaw16.EngineFull': WHATEVER THE INPUT: true; the input reads as it did. -/
def engineFullSpec : ChangeSpec := { name := "engineFull", fn := fun _ => fun
  | [d1, d2, d3] => { results := [.lit (.bool true)], args := [d1, d2, d3] }
  | _ => none }
def engineFullRow : OpenClaim := { program := "ytolheapnopmhgaagreatdoor", sum := "738060a6ccce7bc5c0759592ad03aefa45ea25f9ab31e973fb53de57effde3fb", func := "ratline/ratlinelaw16.EngineFull", spec := "engineFull", inPlace := ["slices.overlaps[ratline/api.Value]", "slices.overlaps[ratline/store.slot]", "slices.overlaps[int]", "slices.overlaps[ratline/fifo.entry[ratline/api.Claim]]"], unfollowed := true, recurses := true, named := ["ratline/mode.against", "ratline/protocol.levels"], plainKeys := false, apart := false, laid := [("ratline/mode.against", laid_ratline_mode_against), ("ratline/protocol.levels", laid_ratline_protocol_levels)] }
def EngineFullSaid : Prop := engineFullRow.holds Tryz.pinned (OpenSpec.ofChange engineFullSpec)

/-- ITS FALSE NEIGHBOUR: 'it returns false'. Refute it at one input. -/
def engineFullWrong : ChangeSpec := { name := "engineFull", fn := fun _ => fun
  | [d1, d2, d3] => { results := [.lit (.bool false)], args := [d1, d2, d3] }
  | _ => none }
def EngineFullWrongFalsely : Prop := engineFullRow.holds Tryz.pinned (OpenSpec.ofChange engineFullWrong)

/-- 'ratlinelaw16.EngineNone': WHATEVER THE INPUT: true; the input reads as it did. -/
def engineNoneSpec : ChangeSpec := { name := "engineNone", fn := fun _ => fun
  | [d1, d2, d3] => { results := [.lit (.bool true)], args := [d1, d2, d3] }
  | _ => none }
def engineNoneRow : OpenClaim := { program := "ytolheapnopmhgaagreatdoor", sum := "738060a6ccce7bc5c0759592ad03aefa45ea25f9ab31e973fb53de57effde3fb", func := "ratline/ratlinelaw16.EngineNone", spec := "engineNone", inPlace := ["slices.overlaps[ratline/api.Value]", "slices.overlaps[ratline/store.slot]", "slices.overlaps[int]", "slices.overlaps[ratline/fifo.entry[ratline/api.Claim]]"], unfollowed := true, recurses := true, named := ["ratline/mode.against", "ratline/protocol.levels"], loops := true, plainKeys := false, apart := false, laid := [("ratline/mode.against", laid_ratline_mode_against), ("ratline/protocol.levels", laid_ratline_protocol_levels)] }
def EngineNoneSaid : Prop := engineNoneRow.holds Tryz.pinned (OpenSpec.ofChange engineNoneSpec)

/-- ITS FALSE NEIGHBOUR: 'it returns false'. Refute it at one input. -/
def engineNoneWrong : ChangeSpec := { name := "engineNone", fn := fun _ => fun
  | [d1, d2, d3] => { results := [.lit (.bool false)], args := [d1, d2, d3] }
  | _ => none }
def EngineNoneWrongFalsely : Prop := engineNoneRow.holds Tryz.pinned (OpenSpec.ofChange engineNoneWrong)

/-- 'ratlinelaw17.SessionTimes': WHATEVER THE INPUT: true; the input reads as it did. -/
def sessionTimesSpec : ChangeSpec := { name := "sessionTimes", fn := fun _ => fun
  | [d1, d2] => { results := [.lit (.bool true)], args := [d1, d2] }
  | _ => none }
def sessionTimesRow : OpenClaim := { program := "ytolheapnopmhgaagreatdoor", sum := "738060a6ccce7bc5c0759592ad03aefa45ea25f9ab31e973fb53de57effde3fb", func := "ratline/ratlinelaw17.SessionTimes", spec := "sessionTimes", inPlace := ["slices.overlaps[ratline/api.Value]", "slices.overlaps[ratline/store.slot]", "slices.overlaps[int]", "slices.overlaps[ratline/fifo.entry[ratline/api.Claim]]"], unfollowed := true, recurses := true, named := ["ratline/mode.against", "ratline/protocol.levels"], plainKeys := false, apart := false, laid := [("ratline/mode.against", laid_ratline_mode_against), ("ratline/protocol.levels", laid_ratline_protocol_levels)] }
def SessionTimesSaid : Prop := sessionTimesRow.holds Tryz.pinned (OpenSpec.ofChange sessionTimesSpec)

/-- ITS FALSE NEIGHBOUR: 'it returns false'. Refute it at one input. -/
def sessionTimesWrong : ChangeSpec := { name := "sessionTimes", fn := fun _ => fun
  | [d1, d2] => { results := [.lit (.bool false)], args := [d1, d2] }
  | _ => none }
def SessionTimesWrongFalsely : Prop := sessionTimesRow.holds Tryz.pinned (OpenSpec.ofChange sessionTimesWrong)

/- THE SECOND FORM. 'bulk': how many values and letters a reading holds, each counted each time it is reached (what is shared counts as often as it is met; a slice's spare places count too). A statement '..UptoSaid' is the law's where the arguments, and the package variables that the reading takes, are together of bulk at most 1048576: NARROWER than '..Said'. Prove '..Said' where nothing that the law and all that it calls make is longer than what came in: it says more and counts as full. Else prove '..UptoSaid'. A law counts once. -/
mutual
def uptoBulk {H : Type} : DataW H → Nat
  | .lit (.string bytes) => bytes.length + 1
  | .lit _ => 1
  | .nil => 1
  | .ptr d => uptoBulk d + 1
  | .slice elems spare => uptoBulkAll elems + uptoBulkAll spare + 1
  | .agg parts => uptoBulkAll parts + 1
  | .iface _ d => uptoBulk d + 1
  | .map entries => uptoBulkEntries entries + 1
  | .held _ => 1
def uptoBulkAll {H : Type} : List (DataW H) → Nat
  | [] => 0
  | d :: r => uptoBulk d + uptoBulkAll r
def uptoBulkEntries {H : Type} : List (Lit × DataW H) → Nat
  | [] => 0
  | x :: r => uptoBulkEntry x + uptoBulkEntries r
def uptoBulkEntry {H : Type} : Lit × DataW H → Nat
  | (.string bytes, d) => bytes.length + uptoBulk d + 1
  | (_, d) => uptoBulk d + 1
 end
def uptoSmall : (H : Type) → List (DataW H) → Bool := fun _ ds => decide (uptoBulkAll ds ≤ 1048576)
def OpenSpec.upto (s : _root_.Go.ChangeSpec) : _root_.Go.OpenSpec := { _root_.Go.OpenSpec.ofChange s with cond := some uptoSmall }

/-- 'ratlinelaw16.EngineHides', WHERE WHAT IT READS IS OF BULK AT MOST 1048576: true; the input reads as it did. -/
def engineHidesUptoRow : OpenClaim := { program := "ytolheapnopmhgaagreatdoor", sum := "738060a6ccce7bc5c0759592ad03aefa45ea25f9ab31e973fb53de57effde3fb", func := "ratline/ratlinelaw16.EngineHides", spec := "engineHides", inPlace := ["slices.overlaps[ratline/api.Value]", "slices.overlaps[ratline/store.slot]", "slices.overlaps[int]", "slices.overlaps[ratline/fifo.entry[ratline/api.Claim]]"], unfollowed := true, recurses := true, named := ["ratline/mode.against", "ratline/protocol.levels"], plainKeys := false, apart := false, laid := [("ratline/mode.against", laid_ratline_mode_against), ("ratline/protocol.levels", laid_ratline_protocol_levels)], narrowed := true }
def EngineHidesUptoSaid : Prop := engineHidesUptoRow.holds Tryz.pinned (OpenSpec.upto engineHidesSpec)

/-- 'ratlinelaw16.EngineStands', WHERE WHAT IT READS IS OF BULK AT MOST 1048576: true; the input reads as it did. -/
def engineStandsUptoRow : OpenClaim := { program := "ytolheapnopmhgaagreatdoor", sum := "738060a6ccce7bc5c0759592ad03aefa45ea25f9ab31e973fb53de57effde3fb", func := "ratline/ratlinelaw16.EngineStands", spec := "engineStands", inPlace := ["slices.overlaps[ratline/api.Value]", "slices.overlaps[ratline/store.slot]", "slices.overlaps[int]", "slices.overlaps[ratline/fifo.entry[ratline/api.Claim]]"], unfollowed := true, recurses := true, named := ["ratline/mode.against", "ratline/protocol.levels"], plainKeys := false, apart := false, laid := [("ratline/mode.against", laid_ratline_mode_against), ("ratline/protocol.levels", laid_ratline_protocol_levels)], narrowed := true }
def EngineStandsUptoSaid : Prop := engineStandsUptoRow.holds Tryz.pinned (OpenSpec.upto engineStandsSpec)

/-- 'ratlinelaw16.EngineFull', WHERE WHAT IT READS IS OF BULK AT MOST 1048576: true; the input reads as it did. -/
def engineFullUptoRow : OpenClaim := { program := "ytolheapnopmhgaagreatdoor", sum := "738060a6ccce7bc5c0759592ad03aefa45ea25f9ab31e973fb53de57effde3fb", func := "ratline/ratlinelaw16.EngineFull", spec := "engineFull", inPlace := ["slices.overlaps[ratline/api.Value]", "slices.overlaps[ratline/store.slot]", "slices.overlaps[int]", "slices.overlaps[ratline/fifo.entry[ratline/api.Claim]]"], unfollowed := true, recurses := true, named := ["ratline/mode.against", "ratline/protocol.levels"], plainKeys := false, apart := false, laid := [("ratline/mode.against", laid_ratline_mode_against), ("ratline/protocol.levels", laid_ratline_protocol_levels)], narrowed := true }
def EngineFullUptoSaid : Prop := engineFullUptoRow.holds Tryz.pinned (OpenSpec.upto engineFullSpec)

/-- 'ratlinelaw16.EngineNone', WHERE WHAT IT READS IS OF BULK AT MOST 1048576: true; the input reads as it did. -/
def engineNoneUptoRow : OpenClaim := { program := "ytolheapnopmhgaagreatdoor", sum := "738060a6ccce7bc5c0759592ad03aefa45ea25f9ab31e973fb53de57effde3fb", func := "ratline/ratlinelaw16.EngineNone", spec := "engineNone", inPlace := ["slices.overlaps[ratline/api.Value]", "slices.overlaps[ratline/store.slot]", "slices.overlaps[int]", "slices.overlaps[ratline/fifo.entry[ratline/api.Claim]]"], unfollowed := true, recurses := true, named := ["ratline/mode.against", "ratline/protocol.levels"], loops := true, plainKeys := false, apart := false, laid := [("ratline/mode.against", laid_ratline_mode_against), ("ratline/protocol.levels", laid_ratline_protocol_levels)], narrowed := true }
def EngineNoneUptoSaid : Prop := engineNoneUptoRow.holds Tryz.pinned (OpenSpec.upto engineNoneSpec)

/-- 'ratlinelaw17.SessionTimes', WHERE WHAT IT READS IS OF BULK AT MOST 1048576: true; the input reads as it did. -/
def sessionTimesUptoRow : OpenClaim := { program := "ytolheapnopmhgaagreatdoor", sum := "738060a6ccce7bc5c0759592ad03aefa45ea25f9ab31e973fb53de57effde3fb", func := "ratline/ratlinelaw17.SessionTimes", spec := "sessionTimes", inPlace := ["slices.overlaps[ratline/api.Value]", "slices.overlaps[ratline/store.slot]", "slices.overlaps[int]", "slices.overlaps[ratline/fifo.entry[ratline/api.Claim]]"], unfollowed := true, recurses := true, named := ["ratline/mode.against", "ratline/protocol.levels"], plainKeys := false, apart := false, laid := [("ratline/mode.against", laid_ratline_mode_against), ("ratline/protocol.levels", laid_ratline_protocol_levels)], narrowed := true }
def SessionTimesUptoSaid : Prop := sessionTimesUptoRow.holds Tryz.pinned (OpenSpec.upto sessionTimesSpec)

end Rows
end Go.Proofs.YtolheapnopmhgaaGreatDoor
