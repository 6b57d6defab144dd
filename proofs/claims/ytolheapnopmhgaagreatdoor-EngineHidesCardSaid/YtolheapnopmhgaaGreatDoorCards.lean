/-
  DERIVED. GIVEN WITH THE SEED: THE CARDS: each row of YtolheapnopmhgaaGreatDoorRows.lean that lists a variable, with what it lists TIED to the program's text (the seventh form; the later family's looks); each row that meets fmt, with fmt's text TOLD by the authors' own Lean function (tested against real Go, not proved from fmt's source: count such statements apart). THE CARD IS WHAT COUNTS. Prove the row's statement (the work); the ties are given (YtolheapnopmhgaaGreatDoorTie.lean); close each card by the builder's one call (the guide's Derived/Test/ToyasCard.lean, 'card_holds'). Laid BY PROGRAM, IN A SANDBOX (cutbox-door.mjs). By AI agents, Wed Nov 11 2026. No macro, syntax, notation, axiom, sorry.
-/
import Derived.Test.YtolheapnopmhgaaGreatDoorRows
import GoSem.ClaimSeven
namespace Go.Proofs.YtolheapnopmhgaaGreatDoor
namespace Rows

/-- THE TIED CARD OF 'ratlinelaw16.EngineHides'. -/
def engineHidesCard : Claim7 := { stood := { row := engineHidesRow, standIns := [], harness := (true, "64eac6109de989aa4c3c03eb4125c2e314aa51393a13b1e0c9cda8702ffda141"), looks := false }, kinds := [], alts := [], laidByText := true, laidKinds := [.data, .data], laidTests := true, laidLooks := .later }
def EngineHidesCardSaid : Prop := Claim7.holds Tryz.pinned (.plain (OpenSpec.ofChange engineHidesSpec)) engineHidesCard

/-- THE TIED CARD OF 'ratlinelaw16.EngineStands'. -/
def engineStandsCard : Claim7 := { stood := { row := engineStandsRow, standIns := [], harness := (true, "64eac6109de989aa4c3c03eb4125c2e314aa51393a13b1e0c9cda8702ffda141"), looks := false }, kinds := [], alts := [], laidByText := true, laidKinds := [.data, .data], laidTests := true, laidLooks := .later }
def EngineStandsCardSaid : Prop := Claim7.holds Tryz.pinned (.plain (OpenSpec.ofChange engineStandsSpec)) engineStandsCard

/-- THE TIED CARD OF 'ratlinelaw16.EngineFull'. -/
def engineFullCard : Claim7 := { stood := { row := engineFullRow, standIns := [], harness := (true, "64eac6109de989aa4c3c03eb4125c2e314aa51393a13b1e0c9cda8702ffda141"), looks := false }, kinds := [], alts := [], laidByText := true, laidKinds := [.data, .data], laidTests := true, laidLooks := .later }
def EngineFullCardSaid : Prop := Claim7.holds Tryz.pinned (.plain (OpenSpec.ofChange engineFullSpec)) engineFullCard

/-- THE TIED CARD OF 'ratlinelaw16.EngineNone'. -/
def engineNoneCard : Claim7 := { stood := { row := engineNoneRow, standIns := [], harness := (true, "64eac6109de989aa4c3c03eb4125c2e314aa51393a13b1e0c9cda8702ffda141"), looks := false }, kinds := [], alts := [], laidByText := true, laidKinds := [.data, .data], laidTests := true, laidLooks := .later }
def EngineNoneCardSaid : Prop := Claim7.holds Tryz.pinned (.plain (OpenSpec.ofChange engineNoneSpec)) engineNoneCard

/-- THE TIED CARD OF 'ratlinelaw17.SessionTimes'. -/
def sessionTimesCard : Claim7 := { stood := { row := sessionTimesRow, standIns := [], harness := (true, "64eac6109de989aa4c3c03eb4125c2e314aa51393a13b1e0c9cda8702ffda141"), looks := false }, kinds := [], alts := [], laidByText := true, laidKinds := [.data, .data], laidTests := true, laidLooks := .later }
def SessionTimesCardSaid : Prop := Claim7.holds Tryz.pinned (.plain (OpenSpec.ofChange sessionTimesSpec)) sessionTimesCard

/-- THE SECOND FORM's CARD OF 'ratlinelaw16.EngineHides'. -/
def engineHidesUptoCard : Claim7 := { stood := { row := engineHidesUptoRow, standIns := [], harness := (true, "64eac6109de989aa4c3c03eb4125c2e314aa51393a13b1e0c9cda8702ffda141"), looks := false }, kinds := [], alts := [], laidByText := true, laidKinds := [.data, .data], laidTests := true, laidLooks := .later }
def EngineHidesUptoCardSaid : Prop := Claim7.holds Tryz.pinned (.plain (OpenSpec.upto engineHidesSpec)) engineHidesUptoCard

/-- THE SECOND FORM's CARD OF 'ratlinelaw16.EngineStands'. -/
def engineStandsUptoCard : Claim7 := { stood := { row := engineStandsUptoRow, standIns := [], harness := (true, "64eac6109de989aa4c3c03eb4125c2e314aa51393a13b1e0c9cda8702ffda141"), looks := false }, kinds := [], alts := [], laidByText := true, laidKinds := [.data, .data], laidTests := true, laidLooks := .later }
def EngineStandsUptoCardSaid : Prop := Claim7.holds Tryz.pinned (.plain (OpenSpec.upto engineStandsSpec)) engineStandsUptoCard

/-- THE SECOND FORM's CARD OF 'ratlinelaw16.EngineFull'. -/
def engineFullUptoCard : Claim7 := { stood := { row := engineFullUptoRow, standIns := [], harness := (true, "64eac6109de989aa4c3c03eb4125c2e314aa51393a13b1e0c9cda8702ffda141"), looks := false }, kinds := [], alts := [], laidByText := true, laidKinds := [.data, .data], laidTests := true, laidLooks := .later }
def EngineFullUptoCardSaid : Prop := Claim7.holds Tryz.pinned (.plain (OpenSpec.upto engineFullSpec)) engineFullUptoCard

/-- THE SECOND FORM's CARD OF 'ratlinelaw16.EngineNone'. -/
def engineNoneUptoCard : Claim7 := { stood := { row := engineNoneUptoRow, standIns := [], harness := (true, "64eac6109de989aa4c3c03eb4125c2e314aa51393a13b1e0c9cda8702ffda141"), looks := false }, kinds := [], alts := [], laidByText := true, laidKinds := [.data, .data], laidTests := true, laidLooks := .later }
def EngineNoneUptoCardSaid : Prop := Claim7.holds Tryz.pinned (.plain (OpenSpec.upto engineNoneSpec)) engineNoneUptoCard

/-- THE SECOND FORM's CARD OF 'ratlinelaw17.SessionTimes'. -/
def sessionTimesUptoCard : Claim7 := { stood := { row := sessionTimesUptoRow, standIns := [], harness := (true, "64eac6109de989aa4c3c03eb4125c2e314aa51393a13b1e0c9cda8702ffda141"), looks := false }, kinds := [], alts := [], laidByText := true, laidKinds := [.data, .data], laidTests := true, laidLooks := .later }
def SessionTimesUptoCardSaid : Prop := Claim7.holds Tryz.pinned (.plain (OpenSpec.upto sessionTimesSpec)) sessionTimesUptoCard
end Rows
end Go.Proofs.YtolheapnopmhgaaGreatDoor
