/-
  DERIVED. GIVEN WITH THE SEED: THE CARDS: each row of YtkflingpogokcaaDoorRows.lean that lists a variable, with what it lists TIED to the program's text (the seventh form; the later family's looks); each row that meets fmt, with fmt's text TOLD by the authors' own Lean function (tested against real Go, not proved from fmt's source: count such statements apart). THE CARD IS WHAT COUNTS. Prove the row's statement (the work); the ties are given (YtkflingpogokcaaDoorTie.lean); close each card by the builder's one call (the guide's Derived/Test/ToyasCard.lean, 'card_holds'). Laid BY PROGRAM, IN A SANDBOX (cutbox-door.mjs). By AI agents, Wed Nov 11 2026. No macro, syntax, notation, axiom, sorry.
-/
import Derived.Test.YtkflingpogokcaaDoorRows
import GoSem.ClaimSeven
namespace Go.Proofs.YtkflingpogokcaaDoor
namespace Rows

/-- THE TIED CARD OF 'tithebarnlaw09.ReclogFrames'. -/
def reclogFramesCard : Claim7 := { stood := { row := reclogFramesRow, standIns := [], harness := (true, "cb139ff526b3e1c0a4e6d38050a416b044b83f36351dcdc75e169a9269e94eb7"), looks := false }, kinds := [], alts := [], laidByText := true, laidKinds := [.data], laidTests := true, laidLooks := .later }
def ReclogFramesCardSaid : Prop := Claim7.holds Tryd.pinned (.plain (OpenSpec.ofChange reclogFramesSpec)) reclogFramesCard

/-- THE TIED CARD OF 'tithebarnlaw09.ReclogScans'. -/
def reclogScansCard : Claim7 := { stood := { row := reclogScansRow, standIns := [], harness := (true, "cb139ff526b3e1c0a4e6d38050a416b044b83f36351dcdc75e169a9269e94eb7"), looks := false }, kinds := [], alts := [], laidByText := true, laidKinds := [.data], laidTests := true, laidLooks := .later }
def ReclogScansCardSaid : Prop := Claim7.holds Tryd.pinned (.plain (OpenSpec.ofChange reclogScansSpec)) reclogScansCard

/-- THE TIED CARD OF 'tithebarnlaw09.ReclogCut'. -/
def reclogCutCard : Claim7 := { stood := { row := reclogCutRow, standIns := [], harness := (true, "cb139ff526b3e1c0a4e6d38050a416b044b83f36351dcdc75e169a9269e94eb7"), looks := false }, kinds := [], alts := [], laidByText := true, laidKinds := [.data], laidTests := true, laidLooks := .later }
def ReclogCutCardSaid : Prop := Claim7.holds Tryd.pinned (.plain (OpenSpec.ofChange reclogCutSpec)) reclogCutCard

/-- THE TIED CARD OF 'tithebarnlaw09.ReclogJoins'. -/
def reclogJoinsCard : Claim7 := { stood := { row := reclogJoinsRow, standIns := [], harness := (true, "cb139ff526b3e1c0a4e6d38050a416b044b83f36351dcdc75e169a9269e94eb7"), looks := false }, kinds := [], alts := [], laidByText := true, laidKinds := [.data], laidTests := true, laidLooks := .later }
def ReclogJoinsCardSaid : Prop := Claim7.holds Tryd.pinned (.plain (OpenSpec.ofChange reclogJoinsSpec)) reclogJoinsCard

/-- THE TIED CARD OF 'tithebarnlaw09.ReclogPlaces'. -/
def reclogPlacesCard : Claim7 := { stood := { row := reclogPlacesRow, standIns := [], harness := (true, "cb139ff526b3e1c0a4e6d38050a416b044b83f36351dcdc75e169a9269e94eb7"), looks := false }, kinds := [], alts := [], laidByText := true, laidKinds := [.data], laidTests := true, laidLooks := .later }
def ReclogPlacesCardSaid : Prop := Claim7.holds Tryd.pinned (.plain (OpenSpec.ofChange reclogPlacesSpec)) reclogPlacesCard

/-- THE TIED CARD OF 'tithebarnlaw09.ReclogChains'. -/
def reclogChainsCard : Claim7 := { stood := { row := reclogChainsRow, standIns := [], harness := (true, "cb139ff526b3e1c0a4e6d38050a416b044b83f36351dcdc75e169a9269e94eb7"), looks := false }, kinds := [], alts := [], laidByText := true, laidKinds := [.data], laidTests := true, laidLooks := .later }
def ReclogChainsCardSaid : Prop := Claim7.holds Tryd.pinned (.plain (OpenSpec.ofChange reclogChainsSpec)) reclogChainsCard

/-- THE SECOND FORM's CARD OF 'tithebarnlaw09.ReclogFrames'. -/
def reclogFramesUptoCard : Claim7 := { stood := { row := reclogFramesUptoRow, standIns := [], harness := (true, "cb139ff526b3e1c0a4e6d38050a416b044b83f36351dcdc75e169a9269e94eb7"), looks := false }, kinds := [], alts := [], laidByText := true, laidKinds := [.data], laidTests := true, laidLooks := .later }
def ReclogFramesUptoCardSaid : Prop := Claim7.holds Tryd.pinned (.plain (OpenSpec.upto reclogFramesSpec)) reclogFramesUptoCard

/-- THE SECOND FORM's CARD OF 'tithebarnlaw09.ReclogScans'. -/
def reclogScansUptoCard : Claim7 := { stood := { row := reclogScansUptoRow, standIns := [], harness := (true, "cb139ff526b3e1c0a4e6d38050a416b044b83f36351dcdc75e169a9269e94eb7"), looks := false }, kinds := [], alts := [], laidByText := true, laidKinds := [.data], laidTests := true, laidLooks := .later }
def ReclogScansUptoCardSaid : Prop := Claim7.holds Tryd.pinned (.plain (OpenSpec.upto reclogScansSpec)) reclogScansUptoCard

/-- THE SECOND FORM's CARD OF 'tithebarnlaw09.ReclogCut'. -/
def reclogCutUptoCard : Claim7 := { stood := { row := reclogCutUptoRow, standIns := [], harness := (true, "cb139ff526b3e1c0a4e6d38050a416b044b83f36351dcdc75e169a9269e94eb7"), looks := false }, kinds := [], alts := [], laidByText := true, laidKinds := [.data], laidTests := true, laidLooks := .later }
def ReclogCutUptoCardSaid : Prop := Claim7.holds Tryd.pinned (.plain (OpenSpec.upto reclogCutSpec)) reclogCutUptoCard

/-- THE SECOND FORM's CARD OF 'tithebarnlaw09.ReclogJoins'. -/
def reclogJoinsUptoCard : Claim7 := { stood := { row := reclogJoinsUptoRow, standIns := [], harness := (true, "cb139ff526b3e1c0a4e6d38050a416b044b83f36351dcdc75e169a9269e94eb7"), looks := false }, kinds := [], alts := [], laidByText := true, laidKinds := [.data], laidTests := true, laidLooks := .later }
def ReclogJoinsUptoCardSaid : Prop := Claim7.holds Tryd.pinned (.plain (OpenSpec.upto reclogJoinsSpec)) reclogJoinsUptoCard

/-- THE SECOND FORM's CARD OF 'tithebarnlaw09.ReclogPlaces'. -/
def reclogPlacesUptoCard : Claim7 := { stood := { row := reclogPlacesUptoRow, standIns := [], harness := (true, "cb139ff526b3e1c0a4e6d38050a416b044b83f36351dcdc75e169a9269e94eb7"), looks := false }, kinds := [], alts := [], laidByText := true, laidKinds := [.data], laidTests := true, laidLooks := .later }
def ReclogPlacesUptoCardSaid : Prop := Claim7.holds Tryd.pinned (.plain (OpenSpec.upto reclogPlacesSpec)) reclogPlacesUptoCard

/-- THE SECOND FORM's CARD OF 'tithebarnlaw09.ReclogChains'. -/
def reclogChainsUptoCard : Claim7 := { stood := { row := reclogChainsUptoRow, standIns := [], harness := (true, "cb139ff526b3e1c0a4e6d38050a416b044b83f36351dcdc75e169a9269e94eb7"), looks := false }, kinds := [], alts := [], laidByText := true, laidKinds := [.data], laidTests := true, laidLooks := .later }
def ReclogChainsUptoCardSaid : Prop := Claim7.holds Tryd.pinned (.plain (OpenSpec.upto reclogChainsSpec)) reclogChainsUptoCard
end Rows
end Go.Proofs.YtkflingpogokcaaDoor
