/-
  DERIVED. GIVEN WITH THE SEED: THE CARDS: each row of YtmhklmecpbdljaaDoorRows.lean that lists a variable, with what it lists TIED to the program's text (the seventh form; the later family's looks); each row that meets fmt, with fmt's text TOLD by the authors' own Lean function (tested against real Go, not proved from fmt's source: count such statements apart). THE CARD IS WHAT COUNTS. Prove the row's statement (the work); the ties are given (YtmhklmecpbdljaaDoorTie.lean); close each card by the builder's one call (the guide's Derived/Test/ToyasCard.lean, 'card_holds'). Laid BY PROGRAM, IN A SANDBOX (cutbox-door.mjs). By AI agents, Wed Nov 11 2026. No macro, syntax, notation, axiom, sorry.
-/
import Derived.Test.YtmhklmecpbdljaaDoorRows
import GoSem.ClaimSeven
namespace Go.Proofs.YtmhklmecpbdljaaDoor
namespace Rows

/-- THE TIED CARD OF 'tithebarnlaw14.VlogReads'. -/
def vlogReadsCard : Claim7 := { stood := { row := vlogReadsRow, standIns := [], harness := (true, "7bcf3a06c32b12e869311ce5a5c93506dc34795f7f7a7adcb8afa7c2085fcac0"), looks := false }, kinds := [], alts := [], laidByText := true, laidKinds := [.data], laidTests := true, laidLooks := .later }
def VlogReadsCardSaid : Prop := Claim7.holds Tryd.pinned (.plain (OpenSpec.ofChange vlogReadsSpec)) vlogReadsCard

/-- THE TIED CARD OF 'tithebarnlaw14.VlogSizes'. -/
def vlogSizesCard : Claim7 := { stood := { row := vlogSizesRow, standIns := [], harness := (true, "7bcf3a06c32b12e869311ce5a5c93506dc34795f7f7a7adcb8afa7c2085fcac0"), looks := false }, kinds := [], alts := [], laidByText := true, laidKinds := [.data], laidTests := true, laidLooks := .later }
def VlogSizesCardSaid : Prop := Claim7.holds Tryd.pinned (.plain (OpenSpec.ofChange vlogSizesSpec)) vlogSizesCard

/-- THE TIED CARD OF 'tithebarnlaw14.VlogParses'. -/
def vlogParsesCard : Claim7 := { stood := { row := vlogParsesRow, standIns := [], harness := (true, "7bcf3a06c32b12e869311ce5a5c93506dc34795f7f7a7adcb8afa7c2085fcac0"), looks := false }, kinds := [], alts := [], laidByText := true, laidKinds := [.data], laidTests := true, laidLooks := .later }
def VlogParsesCardSaid : Prop := Claim7.holds Tryd.pinned (.plain (OpenSpec.ofChange vlogParsesSpec)) vlogParsesCard

/-- THE TIED CARD OF 'tithebarnlaw14.VlogPointers'. -/
def vlogPointersCard : Claim7 := { stood := { row := vlogPointersRow, standIns := [], harness := (true, "7bcf3a06c32b12e869311ce5a5c93506dc34795f7f7a7adcb8afa7c2085fcac0"), looks := false }, kinds := [], alts := [], laidByText := true, laidKinds := [.data], laidTests := true, laidLooks := .later }
def VlogPointersCardSaid : Prop := Claim7.holds Tryd.pinned (.plain (OpenSpec.ofChange vlogPointersSpec)) vlogPointersCard

/-- THE TIED CARD OF 'tithebarnlaw14.VlogLists'. -/
def vlogListsCard : Claim7 := { stood := { row := vlogListsRow, standIns := [], harness := (true, "7bcf3a06c32b12e869311ce5a5c93506dc34795f7f7a7adcb8afa7c2085fcac0"), looks := false }, kinds := [], alts := [], laidByText := true, laidKinds := [.data], laidTests := true, laidLooks := .later }
def VlogListsCardSaid : Prop := Claim7.holds Tryd.pinned (.plain (OpenSpec.ofChange vlogListsSpec)) vlogListsCard

/-- THE TIED CARD OF 'tithebarnlaw14.VlogBack'. -/
def vlogBackCard : Claim7 := { stood := { row := vlogBackRow, standIns := [], harness := (true, "7bcf3a06c32b12e869311ce5a5c93506dc34795f7f7a7adcb8afa7c2085fcac0"), looks := false }, kinds := [], alts := [], laidByText := true, laidKinds := [.data], laidTests := true, laidLooks := .later }
def VlogBackCardSaid : Prop := Claim7.holds Tryd.pinned (.plain (OpenSpec.ofChange vlogBackSpec)) vlogBackCard

/-- THE SECOND FORM's CARD OF 'tithebarnlaw14.VlogReads'. -/
def vlogReadsUptoCard : Claim7 := { stood := { row := vlogReadsUptoRow, standIns := [], harness := (true, "7bcf3a06c32b12e869311ce5a5c93506dc34795f7f7a7adcb8afa7c2085fcac0"), looks := false }, kinds := [], alts := [], laidByText := true, laidKinds := [.data], laidTests := true, laidLooks := .later }
def VlogReadsUptoCardSaid : Prop := Claim7.holds Tryd.pinned (.plain (OpenSpec.upto vlogReadsSpec)) vlogReadsUptoCard

/-- THE SECOND FORM's CARD OF 'tithebarnlaw14.VlogSizes'. -/
def vlogSizesUptoCard : Claim7 := { stood := { row := vlogSizesUptoRow, standIns := [], harness := (true, "7bcf3a06c32b12e869311ce5a5c93506dc34795f7f7a7adcb8afa7c2085fcac0"), looks := false }, kinds := [], alts := [], laidByText := true, laidKinds := [.data], laidTests := true, laidLooks := .later }
def VlogSizesUptoCardSaid : Prop := Claim7.holds Tryd.pinned (.plain (OpenSpec.upto vlogSizesSpec)) vlogSizesUptoCard

/-- THE SECOND FORM's CARD OF 'tithebarnlaw14.VlogParses'. -/
def vlogParsesUptoCard : Claim7 := { stood := { row := vlogParsesUptoRow, standIns := [], harness := (true, "7bcf3a06c32b12e869311ce5a5c93506dc34795f7f7a7adcb8afa7c2085fcac0"), looks := false }, kinds := [], alts := [], laidByText := true, laidKinds := [.data], laidTests := true, laidLooks := .later }
def VlogParsesUptoCardSaid : Prop := Claim7.holds Tryd.pinned (.plain (OpenSpec.upto vlogParsesSpec)) vlogParsesUptoCard

/-- THE SECOND FORM's CARD OF 'tithebarnlaw14.VlogPointers'. -/
def vlogPointersUptoCard : Claim7 := { stood := { row := vlogPointersUptoRow, standIns := [], harness := (true, "7bcf3a06c32b12e869311ce5a5c93506dc34795f7f7a7adcb8afa7c2085fcac0"), looks := false }, kinds := [], alts := [], laidByText := true, laidKinds := [.data], laidTests := true, laidLooks := .later }
def VlogPointersUptoCardSaid : Prop := Claim7.holds Tryd.pinned (.plain (OpenSpec.upto vlogPointersSpec)) vlogPointersUptoCard

/-- THE SECOND FORM's CARD OF 'tithebarnlaw14.VlogLists'. -/
def vlogListsUptoCard : Claim7 := { stood := { row := vlogListsUptoRow, standIns := [], harness := (true, "7bcf3a06c32b12e869311ce5a5c93506dc34795f7f7a7adcb8afa7c2085fcac0"), looks := false }, kinds := [], alts := [], laidByText := true, laidKinds := [.data], laidTests := true, laidLooks := .later }
def VlogListsUptoCardSaid : Prop := Claim7.holds Tryd.pinned (.plain (OpenSpec.upto vlogListsSpec)) vlogListsUptoCard

/-- THE SECOND FORM's CARD OF 'tithebarnlaw14.VlogBack'. -/
def vlogBackUptoCard : Claim7 := { stood := { row := vlogBackUptoRow, standIns := [], harness := (true, "7bcf3a06c32b12e869311ce5a5c93506dc34795f7f7a7adcb8afa7c2085fcac0"), looks := false }, kinds := [], alts := [], laidByText := true, laidKinds := [.data], laidTests := true, laidLooks := .later }
def VlogBackUptoCardSaid : Prop := Claim7.holds Tryd.pinned (.plain (OpenSpec.upto vlogBackSpec)) vlogBackUptoCard
end Rows
end Go.Proofs.YtmhklmecpbdljaaDoor
