/-
  No cell of these rows narrows 'for every input' (looked for: loops, veiled, ifaces, maps, wideKeys, modest, calm, conditions, laid).
  DERIVED. THE GIVEN ROWS OF THIS SEAT. 6 by the template 'for every input the law returns true; each argument reads behind the call as it read before'; 0 by the template 'total and deterministic' (their statements: YtpdkekpdahefgaaTotals.lean).
  GIVEN WITH THE SEED: the statements are not yours to turn. If you find one false, say at which input.
  Laid BY PROGRAM, IN A SANDBOX (cutbox-rows.mjs): the forced cells as the released guide's own fill.sh prints them over the translation 9fedf7748eebd32b… (all of the seat's roots in one cut). By AI agents, Wed Nov 11 2026. No macro, syntax, notation, axiom, sorry.
-/
import Derived.Test.YtpdkekpdahefgaaChecked
import GoSem.Claim
import GoSem.ClaimJoined
import GoSem.ClaimMapViews
import Derived.JoinedTies
import Derived.KernelRfl
namespace Go.Proofs.Ytpdkekpdahefgaa
/- THE CELL 'sum', in the pinned program and in every row, IS THE sha256 OF THE DUMP (.gsa) THAT YtpdkekpdahefgaaProg.lean LOADS. Nothing in Lean hashes anything: it is a label: what it is worth is what the hold of that sum in a sandbox is worth. -/
noncomputable def Try.pinned : Pinned := { name := "ytpdkekpdahefgaa", sum := "9fedf7748eebd32b55419001d358a0698758b552a85fb34bb845311c09543887", checked := Try.checked }
namespace Rows
def none {H : Type} : Left H := { results := [], args := [] }

/-- 'tithebarnlaw02.WireSizes': WHATEVER THE INPUT: true; the input reads as it did. -/
def wireSizesSpec : ChangeSpec := { name := "wireSizes", fn := fun _ => fun
  | [d] => { results := [.lit (.bool true)], args := [d] }
  | _ => none }
def wireSizesRow : OpenClaim := { program := "ytpdkekpdahefgaa", sum := "9fedf7748eebd32b55419001d358a0698758b552a85fb34bb845311c09543887", func := "tithebarn/tithebarnlaw02.WireSizes", spec := "wireSizes", apart := false }
def WireSizesSaid : Prop := wireSizesRow.holds Try.pinned (OpenSpec.ofChange wireSizesSpec)

/-- ITS FALSE NEIGHBOUR: 'it returns false'. Refute it at one input. -/
def wireSizesWrong : ChangeSpec := { name := "wireSizes", fn := fun _ => fun
  | [d] => { results := [.lit (.bool false)], args := [d] }
  | _ => none }
def WireSizesWrongFalsely : Prop := wireSizesRow.holds Try.pinned (OpenSpec.ofChange wireSizesWrong)

/-- 'tithebarnlaw02.WireOrder': WHATEVER THE INPUT: true; the input reads as it did. -/
def wireOrderSpec : ChangeSpec := { name := "wireOrder", fn := fun _ => fun
  | [d1, d2] => { results := [.lit (.bool true)], args := [d1, d2] }
  | _ => none }
def wireOrderRow : OpenClaim := { program := "ytpdkekpdahefgaa", sum := "9fedf7748eebd32b55419001d358a0698758b552a85fb34bb845311c09543887", func := "tithebarn/tithebarnlaw02.WireOrder", spec := "wireOrder", apart := false }
def WireOrderSaid : Prop := wireOrderRow.holds Try.pinned (OpenSpec.ofChange wireOrderSpec)

/-- ITS FALSE NEIGHBOUR: 'it returns false'. Refute it at one input. -/
def wireOrderWrong : ChangeSpec := { name := "wireOrder", fn := fun _ => fun
  | [d1, d2] => { results := [.lit (.bool false)], args := [d1, d2] }
  | _ => none }
def WireOrderWrongFalsely : Prop := wireOrderRow.holds Try.pinned (OpenSpec.ofChange wireOrderWrong)

/-- 'tithebarnlaw02.WireReads': WHATEVER THE INPUT: true; the input reads as it did. -/
def wireReadsSpec : ChangeSpec := { name := "wireReads", fn := fun _ => fun
  | [d1, d2] => { results := [.lit (.bool true)], args := [d1, d2] }
  | _ => none }
def wireReadsRow : OpenClaim := { program := "ytpdkekpdahefgaa", sum := "9fedf7748eebd32b55419001d358a0698758b552a85fb34bb845311c09543887", func := "tithebarn/tithebarnlaw02.WireReads", spec := "wireReads", apart := false }
def WireReadsSaid : Prop := wireReadsRow.holds Try.pinned (OpenSpec.ofChange wireReadsSpec)

/-- ITS FALSE NEIGHBOUR: 'it returns false'. Refute it at one input. -/
def wireReadsWrong : ChangeSpec := { name := "wireReads", fn := fun _ => fun
  | [d1, d2] => { results := [.lit (.bool false)], args := [d1, d2] }
  | _ => none }
def WireReadsWrongFalsely : Prop := wireReadsRow.holds Try.pinned (OpenSpec.ofChange wireReadsWrong)

/-- 'tithebarnlaw02.WireCut': WHATEVER THE INPUT: true; the input reads as it did. -/
def wireCutSpec : ChangeSpec := { name := "wireCut", fn := fun _ => fun
  | [d1, d2] => { results := [.lit (.bool true)], args := [d1, d2] }
  | _ => none }
def wireCutRow : OpenClaim := { program := "ytpdkekpdahefgaa", sum := "9fedf7748eebd32b55419001d358a0698758b552a85fb34bb845311c09543887", func := "tithebarn/tithebarnlaw02.WireCut", spec := "wireCut", apart := false }
def WireCutSaid : Prop := wireCutRow.holds Try.pinned (OpenSpec.ofChange wireCutSpec)

/-- ITS FALSE NEIGHBOUR: 'it returns false'. Refute it at one input. -/
def wireCutWrong : ChangeSpec := { name := "wireCut", fn := fun _ => fun
  | [d1, d2] => { results := [.lit (.bool false)], args := [d1, d2] }
  | _ => none }
def WireCutWrongFalsely : Prop := wireCutRow.holds Try.pinned (OpenSpec.ofChange wireCutWrong)

/-- 'tithebarnlaw02.WireBad': WHATEVER THE INPUT: true; the input reads as it did. -/
def wireBadSpec : ChangeSpec := { name := "wireBad", fn := fun _ => fun
  | [d1, d2] => { results := [.lit (.bool true)], args := [d1, d2] }
  | _ => none }
def wireBadRow : OpenClaim := { program := "ytpdkekpdahefgaa", sum := "9fedf7748eebd32b55419001d358a0698758b552a85fb34bb845311c09543887", func := "tithebarn/tithebarnlaw02.WireBad", spec := "wireBad", apart := false }
def WireBadSaid : Prop := wireBadRow.holds Try.pinned (OpenSpec.ofChange wireBadSpec)

/-- ITS FALSE NEIGHBOUR: 'it returns false'. Refute it at one input. -/
def wireBadWrong : ChangeSpec := { name := "wireBad", fn := fun _ => fun
  | [d1, d2] => { results := [.lit (.bool false)], args := [d1, d2] }
  | _ => none }
def WireBadWrongFalsely : Prop := wireBadRow.holds Try.pinned (OpenSpec.ofChange wireBadWrong)

/-- 'tithebarnlaw02.WireBack': WHATEVER THE INPUT: true; the input reads as it did. -/
def wireBackSpec : ChangeSpec := { name := "wireBack", fn := fun _ => fun
  | [d] => { results := [.lit (.bool true)], args := [d] }
  | _ => none }
def wireBackRow : OpenClaim := { program := "ytpdkekpdahefgaa", sum := "9fedf7748eebd32b55419001d358a0698758b552a85fb34bb845311c09543887", func := "tithebarn/tithebarnlaw02.WireBack", spec := "wireBack", apart := false }
def WireBackSaid : Prop := wireBackRow.holds Try.pinned (OpenSpec.ofChange wireBackSpec)

/-- ITS FALSE NEIGHBOUR: 'it returns false'. Refute it at one input. -/
def wireBackWrong : ChangeSpec := { name := "wireBack", fn := fun _ => fun
  | [d] => { results := [.lit (.bool false)], args := [d] }
  | _ => none }
def WireBackWrongFalsely : Prop := wireBackRow.holds Try.pinned (OpenSpec.ofChange wireBackWrong)

/- THE SECOND FORM. 'bulk': how many values and letters a reading holds, each counted each time it is reached (what is shared counts as often as it is met; a slice's spare places count too). A statement '..UptoSaid' is the law's where the arguments, and the package variables that the reading takes, are together of bulk at most 1048576: NARROWER than '..Said'. Prove '..Said' where nothing that the law and all that it calls make is longer than what came in: it says more and counts as full. Else prove '..UptoSaid'. A law counts once. -/
mutual
def uptoBulk {H : Type} : DataW H → Nat
  | .lit (.string bytes) => bytes.length + 1
  | .lit _ => 1
  | .nil => 1
  | .ptr d => uptoBulk d + 1
  | .slice elems spare => uptoBulkAll elems + uptoBulkAll spare + 1
  | .agg parts => uptoBulkAll parts + 1
  | .iface _ d => uptoBulk d + 1
  | .map entries => uptoBulkEntries entries + 1
  | .held _ => 1
def uptoBulkAll {H : Type} : List (DataW H) → Nat
  | [] => 0
  | d :: r => uptoBulk d + uptoBulkAll r
def uptoBulkEntries {H : Type} : List (Lit × DataW H) → Nat
  | [] => 0
  | x :: r => uptoBulkEntry x + uptoBulkEntries r
def uptoBulkEntry {H : Type} : Lit × DataW H → Nat
  | (.string bytes, d) => bytes.length + uptoBulk d + 1
  | (_, d) => uptoBulk d + 1
 end
def uptoSmall : (H : Type) → List (DataW H) → Bool := fun _ ds => decide (uptoBulkAll ds ≤ 1048576)
def OpenSpec.upto (s : _root_.Go.ChangeSpec) : _root_.Go.OpenSpec := { _root_.Go.OpenSpec.ofChange s with cond := some uptoSmall }

/-- 'tithebarnlaw02.WireSizes', WHERE WHAT IT READS IS OF BULK AT MOST 1048576: true; the input reads as it did. -/
def wireSizesUptoRow : OpenClaim := { program := "ytpdkekpdahefgaa", sum := "9fedf7748eebd32b55419001d358a0698758b552a85fb34bb845311c09543887", func := "tithebarn/tithebarnlaw02.WireSizes", spec := "wireSizes", apart := false, narrowed := true }
def WireSizesUptoSaid : Prop := wireSizesUptoRow.holds Try.pinned (OpenSpec.upto wireSizesSpec)

/-- 'tithebarnlaw02.WireOrder', WHERE WHAT IT READS IS OF BULK AT MOST 1048576: true; the input reads as it did. -/
def wireOrderUptoRow : OpenClaim := { program := "ytpdkekpdahefgaa", sum := "9fedf7748eebd32b55419001d358a0698758b552a85fb34bb845311c09543887", func := "tithebarn/tithebarnlaw02.WireOrder", spec := "wireOrder", apart := false, narrowed := true }
def WireOrderUptoSaid : Prop := wireOrderUptoRow.holds Try.pinned (OpenSpec.upto wireOrderSpec)

/-- 'tithebarnlaw02.WireReads', WHERE WHAT IT READS IS OF BULK AT MOST 1048576: true; the input reads as it did. -/
def wireReadsUptoRow : OpenClaim := { program := "ytpdkekpdahefgaa", sum := "9fedf7748eebd32b55419001d358a0698758b552a85fb34bb845311c09543887", func := "tithebarn/tithebarnlaw02.WireReads", spec := "wireReads", apart := false, narrowed := true }
def WireReadsUptoSaid : Prop := wireReadsUptoRow.holds Try.pinned (OpenSpec.upto wireReadsSpec)

/-- 'tithebarnlaw02.WireCut', WHERE WHAT IT READS IS OF BULK AT MOST 1048576: true; the input reads as it did. -/
def wireCutUptoRow : OpenClaim := { program := "ytpdkekpdahefgaa", sum := "9fedf7748eebd32b55419001d358a0698758b552a85fb34bb845311c09543887", func := "tithebarn/tithebarnlaw02.WireCut", spec := "wireCut", apart := false, narrowed := true }
def WireCutUptoSaid : Prop := wireCutUptoRow.holds Try.pinned (OpenSpec.upto wireCutSpec)

/-- 'tithebarnlaw02.WireBad', WHERE WHAT IT READS IS OF BULK AT MOST 1048576: true; the input reads as it did. -/
def wireBadUptoRow : OpenClaim := { program := "ytpdkekpdahefgaa", sum := "9fedf7748eebd32b55419001d358a0698758b552a85fb34bb845311c09543887", func := "tithebarn/tithebarnlaw02.WireBad", spec := "wireBad", apart := false, narrowed := true }
def WireBadUptoSaid : Prop := wireBadUptoRow.holds Try.pinned (OpenSpec.upto wireBadSpec)

/-- 'tithebarnlaw02.WireBack', WHERE WHAT IT READS IS OF BULK AT MOST 1048576: true; the input reads as it did. -/
def wireBackUptoRow : OpenClaim := { program := "ytpdkekpdahefgaa", sum := "9fedf7748eebd32b55419001d358a0698758b552a85fb34bb845311c09543887", func := "tithebarn/tithebarnlaw02.WireBack", spec := "wireBack", apart := false, narrowed := true }
def WireBackUptoSaid : Prop := wireBackUptoRow.holds Try.pinned (OpenSpec.upto wireBackSpec)

end Rows
end Go.Proofs.Ytpdkekpdahefgaa
