/-
  NARROWER THAN 'FOR EVERY INPUT', by the rows' own cells (each row's printed sentence says how): ReclogFrames: laid · ReclogScans: laid · ReclogCut: laid · ReclogJoins: laid · ReclogPlaces: laid · ReclogChains: laid.
  DERIVED. THE GIVEN ROWS OF THIS SEAT. 6 by the template 'for every input the law returns true; each argument reads behind the call as it read before'; 0 by the template 'total and deterministic' (their statements: YtkflingpogokcaaDoorTotals.lean).
  GIVEN WITH THE SEED: the statements are not yours to turn. If you find one false, say at which input.
  Laid BY PROGRAM, IN A SANDBOX (cutbox-rows.mjs): the forced cells as the released guide's own fill.sh prints them over the translation a8acd25fb59cd818… (all of the seat's roots in one cut). By AI agents, Wed Nov 11 2026. No macro, syntax, notation, axiom, sorry.
-/
import Derived.Test.YtkflingpogokcaaDoorChecked
import GoSem.Claim
import GoSem.ClaimJoined
import GoSem.ClaimMapViews
import Derived.JoinedTies
import Derived.KernelRfl
namespace Go.Proofs.YtkflingpogokcaaDoor
/- THE CELL 'sum', in the pinned program and in every row, IS THE sha256 OF THE DUMP (.gsa) THAT YtkflingpogokcaaDoorProg.lean LOADS. Nothing in Lean hashes anything: it is a label: what it is worth is what the hold of that sum in a sandbox is worth. -/
noncomputable def Tryd.pinned : Pinned := { name := "ytkflingpogokcaadoor", sum := "a8acd25fb59cd8185c8a9e278adf6a63719fafd7ddb5df9ee2c8038a3372a363", checked := Tryd.checked }
namespace Rows
def none {H : Type} : Left H := { results := [], args := [] }

/- WHAT THE LISTED PACKAGE-LEVEL VARIABLES READ AS WHEN THE CALL BEGINS. Each datum BY PROGRAM (the guide's laid-datum.mjs) off the statement by which the dump's own 'gosem.cut.vars' lays the variable. In a bare row this is a premise. The card (YtkflingpogokcaaDoorCards.lean) ties it to the program's text. -/
def laid_tithebarn_sum_half {H : Type} : DataW H := .agg [.lit (.int .u32 0), .lit (.int .u32 274646895), .lit (.int .u32 549293790), .lit (.int .u32 820201905), .lit (.int .u32 1098587580), .lit (.int .u32 1361435347), .lit (.int .u32 1640403810), .lit (.int .u32 1905808397), .lit (.int .u32 2197175160), .lit (.int .u32 2460548119), .lit (.int .u32 2722870694), .lit (.int .u32 2987750089), .lit (.int .u32 3280807620), .lit (.int .u32 3553878443), .lit (.int .u32 3811616794), .lit (.int .u32 4084100981)]

/-- 'tithebarnlaw09.ReclogFrames': WHATEVER THE INPUT: true; the input reads as it did. -/
def reclogFramesSpec : ChangeSpec := { name := "reclogFrames", fn := fun _ => fun
  | [d] => { results := [.lit (.bool true)], args := [d] }
  | _ => none }
def reclogFramesRow : OpenClaim := { program := "ytkflingpogokcaadoor", sum := "a8acd25fb59cd8185c8a9e278adf6a63719fafd7ddb5df9ee2c8038a3372a363", func := "tithebarn/tithebarnlaw09.ReclogFrames", spec := "reclogFrames", unfollowed := true, recurses := true, named := ["tithebarn/sum.half"], apart := false, laid := [("tithebarn/sum.half", laid_tithebarn_sum_half)] }
def ReclogFramesSaid : Prop := reclogFramesRow.holds Tryd.pinned (OpenSpec.ofChange reclogFramesSpec)

/-- ITS FALSE NEIGHBOUR: 'it returns false'. Refute it at one input. -/
def reclogFramesWrong : ChangeSpec := { name := "reclogFrames", fn := fun _ => fun
  | [d] => { results := [.lit (.bool false)], args := [d] }
  | _ => none }
def ReclogFramesWrongFalsely : Prop := reclogFramesRow.holds Tryd.pinned (OpenSpec.ofChange reclogFramesWrong)

/-- 'tithebarnlaw09.ReclogScans': WHATEVER THE INPUT: true; the input reads as it did. -/
def reclogScansSpec : ChangeSpec := { name := "reclogScans", fn := fun _ => fun
  | [d] => { results := [.lit (.bool true)], args := [d] }
  | _ => none }
def reclogScansRow : OpenClaim := { program := "ytkflingpogokcaadoor", sum := "a8acd25fb59cd8185c8a9e278adf6a63719fafd7ddb5df9ee2c8038a3372a363", func := "tithebarn/tithebarnlaw09.ReclogScans", spec := "reclogScans", unfollowed := true, recurses := true, named := ["tithebarn/sum.half"], apart := false, laid := [("tithebarn/sum.half", laid_tithebarn_sum_half)] }
def ReclogScansSaid : Prop := reclogScansRow.holds Tryd.pinned (OpenSpec.ofChange reclogScansSpec)

/-- ITS FALSE NEIGHBOUR: 'it returns false'. Refute it at one input. -/
def reclogScansWrong : ChangeSpec := { name := "reclogScans", fn := fun _ => fun
  | [d] => { results := [.lit (.bool false)], args := [d] }
  | _ => none }
def ReclogScansWrongFalsely : Prop := reclogScansRow.holds Tryd.pinned (OpenSpec.ofChange reclogScansWrong)

/-- 'tithebarnlaw09.ReclogCut': WHATEVER THE INPUT: true; the input reads as it did. -/
def reclogCutSpec : ChangeSpec := { name := "reclogCut", fn := fun _ => fun
  | [d1, d2] => { results := [.lit (.bool true)], args := [d1, d2] }
  | _ => none }
def reclogCutRow : OpenClaim := { program := "ytkflingpogokcaadoor", sum := "a8acd25fb59cd8185c8a9e278adf6a63719fafd7ddb5df9ee2c8038a3372a363", func := "tithebarn/tithebarnlaw09.ReclogCut", spec := "reclogCut", unfollowed := true, recurses := true, named := ["tithebarn/sum.half"], apart := false, laid := [("tithebarn/sum.half", laid_tithebarn_sum_half)] }
def ReclogCutSaid : Prop := reclogCutRow.holds Tryd.pinned (OpenSpec.ofChange reclogCutSpec)

/-- ITS FALSE NEIGHBOUR: 'it returns false'. Refute it at one input. -/
def reclogCutWrong : ChangeSpec := { name := "reclogCut", fn := fun _ => fun
  | [d1, d2] => { results := [.lit (.bool false)], args := [d1, d2] }
  | _ => none }
def ReclogCutWrongFalsely : Prop := reclogCutRow.holds Tryd.pinned (OpenSpec.ofChange reclogCutWrong)

/-- 'tithebarnlaw09.ReclogJoins': WHATEVER THE INPUT: true; the input reads as it did. -/
def reclogJoinsSpec : ChangeSpec := { name := "reclogJoins", fn := fun _ => fun
  | [d1, d2] => { results := [.lit (.bool true)], args := [d1, d2] }
  | _ => none }
def reclogJoinsRow : OpenClaim := { program := "ytkflingpogokcaadoor", sum := "a8acd25fb59cd8185c8a9e278adf6a63719fafd7ddb5df9ee2c8038a3372a363", func := "tithebarn/tithebarnlaw09.ReclogJoins", spec := "reclogJoins", unfollowed := true, recurses := true, named := ["tithebarn/sum.half"], apart := false, laid := [("tithebarn/sum.half", laid_tithebarn_sum_half)] }
def ReclogJoinsSaid : Prop := reclogJoinsRow.holds Tryd.pinned (OpenSpec.ofChange reclogJoinsSpec)

/-- ITS FALSE NEIGHBOUR: 'it returns false'. Refute it at one input. -/
def reclogJoinsWrong : ChangeSpec := { name := "reclogJoins", fn := fun _ => fun
  | [d1, d2] => { results := [.lit (.bool false)], args := [d1, d2] }
  | _ => none }
def ReclogJoinsWrongFalsely : Prop := reclogJoinsRow.holds Tryd.pinned (OpenSpec.ofChange reclogJoinsWrong)

/-- 'tithebarnlaw09.ReclogPlaces': WHATEVER THE INPUT: true; the input reads as it did. -/
def reclogPlacesSpec : ChangeSpec := { name := "reclogPlaces", fn := fun _ => fun
  | [d] => { results := [.lit (.bool true)], args := [d] }
  | _ => none }
def reclogPlacesRow : OpenClaim := { program := "ytkflingpogokcaadoor", sum := "a8acd25fb59cd8185c8a9e278adf6a63719fafd7ddb5df9ee2c8038a3372a363", func := "tithebarn/tithebarnlaw09.ReclogPlaces", spec := "reclogPlaces", unfollowed := true, recurses := true, named := ["tithebarn/sum.half"], apart := false, laid := [("tithebarn/sum.half", laid_tithebarn_sum_half)] }
def ReclogPlacesSaid : Prop := reclogPlacesRow.holds Tryd.pinned (OpenSpec.ofChange reclogPlacesSpec)

/-- ITS FALSE NEIGHBOUR: 'it returns false'. Refute it at one input. -/
def reclogPlacesWrong : ChangeSpec := { name := "reclogPlaces", fn := fun _ => fun
  | [d] => { results := [.lit (.bool false)], args := [d] }
  | _ => none }
def ReclogPlacesWrongFalsely : Prop := reclogPlacesRow.holds Tryd.pinned (OpenSpec.ofChange reclogPlacesWrong)

/-- 'tithebarnlaw09.ReclogChains': WHATEVER THE INPUT: true; the input reads as it did. -/
def reclogChainsSpec : ChangeSpec := { name := "reclogChains", fn := fun _ => fun
  | [d] => { results := [.lit (.bool true)], args := [d] }
  | _ => none }
def reclogChainsRow : OpenClaim := { program := "ytkflingpogokcaadoor", sum := "a8acd25fb59cd8185c8a9e278adf6a63719fafd7ddb5df9ee2c8038a3372a363", func := "tithebarn/tithebarnlaw09.ReclogChains", spec := "reclogChains", unfollowed := true, recurses := true, named := ["tithebarn/sum.half"], apart := false, laid := [("tithebarn/sum.half", laid_tithebarn_sum_half)] }
def ReclogChainsSaid : Prop := reclogChainsRow.holds Tryd.pinned (OpenSpec.ofChange reclogChainsSpec)

/-- ITS FALSE NEIGHBOUR: 'it returns false'. Refute it at one input. -/
def reclogChainsWrong : ChangeSpec := { name := "reclogChains", fn := fun _ => fun
  | [d] => { results := [.lit (.bool false)], args := [d] }
  | _ => none }
def ReclogChainsWrongFalsely : Prop := reclogChainsRow.holds Tryd.pinned (OpenSpec.ofChange reclogChainsWrong)

/- THE SECOND FORM. 'bulk': how many values and letters a reading holds, each counted each time it is reached (what is shared counts as often as it is met; a slice's spare places count too). A statement '..UptoSaid' is the law's where the arguments, and the package variables that the reading takes, are together of bulk at most 1048576: NARROWER than '..Said'. Prove '..Said' where nothing that the law and all that it calls make is longer than what came in: it says more and counts as full. Else prove '..UptoSaid'. A law counts once. -/
mutual
def uptoBulk {H : Type} : DataW H → Nat
  | .lit (.string bytes) => bytes.length + 1
  | .lit _ => 1
  | .nil => 1
  | .ptr d => uptoBulk d + 1
  | .slice elems spare => uptoBulkAll elems + uptoBulkAll spare + 1
  | .agg parts => uptoBulkAll parts + 1
  | .iface _ d => uptoBulk d + 1
  | .map entries => uptoBulkEntries entries + 1
  | .held _ => 1
def uptoBulkAll {H : Type} : List (DataW H) → Nat
  | [] => 0
  | d :: r => uptoBulk d + uptoBulkAll r
def uptoBulkEntries {H : Type} : List (Lit × DataW H) → Nat
  | [] => 0
  | x :: r => uptoBulkEntry x + uptoBulkEntries r
def uptoBulkEntry {H : Type} : Lit × DataW H → Nat
  | (.string bytes, d) => bytes.length + uptoBulk d + 1
  | (_, d) => uptoBulk d + 1
 end
def uptoSmall : (H : Type) → List (DataW H) → Bool := fun _ ds => decide (uptoBulkAll ds ≤ 1048576)
def OpenSpec.upto (s : _root_.Go.ChangeSpec) : _root_.Go.OpenSpec := { _root_.Go.OpenSpec.ofChange s with cond := some uptoSmall }

/-- 'tithebarnlaw09.ReclogFrames', WHERE WHAT IT READS IS OF BULK AT MOST 1048576: true; the input reads as it did. -/
def reclogFramesUptoRow : OpenClaim := { program := "ytkflingpogokcaadoor", sum := "a8acd25fb59cd8185c8a9e278adf6a63719fafd7ddb5df9ee2c8038a3372a363", func := "tithebarn/tithebarnlaw09.ReclogFrames", spec := "reclogFrames", unfollowed := true, recurses := true, named := ["tithebarn/sum.half"], apart := false, laid := [("tithebarn/sum.half", laid_tithebarn_sum_half)], narrowed := true }
def ReclogFramesUptoSaid : Prop := reclogFramesUptoRow.holds Tryd.pinned (OpenSpec.upto reclogFramesSpec)

/-- 'tithebarnlaw09.ReclogScans', WHERE WHAT IT READS IS OF BULK AT MOST 1048576: true; the input reads as it did. -/
def reclogScansUptoRow : OpenClaim := { program := "ytkflingpogokcaadoor", sum := "a8acd25fb59cd8185c8a9e278adf6a63719fafd7ddb5df9ee2c8038a3372a363", func := "tithebarn/tithebarnlaw09.ReclogScans", spec := "reclogScans", unfollowed := true, recurses := true, named := ["tithebarn/sum.half"], apart := false, laid := [("tithebarn/sum.half", laid_tithebarn_sum_half)], narrowed := true }
def ReclogScansUptoSaid : Prop := reclogScansUptoRow.holds Tryd.pinned (OpenSpec.upto reclogScansSpec)

/-- 'tithebarnlaw09.ReclogCut', WHERE WHAT IT READS IS OF BULK AT MOST 1048576: true; the input reads as it did. -/
def reclogCutUptoRow : OpenClaim := { program := "ytkflingpogokcaadoor", sum := "a8acd25fb59cd8185c8a9e278adf6a63719fafd7ddb5df9ee2c8038a3372a363", func := "tithebarn/tithebarnlaw09.ReclogCut", spec := "reclogCut", unfollowed := true, recurses := true, named := ["tithebarn/sum.half"], apart := false, laid := [("tithebarn/sum.half", laid_tithebarn_sum_half)], narrowed := true }
def ReclogCutUptoSaid : Prop := reclogCutUptoRow.holds Tryd.pinned (OpenSpec.upto reclogCutSpec)

/-- 'tithebarnlaw09.ReclogJoins', WHERE WHAT IT READS IS OF BULK AT MOST 1048576: true; the input reads as it did. -/
def reclogJoinsUptoRow : OpenClaim := { program := "ytkflingpogokcaadoor", sum := "a8acd25fb59cd8185c8a9e278adf6a63719fafd7ddb5df9ee2c8038a3372a363", func := "tithebarn/tithebarnlaw09.ReclogJoins", spec := "reclogJoins", unfollowed := true, recurses := true, named := ["tithebarn/sum.half"], apart := false, laid := [("tithebarn/sum.half", laid_tithebarn_sum_half)], narrowed := true }
def ReclogJoinsUptoSaid : Prop := reclogJoinsUptoRow.holds Tryd.pinned (OpenSpec.upto reclogJoinsSpec)

/-- 'tithebarnlaw09.ReclogPlaces', WHERE WHAT IT READS IS OF BULK AT MOST 1048576: true; the input reads as it did. -/
def reclogPlacesUptoRow : OpenClaim := { program := "ytkflingpogokcaadoor", sum := "a8acd25fb59cd8185c8a9e278adf6a63719fafd7ddb5df9ee2c8038a3372a363", func := "tithebarn/tithebarnlaw09.ReclogPlaces", spec := "reclogPlaces", unfollowed := true, recurses := true, named := ["tithebarn/sum.half"], apart := false, laid := [("tithebarn/sum.half", laid_tithebarn_sum_half)], narrowed := true }
def ReclogPlacesUptoSaid : Prop := reclogPlacesUptoRow.holds Tryd.pinned (OpenSpec.upto reclogPlacesSpec)

/-- 'tithebarnlaw09.ReclogChains', WHERE WHAT IT READS IS OF BULK AT MOST 1048576: true; the input reads as it did. -/
def reclogChainsUptoRow : OpenClaim := { program := "ytkflingpogokcaadoor", sum := "a8acd25fb59cd8185c8a9e278adf6a63719fafd7ddb5df9ee2c8038a3372a363", func := "tithebarn/tithebarnlaw09.ReclogChains", spec := "reclogChains", unfollowed := true, recurses := true, named := ["tithebarn/sum.half"], apart := false, laid := [("tithebarn/sum.half", laid_tithebarn_sum_half)], narrowed := true }
def ReclogChainsUptoSaid : Prop := reclogChainsUptoRow.holds Tryd.pinned (OpenSpec.upto reclogChainsSpec)

end Rows
end Go.Proofs.YtkflingpogokcaaDoor
