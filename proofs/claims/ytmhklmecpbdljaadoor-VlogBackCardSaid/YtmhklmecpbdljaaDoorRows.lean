/-
  NARROWER THAN 'FOR EVERY INPUT', by the rows' own cells (each row's printed sentence says how): VlogReads: laid · VlogSizes: laid · VlogParses: laid · VlogPointers: laid · VlogLists: laid · VlogBack: laid.
  DERIVED. THE GIVEN ROWS OF THIS SEAT. 6 by the template 'for every input the law returns true; each argument reads behind the call as it read before'; 0 by the template 'total and deterministic' (their statements: YtmhklmecpbdljaaDoorTotals.lean).
  GIVEN WITH THE SEED: the statements are not yours to turn. If you find one false, say at which input.
  Laid BY PROGRAM, IN A SANDBOX (cutbox-rows.mjs): the forced cells as the released guide's own fill.sh prints them over the translation 478e84ea67d45f13… (all of the seat's roots in one cut). By AI agents, Wed Nov 11 2026. No macro, syntax, notation, axiom, sorry.
-/
import Derived.Test.YtmhklmecpbdljaaDoorChecked
import GoSem.Claim
import GoSem.ClaimJoined
import GoSem.ClaimMapViews
import Derived.JoinedTies
import Derived.KernelRfl
namespace Go.Proofs.YtmhklmecpbdljaaDoor
/- THE CELL 'sum', in the pinned program and in every row, IS THE sha256 OF THE DUMP (.gsa) THAT YtmhklmecpbdljaaDoorProg.lean LOADS. Nothing in Lean hashes anything: it is a label: what it is worth is what the hold of that sum in a sandbox is worth. -/
noncomputable def Tryd.pinned : Pinned := { name := "ytmhklmecpbdljaadoor", sum := "478e84ea67d45f13d82caee0f2d6d5eb43a9b6b99cbcd2efdf99b4ab1d10d135", checked := Tryd.checked }
namespace Rows
def none {H : Type} : Left H := { results := [], args := [] }

/- WHAT THE LISTED PACKAGE-LEVEL VARIABLES READ AS WHEN THE CALL BEGINS. Each datum BY PROGRAM (the guide's laid-datum.mjs) off the statement by which the dump's own 'gosem.cut.vars' lays the variable. In a bare row this is a premise. The card (YtmhklmecpbdljaaDoorCards.lean) ties it to the program's text. -/
def laid_tithebarn_sum_half {H : Type} : DataW H := .agg [.lit (.int .u32 0), .lit (.int .u32 274646895), .lit (.int .u32 549293790), .lit (.int .u32 820201905), .lit (.int .u32 1098587580), .lit (.int .u32 1361435347), .lit (.int .u32 1640403810), .lit (.int .u32 1905808397), .lit (.int .u32 2197175160), .lit (.int .u32 2460548119), .lit (.int .u32 2722870694), .lit (.int .u32 2987750089), .lit (.int .u32 3280807620), .lit (.int .u32 3553878443), .lit (.int .u32 3811616794), .lit (.int .u32 4084100981)]

/-- 'tithebarnlaw14.VlogReads': WHATEVER THE INPUT: true; the input reads as it did. -/
def vlogReadsSpec : ChangeSpec := { name := "vlogReads", fn := fun _ => fun
  | [d] => { results := [.lit (.bool true)], args := [d] }
  | _ => none }
def vlogReadsRow : OpenClaim := { program := "ytmhklmecpbdljaadoor", sum := "478e84ea67d45f13d82caee0f2d6d5eb43a9b6b99cbcd2efdf99b4ab1d10d135", func := "tithebarn/tithebarnlaw14.VlogReads", spec := "vlogReads", named := ["tithebarn/sum.half"], apart := false, laid := [("tithebarn/sum.half", laid_tithebarn_sum_half)] }
def VlogReadsSaid : Prop := vlogReadsRow.holds Tryd.pinned (OpenSpec.ofChange vlogReadsSpec)

/-- ITS FALSE NEIGHBOUR: 'it returns false'. Refute it at one input. -/
def vlogReadsWrong : ChangeSpec := { name := "vlogReads", fn := fun _ => fun
  | [d] => { results := [.lit (.bool false)], args := [d] }
  | _ => none }
def VlogReadsWrongFalsely : Prop := vlogReadsRow.holds Tryd.pinned (OpenSpec.ofChange vlogReadsWrong)

/-- 'tithebarnlaw14.VlogSizes': WHATEVER THE INPUT: true; the input reads as it did. -/
def vlogSizesSpec : ChangeSpec := { name := "vlogSizes", fn := fun _ => fun
  | [d1, d2] => { results := [.lit (.bool true)], args := [d1, d2] }
  | _ => none }
def vlogSizesRow : OpenClaim := { program := "ytmhklmecpbdljaadoor", sum := "478e84ea67d45f13d82caee0f2d6d5eb43a9b6b99cbcd2efdf99b4ab1d10d135", func := "tithebarn/tithebarnlaw14.VlogSizes", spec := "vlogSizes", named := ["tithebarn/sum.half"], apart := false, laid := [("tithebarn/sum.half", laid_tithebarn_sum_half)] }
def VlogSizesSaid : Prop := vlogSizesRow.holds Tryd.pinned (OpenSpec.ofChange vlogSizesSpec)

/-- ITS FALSE NEIGHBOUR: 'it returns false'. Refute it at one input. -/
def vlogSizesWrong : ChangeSpec := { name := "vlogSizes", fn := fun _ => fun
  | [d1, d2] => { results := [.lit (.bool false)], args := [d1, d2] }
  | _ => none }
def VlogSizesWrongFalsely : Prop := vlogSizesRow.holds Tryd.pinned (OpenSpec.ofChange vlogSizesWrong)

/-- 'tithebarnlaw14.VlogParses': WHATEVER THE INPUT: true; the input reads as it did. -/
def vlogParsesSpec : ChangeSpec := { name := "vlogParses", fn := fun _ => fun
  | [d] => { results := [.lit (.bool true)], args := [d] }
  | _ => none }
def vlogParsesRow : OpenClaim := { program := "ytmhklmecpbdljaadoor", sum := "478e84ea67d45f13d82caee0f2d6d5eb43a9b6b99cbcd2efdf99b4ab1d10d135", func := "tithebarn/tithebarnlaw14.VlogParses", spec := "vlogParses", named := ["tithebarn/sum.half"], apart := false, laid := [("tithebarn/sum.half", laid_tithebarn_sum_half)] }
def VlogParsesSaid : Prop := vlogParsesRow.holds Tryd.pinned (OpenSpec.ofChange vlogParsesSpec)

/-- ITS FALSE NEIGHBOUR: 'it returns false'. Refute it at one input. -/
def vlogParsesWrong : ChangeSpec := { name := "vlogParses", fn := fun _ => fun
  | [d] => { results := [.lit (.bool false)], args := [d] }
  | _ => none }
def VlogParsesWrongFalsely : Prop := vlogParsesRow.holds Tryd.pinned (OpenSpec.ofChange vlogParsesWrong)

/-- 'tithebarnlaw14.VlogPointers': WHATEVER THE INPUT: true; the input reads as it did. -/
def vlogPointersSpec : ChangeSpec := { name := "vlogPointers", fn := fun _ => fun
  | [d] => { results := [.lit (.bool true)], args := [d] }
  | _ => none }
def vlogPointersRow : OpenClaim := { program := "ytmhklmecpbdljaadoor", sum := "478e84ea67d45f13d82caee0f2d6d5eb43a9b6b99cbcd2efdf99b4ab1d10d135", func := "tithebarn/tithebarnlaw14.VlogPointers", spec := "vlogPointers", named := ["tithebarn/sum.half"], apart := false, laid := [("tithebarn/sum.half", laid_tithebarn_sum_half)] }
def VlogPointersSaid : Prop := vlogPointersRow.holds Tryd.pinned (OpenSpec.ofChange vlogPointersSpec)

/-- ITS FALSE NEIGHBOUR: 'it returns false'. Refute it at one input. -/
def vlogPointersWrong : ChangeSpec := { name := "vlogPointers", fn := fun _ => fun
  | [d] => { results := [.lit (.bool false)], args := [d] }
  | _ => none }
def VlogPointersWrongFalsely : Prop := vlogPointersRow.holds Tryd.pinned (OpenSpec.ofChange vlogPointersWrong)

/-- 'tithebarnlaw14.VlogLists': WHATEVER THE INPUT: true; the input reads as it did. -/
def vlogListsSpec : ChangeSpec := { name := "vlogLists", fn := fun _ => fun
  | [d1, d2, d3] => { results := [.lit (.bool true)], args := [d1, d2, d3] }
  | _ => none }
def vlogListsRow : OpenClaim := { program := "ytmhklmecpbdljaadoor", sum := "478e84ea67d45f13d82caee0f2d6d5eb43a9b6b99cbcd2efdf99b4ab1d10d135", func := "tithebarn/tithebarnlaw14.VlogLists", spec := "vlogLists", unfollowed := true, recurses := true, named := ["tithebarn/sum.half"], apart := false, laid := [("tithebarn/sum.half", laid_tithebarn_sum_half)] }
def VlogListsSaid : Prop := vlogListsRow.holds Tryd.pinned (OpenSpec.ofChange vlogListsSpec)

/-- ITS FALSE NEIGHBOUR: 'it returns false'. Refute it at one input. -/
def vlogListsWrong : ChangeSpec := { name := "vlogLists", fn := fun _ => fun
  | [d1, d2, d3] => { results := [.lit (.bool false)], args := [d1, d2, d3] }
  | _ => none }
def VlogListsWrongFalsely : Prop := vlogListsRow.holds Tryd.pinned (OpenSpec.ofChange vlogListsWrong)

/-- 'tithebarnlaw14.VlogBack': WHATEVER THE INPUT: true; the input reads as it did. -/
def vlogBackSpec : ChangeSpec := { name := "vlogBack", fn := fun _ => fun
  | [d] => { results := [.lit (.bool true)], args := [d] }
  | _ => none }
def vlogBackRow : OpenClaim := { program := "ytmhklmecpbdljaadoor", sum := "478e84ea67d45f13d82caee0f2d6d5eb43a9b6b99cbcd2efdf99b4ab1d10d135", func := "tithebarn/tithebarnlaw14.VlogBack", spec := "vlogBack", unfollowed := true, recurses := true, named := ["tithebarn/sum.half"], apart := false, laid := [("tithebarn/sum.half", laid_tithebarn_sum_half)] }
def VlogBackSaid : Prop := vlogBackRow.holds Tryd.pinned (OpenSpec.ofChange vlogBackSpec)

/-- ITS FALSE NEIGHBOUR: 'it returns false'. Refute it at one input. -/
def vlogBackWrong : ChangeSpec := { name := "vlogBack", fn := fun _ => fun
  | [d] => { results := [.lit (.bool false)], args := [d] }
  | _ => none }
def VlogBackWrongFalsely : Prop := vlogBackRow.holds Tryd.pinned (OpenSpec.ofChange vlogBackWrong)

/- THE SECOND FORM. 'bulk': how many values and letters a reading holds, each counted each time it is reached (what is shared counts as often as it is met; a slice's spare places count too). A statement '..UptoSaid' is the law's where the arguments, and the package variables that the reading takes, are together of bulk at most 1048576: NARROWER than '..Said'. Prove '..Said' where nothing that the law and all that it calls make is longer than what came in: it says more and counts as full. Else prove '..UptoSaid'. A law counts once. -/
mutual
def uptoBulk {H : Type} : DataW H → Nat
  | .lit (.string bytes) => bytes.length + 1
  | .lit _ => 1
  | .nil => 1
  | .ptr d => uptoBulk d + 1
  | .slice elems spare => uptoBulkAll elems + uptoBulkAll spare + 1
  | .agg parts => uptoBulkAll parts + 1
  | .iface _ d => uptoBulk d + 1
  | .map entries => uptoBulkEntries entries + 1
  | .held _ => 1
def uptoBulkAll {H : Type} : List (DataW H) → Nat
  | [] => 0
  | d :: r => uptoBulk d + uptoBulkAll r
def uptoBulkEntries {H : Type} : List (Lit × DataW H) → Nat
  | [] => 0
  | x :: r => uptoBulkEntry x + uptoBulkEntries r
def uptoBulkEntry {H : Type} : Lit × DataW H → Nat
  | (.string bytes, d) => bytes.length + uptoBulk d + 1
  | (_, d) => uptoBulk d + 1
 end
def uptoSmall : (H : Type) → List (DataW H) → Bool := fun _ ds => decide (uptoBulkAll ds ≤ 1048576)
def OpenSpec.upto (s : _root_.Go.ChangeSpec) : _root_.Go.OpenSpec := { _root_.Go.OpenSpec.ofChange s with cond := some uptoSmall }

/-- 'tithebarnlaw14.VlogReads', WHERE WHAT IT READS IS OF BULK AT MOST 1048576: true; the input reads as it did. -/
def vlogReadsUptoRow : OpenClaim := { program := "ytmhklmecpbdljaadoor", sum := "478e84ea67d45f13d82caee0f2d6d5eb43a9b6b99cbcd2efdf99b4ab1d10d135", func := "tithebarn/tithebarnlaw14.VlogReads", spec := "vlogReads", named := ["tithebarn/sum.half"], apart := false, laid := [("tithebarn/sum.half", laid_tithebarn_sum_half)], narrowed := true }
def VlogReadsUptoSaid : Prop := vlogReadsUptoRow.holds Tryd.pinned (OpenSpec.upto vlogReadsSpec)

/-- 'tithebarnlaw14.VlogSizes', WHERE WHAT IT READS IS OF BULK AT MOST 1048576: true; the input reads as it did. -/
def vlogSizesUptoRow : OpenClaim := { program := "ytmhklmecpbdljaadoor", sum := "478e84ea67d45f13d82caee0f2d6d5eb43a9b6b99cbcd2efdf99b4ab1d10d135", func := "tithebarn/tithebarnlaw14.VlogSizes", spec := "vlogSizes", named := ["tithebarn/sum.half"], apart := false, laid := [("tithebarn/sum.half", laid_tithebarn_sum_half)], narrowed := true }
def VlogSizesUptoSaid : Prop := vlogSizesUptoRow.holds Tryd.pinned (OpenSpec.upto vlogSizesSpec)

/-- 'tithebarnlaw14.VlogParses', WHERE WHAT IT READS IS OF BULK AT MOST 1048576: true; the input reads as it did. -/
def vlogParsesUptoRow : OpenClaim := { program := "ytmhklmecpbdljaadoor", sum := "478e84ea67d45f13d82caee0f2d6d5eb43a9b6b99cbcd2efdf99b4ab1d10d135", func := "tithebarn/tithebarnlaw14.VlogParses", spec := "vlogParses", named := ["tithebarn/sum.half"], apart := false, laid := [("tithebarn/sum.half", laid_tithebarn_sum_half)], narrowed := true }
def VlogParsesUptoSaid : Prop := vlogParsesUptoRow.holds Tryd.pinned (OpenSpec.upto vlogParsesSpec)

/-- 'tithebarnlaw14.VlogPointers', WHERE WHAT IT READS IS OF BULK AT MOST 1048576: true; the input reads as it did. -/
def vlogPointersUptoRow : OpenClaim := { program := "ytmhklmecpbdljaadoor", sum := "478e84ea67d45f13d82caee0f2d6d5eb43a9b6b99cbcd2efdf99b4ab1d10d135", func := "tithebarn/tithebarnlaw14.VlogPointers", spec := "vlogPointers", named := ["tithebarn/sum.half"], apart := false, laid := [("tithebarn/sum.half", laid_tithebarn_sum_half)], narrowed := true }
def VlogPointersUptoSaid : Prop := vlogPointersUptoRow.holds Tryd.pinned (OpenSpec.upto vlogPointersSpec)

/-- 'tithebarnlaw14.VlogLists', WHERE WHAT IT READS IS OF BULK AT MOST 1048576: true; the input reads as it did. -/
def vlogListsUptoRow : OpenClaim := { program := "ytmhklmecpbdljaadoor", sum := "478e84ea67d45f13d82caee0f2d6d5eb43a9b6b99cbcd2efdf99b4ab1d10d135", func := "tithebarn/tithebarnlaw14.VlogLists", spec := "vlogLists", unfollowed := true, recurses := true, named := ["tithebarn/sum.half"], apart := false, laid := [("tithebarn/sum.half", laid_tithebarn_sum_half)], narrowed := true }
def VlogListsUptoSaid : Prop := vlogListsUptoRow.holds Tryd.pinned (OpenSpec.upto vlogListsSpec)

/-- 'tithebarnlaw14.VlogBack', WHERE WHAT IT READS IS OF BULK AT MOST 1048576: true; the input reads as it did. -/
def vlogBackUptoRow : OpenClaim := { program := "ytmhklmecpbdljaadoor", sum := "478e84ea67d45f13d82caee0f2d6d5eb43a9b6b99cbcd2efdf99b4ab1d10d135", func := "tithebarn/tithebarnlaw14.VlogBack", spec := "vlogBack", unfollowed := true, recurses := true, named := ["tithebarn/sum.half"], apart := false, laid := [("tithebarn/sum.half", laid_tithebarn_sum_half)], narrowed := true }
def VlogBackUptoSaid : Prop := vlogBackUptoRow.holds Tryd.pinned (OpenSpec.upto vlogBackSpec)

end Rows
end Go.Proofs.YtmhklmecpbdljaaDoor
