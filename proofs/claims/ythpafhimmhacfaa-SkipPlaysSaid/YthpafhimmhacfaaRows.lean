/-
  No cell of these rows narrows 'for every input' (looked for: loops, veiled, ifaces, maps, wideKeys, modest, calm, conditions, laid).
  DERIVED. THE GIVEN ROWS OF THIS SEAT. 6 by the template 'for every input the law returns true; each argument reads behind the call as it read before'; 0 by the template 'total and deterministic' (their statements: YthpafhimmhacfaaTotals.lean).
  GIVEN WITH THE SEED: the statements are not yours to turn. If you find one false, say at which input.
  Laid BY PROGRAM, IN A SANDBOX (cutbox-rows.mjs): the forced cells as the released guide's own fill.sh prints them over the translation 6fbac46300b81e14… (all of the seat's roots in one cut). By AI agents, Wed Nov 11 2026. No macro, syntax, notation, axiom, sorry.
-/
import Derived.Test.YthpafhimmhacfaaChecked
import GoSem.Claim
import GoSem.ClaimJoined
import GoSem.ClaimMapViews
import Derived.JoinedTies
import Derived.KernelRfl
namespace Go.Proofs.Ythpafhimmhacfaa
/- THE CELL 'sum', in the pinned program and in every row, IS THE sha256 OF THE DUMP (.gsa) THAT YthpafhimmhacfaaProg.lean LOADS. Nothing in Lean hashes anything: it is a label: what it is worth is what the hold of that sum in a sandbox is worth. -/
noncomputable def Try.pinned : Pinned := { name := "ythpafhimmhacfaa", sum := "6fbac46300b81e14609e9299442a15f9b56eb8f50c5deba2de6dc49b27160fe5", checked := Try.checked }
namespace Rows
def none {H : Type} : Left H := { results := [], args := [] }

/-- 'tithebarnlaw05.SkipDraws': WHATEVER THE INPUT: true; the input reads as it did. -/
def skipDrawsSpec : ChangeSpec := { name := "skipDraws", fn := fun _ => fun
  | [d] => { results := [.lit (.bool true)], args := [d] }
  | _ => none }
def skipDrawsRow : OpenClaim := { program := "ythpafhimmhacfaa", sum := "6fbac46300b81e14609e9299442a15f9b56eb8f50c5deba2de6dc49b27160fe5", func := "tithebarn/tithebarnlaw05.SkipDraws", spec := "skipDraws", apart := false }
def SkipDrawsSaid : Prop := skipDrawsRow.holds Try.pinned (OpenSpec.ofChange skipDrawsSpec)

/-- ITS FALSE NEIGHBOUR: 'it returns false'. Refute it at one input. -/
def skipDrawsWrong : ChangeSpec := { name := "skipDraws", fn := fun _ => fun
  | [d] => { results := [.lit (.bool false)], args := [d] }
  | _ => none }
def SkipDrawsWrongFalsely : Prop := skipDrawsRow.holds Try.pinned (OpenSpec.ofChange skipDrawsWrong)

/-- 'tithebarnlaw05.SkipBetween': WHATEVER THE INPUT: true; the input reads as it did. -/
def skipBetweenSpec : ChangeSpec := { name := "skipBetween", fn := fun _ => fun
  | [d1, d2] => { results := [.lit (.bool true)], args := [d1, d2] }
  | _ => none }
def skipBetweenRow : OpenClaim := { program := "ythpafhimmhacfaa", sum := "6fbac46300b81e14609e9299442a15f9b56eb8f50c5deba2de6dc49b27160fe5", func := "tithebarn/tithebarnlaw05.SkipBetween", spec := "skipBetween", apart := false }
def SkipBetweenSaid : Prop := skipBetweenRow.holds Try.pinned (OpenSpec.ofChange skipBetweenSpec)

/-- ITS FALSE NEIGHBOUR: 'it returns false'. Refute it at one input. -/
def skipBetweenWrong : ChangeSpec := { name := "skipBetween", fn := fun _ => fun
  | [d1, d2] => { results := [.lit (.bool false)], args := [d1, d2] }
  | _ => none }
def SkipBetweenWrongFalsely : Prop := skipBetweenRow.holds Try.pinned (OpenSpec.ofChange skipBetweenWrong)

/-- 'tithebarnlaw05.SkipHeights': WHATEVER THE INPUT: true; the input reads as it did. -/
def skipHeightsSpec : ChangeSpec := { name := "skipHeights", fn := fun _ => fun
  | [d1, d2] => { results := [.lit (.bool true)], args := [d1, d2] }
  | _ => none }
def skipHeightsRow : OpenClaim := { program := "ythpafhimmhacfaa", sum := "6fbac46300b81e14609e9299442a15f9b56eb8f50c5deba2de6dc49b27160fe5", func := "tithebarn/tithebarnlaw05.SkipHeights", spec := "skipHeights", unfollowed := true, recurses := true, apart := false }
def SkipHeightsSaid : Prop := skipHeightsRow.holds Try.pinned (OpenSpec.ofChange skipHeightsSpec)

/-- ITS FALSE NEIGHBOUR: 'it returns false'. Refute it at one input. -/
def skipHeightsWrong : ChangeSpec := { name := "skipHeights", fn := fun _ => fun
  | [d1, d2] => { results := [.lit (.bool false)], args := [d1, d2] }
  | _ => none }
def SkipHeightsWrongFalsely : Prop := skipHeightsRow.holds Try.pinned (OpenSpec.ofChange skipHeightsWrong)

/-- 'tithebarnlaw05.SkipAgain': WHATEVER THE INPUT: true; the input reads as it did. -/
def skipAgainSpec : ChangeSpec := { name := "skipAgain", fn := fun _ => fun
  | [d] => { results := [.lit (.bool true)], args := [d] }
  | _ => none }
def skipAgainRow : OpenClaim := { program := "ythpafhimmhacfaa", sum := "6fbac46300b81e14609e9299442a15f9b56eb8f50c5deba2de6dc49b27160fe5", func := "tithebarn/tithebarnlaw05.SkipAgain", spec := "skipAgain", unfollowed := true, recurses := true, apart := false }
def SkipAgainSaid : Prop := skipAgainRow.holds Try.pinned (OpenSpec.ofChange skipAgainSpec)

/-- ITS FALSE NEIGHBOUR: 'it returns false'. Refute it at one input. -/
def skipAgainWrong : ChangeSpec := { name := "skipAgain", fn := fun _ => fun
  | [d] => { results := [.lit (.bool false)], args := [d] }
  | _ => none }
def SkipAgainWrongFalsely : Prop := skipAgainRow.holds Try.pinned (OpenSpec.ofChange skipAgainWrong)

/-- 'tithebarnlaw05.SkipWalks': WHATEVER THE INPUT: true; the input reads as it did. -/
def skipWalksSpec : ChangeSpec := { name := "skipWalks", fn := fun _ => fun
  | [d1, d2] => { results := [.lit (.bool true)], args := [d1, d2] }
  | _ => none }
def skipWalksRow : OpenClaim := { program := "ythpafhimmhacfaa", sum := "6fbac46300b81e14609e9299442a15f9b56eb8f50c5deba2de6dc49b27160fe5", func := "tithebarn/tithebarnlaw05.SkipWalks", spec := "skipWalks", unfollowed := true, recurses := true, apart := false }
def SkipWalksSaid : Prop := skipWalksRow.holds Try.pinned (OpenSpec.ofChange skipWalksSpec)

/-- ITS FALSE NEIGHBOUR: 'it returns false'. Refute it at one input. -/
def skipWalksWrong : ChangeSpec := { name := "skipWalks", fn := fun _ => fun
  | [d1, d2] => { results := [.lit (.bool false)], args := [d1, d2] }
  | _ => none }
def SkipWalksWrongFalsely : Prop := skipWalksRow.holds Try.pinned (OpenSpec.ofChange skipWalksWrong)

/-- 'tithebarnlaw05.SkipPlays': WHATEVER THE INPUT: true; the input reads as it did. -/
def skipPlaysSpec : ChangeSpec := { name := "skipPlays", fn := fun _ => fun
  | [d1, d2] => { results := [.lit (.bool true)], args := [d1, d2] }
  | _ => none }
def skipPlaysRow : OpenClaim := { program := "ythpafhimmhacfaa", sum := "6fbac46300b81e14609e9299442a15f9b56eb8f50c5deba2de6dc49b27160fe5", func := "tithebarn/tithebarnlaw05.SkipPlays", spec := "skipPlays", unfollowed := true, recurses := true, apart := false }
def SkipPlaysSaid : Prop := skipPlaysRow.holds Try.pinned (OpenSpec.ofChange skipPlaysSpec)

/-- ITS FALSE NEIGHBOUR: 'it returns false'. Refute it at one input. -/
def skipPlaysWrong : ChangeSpec := { name := "skipPlays", fn := fun _ => fun
  | [d1, d2] => { results := [.lit (.bool false)], args := [d1, d2] }
  | _ => none }
def SkipPlaysWrongFalsely : Prop := skipPlaysRow.holds Try.pinned (OpenSpec.ofChange skipPlaysWrong)

/- THE SECOND FORM. 'bulk': how many values and letters a reading holds, each counted each time it is reached (what is shared counts as often as it is met; a slice's spare places count too). A statement '..UptoSaid' is the law's where the arguments, and the package variables that the reading takes, are together of bulk at most 1048576: NARROWER than '..Said'. Prove '..Said' where nothing that the law and all that it calls make is longer than what came in: it says more and counts as full. Else prove '..UptoSaid'. A law counts once. -/
mutual
def uptoBulk {H : Type} : DataW H → Nat
  | .lit (.string bytes) => bytes.length + 1
  | .lit _ => 1
  | .nil => 1
  | .ptr d => uptoBulk d + 1
  | .slice elems spare => uptoBulkAll elems + uptoBulkAll spare + 1
  | .agg parts => uptoBulkAll parts + 1
  | .iface _ d => uptoBulk d + 1
  | .map entries => uptoBulkEntries entries + 1
  | .held _ => 1
def uptoBulkAll {H : Type} : List (DataW H) → Nat
  | [] => 0
  | d :: r => uptoBulk d + uptoBulkAll r
def uptoBulkEntries {H : Type} : List (Lit × DataW H) → Nat
  | [] => 0
  | x :: r => uptoBulkEntry x + uptoBulkEntries r
def uptoBulkEntry {H : Type} : Lit × DataW H → Nat
  | (.string bytes, d) => bytes.length + uptoBulk d + 1
  | (_, d) => uptoBulk d + 1
 end
def uptoSmall : (H : Type) → List (DataW H) → Bool := fun _ ds => decide (uptoBulkAll ds ≤ 1048576)
def OpenSpec.upto (s : _root_.Go.ChangeSpec) : _root_.Go.OpenSpec := { _root_.Go.OpenSpec.ofChange s with cond := some uptoSmall }

/-- 'tithebarnlaw05.SkipDraws', WHERE WHAT IT READS IS OF BULK AT MOST 1048576: true; the input reads as it did. -/
def skipDrawsUptoRow : OpenClaim := { program := "ythpafhimmhacfaa", sum := "6fbac46300b81e14609e9299442a15f9b56eb8f50c5deba2de6dc49b27160fe5", func := "tithebarn/tithebarnlaw05.SkipDraws", spec := "skipDraws", apart := false, narrowed := true }
def SkipDrawsUptoSaid : Prop := skipDrawsUptoRow.holds Try.pinned (OpenSpec.upto skipDrawsSpec)

/-- 'tithebarnlaw05.SkipBetween', WHERE WHAT IT READS IS OF BULK AT MOST 1048576: true; the input reads as it did. -/
def skipBetweenUptoRow : OpenClaim := { program := "ythpafhimmhacfaa", sum := "6fbac46300b81e14609e9299442a15f9b56eb8f50c5deba2de6dc49b27160fe5", func := "tithebarn/tithebarnlaw05.SkipBetween", spec := "skipBetween", apart := false, narrowed := true }
def SkipBetweenUptoSaid : Prop := skipBetweenUptoRow.holds Try.pinned (OpenSpec.upto skipBetweenSpec)

/-- 'tithebarnlaw05.SkipHeights', WHERE WHAT IT READS IS OF BULK AT MOST 1048576: true; the input reads as it did. -/
def skipHeightsUptoRow : OpenClaim := { program := "ythpafhimmhacfaa", sum := "6fbac46300b81e14609e9299442a15f9b56eb8f50c5deba2de6dc49b27160fe5", func := "tithebarn/tithebarnlaw05.SkipHeights", spec := "skipHeights", unfollowed := true, recurses := true, apart := false, narrowed := true }
def SkipHeightsUptoSaid : Prop := skipHeightsUptoRow.holds Try.pinned (OpenSpec.upto skipHeightsSpec)

/-- 'tithebarnlaw05.SkipAgain', WHERE WHAT IT READS IS OF BULK AT MOST 1048576: true; the input reads as it did. -/
def skipAgainUptoRow : OpenClaim := { program := "ythpafhimmhacfaa", sum := "6fbac46300b81e14609e9299442a15f9b56eb8f50c5deba2de6dc49b27160fe5", func := "tithebarn/tithebarnlaw05.SkipAgain", spec := "skipAgain", unfollowed := true, recurses := true, apart := false, narrowed := true }
def SkipAgainUptoSaid : Prop := skipAgainUptoRow.holds Try.pinned (OpenSpec.upto skipAgainSpec)

/-- 'tithebarnlaw05.SkipWalks', WHERE WHAT IT READS IS OF BULK AT MOST 1048576: true; the input reads as it did. -/
def skipWalksUptoRow : OpenClaim := { program := "ythpafhimmhacfaa", sum := "6fbac46300b81e14609e9299442a15f9b56eb8f50c5deba2de6dc49b27160fe5", func := "tithebarn/tithebarnlaw05.SkipWalks", spec := "skipWalks", unfollowed := true, recurses := true, apart := false, narrowed := true }
def SkipWalksUptoSaid : Prop := skipWalksUptoRow.holds Try.pinned (OpenSpec.upto skipWalksSpec)

/-- 'tithebarnlaw05.SkipPlays', WHERE WHAT IT READS IS OF BULK AT MOST 1048576: true; the input reads as it did. -/
def skipPlaysUptoRow : OpenClaim := { program := "ythpafhimmhacfaa", sum := "6fbac46300b81e14609e9299442a15f9b56eb8f50c5deba2de6dc49b27160fe5", func := "tithebarn/tithebarnlaw05.SkipPlays", spec := "skipPlays", unfollowed := true, recurses := true, apart := false, narrowed := true }
def SkipPlaysUptoSaid : Prop := skipPlaysUptoRow.holds Try.pinned (OpenSpec.upto skipPlaysSpec)

end Rows
end Go.Proofs.Ythpafhimmhacfaa
