/-
  No cell of these rows narrows 'for every input' (looked for: loops, veiled, ifaces, maps, wideKeys, modest, calm, conditions, laid).
  DERIVED. THE GIVEN ROWS OF THIS SEAT. 6 by the template 'for every input the law returns true; each argument reads behind the call as it read before'; 0 by the template 'total and deterministic' (their statements: YtebnllpcagkkbaaTotals.lean).
  GIVEN WITH THE SEED: the statements are not yours to turn. If you find one false, say at which input.
  Laid BY PROGRAM, IN A SANDBOX (cutbox-rows.mjs): the forced cells as the released guide's own fill.sh prints them over the translation b4b1c35ee105d104… (all of the seat's roots in one cut). By AI agents, Wed Nov 11 2026. No macro, syntax, notation, axiom, sorry.
-/
import Derived.Test.YtebnllpcagkkbaaChecked
import GoSem.Claim
import GoSem.ClaimJoined
import GoSem.ClaimMapViews
import Derived.JoinedTies
import Derived.KernelRfl
namespace Go.Proofs.Ytebnllpcagkkbaa
/- THE CELL 'sum', in the pinned program and in every row, IS THE sha256 OF THE DUMP (.gsa) THAT YtebnllpcagkkbaaProg.lean LOADS. Nothing in Lean hashes anything: it is a label: what it is worth is what the hold of that sum in a sandbox is worth. -/
noncomputable def Try.pinned : Pinned := { name := "ytebnllpcagkkbaa", sum := "b4b1c35ee105d10414624a7427fac61caf50b3036cf09f59b2c9eb47229b536c", checked := Try.checked }
namespace Rows
def none {H : Type} : Left H := { results := [], args := [] }

/-- 'tithebarnlaw12.BlockShares': WHATEVER THE INPUT: true; the input reads as it did. -/
def blockSharesSpec : ChangeSpec := { name := "blockShares", fn := fun _ => fun
  | [d1, d2] => { results := [.lit (.bool true)], args := [d1, d2] }
  | _ => none }
def blockSharesRow : OpenClaim := { program := "ytebnllpcagkkbaa", sum := "b4b1c35ee105d10414624a7427fac61caf50b3036cf09f59b2c9eb47229b536c", func := "tithebarn/tithebarnlaw12.BlockShares", spec := "blockShares", apart := false }
def BlockSharesSaid : Prop := blockSharesRow.holds Try.pinned (OpenSpec.ofChange blockSharesSpec)

/-- ITS FALSE NEIGHBOUR: 'it returns false'. Refute it at one input. -/
def blockSharesWrong : ChangeSpec := { name := "blockShares", fn := fun _ => fun
  | [d1, d2] => { results := [.lit (.bool false)], args := [d1, d2] }
  | _ => none }
def BlockSharesWrongFalsely : Prop := blockSharesRow.holds Try.pinned (OpenSpec.ofChange blockSharesWrong)

/-- 'tithebarnlaw12.BlockTight': WHATEVER THE INPUT: true; the input reads as it did. -/
def blockTightSpec : ChangeSpec := { name := "blockTight", fn := fun _ => fun
  | [d] => { results := [.lit (.bool true)], args := [d] }
  | _ => none }
def blockTightRow : OpenClaim := { program := "ytebnllpcagkkbaa", sum := "b4b1c35ee105d10414624a7427fac61caf50b3036cf09f59b2c9eb47229b536c", func := "tithebarn/tithebarnlaw12.BlockTight", spec := "blockTight", apart := false }
def BlockTightSaid : Prop := blockTightRow.holds Try.pinned (OpenSpec.ofChange blockTightSpec)

/-- ITS FALSE NEIGHBOUR: 'it returns false'. Refute it at one input. -/
def blockTightWrong : ChangeSpec := { name := "blockTight", fn := fun _ => fun
  | [d] => { results := [.lit (.bool false)], args := [d] }
  | _ => none }
def BlockTightWrongFalsely : Prop := blockTightRow.holds Try.pinned (OpenSpec.ofChange blockTightWrong)

/-- 'tithebarnlaw12.BlockOpens': WHATEVER THE INPUT: true; the input reads as it did. -/
def blockOpensSpec : ChangeSpec := { name := "blockOpens", fn := fun _ => fun
  | [d] => { results := [.lit (.bool true)], args := [d] }
  | _ => none }
def blockOpensRow : OpenClaim := { program := "ytebnllpcagkkbaa", sum := "b4b1c35ee105d10414624a7427fac61caf50b3036cf09f59b2c9eb47229b536c", func := "tithebarn/tithebarnlaw12.BlockOpens", spec := "blockOpens", apart := false }
def BlockOpensSaid : Prop := blockOpensRow.holds Try.pinned (OpenSpec.ofChange blockOpensSpec)

/-- ITS FALSE NEIGHBOUR: 'it returns false'. Refute it at one input. -/
def blockOpensWrong : ChangeSpec := { name := "blockOpens", fn := fun _ => fun
  | [d] => { results := [.lit (.bool false)], args := [d] }
  | _ => none }
def BlockOpensWrongFalsely : Prop := blockOpensRow.holds Try.pinned (OpenSpec.ofChange blockOpensWrong)

/-- 'tithebarnlaw12.BlockBack': WHATEVER THE INPUT: true; the input reads as it did. -/
def blockBackSpec : ChangeSpec := { name := "blockBack", fn := fun _ => fun
  | [d1, d2] => { results := [.lit (.bool true)], args := [d1, d2] }
  | _ => none }
def blockBackRow : OpenClaim := { program := "ytebnllpcagkkbaa", sum := "b4b1c35ee105d10414624a7427fac61caf50b3036cf09f59b2c9eb47229b536c", func := "tithebarn/tithebarnlaw12.BlockBack", spec := "blockBack", apart := false }
def BlockBackSaid : Prop := blockBackRow.holds Try.pinned (OpenSpec.ofChange blockBackSpec)

/-- ITS FALSE NEIGHBOUR: 'it returns false'. Refute it at one input. -/
def blockBackWrong : ChangeSpec := { name := "blockBack", fn := fun _ => fun
  | [d1, d2] => { results := [.lit (.bool false)], args := [d1, d2] }
  | _ => none }
def BlockBackWrongFalsely : Prop := blockBackRow.holds Try.pinned (OpenSpec.ofChange blockBackWrong)

/-- 'tithebarnlaw12.BlockFinds': WHATEVER THE INPUT: true; the input reads as it did. -/
def blockFindsSpec : ChangeSpec := { name := "blockFinds", fn := fun _ => fun
  | [d1, d2, d3] => { results := [.lit (.bool true)], args := [d1, d2, d3] }
  | _ => none }
def blockFindsRow : OpenClaim := { program := "ytebnllpcagkkbaa", sum := "b4b1c35ee105d10414624a7427fac61caf50b3036cf09f59b2c9eb47229b536c", func := "tithebarn/tithebarnlaw12.BlockFinds", spec := "blockFinds", inPlace := ["internal/bytealg.abigen_runtime_cmpstring"], unfollowed := true, recurses := true, apart := false }
def BlockFindsSaid : Prop := blockFindsRow.holds Try.pinned (OpenSpec.ofChange blockFindsSpec)

/-- ITS FALSE NEIGHBOUR: 'it returns false'. Refute it at one input. -/
def blockFindsWrong : ChangeSpec := { name := "blockFinds", fn := fun _ => fun
  | [d1, d2, d3] => { results := [.lit (.bool false)], args := [d1, d2, d3] }
  | _ => none }
def BlockFindsWrongFalsely : Prop := blockFindsRow.holds Try.pinned (OpenSpec.ofChange blockFindsWrong)

/-- 'tithebarnlaw12.BlockSame': WHATEVER THE INPUT: true; the input reads as it did. -/
def blockSameSpec : ChangeSpec := { name := "blockSame", fn := fun _ => fun
  | [d1, d2, d3] => { results := [.lit (.bool true)], args := [d1, d2, d3] }
  | _ => none }
def blockSameRow : OpenClaim := { program := "ytebnllpcagkkbaa", sum := "b4b1c35ee105d10414624a7427fac61caf50b3036cf09f59b2c9eb47229b536c", func := "tithebarn/tithebarnlaw12.BlockSame", spec := "blockSame", inPlace := ["internal/bytealg.abigen_runtime_cmpstring"], unfollowed := true, recurses := true, apart := false }
def BlockSameSaid : Prop := blockSameRow.holds Try.pinned (OpenSpec.ofChange blockSameSpec)

/-- ITS FALSE NEIGHBOUR: 'it returns false'. Refute it at one input. -/
def blockSameWrong : ChangeSpec := { name := "blockSame", fn := fun _ => fun
  | [d1, d2, d3] => { results := [.lit (.bool false)], args := [d1, d2, d3] }
  | _ => none }
def BlockSameWrongFalsely : Prop := blockSameRow.holds Try.pinned (OpenSpec.ofChange blockSameWrong)

/- THE SECOND FORM. 'bulk': how many values and letters a reading holds, each counted each time it is reached (what is shared counts as often as it is met; a slice's spare places count too). A statement '..UptoSaid' is the law's where the arguments, and the package variables that the reading takes, are together of bulk at most 1048576: NARROWER than '..Said'. Prove '..Said' where nothing that the law and all that it calls make is longer than what came in: it says more and counts as full. Else prove '..UptoSaid'. A law counts once. -/
mutual
def uptoBulk {H : Type} : DataW H → Nat
  | .lit (.string bytes) => bytes.length + 1
  | .lit _ => 1
  | .nil => 1
  | .ptr d => uptoBulk d + 1
  | .slice elems spare => uptoBulkAll elems + uptoBulkAll spare + 1
  | .agg parts => uptoBulkAll parts + 1
  | .iface _ d => uptoBulk d + 1
  | .map entries => uptoBulkEntries entries + 1
  | .held _ => 1
def uptoBulkAll {H : Type} : List (DataW H) → Nat
  | [] => 0
  | d :: r => uptoBulk d + uptoBulkAll r
def uptoBulkEntries {H : Type} : List (Lit × DataW H) → Nat
  | [] => 0
  | x :: r => uptoBulkEntry x + uptoBulkEntries r
def uptoBulkEntry {H : Type} : Lit × DataW H → Nat
  | (.string bytes, d) => bytes.length + uptoBulk d + 1
  | (_, d) => uptoBulk d + 1
 end
def uptoSmall : (H : Type) → List (DataW H) → Bool := fun _ ds => decide (uptoBulkAll ds ≤ 1048576)
def OpenSpec.upto (s : _root_.Go.ChangeSpec) : _root_.Go.OpenSpec := { _root_.Go.OpenSpec.ofChange s with cond := some uptoSmall }

/-- 'tithebarnlaw12.BlockShares', WHERE WHAT IT READS IS OF BULK AT MOST 1048576: true; the input reads as it did. -/
def blockSharesUptoRow : OpenClaim := { program := "ytebnllpcagkkbaa", sum := "b4b1c35ee105d10414624a7427fac61caf50b3036cf09f59b2c9eb47229b536c", func := "tithebarn/tithebarnlaw12.BlockShares", spec := "blockShares", apart := false, narrowed := true }
def BlockSharesUptoSaid : Prop := blockSharesUptoRow.holds Try.pinned (OpenSpec.upto blockSharesSpec)

/-- 'tithebarnlaw12.BlockTight', WHERE WHAT IT READS IS OF BULK AT MOST 1048576: true; the input reads as it did. -/
def blockTightUptoRow : OpenClaim := { program := "ytebnllpcagkkbaa", sum := "b4b1c35ee105d10414624a7427fac61caf50b3036cf09f59b2c9eb47229b536c", func := "tithebarn/tithebarnlaw12.BlockTight", spec := "blockTight", apart := false, narrowed := true }
def BlockTightUptoSaid : Prop := blockTightUptoRow.holds Try.pinned (OpenSpec.upto blockTightSpec)

/-- 'tithebarnlaw12.BlockOpens', WHERE WHAT IT READS IS OF BULK AT MOST 1048576: true; the input reads as it did. -/
def blockOpensUptoRow : OpenClaim := { program := "ytebnllpcagkkbaa", sum := "b4b1c35ee105d10414624a7427fac61caf50b3036cf09f59b2c9eb47229b536c", func := "tithebarn/tithebarnlaw12.BlockOpens", spec := "blockOpens", apart := false, narrowed := true }
def BlockOpensUptoSaid : Prop := blockOpensUptoRow.holds Try.pinned (OpenSpec.upto blockOpensSpec)

/-- 'tithebarnlaw12.BlockBack', WHERE WHAT IT READS IS OF BULK AT MOST 1048576: true; the input reads as it did. -/
def blockBackUptoRow : OpenClaim := { program := "ytebnllpcagkkbaa", sum := "b4b1c35ee105d10414624a7427fac61caf50b3036cf09f59b2c9eb47229b536c", func := "tithebarn/tithebarnlaw12.BlockBack", spec := "blockBack", apart := false, narrowed := true }
def BlockBackUptoSaid : Prop := blockBackUptoRow.holds Try.pinned (OpenSpec.upto blockBackSpec)

/-- 'tithebarnlaw12.BlockFinds', WHERE WHAT IT READS IS OF BULK AT MOST 1048576: true; the input reads as it did. -/
def blockFindsUptoRow : OpenClaim := { program := "ytebnllpcagkkbaa", sum := "b4b1c35ee105d10414624a7427fac61caf50b3036cf09f59b2c9eb47229b536c", func := "tithebarn/tithebarnlaw12.BlockFinds", spec := "blockFinds", inPlace := ["internal/bytealg.abigen_runtime_cmpstring"], unfollowed := true, recurses := true, apart := false, narrowed := true }
def BlockFindsUptoSaid : Prop := blockFindsUptoRow.holds Try.pinned (OpenSpec.upto blockFindsSpec)

/-- 'tithebarnlaw12.BlockSame', WHERE WHAT IT READS IS OF BULK AT MOST 1048576: true; the input reads as it did. -/
def blockSameUptoRow : OpenClaim := { program := "ytebnllpcagkkbaa", sum := "b4b1c35ee105d10414624a7427fac61caf50b3036cf09f59b2c9eb47229b536c", func := "tithebarn/tithebarnlaw12.BlockSame", spec := "blockSame", inPlace := ["internal/bytealg.abigen_runtime_cmpstring"], unfollowed := true, recurses := true, apart := false, narrowed := true }
def BlockSameUptoSaid : Prop := blockSameUptoRow.holds Try.pinned (OpenSpec.upto blockSameSpec)

end Rows
end Go.Proofs.Ytebnllpcagkkbaa
