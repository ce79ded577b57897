/-
  No cell of these rows narrows 'for every input' (looked for: loops, veiled, ifaces, maps, wideKeys, modest, calm, conditions, laid).
  DERIVED. THE GIVEN ROWS OF THIS SEAT. 6 by the template 'for every input the law returns true; each argument reads behind the call as it read before'; 0 by the template 'total and deterministic' (their statements: YtmgifejmheoddaaTotals.lean).
  GIVEN WITH THE SEED: the statements are not yours to turn. If you find one false, say at which input.
  Laid BY PROGRAM, IN A SANDBOX (cutbox-rows.mjs): the forced cells as the released guide's own fill.sh prints them over the translation 7944f2640eef51b7… (all of the seat's roots in one cut). By AI agents, Wed Nov 11 2026. No macro, syntax, notation, axiom, sorry.
-/
import Derived.Test.YtmgifejmheoddaaChecked
import GoSem.Claim
import GoSem.ClaimJoined
import GoSem.ClaimMapViews
import Derived.JoinedTies
import Derived.KernelRfl
namespace Go.Proofs.Ytmgifejmheoddaa
/- THE CELL 'sum', in the pinned program and in every row, IS THE sha256 OF THE DUMP (.gsa) THAT YtmgifejmheoddaaProg.lean LOADS. Nothing in Lean hashes anything: it is a label: what it is worth is what the hold of that sum in a sandbox is worth. -/
noncomputable def Try.pinned : Pinned := { name := "ytmgifejmheoddaa", sum := "7944f2640eef51b7bae4fe1253e11596f9624b7c106524f2df83b084259cfb12", checked := Try.checked }
namespace Rows
def none {H : Type} : Left H := { results := [], args := [] }

/-- 'tithebarnlaw10.BatchSizes': WHATEVER THE INPUT: true; the input reads as it did. -/
def batchSizesSpec : ChangeSpec := { name := "batchSizes", fn := fun _ => fun
  | [d1, d2] => { results := [.lit (.bool true)], args := [d1, d2] }
  | _ => none }
def batchSizesRow : OpenClaim := { program := "ytmgifejmheoddaa", sum := "7944f2640eef51b7bae4fe1253e11596f9624b7c106524f2df83b084259cfb12", func := "tithebarn/tithebarnlaw10.BatchSizes", spec := "batchSizes", unfollowed := true, recurses := true, apart := false }
def BatchSizesSaid : Prop := batchSizesRow.holds Try.pinned (OpenSpec.ofChange batchSizesSpec)

/-- ITS FALSE NEIGHBOUR: 'it returns false'. Refute it at one input. -/
def batchSizesWrong : ChangeSpec := { name := "batchSizes", fn := fun _ => fun
  | [d1, d2] => { results := [.lit (.bool false)], args := [d1, d2] }
  | _ => none }
def BatchSizesWrongFalsely : Prop := batchSizesRow.holds Try.pinned (OpenSpec.ofChange batchSizesWrong)

/-- 'tithebarnlaw10.BatchKeys': WHATEVER THE INPUT: true; the input reads as it did. -/
def batchKeysSpec : ChangeSpec := { name := "batchKeys", fn := fun _ => fun
  | [d] => { results := [.lit (.bool true)], args := [d] }
  | _ => none }
def batchKeysRow : OpenClaim := { program := "ytmgifejmheoddaa", sum := "7944f2640eef51b7bae4fe1253e11596f9624b7c106524f2df83b084259cfb12", func := "tithebarn/tithebarnlaw10.BatchKeys", spec := "batchKeys", unfollowed := true, recurses := true, apart := false }
def BatchKeysSaid : Prop := batchKeysRow.holds Try.pinned (OpenSpec.ofChange batchKeysSpec)

/-- ITS FALSE NEIGHBOUR: 'it returns false'. Refute it at one input. -/
def batchKeysWrong : ChangeSpec := { name := "batchKeys", fn := fun _ => fun
  | [d] => { results := [.lit (.bool false)], args := [d] }
  | _ => none }
def BatchKeysWrongFalsely : Prop := batchKeysRow.holds Try.pinned (OpenSpec.ofChange batchKeysWrong)

/-- 'tithebarnlaw10.BatchFinds': WHATEVER THE INPUT: true; the input reads as it did. -/
def batchFindsSpec : ChangeSpec := { name := "batchFinds", fn := fun _ => fun
  | [d1, d2] => { results := [.lit (.bool true)], args := [d1, d2] }
  | _ => none }
def batchFindsRow : OpenClaim := { program := "ytmgifejmheoddaa", sum := "7944f2640eef51b7bae4fe1253e11596f9624b7c106524f2df83b084259cfb12", func := "tithebarn/tithebarnlaw10.BatchFinds", spec := "batchFinds", unfollowed := true, recurses := true, apart := false }
def BatchFindsSaid : Prop := batchFindsRow.holds Try.pinned (OpenSpec.ofChange batchFindsSpec)

/-- ITS FALSE NEIGHBOUR: 'it returns false'. Refute it at one input. -/
def batchFindsWrong : ChangeSpec := { name := "batchFinds", fn := fun _ => fun
  | [d1, d2] => { results := [.lit (.bool false)], args := [d1, d2] }
  | _ => none }
def BatchFindsWrongFalsely : Prop := batchFindsRow.holds Try.pinned (OpenSpec.ofChange batchFindsWrong)

/-- 'tithebarnlaw10.BatchChecks': WHATEVER THE INPUT: true; the input reads as it did. -/
def batchChecksSpec : ChangeSpec := { name := "batchChecks", fn := fun _ => fun
  | [d] => { results := [.lit (.bool true)], args := [d] }
  | _ => none }
def batchChecksRow : OpenClaim := { program := "ytmgifejmheoddaa", sum := "7944f2640eef51b7bae4fe1253e11596f9624b7c106524f2df83b084259cfb12", func := "tithebarn/tithebarnlaw10.BatchChecks", spec := "batchChecks", unfollowed := true, recurses := true, apart := false }
def BatchChecksSaid : Prop := batchChecksRow.holds Try.pinned (OpenSpec.ofChange batchChecksSpec)

/-- ITS FALSE NEIGHBOUR: 'it returns false'. Refute it at one input. -/
def batchChecksWrong : ChangeSpec := { name := "batchChecks", fn := fun _ => fun
  | [d] => { results := [.lit (.bool false)], args := [d] }
  | _ => none }
def BatchChecksWrongFalsely : Prop := batchChecksRow.holds Try.pinned (OpenSpec.ofChange batchChecksWrong)

/-- 'tithebarnlaw10.BatchParses': WHATEVER THE INPUT: true; the input reads as it did. -/
def batchParsesSpec : ChangeSpec := { name := "batchParses", fn := fun _ => fun
  | [d] => { results := [.lit (.bool true)], args := [d] }
  | _ => none }
def batchParsesRow : OpenClaim := { program := "ytmgifejmheoddaa", sum := "7944f2640eef51b7bae4fe1253e11596f9624b7c106524f2df83b084259cfb12", func := "tithebarn/tithebarnlaw10.BatchParses", spec := "batchParses", unfollowed := true, recurses := true, apart := false }
def BatchParsesSaid : Prop := batchParsesRow.holds Try.pinned (OpenSpec.ofChange batchParsesSpec)

/-- ITS FALSE NEIGHBOUR: 'it returns false'. Refute it at one input. -/
def batchParsesWrong : ChangeSpec := { name := "batchParses", fn := fun _ => fun
  | [d] => { results := [.lit (.bool false)], args := [d] }
  | _ => none }
def BatchParsesWrongFalsely : Prop := batchParsesRow.holds Try.pinned (OpenSpec.ofChange batchParsesWrong)

/-- 'tithebarnlaw10.BatchOwn': WHATEVER THE INPUT: true; the input reads as it did. -/
def batchOwnSpec : ChangeSpec := { name := "batchOwn", fn := fun _ => fun
  | [d] => { results := [.lit (.bool true)], args := [d] }
  | _ => none }
def batchOwnRow : OpenClaim := { program := "ytmgifejmheoddaa", sum := "7944f2640eef51b7bae4fe1253e11596f9624b7c106524f2df83b084259cfb12", func := "tithebarn/tithebarnlaw10.BatchOwn", spec := "batchOwn", unfollowed := true, recurses := true, apart := false }
def BatchOwnSaid : Prop := batchOwnRow.holds Try.pinned (OpenSpec.ofChange batchOwnSpec)

/-- ITS FALSE NEIGHBOUR: 'it returns false'. Refute it at one input. -/
def batchOwnWrong : ChangeSpec := { name := "batchOwn", fn := fun _ => fun
  | [d] => { results := [.lit (.bool false)], args := [d] }
  | _ => none }
def BatchOwnWrongFalsely : Prop := batchOwnRow.holds Try.pinned (OpenSpec.ofChange batchOwnWrong)

/- THE SECOND FORM. 'bulk': how many values and letters a reading holds, each counted each time it is reached (what is shared counts as often as it is met; a slice's spare places count too). A statement '..UptoSaid' is the law's where the arguments, and the package variables that the reading takes, are together of bulk at most 1048576: NARROWER than '..Said'. Prove '..Said' where nothing that the law and all that it calls make is longer than what came in: it says more and counts as full. Else prove '..UptoSaid'. A law counts once. -/
mutual
def uptoBulk {H : Type} : DataW H → Nat
  | .lit (.string bytes) => bytes.length + 1
  | .lit _ => 1
  | .nil => 1
  | .ptr d => uptoBulk d + 1
  | .slice elems spare => uptoBulkAll elems + uptoBulkAll spare + 1
  | .agg parts => uptoBulkAll parts + 1
  | .iface _ d => uptoBulk d + 1
  | .map entries => uptoBulkEntries entries + 1
  | .held _ => 1
def uptoBulkAll {H : Type} : List (DataW H) → Nat
  | [] => 0
  | d :: r => uptoBulk d + uptoBulkAll r
def uptoBulkEntries {H : Type} : List (Lit × DataW H) → Nat
  | [] => 0
  | x :: r => uptoBulkEntry x + uptoBulkEntries r
def uptoBulkEntry {H : Type} : Lit × DataW H → Nat
  | (.string bytes, d) => bytes.length + uptoBulk d + 1
  | (_, d) => uptoBulk d + 1
 end
def uptoSmall : (H : Type) → List (DataW H) → Bool := fun _ ds => decide (uptoBulkAll ds ≤ 1048576)
def OpenSpec.upto (s : _root_.Go.ChangeSpec) : _root_.Go.OpenSpec := { _root_.Go.OpenSpec.ofChange s with cond := some uptoSmall }

/-- 'tithebarnlaw10.BatchSizes', WHERE WHAT IT READS IS OF BULK AT MOST 1048576: true; the input reads as it did. -/
def batchSizesUptoRow : OpenClaim := { program := "ytmgifejmheoddaa", sum := "7944f2640eef51b7bae4fe1253e11596f9624b7c106524f2df83b084259cfb12", func := "tithebarn/tithebarnlaw10.BatchSizes", spec := "batchSizes", unfollowed := true, recurses := true, apart := false, narrowed := true }
def BatchSizesUptoSaid : Prop := batchSizesUptoRow.holds Try.pinned (OpenSpec.upto batchSizesSpec)

/-- 'tithebarnlaw10.BatchKeys', WHERE WHAT IT READS IS OF BULK AT MOST 1048576: true; the input reads as it did. -/
def batchKeysUptoRow : OpenClaim := { program := "ytmgifejmheoddaa", sum := "7944f2640eef51b7bae4fe1253e11596f9624b7c106524f2df83b084259cfb12", func := "tithebarn/tithebarnlaw10.BatchKeys", spec := "batchKeys", unfollowed := true, recurses := true, apart := false, narrowed := true }
def BatchKeysUptoSaid : Prop := batchKeysUptoRow.holds Try.pinned (OpenSpec.upto batchKeysSpec)

/-- 'tithebarnlaw10.BatchFinds', WHERE WHAT IT READS IS OF BULK AT MOST 1048576: true; the input reads as it did. -/
def batchFindsUptoRow : OpenClaim := { program := "ytmgifejmheoddaa", sum := "7944f2640eef51b7bae4fe1253e11596f9624b7c106524f2df83b084259cfb12", func := "tithebarn/tithebarnlaw10.BatchFinds", spec := "batchFinds", unfollowed := true, recurses := true, apart := false, narrowed := true }
def BatchFindsUptoSaid : Prop := batchFindsUptoRow.holds Try.pinned (OpenSpec.upto batchFindsSpec)

/-- 'tithebarnlaw10.BatchChecks', WHERE WHAT IT READS IS OF BULK AT MOST 1048576: true; the input reads as it did. -/
def batchChecksUptoRow : OpenClaim := { program := "ytmgifejmheoddaa", sum := "7944f2640eef51b7bae4fe1253e11596f9624b7c106524f2df83b084259cfb12", func := "tithebarn/tithebarnlaw10.BatchChecks", spec := "batchChecks", unfollowed := true, recurses := true, apart := false, narrowed := true }
def BatchChecksUptoSaid : Prop := batchChecksUptoRow.holds Try.pinned (OpenSpec.upto batchChecksSpec)

/-- 'tithebarnlaw10.BatchParses', WHERE WHAT IT READS IS OF BULK AT MOST 1048576: true; the input reads as it did. -/
def batchParsesUptoRow : OpenClaim := { program := "ytmgifejmheoddaa", sum := "7944f2640eef51b7bae4fe1253e11596f9624b7c106524f2df83b084259cfb12", func := "tithebarn/tithebarnlaw10.BatchParses", spec := "batchParses", unfollowed := true, recurses := true, apart := false, narrowed := true }
def BatchParsesUptoSaid : Prop := batchParsesUptoRow.holds Try.pinned (OpenSpec.upto batchParsesSpec)

/-- 'tithebarnlaw10.BatchOwn', WHERE WHAT IT READS IS OF BULK AT MOST 1048576: true; the input reads as it did. -/
def batchOwnUptoRow : OpenClaim := { program := "ytmgifejmheoddaa", sum := "7944f2640eef51b7bae4fe1253e11596f9624b7c106524f2df83b084259cfb12", func := "tithebarn/tithebarnlaw10.BatchOwn", spec := "batchOwn", unfollowed := true, recurses := true, apart := false, narrowed := true }
def BatchOwnUptoSaid : Prop := batchOwnUptoRow.holds Try.pinned (OpenSpec.upto batchOwnSpec)

end Rows
end Go.Proofs.Ytmgifejmheoddaa
