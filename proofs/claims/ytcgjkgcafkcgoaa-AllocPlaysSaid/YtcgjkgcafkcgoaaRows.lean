/-
  No cell of these rows narrows 'for every input' (looked for: loops, veiled, ifaces, maps, wideKeys, modest, calm, conditions, laid).
  DERIVED. THE GIVEN ROWS OF THIS SEAT. 5 by the template 'for every input the law returns true; each argument reads behind the call as it read before'; 0 by the template 'total and deterministic' (their statements: YtcgjkgcafkcgoaaTotals.lean).
  GIVEN WITH THE SEED: the statements are not yours to turn. If you find one false, say at which input.
  Laid BY PROGRAM, IN A SANDBOX (cutbox-rows.mjs): the forced cells as the released guide's own fill.sh prints them over the translation 8e242606272e3730… (all of the seat's roots in one cut). By AI agents, Wed Nov 11 2026. No macro, syntax, notation, axiom, sorry.
-/
import Derived.Test.YtcgjkgcafkcgoaaChecked
import GoSem.Claim
import GoSem.ClaimJoined
import GoSem.ClaimMapViews
import Derived.JoinedTies
import Derived.KernelRfl
namespace Go.Proofs.Ytcgjkgcafkcgoaa
/- THE CELL 'sum', in the pinned program and in every row, IS THE sha256 OF THE DUMP (.gsa) THAT YtcgjkgcafkcgoaaProg.lean LOADS. Nothing in Lean hashes anything: it is a label: what it is worth is what the hold of that sum in a sandbox is worth. -/
noncomputable def Try.pinned : Pinned := { name := "ytcgjkgcafkcgoaa", sum := "8e242606272e3730348ce18199e33468811fa3882932fcee0f208eefcbc0c2f6", checked := Try.checked }
namespace Rows
def none {H : Type} : Left H := { results := [], args := [] }

/-- 'tithebarnlaw08.AllocLowest': WHATEVER THE INPUT: true; the input reads as it did. -/
def allocLowestSpec : ChangeSpec := { name := "allocLowest", fn := fun _ => fun
  | [d1, d2, d3] => { results := [.lit (.bool true)], args := [d1, d2, d3] }
  | _ => none }
def allocLowestRow : OpenClaim := { program := "ytcgjkgcafkcgoaa", sum := "8e242606272e3730348ce18199e33468811fa3882932fcee0f208eefcbc0c2f6", func := "tithebarn/tithebarnlaw08.AllocLowest", spec := "allocLowest", unfollowed := true, recurses := true, apart := false }
def AllocLowestSaid : Prop := allocLowestRow.holds Try.pinned (OpenSpec.ofChange allocLowestSpec)

/-- ITS FALSE NEIGHBOUR: 'it returns false'. Refute it at one input. -/
def allocLowestWrong : ChangeSpec := { name := "allocLowest", fn := fun _ => fun
  | [d1, d2, d3] => { results := [.lit (.bool false)], args := [d1, d2, d3] }
  | _ => none }
def AllocLowestWrongFalsely : Prop := allocLowestRow.holds Try.pinned (OpenSpec.ofChange allocLowestWrong)

/-- 'tithebarnlaw08.AllocTurns': WHATEVER THE INPUT: true; the input reads as it did. -/
def allocTurnsSpec : ChangeSpec := { name := "allocTurns", fn := fun _ => fun
  | [d1, d2] => { results := [.lit (.bool true)], args := [d1, d2] }
  | _ => none }
def allocTurnsRow : OpenClaim := { program := "ytcgjkgcafkcgoaa", sum := "8e242606272e3730348ce18199e33468811fa3882932fcee0f208eefcbc0c2f6", func := "tithebarn/tithebarnlaw08.AllocTurns", spec := "allocTurns", unfollowed := true, recurses := true, apart := false }
def AllocTurnsSaid : Prop := allocTurnsRow.holds Try.pinned (OpenSpec.ofChange allocTurnsSpec)

/-- ITS FALSE NEIGHBOUR: 'it returns false'. Refute it at one input. -/
def allocTurnsWrong : ChangeSpec := { name := "allocTurns", fn := fun _ => fun
  | [d1, d2] => { results := [.lit (.bool false)], args := [d1, d2] }
  | _ => none }
def AllocTurnsWrongFalsely : Prop := allocTurnsRow.holds Try.pinned (OpenSpec.ofChange allocTurnsWrong)

/-- 'tithebarnlaw08.AllocOne': WHATEVER THE INPUT: true; the input reads as it did. -/
def allocOneSpec : ChangeSpec := { name := "allocOne", fn := fun _ => fun
  | [d1, d2] => { results := [.lit (.bool true)], args := [d1, d2] }
  | _ => none }
def allocOneRow : OpenClaim := { program := "ytcgjkgcafkcgoaa", sum := "8e242606272e3730348ce18199e33468811fa3882932fcee0f208eefcbc0c2f6", func := "tithebarn/tithebarnlaw08.AllocOne", spec := "allocOne", unfollowed := true, recurses := true, apart := false }
def AllocOneSaid : Prop := allocOneRow.holds Try.pinned (OpenSpec.ofChange allocOneSpec)

/-- ITS FALSE NEIGHBOUR: 'it returns false'. Refute it at one input. -/
def allocOneWrong : ChangeSpec := { name := "allocOne", fn := fun _ => fun
  | [d1, d2] => { results := [.lit (.bool false)], args := [d1, d2] }
  | _ => none }
def AllocOneWrongFalsely : Prop := allocOneRow.holds Try.pinned (OpenSpec.ofChange allocOneWrong)

/-- 'tithebarnlaw08.AllocRebuilds': WHATEVER THE INPUT: true; the input reads as it did. -/
def allocRebuildsSpec : ChangeSpec := { name := "allocRebuilds", fn := fun _ => fun
  | [d1, d2, d3] => { results := [.lit (.bool true)], args := [d1, d2, d3] }
  | _ => none }
def allocRebuildsRow : OpenClaim := { program := "ytcgjkgcafkcgoaa", sum := "8e242606272e3730348ce18199e33468811fa3882932fcee0f208eefcbc0c2f6", func := "tithebarn/tithebarnlaw08.AllocRebuilds", spec := "allocRebuilds", unfollowed := true, recurses := true, apart := false }
def AllocRebuildsSaid : Prop := allocRebuildsRow.holds Try.pinned (OpenSpec.ofChange allocRebuildsSpec)

/-- ITS FALSE NEIGHBOUR: 'it returns false'. Refute it at one input. -/
def allocRebuildsWrong : ChangeSpec := { name := "allocRebuilds", fn := fun _ => fun
  | [d1, d2, d3] => { results := [.lit (.bool false)], args := [d1, d2, d3] }
  | _ => none }
def AllocRebuildsWrongFalsely : Prop := allocRebuildsRow.holds Try.pinned (OpenSpec.ofChange allocRebuildsWrong)

/-- 'tithebarnlaw08.AllocPlays': WHATEVER THE INPUT: true; the input reads as it did. -/
def allocPlaysSpec : ChangeSpec := { name := "allocPlays", fn := fun _ => fun
  | [d1, d2] => { results := [.lit (.bool true)], args := [d1, d2] }
  | _ => none }
def allocPlaysRow : OpenClaim := { program := "ytcgjkgcafkcgoaa", sum := "8e242606272e3730348ce18199e33468811fa3882932fcee0f208eefcbc0c2f6", func := "tithebarn/tithebarnlaw08.AllocPlays", spec := "allocPlays", unfollowed := true, recurses := true, apart := false }
def AllocPlaysSaid : Prop := allocPlaysRow.holds Try.pinned (OpenSpec.ofChange allocPlaysSpec)

/-- ITS FALSE NEIGHBOUR: 'it returns false'. Refute it at one input. -/
def allocPlaysWrong : ChangeSpec := { name := "allocPlays", fn := fun _ => fun
  | [d1, d2] => { results := [.lit (.bool false)], args := [d1, d2] }
  | _ => none }
def AllocPlaysWrongFalsely : Prop := allocPlaysRow.holds Try.pinned (OpenSpec.ofChange allocPlaysWrong)

/- THE SECOND FORM. 'bulk': how many values and letters a reading holds, each counted each time it is reached (what is shared counts as often as it is met; a slice's spare places count too). A statement '..UptoSaid' is the law's where the arguments, and the package variables that the reading takes, are together of bulk at most 1048576: NARROWER than '..Said'. Prove '..Said' where nothing that the law and all that it calls make is longer than what came in: it says more and counts as full. Else prove '..UptoSaid'. A law counts once. -/
mutual
def uptoBulk {H : Type} : DataW H → Nat
  | .lit (.string bytes) => bytes.length + 1
  | .lit _ => 1
  | .nil => 1
  | .ptr d => uptoBulk d + 1
  | .slice elems spare => uptoBulkAll elems + uptoBulkAll spare + 1
  | .agg parts => uptoBulkAll parts + 1
  | .iface _ d => uptoBulk d + 1
  | .map entries => uptoBulkEntries entries + 1
  | .held _ => 1
def uptoBulkAll {H : Type} : List (DataW H) → Nat
  | [] => 0
  | d :: r => uptoBulk d + uptoBulkAll r
def uptoBulkEntries {H : Type} : List (Lit × DataW H) → Nat
  | [] => 0
  | x :: r => uptoBulkEntry x + uptoBulkEntries r
def uptoBulkEntry {H : Type} : Lit × DataW H → Nat
  | (.string bytes, d) => bytes.length + uptoBulk d + 1
  | (_, d) => uptoBulk d + 1
 end
def uptoSmall : (H : Type) → List (DataW H) → Bool := fun _ ds => decide (uptoBulkAll ds ≤ 1048576)
def OpenSpec.upto (s : _root_.Go.ChangeSpec) : _root_.Go.OpenSpec := { _root_.Go.OpenSpec.ofChange s with cond := some uptoSmall }

/-- 'tithebarnlaw08.AllocLowest', WHERE WHAT IT READS IS OF BULK AT MOST 1048576: true; the input reads as it did. -/
def allocLowestUptoRow : OpenClaim := { program := "ytcgjkgcafkcgoaa", sum := "8e242606272e3730348ce18199e33468811fa3882932fcee0f208eefcbc0c2f6", func := "tithebarn/tithebarnlaw08.AllocLowest", spec := "allocLowest", unfollowed := true, recurses := true, apart := false, narrowed := true }
def AllocLowestUptoSaid : Prop := allocLowestUptoRow.holds Try.pinned (OpenSpec.upto allocLowestSpec)

/-- 'tithebarnlaw08.AllocTurns', WHERE WHAT IT READS IS OF BULK AT MOST 1048576: true; the input reads as it did. -/
def allocTurnsUptoRow : OpenClaim := { program := "ytcgjkgcafkcgoaa", sum := "8e242606272e3730348ce18199e33468811fa3882932fcee0f208eefcbc0c2f6", func := "tithebarn/tithebarnlaw08.AllocTurns", spec := "allocTurns", unfollowed := true, recurses := true, apart := false, narrowed := true }
def AllocTurnsUptoSaid : Prop := allocTurnsUptoRow.holds Try.pinned (OpenSpec.upto allocTurnsSpec)

/-- 'tithebarnlaw08.AllocOne', WHERE WHAT IT READS IS OF BULK AT MOST 1048576: true; the input reads as it did. -/
def allocOneUptoRow : OpenClaim := { program := "ytcgjkgcafkcgoaa", sum := "8e242606272e3730348ce18199e33468811fa3882932fcee0f208eefcbc0c2f6", func := "tithebarn/tithebarnlaw08.AllocOne", spec := "allocOne", unfollowed := true, recurses := true, apart := false, narrowed := true }
def AllocOneUptoSaid : Prop := allocOneUptoRow.holds Try.pinned (OpenSpec.upto allocOneSpec)

/-- 'tithebarnlaw08.AllocRebuilds', WHERE WHAT IT READS IS OF BULK AT MOST 1048576: true; the input reads as it did. -/
def allocRebuildsUptoRow : OpenClaim := { program := "ytcgjkgcafkcgoaa", sum := "8e242606272e3730348ce18199e33468811fa3882932fcee0f208eefcbc0c2f6", func := "tithebarn/tithebarnlaw08.AllocRebuilds", spec := "allocRebuilds", unfollowed := true, recurses := true, apart := false, narrowed := true }
def AllocRebuildsUptoSaid : Prop := allocRebuildsUptoRow.holds Try.pinned (OpenSpec.upto allocRebuildsSpec)

/-- 'tithebarnlaw08.AllocPlays', WHERE WHAT IT READS IS OF BULK AT MOST 1048576: true; the input reads as it did. -/
def allocPlaysUptoRow : OpenClaim := { program := "ytcgjkgcafkcgoaa", sum := "8e242606272e3730348ce18199e33468811fa3882932fcee0f208eefcbc0c2f6", func := "tithebarn/tithebarnlaw08.AllocPlays", spec := "allocPlays", unfollowed := true, recurses := true, apart := false, narrowed := true }
def AllocPlaysUptoSaid : Prop := allocPlaysUptoRow.holds Try.pinned (OpenSpec.upto allocPlaysSpec)

end Rows
end Go.Proofs.Ytcgjkgcafkcgoaa
