/-
  No cell of these rows narrows 'for every input' (looked for: loops, veiled, ifaces, maps, wideKeys, modest, calm, conditions, laid).
  DERIVED. THE GIVEN ROWS OF THIS SEAT. 5 by the template 'for every input the law returns true; each argument reads behind the call as it read before'; 0 by the template 'total and deterministic' (their statements: YtcbkjhbneigkaaaTotals.lean).
  GIVEN WITH THE SEED: the statements are not yours to turn. If you find one false, say at which input.
  Laid BY PROGRAM, IN A SANDBOX (cutbox-rows.mjs): the forced cells as the released guide's own fill.sh prints them over the translation 768d6bdea46b44af… (all of the seat's roots in one cut). By AI agents, Wed Nov 11 2026. No macro, syntax, notation, axiom, sorry.
-/
import Derived.Test.YtcbkjhbneigkaaaChecked
import GoSem.Claim
import GoSem.ClaimJoined
import GoSem.ClaimMapViews
import Derived.JoinedTies
import Derived.KernelRfl
namespace Go.Proofs.Ytcbkjhbneigkaaa
/- THE CELL 'sum', in the pinned program and in every row, IS THE sha256 OF THE DUMP (.gsa) THAT YtcbkjhbneigkaaaProg.lean LOADS. Nothing in Lean hashes anything: it is a label: what it is worth is what the hold of that sum in a sandbox is worth. -/
noncomputable def Try.pinned : Pinned := { name := "ytcbkjhbneigkaaa", sum := "768d6bdea46b44afe405ae37e5cf934726faaf2b6f6bbc44561c54697f9a7674", checked := Try.checked }
namespace Rows
def none {H : Type} : Left H := { results := [], args := [] }

/-- 'tithebarnlaw11.MemNewest': WHATEVER THE INPUT: true; the input reads as it did. -/
def memNewestSpec : ChangeSpec := { name := "memNewest", fn := fun _ => fun
  | [d1, d2] => { results := [.lit (.bool true)], args := [d1, d2] }
  | _ => none }
def memNewestRow : OpenClaim := { program := "ytcbkjhbneigkaaa", sum := "768d6bdea46b44afe405ae37e5cf934726faaf2b6f6bbc44561c54697f9a7674", func := "tithebarn/tithebarnlaw11.MemNewest", spec := "memNewest", unfollowed := true, recurses := true, apart := false }
def MemNewestSaid : Prop := memNewestRow.holds Try.pinned (OpenSpec.ofChange memNewestSpec)

/-- ITS FALSE NEIGHBOUR: 'it returns false'. Refute it at one input. -/
def memNewestWrong : ChangeSpec := { name := "memNewest", fn := fun _ => fun
  | [d1, d2] => { results := [.lit (.bool false)], args := [d1, d2] }
  | _ => none }
def MemNewestWrongFalsely : Prop := memNewestRow.holds Try.pinned (OpenSpec.ofChange memNewestWrong)

/-- 'tithebarnlaw11.MemSplit': WHATEVER THE INPUT: true; the input reads as it did. -/
def memSplitSpec : ChangeSpec := { name := "memSplit", fn := fun _ => fun
  | [d1, d2, d3] => { results := [.lit (.bool true)], args := [d1, d2, d3] }
  | _ => none }
def memSplitRow : OpenClaim := { program := "ytcbkjhbneigkaaa", sum := "768d6bdea46b44afe405ae37e5cf934726faaf2b6f6bbc44561c54697f9a7674", func := "tithebarn/tithebarnlaw11.MemSplit", spec := "memSplit", unfollowed := true, recurses := true, apart := false }
def MemSplitSaid : Prop := memSplitRow.holds Try.pinned (OpenSpec.ofChange memSplitSpec)

/-- ITS FALSE NEIGHBOUR: 'it returns false'. Refute it at one input. -/
def memSplitWrong : ChangeSpec := { name := "memSplit", fn := fun _ => fun
  | [d1, d2, d3] => { results := [.lit (.bool false)], args := [d1, d2, d3] }
  | _ => none }
def MemSplitWrongFalsely : Prop := memSplitRow.holds Try.pinned (OpenSpec.ofChange memSplitWrong)

/-- 'tithebarnlaw11.MemDraws': WHATEVER THE INPUT: true; the input reads as it did. -/
def memDrawsSpec : ChangeSpec := { name := "memDraws", fn := fun _ => fun
  | [d1, d2, d3] => { results := [.lit (.bool true)], args := [d1, d2, d3] }
  | _ => none }
def memDrawsRow : OpenClaim := { program := "ytcbkjhbneigkaaa", sum := "768d6bdea46b44afe405ae37e5cf934726faaf2b6f6bbc44561c54697f9a7674", func := "tithebarn/tithebarnlaw11.MemDraws", spec := "memDraws", unfollowed := true, recurses := true, apart := false }
def MemDrawsSaid : Prop := memDrawsRow.holds Try.pinned (OpenSpec.ofChange memDrawsSpec)

/-- ITS FALSE NEIGHBOUR: 'it returns false'. Refute it at one input. -/
def memDrawsWrong : ChangeSpec := { name := "memDraws", fn := fun _ => fun
  | [d1, d2, d3] => { results := [.lit (.bool false)], args := [d1, d2, d3] }
  | _ => none }
def MemDrawsWrongFalsely : Prop := memDrawsRow.holds Try.pinned (OpenSpec.ofChange memDrawsWrong)

/-- 'tithebarnlaw11.MemPlays': WHATEVER THE INPUT: true; the input reads as it did. -/
def memPlaysSpec : ChangeSpec := { name := "memPlays", fn := fun _ => fun
  | [d] => { results := [.lit (.bool true)], args := [d] }
  | _ => none }
def memPlaysRow : OpenClaim := { program := "ytcbkjhbneigkaaa", sum := "768d6bdea46b44afe405ae37e5cf934726faaf2b6f6bbc44561c54697f9a7674", func := "tithebarn/tithebarnlaw11.MemPlays", spec := "memPlays", unfollowed := true, recurses := true, apart := false }
def MemPlaysSaid : Prop := memPlaysRow.holds Try.pinned (OpenSpec.ofChange memPlaysSpec)

/-- ITS FALSE NEIGHBOUR: 'it returns false'. Refute it at one input. -/
def memPlaysWrong : ChangeSpec := { name := "memPlays", fn := fun _ => fun
  | [d] => { results := [.lit (.bool false)], args := [d] }
  | _ => none }
def MemPlaysWrongFalsely : Prop := memPlaysRow.holds Try.pinned (OpenSpec.ofChange memPlaysWrong)

/-- 'tithebarnlaw11.MemUsers': WHATEVER THE INPUT: true; the input reads as it did. -/
def memUsersSpec : ChangeSpec := { name := "memUsers", fn := fun _ => fun
  | [d1, d2] => { results := [.lit (.bool true)], args := [d1, d2] }
  | _ => none }
def memUsersRow : OpenClaim := { program := "ytcbkjhbneigkaaa", sum := "768d6bdea46b44afe405ae37e5cf934726faaf2b6f6bbc44561c54697f9a7674", func := "tithebarn/tithebarnlaw11.MemUsers", spec := "memUsers", unfollowed := true, recurses := true, apart := false }
def MemUsersSaid : Prop := memUsersRow.holds Try.pinned (OpenSpec.ofChange memUsersSpec)

/-- ITS FALSE NEIGHBOUR: 'it returns false'. Refute it at one input. -/
def memUsersWrong : ChangeSpec := { name := "memUsers", fn := fun _ => fun
  | [d1, d2] => { results := [.lit (.bool false)], args := [d1, d2] }
  | _ => none }
def MemUsersWrongFalsely : Prop := memUsersRow.holds Try.pinned (OpenSpec.ofChange memUsersWrong)

/- THE SECOND FORM. 'bulk': how many values and letters a reading holds, each counted each time it is reached (what is shared counts as often as it is met; a slice's spare places count too). A statement '..UptoSaid' is the law's where the arguments, and the package variables that the reading takes, are together of bulk at most 1048576: NARROWER than '..Said'. Prove '..Said' where nothing that the law and all that it calls make is longer than what came in: it says more and counts as full. Else prove '..UptoSaid'. A law counts once. -/
mutual
def uptoBulk {H : Type} : DataW H → Nat
  | .lit (.string bytes) => bytes.length + 1
  | .lit _ => 1
  | .nil => 1
  | .ptr d => uptoBulk d + 1
  | .slice elems spare => uptoBulkAll elems + uptoBulkAll spare + 1
  | .agg parts => uptoBulkAll parts + 1
  | .iface _ d => uptoBulk d + 1
  | .map entries => uptoBulkEntries entries + 1
  | .held _ => 1
def uptoBulkAll {H : Type} : List (DataW H) → Nat
  | [] => 0
  | d :: r => uptoBulk d + uptoBulkAll r
def uptoBulkEntries {H : Type} : List (Lit × DataW H) → Nat
  | [] => 0
  | x :: r => uptoBulkEntry x + uptoBulkEntries r
def uptoBulkEntry {H : Type} : Lit × DataW H → Nat
  | (.string bytes, d) => bytes.length + uptoBulk d + 1
  | (_, d) => uptoBulk d + 1
 end
def uptoSmall : (H : Type) → List (DataW H) → Bool := fun _ ds => decide (uptoBulkAll ds ≤ 1048576)
def OpenSpec.upto (s : _root_.Go.ChangeSpec) : _root_.Go.OpenSpec := { _root_.Go.OpenSpec.ofChange s with cond := some uptoSmall }

/-- 'tithebarnlaw11.MemNewest', WHERE WHAT IT READS IS OF BULK AT MOST 1048576: true; the input reads as it did. -/
def memNewestUptoRow : OpenClaim := { program := "ytcbkjhbneigkaaa", sum := "768d6bdea46b44afe405ae37e5cf934726faaf2b6f6bbc44561c54697f9a7674", func := "tithebarn/tithebarnlaw11.MemNewest", spec := "memNewest", unfollowed := true, recurses := true, apart := false, narrowed := true }
def MemNewestUptoSaid : Prop := memNewestUptoRow.holds Try.pinned (OpenSpec.upto memNewestSpec)

/-- 'tithebarnlaw11.MemSplit', WHERE WHAT IT READS IS OF BULK AT MOST 1048576: true; the input reads as it did. -/
def memSplitUptoRow : OpenClaim := { program := "ytcbkjhbneigkaaa", sum := "768d6bdea46b44afe405ae37e5cf934726faaf2b6f6bbc44561c54697f9a7674", func := "tithebarn/tithebarnlaw11.MemSplit", spec := "memSplit", unfollowed := true, recurses := true, apart := false, narrowed := true }
def MemSplitUptoSaid : Prop := memSplitUptoRow.holds Try.pinned (OpenSpec.upto memSplitSpec)

/-- 'tithebarnlaw11.MemDraws', WHERE WHAT IT READS IS OF BULK AT MOST 1048576: true; the input reads as it did. -/
def memDrawsUptoRow : OpenClaim := { program := "ytcbkjhbneigkaaa", sum := "768d6bdea46b44afe405ae37e5cf934726faaf2b6f6bbc44561c54697f9a7674", func := "tithebarn/tithebarnlaw11.MemDraws", spec := "memDraws", unfollowed := true, recurses := true, apart := false, narrowed := true }
def MemDrawsUptoSaid : Prop := memDrawsUptoRow.holds Try.pinned (OpenSpec.upto memDrawsSpec)

/-- 'tithebarnlaw11.MemPlays', WHERE WHAT IT READS IS OF BULK AT MOST 1048576: true; the input reads as it did. -/
def memPlaysUptoRow : OpenClaim := { program := "ytcbkjhbneigkaaa", sum := "768d6bdea46b44afe405ae37e5cf934726faaf2b6f6bbc44561c54697f9a7674", func := "tithebarn/tithebarnlaw11.MemPlays", spec := "memPlays", unfollowed := true, recurses := true, apart := false, narrowed := true }
def MemPlaysUptoSaid : Prop := memPlaysUptoRow.holds Try.pinned (OpenSpec.upto memPlaysSpec)

/-- 'tithebarnlaw11.MemUsers', WHERE WHAT IT READS IS OF BULK AT MOST 1048576: true; the input reads as it did. -/
def memUsersUptoRow : OpenClaim := { program := "ytcbkjhbneigkaaa", sum := "768d6bdea46b44afe405ae37e5cf934726faaf2b6f6bbc44561c54697f9a7674", func := "tithebarn/tithebarnlaw11.MemUsers", spec := "memUsers", unfollowed := true, recurses := true, apart := false, narrowed := true }
def MemUsersUptoSaid : Prop := memUsersUptoRow.holds Try.pinned (OpenSpec.upto memUsersSpec)

end Rows
end Go.Proofs.Ytcbkjhbneigkaaa
