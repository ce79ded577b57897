/-
  No cell of these rows narrows 'for every input' (looked for: loops, veiled, ifaces, maps, wideKeys, modest, calm, conditions, laid).
  DERIVED. THE GIVEN ROWS OF THIS SEAT. 7 by the template 'for every input the law returns true; each argument reads behind the call as it read before'; 0 by the template 'total and deterministic' (their statements: YtpnfpgjmpcnnnaaTotals.lean).
  GIVEN WITH THE SEED: the statements are not yours to turn. If you find one false, say at which input.
  Laid BY PROGRAM, IN A SANDBOX (cutbox-rows.mjs): the forced cells as the released guide's own fill.sh prints them over the translation d74fb1ba23da51ae… (all of the seat's roots in one cut). By AI agents, Wed Nov 11 2026. No macro, syntax, notation, axiom, sorry.
-/
import Derived.Test.YtpnfpgjmpcnnnaaChecked
import GoSem.Claim
import GoSem.ClaimJoined
import GoSem.ClaimMapViews
import Derived.JoinedTies
import Derived.KernelRfl
namespace Go.Proofs.Ytpnfpgjmpcnnnaa
/- THE CELL 'sum', in the pinned program and in every row, IS THE sha256 OF THE DUMP (.gsa) THAT YtpnfpgjmpcnnnaaProg.lean LOADS. Nothing in Lean hashes anything: it is a label: what it is worth is what the hold of that sum in a sandbox is worth. -/
noncomputable def Try.pinned : Pinned := { name := "ytpnfpgjmpcnnnaa", sum := "d74fb1ba23da51aea991e968446c395df12198b9cda6b2984b51407e1ddf9ff3", checked := Try.checked }
namespace Rows
def none {H : Type} : Left H := { results := [], args := [] }

/-- 'tithebarnlaw03.IkeyThree': WHATEVER THE INPUT: true; the input reads as it did. -/
def ikeyThreeSpec : ChangeSpec := { name := "ikeyThree", fn := fun _ => fun
  | [d1, d2, d3] => { results := [.lit (.bool true)], args := [d1, d2, d3] }
  | _ => none }
def ikeyThreeRow : OpenClaim := { program := "ytpnfpgjmpcnnnaa", sum := "d74fb1ba23da51aea991e968446c395df12198b9cda6b2984b51407e1ddf9ff3", func := "tithebarn/tithebarnlaw03.IkeyThree", spec := "ikeyThree", inPlace := ["internal/bytealg.abigen_runtime_cmpstring"], apart := false }
def IkeyThreeSaid : Prop := ikeyThreeRow.holds Try.pinned (OpenSpec.ofChange ikeyThreeSpec)

/-- ITS FALSE NEIGHBOUR: 'it returns false'. Refute it at one input. -/
def ikeyThreeWrong : ChangeSpec := { name := "ikeyThree", fn := fun _ => fun
  | [d1, d2, d3] => { results := [.lit (.bool false)], args := [d1, d2, d3] }
  | _ => none }
def IkeyThreeWrongFalsely : Prop := ikeyThreeRow.holds Try.pinned (OpenSpec.ofChange ikeyThreeWrong)

/-- 'tithebarnlaw03.IkeySeeks': WHATEVER THE INPUT: true; the input reads as it did. -/
def ikeySeeksSpec : ChangeSpec := { name := "ikeySeeks", fn := fun _ => fun
  | [d1, d2] => { results := [.lit (.bool true)], args := [d1, d2] }
  | _ => none }
def ikeySeeksRow : OpenClaim := { program := "ytpnfpgjmpcnnnaa", sum := "d74fb1ba23da51aea991e968446c395df12198b9cda6b2984b51407e1ddf9ff3", func := "tithebarn/tithebarnlaw03.IkeySeeks", spec := "ikeySeeks", inPlace := ["internal/bytealg.abigen_runtime_cmpstring"], apart := false }
def IkeySeeksSaid : Prop := ikeySeeksRow.holds Try.pinned (OpenSpec.ofChange ikeySeeksSpec)

/-- ITS FALSE NEIGHBOUR: 'it returns false'. Refute it at one input. -/
def ikeySeeksWrong : ChangeSpec := { name := "ikeySeeks", fn := fun _ => fun
  | [d1, d2] => { results := [.lit (.bool false)], args := [d1, d2] }
  | _ => none }
def IkeySeeksWrongFalsely : Prop := ikeySeeksRow.holds Try.pinned (OpenSpec.ofChange ikeySeeksWrong)

/-- 'tithebarnlaw03.IkeyOrders': WHATEVER THE INPUT: true; the input reads as it did. -/
def ikeyOrdersSpec : ChangeSpec := { name := "ikeyOrders", fn := fun _ => fun
  | [d1, d2] => { results := [.lit (.bool true)], args := [d1, d2] }
  | _ => none }
def ikeyOrdersRow : OpenClaim := { program := "ytpnfpgjmpcnnnaa", sum := "d74fb1ba23da51aea991e968446c395df12198b9cda6b2984b51407e1ddf9ff3", func := "tithebarn/tithebarnlaw03.IkeyOrders", spec := "ikeyOrders", inPlace := ["internal/bytealg.abigen_runtime_cmpstring", "internal/bytealg.Compare"], apart := false }
def IkeyOrdersSaid : Prop := ikeyOrdersRow.holds Try.pinned (OpenSpec.ofChange ikeyOrdersSpec)

/-- ITS FALSE NEIGHBOUR: 'it returns false'. Refute it at one input. -/
def ikeyOrdersWrong : ChangeSpec := { name := "ikeyOrders", fn := fun _ => fun
  | [d1, d2] => { results := [.lit (.bool false)], args := [d1, d2] }
  | _ => none }
def IkeyOrdersWrongFalsely : Prop := ikeyOrdersRow.holds Try.pinned (OpenSpec.ofChange ikeyOrdersWrong)

/-- 'tithebarnlaw03.IkeyLess': WHATEVER THE INPUT: true; the input reads as it did. -/
def ikeyLessSpec : ChangeSpec := { name := "ikeyLess", fn := fun _ => fun
  | [d1, d2, d3] => { results := [.lit (.bool true)], args := [d1, d2, d3] }
  | _ => none }
def ikeyLessRow : OpenClaim := { program := "ytpnfpgjmpcnnnaa", sum := "d74fb1ba23da51aea991e968446c395df12198b9cda6b2984b51407e1ddf9ff3", func := "tithebarn/tithebarnlaw03.IkeyLess", spec := "ikeyLess", inPlace := ["internal/bytealg.abigen_runtime_cmpstring", "internal/bytealg.Compare"], apart := false }
def IkeyLessSaid : Prop := ikeyLessRow.holds Try.pinned (OpenSpec.ofChange ikeyLessSpec)

/-- ITS FALSE NEIGHBOUR: 'it returns false'. Refute it at one input. -/
def ikeyLessWrong : ChangeSpec := { name := "ikeyLess", fn := fun _ => fun
  | [d1, d2, d3] => { results := [.lit (.bool false)], args := [d1, d2, d3] }
  | _ => none }
def IkeyLessWrongFalsely : Prop := ikeyLessRow.holds Try.pinned (OpenSpec.ofChange ikeyLessWrong)

/-- 'tithebarnlaw03.IkeyApart': WHATEVER THE INPUT: true; the input reads as it did. -/
def ikeyApartSpec : ChangeSpec := { name := "ikeyApart", fn := fun _ => fun
  | [d1, d2, d3] => { results := [.lit (.bool true)], args := [d1, d2, d3] }
  | _ => none }
def ikeyApartRow : OpenClaim := { program := "ytpnfpgjmpcnnnaa", sum := "d74fb1ba23da51aea991e968446c395df12198b9cda6b2984b51407e1ddf9ff3", func := "tithebarn/tithebarnlaw03.IkeyApart", spec := "ikeyApart", inPlace := ["internal/bytealg.abigen_runtime_cmpstring", "internal/bytealg.Compare"], apart := false }
def IkeyApartSaid : Prop := ikeyApartRow.holds Try.pinned (OpenSpec.ofChange ikeyApartSpec)

/-- ITS FALSE NEIGHBOUR: 'it returns false'. Refute it at one input. -/
def ikeyApartWrong : ChangeSpec := { name := "ikeyApart", fn := fun _ => fun
  | [d1, d2, d3] => { results := [.lit (.bool false)], args := [d1, d2, d3] }
  | _ => none }
def IkeyApartWrongFalsely : Prop := ikeyApartRow.holds Try.pinned (OpenSpec.ofChange ikeyApartWrong)

/-- 'tithebarnlaw03.IkeyChecks': WHATEVER THE INPUT: true; the input reads as it did. -/
def ikeyChecksSpec : ChangeSpec := { name := "ikeyChecks", fn := fun _ => fun
  | [d] => { results := [.lit (.bool true)], args := [d] }
  | _ => none }
def ikeyChecksRow : OpenClaim := { program := "ytpnfpgjmpcnnnaa", sum := "d74fb1ba23da51aea991e968446c395df12198b9cda6b2984b51407e1ddf9ff3", func := "tithebarn/tithebarnlaw03.IkeyChecks", spec := "ikeyChecks", inPlace := ["internal/bytealg.abigen_runtime_cmpstring"], apart := false }
def IkeyChecksSaid : Prop := ikeyChecksRow.holds Try.pinned (OpenSpec.ofChange ikeyChecksSpec)

/-- ITS FALSE NEIGHBOUR: 'it returns false'. Refute it at one input. -/
def ikeyChecksWrong : ChangeSpec := { name := "ikeyChecks", fn := fun _ => fun
  | [d] => { results := [.lit (.bool false)], args := [d] }
  | _ => none }
def IkeyChecksWrongFalsely : Prop := ikeyChecksRow.holds Try.pinned (OpenSpec.ofChange ikeyChecksWrong)

/-- 'tithebarnlaw03.IkeyParses': WHATEVER THE INPUT: true; the input reads as it did. -/
def ikeyParsesSpec : ChangeSpec := { name := "ikeyParses", fn := fun _ => fun
  | [d] => { results := [.lit (.bool true)], args := [d] }
  | _ => none }
def ikeyParsesRow : OpenClaim := { program := "ytpnfpgjmpcnnnaa", sum := "d74fb1ba23da51aea991e968446c395df12198b9cda6b2984b51407e1ddf9ff3", func := "tithebarn/tithebarnlaw03.IkeyParses", spec := "ikeyParses", inPlace := ["internal/bytealg.abigen_runtime_cmpstring"], apart := false }
def IkeyParsesSaid : Prop := ikeyParsesRow.holds Try.pinned (OpenSpec.ofChange ikeyParsesSpec)

/-- ITS FALSE NEIGHBOUR: 'it returns false'. Refute it at one input. -/
def ikeyParsesWrong : ChangeSpec := { name := "ikeyParses", fn := fun _ => fun
  | [d] => { results := [.lit (.bool false)], args := [d] }
  | _ => none }
def IkeyParsesWrongFalsely : Prop := ikeyParsesRow.holds Try.pinned (OpenSpec.ofChange ikeyParsesWrong)

/- THE SECOND FORM. 'bulk': how many values and letters a reading holds, each counted each time it is reached (what is shared counts as often as it is met; a slice's spare places count too). A statement '..UptoSaid' is the law's where the arguments, and the package variables that the reading takes, are together of bulk at most 1048576: NARROWER than '..Said'. Prove '..Said' where nothing that the law and all that it calls make is longer than what came in: it says more and counts as full. Else prove '..UptoSaid'. A law counts once. -/
mutual
def uptoBulk {H : Type} : DataW H → Nat
  | .lit (.string bytes) => bytes.length + 1
  | .lit _ => 1
  | .nil => 1
  | .ptr d => uptoBulk d + 1
  | .slice elems spare => uptoBulkAll elems + uptoBulkAll spare + 1
  | .agg parts => uptoBulkAll parts + 1
  | .iface _ d => uptoBulk d + 1
  | .map entries => uptoBulkEntries entries + 1
  | .held _ => 1
def uptoBulkAll {H : Type} : List (DataW H) → Nat
  | [] => 0
  | d :: r => uptoBulk d + uptoBulkAll r
def uptoBulkEntries {H : Type} : List (Lit × DataW H) → Nat
  | [] => 0
  | x :: r => uptoBulkEntry x + uptoBulkEntries r
def uptoBulkEntry {H : Type} : Lit × DataW H → Nat
  | (.string bytes, d) => bytes.length + uptoBulk d + 1
  | (_, d) => uptoBulk d + 1
 end
def uptoSmall : (H : Type) → List (DataW H) → Bool := fun _ ds => decide (uptoBulkAll ds ≤ 1048576)
def OpenSpec.upto (s : _root_.Go.ChangeSpec) : _root_.Go.OpenSpec := { _root_.Go.OpenSpec.ofChange s with cond := some uptoSmall }

/-- 'tithebarnlaw03.IkeyThree', WHERE WHAT IT READS IS OF BULK AT MOST 1048576: true; the input reads as it did. -/
def ikeyThreeUptoRow : OpenClaim := { program := "ytpnfpgjmpcnnnaa", sum := "d74fb1ba23da51aea991e968446c395df12198b9cda6b2984b51407e1ddf9ff3", func := "tithebarn/tithebarnlaw03.IkeyThree", spec := "ikeyThree", inPlace := ["internal/bytealg.abigen_runtime_cmpstring"], apart := false, narrowed := true }
def IkeyThreeUptoSaid : Prop := ikeyThreeUptoRow.holds Try.pinned (OpenSpec.upto ikeyThreeSpec)

/-- 'tithebarnlaw03.IkeySeeks', WHERE WHAT IT READS IS OF BULK AT MOST 1048576: true; the input reads as it did. -/
def ikeySeeksUptoRow : OpenClaim := { program := "ytpnfpgjmpcnnnaa", sum := "d74fb1ba23da51aea991e968446c395df12198b9cda6b2984b51407e1ddf9ff3", func := "tithebarn/tithebarnlaw03.IkeySeeks", spec := "ikeySeeks", inPlace := ["internal/bytealg.abigen_runtime_cmpstring"], apart := false, narrowed := true }
def IkeySeeksUptoSaid : Prop := ikeySeeksUptoRow.holds Try.pinned (OpenSpec.upto ikeySeeksSpec)

/-- 'tithebarnlaw03.IkeyOrders', WHERE WHAT IT READS IS OF BULK AT MOST 1048576: true; the input reads as it did. -/
def ikeyOrdersUptoRow : OpenClaim := { program := "ytpnfpgjmpcnnnaa", sum := "d74fb1ba23da51aea991e968446c395df12198b9cda6b2984b51407e1ddf9ff3", func := "tithebarn/tithebarnlaw03.IkeyOrders", spec := "ikeyOrders", inPlace := ["internal/bytealg.abigen_runtime_cmpstring", "internal/bytealg.Compare"], apart := false, narrowed := true }
def IkeyOrdersUptoSaid : Prop := ikeyOrdersUptoRow.holds Try.pinned (OpenSpec.upto ikeyOrdersSpec)

/-- 'tithebarnlaw03.IkeyLess', WHERE WHAT IT READS IS OF BULK AT MOST 1048576: true; the input reads as it did. -/
def ikeyLessUptoRow : OpenClaim := { program := "ytpnfpgjmpcnnnaa", sum := "d74fb1ba23da51aea991e968446c395df12198b9cda6b2984b51407e1ddf9ff3", func := "tithebarn/tithebarnlaw03.IkeyLess", spec := "ikeyLess", inPlace := ["internal/bytealg.abigen_runtime_cmpstring", "internal/bytealg.Compare"], apart := false, narrowed := true }
def IkeyLessUptoSaid : Prop := ikeyLessUptoRow.holds Try.pinned (OpenSpec.upto ikeyLessSpec)

/-- 'tithebarnlaw03.IkeyApart', WHERE WHAT IT READS IS OF BULK AT MOST 1048576: true; the input reads as it did. -/
def ikeyApartUptoRow : OpenClaim := { program := "ytpnfpgjmpcnnnaa", sum := "d74fb1ba23da51aea991e968446c395df12198b9cda6b2984b51407e1ddf9ff3", func := "tithebarn/tithebarnlaw03.IkeyApart", spec := "ikeyApart", inPlace := ["internal/bytealg.abigen_runtime_cmpstring", "internal/bytealg.Compare"], apart := false, narrowed := true }
def IkeyApartUptoSaid : Prop := ikeyApartUptoRow.holds Try.pinned (OpenSpec.upto ikeyApartSpec)

/-- 'tithebarnlaw03.IkeyChecks', WHERE WHAT IT READS IS OF BULK AT MOST 1048576: true; the input reads as it did. -/
def ikeyChecksUptoRow : OpenClaim := { program := "ytpnfpgjmpcnnnaa", sum := "d74fb1ba23da51aea991e968446c395df12198b9cda6b2984b51407e1ddf9ff3", func := "tithebarn/tithebarnlaw03.IkeyChecks", spec := "ikeyChecks", inPlace := ["internal/bytealg.abigen_runtime_cmpstring"], apart := false, narrowed := true }
def IkeyChecksUptoSaid : Prop := ikeyChecksUptoRow.holds Try.pinned (OpenSpec.upto ikeyChecksSpec)

/-- 'tithebarnlaw03.IkeyParses', WHERE WHAT IT READS IS OF BULK AT MOST 1048576: true; the input reads as it did. -/
def ikeyParsesUptoRow : OpenClaim := { program := "ytpnfpgjmpcnnnaa", sum := "d74fb1ba23da51aea991e968446c395df12198b9cda6b2984b51407e1ddf9ff3", func := "tithebarn/tithebarnlaw03.IkeyParses", spec := "ikeyParses", inPlace := ["internal/bytealg.abigen_runtime_cmpstring"], apart := false, narrowed := true }
def IkeyParsesUptoSaid : Prop := ikeyParsesUptoRow.holds Try.pinned (OpenSpec.upto ikeyParsesSpec)

end Rows
end Go.Proofs.Ytpnfpgjmpcnnnaa
