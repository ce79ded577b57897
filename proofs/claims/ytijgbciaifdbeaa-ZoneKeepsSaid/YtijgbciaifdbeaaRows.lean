/-
  No cell of these rows narrows 'for every input' (looked for: loops, veiled, ifaces, maps, wideKeys, modest, calm, conditions, laid).
  DERIVED. THE GIVEN ROWS OF THIS SEAT. 4 by the template 'for every input the law returns true; each argument reads behind the call as it read before'; 0 by the template 'total and deterministic' (their statements: YtijgbciaifdbeaaTotals.lean).
  GIVEN WITH THE SEED: the statements are not yours to turn. If you find one false, say at which input.
  Laid BY PROGRAM, IN A SANDBOX (cutbox-rows.mjs): the forced cells as the released guide's own fill.sh prints them over the translation 90b8ce2ecb794452… (all of the seat's roots in one cut). By AI agents, Wed Nov 11 2026. No macro, syntax, notation, axiom, sorry.
-/
import Derived.Test.YtijgbciaifdbeaaChecked
import GoSem.Claim
import GoSem.ClaimJoined
import GoSem.ClaimMapViews
import Derived.JoinedTies
import Derived.KernelRfl
namespace Go.Proofs.Ytijgbciaifdbeaa
/- THE CELL 'sum', in the pinned program and in every row, IS THE sha256 OF THE DUMP (.gsa) THAT YtijgbciaifdbeaaProg.lean LOADS. Nothing in Lean hashes anything: it is a label: what it is worth is what the hold of that sum in a sandbox is worth. -/
noncomputable def Try.pinned : Pinned := { name := "ytijgbciaifdbeaa", sum := "90b8ce2ecb794452747945fa14098f4d100ff67089262cc564bf6d9987b2ffc4", checked := Try.checked }
namespace Rows
def none {H : Type} : Left H := { results := [], args := [] }

/-- 'tithebarnlaw07.ZoneReads': WHATEVER THE INPUT: true; the input reads as it did. -/
def zoneReadsSpec : ChangeSpec := { name := "zoneReads", fn := fun _ => fun
  | [d1, d2, d3] => { results := [.lit (.bool true)], args := [d1, d2, d3] }
  | _ => none }
def zoneReadsRow : OpenClaim := { program := "ytijgbciaifdbeaa", sum := "90b8ce2ecb794452747945fa14098f4d100ff67089262cc564bf6d9987b2ffc4", func := "tithebarn/tithebarnlaw07.ZoneReads", spec := "zoneReads", apart := false }
def ZoneReadsSaid : Prop := zoneReadsRow.holds Try.pinned (OpenSpec.ofChange zoneReadsSpec)

/-- ITS FALSE NEIGHBOUR: 'it returns false'. Refute it at one input. -/
def zoneReadsWrong : ChangeSpec := { name := "zoneReads", fn := fun _ => fun
  | [d1, d2, d3] => { results := [.lit (.bool false)], args := [d1, d2, d3] }
  | _ => none }
def ZoneReadsWrongFalsely : Prop := zoneReadsRow.holds Try.pinned (OpenSpec.ofChange zoneReadsWrong)

/-- 'tithebarnlaw07.ZoneOpens': WHATEVER THE INPUT: true; the input reads as it did. -/
def zoneOpensSpec : ChangeSpec := { name := "zoneOpens", fn := fun _ => fun
  | [d1, d2] => { results := [.lit (.bool true)], args := [d1, d2] }
  | _ => none }
def zoneOpensRow : OpenClaim := { program := "ytijgbciaifdbeaa", sum := "90b8ce2ecb794452747945fa14098f4d100ff67089262cc564bf6d9987b2ffc4", func := "tithebarn/tithebarnlaw07.ZoneOpens", spec := "zoneOpens", apart := false }
def ZoneOpensSaid : Prop := zoneOpensRow.holds Try.pinned (OpenSpec.ofChange zoneOpensSpec)

/-- ITS FALSE NEIGHBOUR: 'it returns false'. Refute it at one input. -/
def zoneOpensWrong : ChangeSpec := { name := "zoneOpens", fn := fun _ => fun
  | [d1, d2] => { results := [.lit (.bool false)], args := [d1, d2] }
  | _ => none }
def ZoneOpensWrongFalsely : Prop := zoneOpensRow.holds Try.pinned (OpenSpec.ofChange zoneOpensWrong)

/-- 'tithebarnlaw07.ZonePower': WHATEVER THE INPUT: true; the input reads as it did. -/
def zonePowerSpec : ChangeSpec := { name := "zonePower", fn := fun _ => fun
  | [d1, d2] => { results := [.lit (.bool true)], args := [d1, d2] }
  | _ => none }
def zonePowerRow : OpenClaim := { program := "ytijgbciaifdbeaa", sum := "90b8ce2ecb794452747945fa14098f4d100ff67089262cc564bf6d9987b2ffc4", func := "tithebarn/tithebarnlaw07.ZonePower", spec := "zonePower", apart := false }
def ZonePowerSaid : Prop := zonePowerRow.holds Try.pinned (OpenSpec.ofChange zonePowerSpec)

/-- ITS FALSE NEIGHBOUR: 'it returns false'. Refute it at one input. -/
def zonePowerWrong : ChangeSpec := { name := "zonePower", fn := fun _ => fun
  | [d1, d2] => { results := [.lit (.bool false)], args := [d1, d2] }
  | _ => none }
def ZonePowerWrongFalsely : Prop := zonePowerRow.holds Try.pinned (OpenSpec.ofChange zonePowerWrong)

/-- 'tithebarnlaw07.ZoneKeeps': WHATEVER THE INPUT: true; the input reads as it did. -/
def zoneKeepsSpec : ChangeSpec := { name := "zoneKeeps", fn := fun _ => fun
  | [d1, d2] => { results := [.lit (.bool true)], args := [d1, d2] }
  | _ => none }
def zoneKeepsRow : OpenClaim := { program := "ytijgbciaifdbeaa", sum := "90b8ce2ecb794452747945fa14098f4d100ff67089262cc564bf6d9987b2ffc4", func := "tithebarn/tithebarnlaw07.ZoneKeeps", spec := "zoneKeeps", apart := false }
def ZoneKeepsSaid : Prop := zoneKeepsRow.holds Try.pinned (OpenSpec.ofChange zoneKeepsSpec)

/-- ITS FALSE NEIGHBOUR: 'it returns false'. Refute it at one input. -/
def zoneKeepsWrong : ChangeSpec := { name := "zoneKeeps", fn := fun _ => fun
  | [d1, d2] => { results := [.lit (.bool false)], args := [d1, d2] }
  | _ => none }
def ZoneKeepsWrongFalsely : Prop := zoneKeepsRow.holds Try.pinned (OpenSpec.ofChange zoneKeepsWrong)

/- THE SECOND FORM. 'bulk': how many values and letters a reading holds, each counted each time it is reached (what is shared counts as often as it is met; a slice's spare places count too). A statement '..UptoSaid' is the law's where the arguments, and the package variables that the reading takes, are together of bulk at most 1048576: NARROWER than '..Said'. Prove '..Said' where nothing that the law and all that it calls make is longer than what came in: it says more and counts as full. Else prove '..UptoSaid'. A law counts once. -/
mutual
def uptoBulk {H : Type} : DataW H → Nat
  | .lit (.string bytes) => bytes.length + 1
  | .lit _ => 1
  | .nil => 1
  | .ptr d => uptoBulk d + 1
  | .slice elems spare => uptoBulkAll elems + uptoBulkAll spare + 1
  | .agg parts => uptoBulkAll parts + 1
  | .iface _ d => uptoBulk d + 1
  | .map entries => uptoBulkEntries entries + 1
  | .held _ => 1
def uptoBulkAll {H : Type} : List (DataW H) → Nat
  | [] => 0
  | d :: r => uptoBulk d + uptoBulkAll r
def uptoBulkEntries {H : Type} : List (Lit × DataW H) → Nat
  | [] => 0
  | x :: r => uptoBulkEntry x + uptoBulkEntries r
def uptoBulkEntry {H : Type} : Lit × DataW H → Nat
  | (.string bytes, d) => bytes.length + uptoBulk d + 1
  | (_, d) => uptoBulk d + 1
 end
def uptoSmall : (H : Type) → List (DataW H) → Bool := fun _ ds => decide (uptoBulkAll ds ≤ 1048576)
def OpenSpec.upto (s : _root_.Go.ChangeSpec) : _root_.Go.OpenSpec := { _root_.Go.OpenSpec.ofChange s with cond := some uptoSmall }

/-- 'tithebarnlaw07.ZoneReads', WHERE WHAT IT READS IS OF BULK AT MOST 1048576: true; the input reads as it did. -/
def zoneReadsUptoRow : OpenClaim := { program := "ytijgbciaifdbeaa", sum := "90b8ce2ecb794452747945fa14098f4d100ff67089262cc564bf6d9987b2ffc4", func := "tithebarn/tithebarnlaw07.ZoneReads", spec := "zoneReads", apart := false, narrowed := true }
def ZoneReadsUptoSaid : Prop := zoneReadsUptoRow.holds Try.pinned (OpenSpec.upto zoneReadsSpec)

/-- 'tithebarnlaw07.ZoneOpens', WHERE WHAT IT READS IS OF BULK AT MOST 1048576: true; the input reads as it did. -/
def zoneOpensUptoRow : OpenClaim := { program := "ytijgbciaifdbeaa", sum := "90b8ce2ecb794452747945fa14098f4d100ff67089262cc564bf6d9987b2ffc4", func := "tithebarn/tithebarnlaw07.ZoneOpens", spec := "zoneOpens", apart := false, narrowed := true }
def ZoneOpensUptoSaid : Prop := zoneOpensUptoRow.holds Try.pinned (OpenSpec.upto zoneOpensSpec)

/-- 'tithebarnlaw07.ZonePower', WHERE WHAT IT READS IS OF BULK AT MOST 1048576: true; the input reads as it did. -/
def zonePowerUptoRow : OpenClaim := { program := "ytijgbciaifdbeaa", sum := "90b8ce2ecb794452747945fa14098f4d100ff67089262cc564bf6d9987b2ffc4", func := "tithebarn/tithebarnlaw07.ZonePower", spec := "zonePower", apart := false, narrowed := true }
def ZonePowerUptoSaid : Prop := zonePowerUptoRow.holds Try.pinned (OpenSpec.upto zonePowerSpec)

/-- 'tithebarnlaw07.ZoneKeeps', WHERE WHAT IT READS IS OF BULK AT MOST 1048576: true; the input reads as it did. -/
def zoneKeepsUptoRow : OpenClaim := { program := "ytijgbciaifdbeaa", sum := "90b8ce2ecb794452747945fa14098f4d100ff67089262cc564bf6d9987b2ffc4", func := "tithebarn/tithebarnlaw07.ZoneKeeps", spec := "zoneKeeps", apart := false, narrowed := true }
def ZoneKeepsUptoSaid : Prop := zoneKeepsUptoRow.holds Try.pinned (OpenSpec.upto zoneKeepsSpec)

end Rows
end Go.Proofs.Ytijgbciaifdbeaa
