/- Contracts of the comparisons: strings.Compare, cmp.Compare at int, cmp.Or at int: each for every input. -/
import Derived.Test.YtebnllpcagkkbaaRows
import Derived.WalkKit
import Derived.WalkLawsBesides
import Derived.WalkSpells
import Derived.Lib.Hide
import Derived.Lib.Bytealg
import Derived.Deep.DeepFit
import Derived.Deep.LoopGhost
import Derived.Deep.RegionHeld3
import Derived.BigQuiet
import Derived.Deep.QuietTactic
namespace Go.Proofs.Ytebnllpcagkkbaa
open Go.RowKit
set_option linter.unusedVariables false

theorem cmpstr (a b : ByteArray) (w : World) :
    Calls Try.prog 40 #[.string a, .string b] w fun e w' => e = .returned (.int .i64 (Lib.compareBytes a.data.toList b.data.toList)) ∧ w = w' := by
  go_enter Try.func40, Try.ntmps40
  go_wp2
  rw [run_callFunc_extern Try.func55 (by kernel_rfl) (by kernel_rfl) (by kernel_rfl) (e := Extern.BytealgCompare.compare) (by kernel_rfl), Lib.run_compareString]
  simp only [Result.andThen]
  rw [Oper.upon_value]
  go_wp2
  go_ret
  exact ⟨rfl, rfl⟩

/-- which of two numbers stands first -/
def icmp (a b : Int) : Int := if a < b then -1 else if b < a then 1 else 0

def or3 (x y z : Int) : Int := if x ≠ 0 then x else if y ≠ 0 then y else z

end Go.Proofs.Ytebnllpcagkkbaa
