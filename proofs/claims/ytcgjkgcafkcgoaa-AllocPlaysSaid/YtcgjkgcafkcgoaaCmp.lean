/- Contracts of the comparisons: strings.Compare, cmp.Compare at int, cmp.Or at int: each for every input. -/
import Derived.Test.YtcgjkgcafkcgoaaRows
import Derived.WalkKit
import Derived.WalkLawsBesides
import Derived.WalkSpells
import Derived.Lib.Hide
import Derived.Lib.Bytealg
import Derived.Deep.DeepFit
import Derived.Deep.LoopGhost
import Derived.Deep.RegionHeld3
import Derived.BigQuiet
import Derived.Deep.QuietTactic
namespace Go.Proofs.Ytcgjkgcafkcgoaa
open Go.RowKit
set_option linter.unusedVariables false

/-- which of two numbers stands first -/
def icmp (a b : Int) : Int := if a < b then -1 else if b < a then 1 else 0

def or3 (x y z : Int) : Int := if x ≠ 0 then x else if y ≠ 0 then y else z

end Go.Proofs.Ytcgjkgcafkcgoaa
