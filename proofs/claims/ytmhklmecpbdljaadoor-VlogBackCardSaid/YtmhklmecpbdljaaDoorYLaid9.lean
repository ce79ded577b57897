/- Chapter 09: the table of sixteen cells, out of the row's condition. -/
import Derived.Test.YtmhklmecpbdljaaDoorYJf
import Derived.Test.YtmhklmecpbdljaaDoorRows
import Derived.Lib.LaidTab
import Derived.LaidMore
import Derived.ProofKit
import Derived.Stop.Joined
namespace Go.Proofs.YtmhklmecpbdljaaDoor
open Go.RowKit
set_option linter.unusedVariables false

def half9 : List Int := [0, 274646895, 549293790, 820201905, 1098587580, 1361435347, 1640403810, 1905808397, 2197175160, 2460548119, 2722870694, 2987750089, 3280807620, 3553878443, 3811616794, 4084100981]
theorem half9_at : ∀ i, i < 16 → half9.getD i 0 = ((halfAt i : Nat) : Int) := by decide +kernel
theorem gHalf : Tryd.prog.globalNamed "tithebarn/sum.half" = some 0 := by kernel_rfl
theorem tHalf : (Tryd.prog.globals[0]?).map (·.type) = some 133 := by kernel_rfl
theorem tab_of_laid {W : World} (h : laidMetH Tryd.prog [("tithebarn/sum.half", Rows.laid_tithebarn_sum_half)] W) : Tab9 W := by
  rw [MakeChecks.laidMetH_plain _ _ _ (by kernel_rfl)] at h
  have hT : Lib.TabIs Tryd.prog W "tithebarn/sum.half" .u32 half9 := Lib.tabIs_of_head gHalf tHalf Tryd.underlying133 Tryd.underlying113 (by kernel_rfl) (by kernel_rfl) h
  intro i hi
  have := hT.cell gHalf i hi
  rw [half9_at i hi] at this
  exact this
end Go.Proofs.YtmhklmecpbdljaaDoor
