/- Strings as keys: their order. -/
import Derived.Test.YthpafhimmhacfaaBo
import Derived.Test.YthpafhimmhacfaaSkPl
namespace Go.Proofs.Ythpafhimmhacfaa
open Go.RowKit
set_option linter.unusedVariables false
set_option linter.unusedSimpArgs false

def blt (u v : ByteArray) : Bool := ahead u v
theorem blt_ord : KOrd blt := ⟨ahead_irrefl, fun a b c h1 h2 => ahead_trans h1 h2, ahead_tri⟩
theorem blt_less {u v : ByteArray} {z : Bool} (h : blt u v = z) : Op.bytesLess u.toList v.toList = z := by rw [bo_lt]; exact h
theorem str_same {u v : ByteArray} (h : u = v) : (u.toList == v.toList) = true := by rw [bo_same]; exact decide_eq_true h
theorem str_diff {u v : ByteArray} (h : ¬ u = v) : (u.toList == v.toList) = false := by rw [bo_same]; exact decide_eq_false h
theorem infoStr05 : (Try.prog.info? 9).map (fun i => (i.zero, i.size, i.bytes)) = some (some (.string ByteArray.empty), 1, 16) := by kernel_rfl
end Go.Proofs.Ythpafhimmhacfaa
