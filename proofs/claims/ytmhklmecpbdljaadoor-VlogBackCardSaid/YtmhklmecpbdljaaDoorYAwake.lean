/- Contracts of the small functions of tithebarnlaw03: small and awake; of Seek, Sees and ref. -/
import Derived.Test.YtmhklmecpbdljaaDoorYBytes
namespace Go.Proofs.YtmhklmecpbdljaaDoor
open Go.RowKit
set_option linter.unusedVariables false

theorem awakeKey : keyBytes [97] 1 2 = [97, 0, 1, 0, 255, 255, 255, 255, 255, 253] := by decide
theorem awakeCmp : kcmp ⟨#[97]⟩ 5 1 ⟨#[97]⟩ 4 3 = -1 := by decide

end Go.Proofs.YtmhklmecpbdljaaDoor
