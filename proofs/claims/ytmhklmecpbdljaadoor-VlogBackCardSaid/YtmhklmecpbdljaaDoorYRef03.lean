/- Contracts of Seek, Sees, Less, and of the document's Cmp, Order, Right and Same. -/
import Derived.Test.YtmhklmecpbdljaaDoorYAwake
import Derived.Test.YtmhklmecpbdljaaDoorYOrd
namespace Go.Proofs.YtmhklmecpbdljaaDoor
open Go.RowKit
set_option linter.unusedVariables false

end Go.Proofs.YtmhklmecpbdljaaDoor
