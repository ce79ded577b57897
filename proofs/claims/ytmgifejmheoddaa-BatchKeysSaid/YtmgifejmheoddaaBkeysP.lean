/- For every input tithebarn/tithebarnlaw10.BatchKeys returns true, and its arguments read afterwards as before. No condition. -/
import Derived.Test.YtmgifejmheoddaaBkeys
import Derived.Test.YtmgifejmheoddaaOpenB
import Derived.Test.YtmgifejmheoddaaLift
namespace Go.Proofs.Ytmgifejmheoddaa.lawBatchKeys
open Go.ChangeShapes Go.WideShapes Go.ChangeAt Go.RowKit Go.Joins
open Go.ChangeMaps (open_string shut_string)
set_option linter.unusedVariables false

end Go.Proofs.Ytmgifejmheoddaa.lawBatchKeys
