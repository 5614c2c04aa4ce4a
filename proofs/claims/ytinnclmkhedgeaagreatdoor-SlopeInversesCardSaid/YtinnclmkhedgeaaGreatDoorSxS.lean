/- All bodies looked through, some with annotations. -/
import Derived.Test.YtinnclmkhedgeaaGreatDoorSxU
set_option linter.unusedSimpArgs false
set_option linter.unusedVariables false
namespace Go.Sx
open Go Go.RowKit
structure Ox (x y : AV) : Prop where
 h : yy x y
end Go.Sx
