/- slices.SortFunc over own slices of structures: what it does. -/
import Derived.Test.YtgpbohfbhfbelaaGreatDoorSxU
set_option linter.unusedSimpArgs false
set_option linter.unusedVariables false
namespace Go.Sx
open Go Go.Proofs Go.RowKit
end Go.Sx
