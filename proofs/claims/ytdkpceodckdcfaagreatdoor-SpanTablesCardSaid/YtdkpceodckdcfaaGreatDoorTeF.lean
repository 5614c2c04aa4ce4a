/- kingpostref01: contracts of the small functions. -/
import Derived.Test.YtdkpceodckdcfaaGreatDoorTeA
import Derived.Test.YtdkpceodckdcfaaGreatDoorArI
set_option linter.unusedSimpArgs false
set_option linter.unusedVariables false
namespace Go.Te
open Go Go.Sx Go.Proofs Go.Ar
set_option maxRecDepth 100000
set_option maxHeartbeats 4000000
end Go.Te
