/- kingpostref01: long division. -/
import Derived.Test.YtdkpceodckdcfaaGreatDoorTeG
import Derived.Test.YtdkpceodckdcfaaGreatDoorArM
set_option linter.unusedSimpArgs false
set_option linter.unusedVariables false
namespace Go.Te
open Go Go.Sx Go.Proofs Go.Ar
set_option maxRecDepth 100000
set_option maxHeartbeats 4000000
structure oO where
 z : Nat
 q : List Int
 R : Int
end Go.Te
