/- SealSums in plain Lean: what the printed functions come to answers as the statement says. Conditions: those of the statement's row. -/
import Derived.Test.YtaddblicjlohcaaSl7
import Derived.Test.YtaddblicjlohcaaD4
namespace Go.Proofs.Ytaddblicjlohcaa.Pure
open Go.Proofs.Ytaddblicjlohcaa.Sl
theorem SealSums : rialtolaw02_SealSums.Pure := fun s hs => (SealSpec.sums s hs).rounds
end Go.Proofs.Ytaddblicjlohcaa.Pure
