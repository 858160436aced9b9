/- SealEven in plain Lean: what the printed functions come to answers as the statement says. Conditions: those of the statement's row. -/
import Derived.Test.YtaddblicjlohcaaE1
import Derived.Test.YtaddblicjlohcaaD10
namespace Go.Proofs.Ytaddblicjlohcaa.Pure
open Go.Proofs.Ytaddblicjlohcaa.Sl
theorem SealEven : rialtolaw02_SealEven.Pure := fun a b c h _ _ => (SealSpec.even a b c h).rounds
end Go.Proofs.Ytaddblicjlohcaa.Pure
