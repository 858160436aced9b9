/- PackSmall's pure statement: a number has as many bytes as its digits of seven bits need. For every number of uint64. -/
import Derived.Test.YtaddblicjlohcaaPk1
import Derived.Test.YtaddblicjlohcaaA2
namespace Go.Proofs.Ytaddblicjlohcaa.Pure
open Go.Proofs.Ytaddblicjlohcaa.Pk
theorem PackSmall : rialtolaw01_PackSmall.Pure := fun a h => PackSpec.small a h
end Go.Proofs.Ytaddblicjlohcaa.Pure
