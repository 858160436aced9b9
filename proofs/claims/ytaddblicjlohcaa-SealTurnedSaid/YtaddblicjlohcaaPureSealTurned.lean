/- SealTurned in plain Lean: what the printed functions come to answers as the statement says. Conditions: those of the statement's row. -/
import Derived.Test.YtaddblicjlohcaaSl9
import Derived.Test.YtaddblicjlohcaaD6
namespace Go.Proofs.Ytaddblicjlohcaa.Pure
open Go.RowKit Go.Proofs.Ytaddblicjlohcaa.Sl
theorem i64_of {a : Int} (h : (Lit.int .i64 a).wf = true) : -9223372036854775808 ≤ a ∧ a < 9223372036854775808 := by
  simp [Lit.wf, IntKind.min, IntKind.max, IntKind.signed, IntKind.bits] at h
  omega
theorem u32_of {a : Int} (h : (Lit.int .u32 a).wf = true) : 0 ≤ a ∧ a < 4294967296 := by
  simp [Lit.wf, IntKind.min, IntKind.max, IntKind.signed, IntKind.bits] at h
  omega
theorem SealTurned : rialtolaw02_SealTurned.Pure := fun s a1 a2 _ h1 h2 => (SealSpec.turned s a1 a2 (i64_of h1).1 (i64_of h1).2 (u32_of h2).1 (u32_of h2).2).rounds
end Go.Proofs.Ytaddblicjlohcaa.Pure
