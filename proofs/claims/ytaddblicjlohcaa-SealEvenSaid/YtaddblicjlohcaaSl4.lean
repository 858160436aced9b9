/- Functions of the given program as Lean functions, each with a proof that a call of it comes to what its Lean function says. Written by a program (wip/tools/myprint.py over the kit's print). No conditions. -/
import Derived.Test.YtaddblicjlohcaaSl0
import Derived.Test.YtaddblicjlohcaaC5
namespace Go.Proofs.Ytaddblicjlohcaa.Sl
open Go.RowKit Go.Proofs.YtaddblicjlohcaaW.PrintWords Go.Proofs.YtaddblicjlohcaaW.PrintLast Go.Proofs.YtaddblicjlohcaaW.PrintMore
attribute [local go_sem] max2_int min2_int max_two min_two max_three min_three max_four min_four   -- for this text's walks alone
set_option linter.unusedVariables false
set_option linter.unusedSimpArgs false

/-! ### seal_Sum: function 39 -/
-- GIVEN BY HAND
-- IMPORT Derived.Test.YtaddblicjlohcaaC5
def seal_Sum.f (a0 : ByteArray) : Option Int := if a0.size ≤ 140737488355328 then some ((Crc.sumL (bytesOf a0)).toNat : Int) else none
theorem seal_Sum.calls (a0 : ByteArray) (r : Int) (w : World) (h : seal_Sum.f a0 = some r) :
    Calls Try.prog 39 #[.string a0] w fun e w' => e = .returned (.int .u32 r) ∧ Below w.heap.size w w' := by
  unfold seal_Sum.f at h
  by_cases c : a0.size ≤ 140737488355328
  · rw [if_pos c] at h
    injection h with h
    subst h
    exact Seal.Sum_calls a0 w c
  · rw [if_neg c] at h
    cases h

end Go.Proofs.Ytaddblicjlohcaa.Sl
