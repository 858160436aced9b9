/- Functions of the given program as Lean functions, each with a proof that a call of it comes to what its Lean function says. Written by a program (wip/tools/myprint.py over the kit's print). No conditions. -/
import Derived.Test.YtaddblicjlohcaaProg
import Derived.Below
import Derived.Deep.Draws
import Derived.Deep.AppendLies
import Derived.Maps.AppendAt
import Derived.OwnWalk
import Derived.Laws.BytesArg
import Derived.Laws.MakeOwn
import Derived.Laws.OwnMore
import Derived.Deep.OwnRows
import Derived.Tactics
import Derived.Lib.ConvBytes
import Derived.Laws.Slices
import Derived.WalkKit
import Derived.KernelRfl
import Derived.RowKit3
import Derived.Deep.LoopGhost
import Derived.Deep.QuietTactic
import Derived.BigQuiet
import Derived.WideLaws
import Derived.Deep.DeepCutAuto
import Derived.Deep.CutBlock
import Derived.Deep.RegionHeld3
import Derived.Laws.Rows
import Derived.Lib.AppendStr
import Derived.ArgAppend
import Derived.Laws.IdiomCopy
import Derived.OrdersHeld
import Derived.Laws.BitsLemmas
import Derived.RowKit
import Derived.Test.YtaddblicjlohcaaB1
import Derived.Test.YtaddblicjlohcaaWWords
import Derived.Test.YtaddblicjlohcaaWLast
import Derived.Test.YtaddblicjlohcaaWTab
import Derived.Test.YtaddblicjlohcaaWFour
import Derived.Test.YtaddblicjlohcaaWQPut
import Derived.Test.YtaddblicjlohcaaWApart
import Derived.Test.YtaddblicjlohcaaWArr
import Derived.Test.YtaddblicjlohcaaWZeros
import Derived.Test.YtaddblicjlohcaaWFoot
import Derived.Test.YtaddblicjlohcaaWKept
import Derived.Test.YtaddblicjlohcaaWShare
import Derived.Test.YtaddblicjlohcaaWN
import Derived.Test.YtaddblicjlohcaaWFootNe
import Derived.Test.YtaddblicjlohcaaWAt
import Derived.Test.YtaddblicjlohcaaWEqStruct
import Derived.Test.YtaddblicjlohcaaWRepsOne
import Derived.Test.YtaddblicjlohcaaWInv
import Derived.Test.YtaddblicjlohcaaWInvWords
import Derived.Test.YtaddblicjlohcaaWGuard
import Derived.Test.YtaddblicjlohcaaWNEv
import Derived.Test.YtaddblicjlohcaaWMore
namespace Go.Proofs.Ytaddblicjlohcaa.Sl
open Go.RowKit Go.Proofs.YtaddblicjlohcaaW.PrintWords Go.Proofs.YtaddblicjlohcaaW.PrintLast Go.Proofs.YtaddblicjlohcaaW.PrintMore
attribute [local go_sem] max2_int min2_int max_two min_two max_three min_three max_four min_four   -- for this text's walks alone
set_option linter.unusedVariables false
set_option linter.unusedSimpArgs false



def errW : Option Int → Value
  | none => .nilIface
  | some c => .iface 0 (.int .i64 c)
theorem errW_none : errW none = .nilIface := rfl
theorem errW_some (c : Int) : errW (some c) = .iface 0 (.int .i64 c) := rfl

theorem info5 : (Try.prog.info? 5).map (fun i => (i.zero, i.size, i.bytes)) = some (some (.int .u8 0), 1, 1) := by kernel_rfl
theorem info9 : (Try.prog.info? 9).map (fun i => (i.zero, i.size, i.bytes)) = some (some (.string ⟨#[]⟩), 1, 16) := by kernel_rfl
-- the values' own types

end Go.Proofs.Ytaddblicjlohcaa.Sl
