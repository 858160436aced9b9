/- PackWrites: numbers, texts and lists are written as the document says. For every number of its kind and every list of at most 2^43 texts. -/
import Derived.Test.YtaddblicjlohcaaA7
namespace Go.Proofs.Ytaddblicjlohcaa.PackSpec
open Go.RowKit Go.Proofs.Ytaddblicjlohcaa.Pk Go.Proofs.YtaddblicjlohcaaW.PrintWords Go.Proofs.YtaddblicjlohcaaW.PrintLast Go.Proofs.YtaddblicjlohcaaW.PrintMore
theorem int_of_i64 {a : Int} (h : (Lit.int .i64 a).wf = true) : -9223372036854775808 ≤ a ∧ a < 9223372036854775808 := by
  simp [Lit.wf, IntKind.min, IntKind.max, IntKind.signed, IntKind.bits] at h
  omega
theorem writes (n : Int) (i : Int) (s : ByteArray) (l : List ByteArray) (hn : (Lit.int .u64 n).wf = true) (hi : (Lit.int .i64 i).wf = true) (hl : l.length * 16 ≤ 140737488351232) : Ev (fun k => rialtolaw01_PackWrites.f k n i s l) true := by
  obtain ⟨m, rfl, hm⟩ := nat_of_u64 hn
  have hz := int_of_i64 hi
  refine Ev.bind (text_ev s) (Ev.bind (rtext_ev s) (Ev.congr (fun k => if_pos (by simp; omega)) (Ev.bind (Ev.now _) (Ev.bind (list_ev l (by omega)) (Ev.bind (rlist_ev l (by omega)) (Ev.bind live_ev (Ev.congr (fun k => if_pos rfl) (Ev.bind (uint_ev m hm) (Ev.bind (rUint_ev m hm) (Ev.congr (fun k => if_pos rfl) (Ev.bind (int_ev i hz.1 hz.2) (Ev.bind (rint_ev i hz.1 hz.2) (Ev.congr (fun k => (if_pos rfl).trans ((if_pos rfl).trans ((if_pos rfl).trans ((if_pos rfl).trans (if_pos rfl))))) (Ev.bind (same_ev l (by omega)) (Ev.now _)))))))))))))))
end Go.Proofs.Ytaddblicjlohcaa.PackSpec
