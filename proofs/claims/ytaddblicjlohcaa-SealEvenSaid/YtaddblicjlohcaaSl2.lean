/- Functions of the given program as Lean functions, each with a proof that a call of it comes to what its Lean function says. Written by a program (wip/tools/myprint.py over the kit's print). No conditions. -/
import Derived.Test.YtaddblicjlohcaaSl0
import Derived.Test.YtaddblicjlohcaaSl1
import Derived.Test.YtaddblicjlohcaaC5
namespace Go.Proofs.Ytaddblicjlohcaa.Sl
open Go.RowKit Go.Proofs.YtaddblicjlohcaaW.PrintWords Go.Proofs.YtaddblicjlohcaaW.PrintLast Go.Proofs.YtaddblicjlohcaaW.PrintMore
attribute [local go_sem] max2_int min2_int max_two min_two max_three min_three max_four min_four   -- for this text's walks alone
set_option linter.unusedVariables false
set_option linter.unusedSimpArgs false

/-! ### seal_Frame: function 36 -/
-- GIVEN BY HAND
-- IMPORT Derived.Test.YtaddblicjlohcaaC5
/-- The sum of a head and a text. -/
def sum2 (a b : ByteArray) : Int := ((Crc.sumL (Seal.cat [a, b])).toNat : Int)
def seal_Frame.f (a0 : ByteArray) : Option (ByteArray × Int) := if (a0.size : Int) > 70000 then some (⟨#[]⟩, 2) else (seal_four.f ((a0.size : Int) % 4294967296)).bind fun n => (seal_four.f (sum2 n a0)).bind fun m => some (n ++ m ++ a0, 0)
theorem four_size {x : Int} {n : ByteArray} (h : seal_four.f x = some n) : n.size = 4 := by
  unfold seal_four.f at h
  injection h with h
  rw [← h, strOfNums_size]; rfl
theorem two_at (w : World) (a b : ByteArray) : ∀ i (h : i < [a, b].length), (w.alloc (.cells #[.string a, .string b] 9 (0, 0))).cell? ((⟨w.heap.size, 0, none⟩ : Addr).add i) = some (.string [a, b][i]) := by
  intro i h
  rw [add_plain, blk_cell (blk_new w _)]
  match i, h with
  | 0, _ => rfl
  | 1, _ => rfl
set_option maxHeartbeats 400000 in
set_option maxRecDepth 100000 in
theorem seal_Frame.calls (a0 : ByteArray) (r1 : ByteArray) (r2 : Int) (w : World) (h : seal_Frame.f a0 = some (r1, r2)) :
    Calls Try.prog 36 #[.string a0] w fun e w' => e = .returned (.tuple #[.string r1, .int .i64 r2]) ∧ Below w.heap.size w w' := by
  unfold seal_Frame.f at h
  by_cases c : (a0.size : Int) > 70000
  · rw [if_pos c] at h
    have c0 : decide (70000 < (a0.size : Int)) = true := decide_eq_true c
    have c1 : decide (70000 < a0.size) = true := decide_eq_true (by omega)
    clear c
    simp only [Option.some.injEq, Prod.mk.injEq] at h
    obtain ⟨rfl, rfl⟩ := h
    go_enter Try.func36, Try.ntmps36
    go_wp2
    go_ret2
    exact ⟨rfl, Below.refl _ _⟩
  · rw [if_neg c] at h
    have c0 : decide (70000 < (a0.size : Int)) = false := decide_eq_false c
    have c1 : decide (70000 < a0.size) = false := decide_eq_false (by omega)
    have hle : a0.size ≤ 70000 := by omega
    clear c
    obtain ⟨n, hn, h⟩ := Option.bind_eq_some_iff.mp h
    obtain ⟨m, hm, h⟩ := Option.bind_eq_some_iff.mp h
    simp only [Option.some.injEq, Prod.mk.injEq] at h
    obtain ⟨rfl, rfl⟩ := h
    have n4 := four_size hn
    have m4 := four_size hm
    have HN := Aside0.mk hn
    have HM := Aside0.mk hm
    have HL := Aside0.mk hle
    have q1 : n.size + m.size ≤ 9223372036854775807 := by omega
    have q2 : (n ++ m).size + a0.size ≤ 9223372036854775807 := by rw [ByteArray.size_append]; omega
    have q3 : n.size + m.size + a0.size ≤ 9223372036854775807 := by omega
    have p1 := eq_true q1
    have p2 := eq_true q2
    have p3 := eq_true q3
    have p4 : (9223372036854775807 < n.size + m.size) = False := eq_false (Nat.not_lt.2 q1)
    have p5 : (9223372036854775807 < (n ++ m).size + a0.size) = False := eq_false (Nat.not_lt.2 q2)
    have p6 : (9223372036854775807 < n.size + m.size + a0.size) = False := eq_false (Nat.not_lt.2 q3)
    have p7 : decide (n.size + m.size ≤ 9223372036854775807) = true := decide_eq_true q1
    have p8 : decide ((n ++ m).size + a0.size ≤ 9223372036854775807) = true := decide_eq_true q2
    have p9 : decide (n.size + m.size + a0.size ≤ 9223372036854775807) = true := decide_eq_true q3
    have HB := Aside0.mk (below_alloc (Below.refl w.heap.size w) (.cells Try.zeroCells115 115 (0, 0)))
    have HO := Aside0.mk (Seal.obj_new w)
    clear hn hm hle n4 m4 q1 q2 q3
    clear h
    go_enter Try.func36, Try.ntmps36
    go_wp2_with (first | (go_at_call 75; ((with_reducible refine (seal_four.calls ((a0.size : Int) % 4294967296) n _ HN.out).mono ?_); rintro e w1 ⟨rfl, hb⟩); have HB1 := Aside0.mk (below_step HB.out hb); have HO1 := Aside0.mk (Seal.obj_below HO.out hb); clear hb) | (go_at_call 76; refine (Seal.sum_any w.heap.size ⟨w1.heap.size, 0, none⟩ 2 [n, a0] _ (Seal.obj_alloc HO1.out _) ?s1 ?s2 ?s3 ?s4).mono ?_; (case s1 => have := Seal.obj_lt HO1.out; show w1.heap.size ≠ w.heap.size; omega); (case s2 => simp); (case s3 => exact two_at _ _ _); (case s4 => intro t ht; have := HL.out; have := four_size HN.out; simp at ht; rcases ht with rfl | rfl <;> omega); rintro e w2 ⟨rfl, ho, hk, hl⟩; have HB2 := Aside0.mk ((below_alloc HB1.out _).trans hl); clear ho hk hl) | (go_at_call 75; refine (seal_four.calls ((Crc.sumL (Seal.cat [n, a0])).toNat : Int) m _ HM.out).mono ?_; rintro e w3 ⟨rfl, hb⟩; have HB3 := Aside0.mk (below_step HB2.out hb); clear hb))
    go_ret2
    exact ⟨rfl, HB3.out⟩

end Go.Proofs.Ytaddblicjlohcaa.Sl
