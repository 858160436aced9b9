/- seal's Sum: what it answers for any text. Conditions: a text takes fewer than 2^47 bytes. -/
import Derived.Test.YtaddblicjlohcaaC4
namespace Go.Proofs.Ytaddblicjlohcaa.Seal
open Go Go.RowKit Go.Proofs.YtaddblicjlohcaaW.PrintWords Go.Proofs.YtaddblicjlohcaaW.PrintMore
theorem fresh_zero : Fresh Try.zeroCells115 := ⟨by kernel_rfl, by kernel_rfl, by kernel_rfl⟩
theorem obj_new (w : World) : Obj' (w.alloc (.cells Try.zeroCells115 115 (0, 0))) w.heap.size := ⟨_, blk_new _ _, .inl fresh_zero⟩
theorem obj_alloc {w : World} {g : Nat} (h : Obj' w g) (o : Obj) : Obj' (w.alloc o) g := by
  obtain ⟨cs, hb, h⟩ := h
  exact ⟨cs, blk_alloc hb o, h⟩
theorem obj_below {w w1 : World} {g : Nat} (h : Obj' w g) (hb : Below w.heap.size w w1) : Obj' w1 g := by
  obtain ⟨cs, h1, h⟩ := h
  exact ⟨cs, blk_below h1 hb, h⟩
theorem obj_lt {w : World} {g : Nat} (h : Obj' w g) : g < w.heap.size := by
  obtain ⟨cs, h1, h⟩ := h
  exact blk_lt h1
set_option maxRecDepth 100000 in
set_option maxHeartbeats 400000 in
theorem Sum_calls (s : ByteArray) (w : World) (hs : s.size ≤ 140737488355328) : Calls Try.prog 39 #[.string s] w fun e w' => e = .returned (.int .u32 ((Crc.sumL (bytesOf s)).toNat : Int)) ∧ Below w.heap.size w w' := by
  have HS := Aside0.mk hs
  clear hs
  have hz : (w.alloc (.cells Try.zeroCells115 115 (0, 0))).heap.size = w.heap.size + 1 := World.size_alloc _ _
  have HO := Aside0.mk (obj_alloc (obj_new w) (.cells #[.string s] 9 (0, 0)))
  have HC := Aside0.mk (show ∀ i (h : i < [s].length), ((w.alloc (.cells Try.zeroCells115 115 (0, 0))).alloc (.cells #[.string s] 9 (0, 0))).cell? ((⟨w.heap.size + 1, 0, none⟩ : Addr).add i) = some (.string [s][i]) by
    intro i h
    obtain rfl : i = 0 := by simp at h; omega
    have h1 := blk_new (w.alloc (.cells Try.zeroCells115 115 (0, 0))) (.cells #[.string s] 9 (0, 0))
    rw [hz] at h1
    rw [add_plain, blk_cell h1]; rfl)
  have HB := Aside0.mk (below_alloc (below_alloc (Below.refl w.heap.size w) (.cells Try.zeroCells115 115 (0, 0))) (.cells #[.string s] 9 (0, 0)))
  clear hz
  go_enter Try.func39, Try.ntmps39
  go_wp2_with (go_at_call 76; refine (sum_any w.heap.size ⟨w.heap.size + 1, 0, none⟩ 1 [s] _ HO.out (by simp) (by simp) HC.out (by intro t ht; simp at ht; subst ht; exact HS.out)).mono ?_; rintro e w1 ⟨rfl, ho, hk, hl⟩; have HL := Aside0.mk (HB.out.trans hl); clear ho hk hl)
  go_ret
  exact ⟨by simp [cat], HL.out⟩
end Go.Proofs.Ytaddblicjlohcaa.Seal
