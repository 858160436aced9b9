/- What the printed readers of pack's reference come to, and that pack's own come to the same. Conditions: texts are shorter than 2^47, places lie in int. -/
import Derived.Test.YtaddblicjlohcaaA3
namespace Go.Proofs.Ytaddblicjlohcaa.PackSpec
open Go.RowKit Go.Proofs.Ytaddblicjlohcaa.Pk Go.Proofs.YtaddblicjlohcaaW.PrintWords Go.Proofs.YtaddblicjlohcaaW.PrintLast Go.Proofs.YtaddblicjlohcaaW.PrintMore

theorem sum_step (i v b : Nat) (hi : i ≤ 9) (hv : v < 128 ^ i) (hb : b < 128) (h9 : i = 9 → b ≤ 1) :
    IntKind.u64.wrap ((v : Int) + IntKind.u64.wrap ((b : Int) * ((128 ^ i : Nat) : Int))) = ((v + 128 ^ i * b : Nat) : Int) := by
  have h2 : 128 ^ i ≤ 128 ^ 9 := Nat.pow_le_pow_right (by omega) hi
  have hlt : v + 128 ^ i * b < 18446744073709551616 := by
    by_cases e : i = 9
    · subst e; have := h9 rfl; omega
    · have h1 : 128 ^ i * b ≤ 128 ^ i * 127 := Nat.mul_le_mul_left _ (by omega)
      have h2 : 128 ^ i ≤ 128 ^ 8 := Nat.pow_le_pow_right (by omega) (by omega)
      omega
  have e : (b : Int) * ((128 ^ i : Nat) : Int) = ((128 ^ i * b : Nat) : Int) := by rw [Nat.mul_comm]; push_cast; rfl
  rw [e, IntKind.wrap_u64, IntKind.wrap_u64]
  omega
theorem part_step (i : Nat) (hi : i < 9) : IntKind.u64.wrap (((128 ^ i : Nat) : Int) * 128) = ((128 ^ (i + 1) : Nat) : Int) := by
  have h2 : 128 ^ (i + 1) ≤ 128 ^ 9 := Nat.pow_le_pow_right (by omega) (by omega)
  rw [IntKind.wrap_u64, Nat.pow_succ]
  rw [Nat.pow_succ] at h2
  omega
theorem tmod128 (b : Int) (h0 : 0 ≤ b) : Int.tmod b 128 = ((b.toNat % 128 : Nat) : Int) := by rw [Int.tmod_eq_emod_of_nonneg h0]; omega

theorem rtakeU_loop (s : ByteArray) (p : Nat) (hs : s.size ≤ 4611686018427387904) (j : Nat) : ∀ (i v : Nat), i + j = 9 → p + i ≤ s.size → v < 128 ^ i →
    Ev (fun k => rialtoref01_TakeUint.l0 k s (p : Int) (v : Int) ((128 ^ i : Nat) : Int) (i : Int)) (outU v (p + i) (128 ^ i) (tk i ((bytesOf s).drop (p + i)))) := by
  induction j with
  | zero =>
    intro i v hij hp hv
    obtain rfl : i = 9 := by omega
    have hw : wrap64 ((p : Int) + ((9 : Nat) : Int)) = ((p + 9 : Nat) : Int) := by unfold wrap64; omega
    by_cases he : p + 9 = s.size
    · refine Ev.step (f := fun _ => some (0, 0, 10)) (fun k => ?_) ?_
      · simp only [rialtoref01_TakeUint.l0]
        rw [if_pos (by omega), hw, if_pos (by omega)]
      · have : (bytesOf s).drop (p + 9) = [] := List.drop_eq_nil_of_le (by rw [bytesOf_length]; omega)
        rw [this]
        simp only [tk, outU]
        exact Ev.now _
    · have hlt : p + 9 < s.size := by omega
      rw [bytes_at s (p + 9) hlt]
      have hr := bt_range s ((p + 9 : Nat) : Int)
      generalize hb : bt s ((p + 9 : Nat) : Int) = b at *
      have hub : IntKind.u64.wrap b = b := by rw [IntKind.wrap_u64]; omega
      by_cases h1 : b > 1
      · rw [tk, if_pos (by omega)]
        simp only [outU]
        refine Ev.step (f := fun k => rialtoref01_TakeUint.j2 k s (p : Int) (v : Int) ((128 ^ 9 : Nat) : Int) ((9 : Nat) : Int) b true) (fun k => ?_) (Ev.step (f := fun _ => some (0, 0, 11)) (fun k => ?_) (Ev.now _))
        · simp only [rialtoref01_TakeUint.l0]
          rw [if_pos (by omega), hw, if_neg (by omega), if_pos (by omega), if_pos (by omega), if_pos (by omega), hb, hub, decide_eq_true h1]
        · simp only [rialtoref01_TakeUint.j2]
          rw [if_pos trivial]
      · have hl0 : ∀ k, rialtoref01_TakeUint.l0 (k + 1) s (p : Int) (v : Int) ((128 ^ 9 : Nat) : Int) ((9 : Nat) : Int) = rialtoref01_TakeUint.j2 k s (p : Int) (v : Int) ((128 ^ 9 : Nat) : Int) ((9 : Nat) : Int) b false := by
          intro k
          simp only [rialtoref01_TakeUint.l0]
          rw [if_pos (by omega), hw, if_neg (by omega), if_pos (by omega), if_pos (by omega), if_pos (by omega), hb, hub, decide_eq_false h1]
        by_cases hz : b = 0
        · rw [tk, if_pos (by omega)]
          simp only [outU]
          refine Ev.step hl0 (Ev.step (f := fun _ => some (0, 0, 11)) (fun k => ?_) (Ev.now _))
          simp only [rialtoref01_TakeUint.j2]
          rw [if_neg (by simp), if_pos (by omega), if_pos hz, if_pos (by omega)]
        · rw [tk, if_neg (by omega), if_pos (by omega)]
          simp only [outU]
          refine Ev.step hl0 (Ev.step (f := fun _ => some (((v + 128 ^ 9 * b.toNat : Nat) : Int), ((p + 9 + 1 : Nat) : Int), 0)) (fun k => ?_) (Ev.now _))
          simp only [rialtoref01_TakeUint.j2]
          have hm : b.toNat % 128 = b.toNat := by omega
          rw [if_neg (by simp), if_pos (by omega), if_neg hz, hw, tmod128 b (by omega), hm, sum_step 9 v b.toNat (by omega) hv (by omega) (by omega)]
          have : wrap64 (((p + 9 : Nat) : Int) + 1) = ((p + 9 + 1 : Nat) : Int) := by unfold wrap64; omega
          rw [this]
  | succ j ih =>
    intro i v hij hp hv
    have hi9 : i < 9 := by omega
    have hw : wrap64 ((p : Int) + (i : Int)) = ((p + i : Nat) : Int) := by unfold wrap64; omega
    by_cases he : p + i = s.size
    · refine Ev.step (f := fun _ => some (0, 0, 10)) (fun k => ?_) ?_
      · simp only [rialtoref01_TakeUint.l0]
        rw [if_pos (by omega), hw, if_pos (by omega)]
      · have : (bytesOf s).drop (p + i) = [] := List.drop_eq_nil_of_le (by rw [bytesOf_length]; omega)
        rw [this]
        simp only [tk, outU]
        exact Ev.now _
    · have hlt : p + i < s.size := by omega
      rw [bytes_at s (p + i) hlt]
      have hr := bt_range s ((p + i : Nat) : Int)
      generalize hb : bt s ((p + i : Nat) : Int) = b at *
      have hub : IntKind.u64.wrap b = b := by rw [IntKind.wrap_u64]; omega
      have hl0 : ∀ k, rialtoref01_TakeUint.l0 (k + 1) s (p : Int) (v : Int) ((128 ^ i : Nat) : Int) (i : Int) = rialtoref01_TakeUint.j2 k s (p : Int) (v : Int) ((128 ^ i : Nat) : Int) (i : Int) b false := by
        intro k
        simp only [rialtoref01_TakeUint.l0]
        rw [if_pos (by omega), hw, if_neg (by omega), if_pos (by omega), if_pos (by omega), if_neg (by omega), hb, hub]
      by_cases hbad : i > 0 ∧ b = 0
      · rw [tk, if_pos (by omega)]
        simp only [outU]
        refine Ev.step hl0 (Ev.step (f := fun _ => some (0, 0, 11)) (fun k => ?_) (Ev.now _))
        simp only [rialtoref01_TakeUint.j2]
        rw [if_neg (by simp), if_pos (by omega), if_pos hbad.2, if_pos (by omega)]
      · rw [tk, if_neg (by omega)]
        have hor := sum_step i v (b.toNat % 128) (by omega) hv (by omega) (by omega)
        by_cases hend : b < 128
        · rw [if_pos hend]
          simp only [outU]
          refine Ev.step hl0 (Ev.step (f := fun _ => some (((v + 128 ^ i * b.toNat : Nat) : Int), ((p + i + 1 : Nat) : Int), 0)) (fun k => ?_) (Ev.now _))
          simp only [rialtoref01_TakeUint.j2]
          have hm : b.toNat % 128 = b.toNat := by omega
          have h3 : wrap64 (((p + i : Nat) : Int) + 1) = ((p + i + 1 : Nat) : Int) := by unfold wrap64; omega
          rw [if_neg (by simp), if_pos hend, hw, tmod128 b (by omega), hor, h3, hm]
          by_cases hz : b = 0
          · rw [if_pos hz, if_neg (fun h => hbad ⟨Int.natCast_pos.mp h, hz⟩)]
          · rw [if_neg hz]
        · rw [if_neg hend]
          have hv' : v + 128 ^ i * (b.toNat % 128) < 128 ^ (i + 1) := by
            rw [Nat.pow_succ]
            have : 128 ^ i * (b.toNat % 128) ≤ 128 ^ i * 127 := Nat.mul_le_mul_left _ (by omega)
            omega
          have := ih (i + 1) (v + 128 ^ i * (b.toNat % 128)) (by omega) (by omega) hv'
          have fin : ∀ R, Ev (fun k => rialtoref01_TakeUint.l0 k s (p : Int) ((v + 128 ^ i * (b.toNat % 128) : Nat) : Int) ((128 ^ (i + 1) : Nat) : Int) ((i + 1 : Nat) : Int)) R → Ev (fun k => rialtoref01_TakeUint.l0 k s (p : Int) (v : Int) ((128 ^ i : Nat) : Int) (i : Int)) R := by
            intro R hR
            refine Ev.step hl0 (Ev.step (fun k => ?_) hR)
            simp only [rialtoref01_TakeUint.j2]
            have h3 : wrap64 ((i : Int) + 1) = ((i + 1 : Nat) : Int) := by unfold wrap64; omega
            rw [if_neg (by simp), if_neg hend, tmod128 b (by omega), hor, part_step i hi9, h3]
          replace this := fin _ this
          rw [show p + (i + 1) = p + i + 1 from by omega] at this
          cases hr : tk (i + 1) ((bytesOf s).drop (p + i + 1)) with
          | err e => rw [hr] at this; exact this
          | ok n c =>
            rw [hr] at this
            simp only [outU] at this ⊢
            have hm : b.toNat % 128 = b.toNat - 128 := by omega
            have e1 : v + 128 ^ i * (b.toNat % 128) + 128 ^ (i + 1) * n = v + 128 ^ i * (b.toNat - 128 + 128 * n) := by
              rw [hm, Nat.pow_succ, Nat.mul_add, Nat.mul_assoc, Nat.add_assoc]
            have e2 : p + i + 1 + c = p + i + (c + 1) := by omega
            rw [e1, e2] at this
            exact this

theorem rtakeU_ev (s : ByteArray) (a : Int) (hs : s.size ≤ 4611686018427387904) : Ev (fun k => rialtoref01_TakeUint.f k s a) (takeU s a) := by
  unfold takeU
  by_cases h0 : a < 0
  · rw [if_pos (.inl h0)]
    refine Ev.congr (f := fun k => rialtoref01_TakeUint.j0 k s a true) (fun k => ?_) (Ev.step (f := fun _ => some (0, 0, 1)) (fun k => ?_) (Ev.now _))
    · unfold rialtoref01_TakeUint.f; rw [if_pos h0]
    · simp only [rialtoref01_TakeUint.j0]; rw [if_pos trivial]
  · by_cases h1 : a > s.size
    · rw [if_pos (.inr h1)]
      refine Ev.congr (f := fun k => rialtoref01_TakeUint.j0 k s a true) (fun k => ?_) (Ev.step (f := fun _ => some (0, 0, 1)) (fun k => ?_) (Ev.now _))
      · unfold rialtoref01_TakeUint.f; rw [if_neg h0, decide_eq_true h1]
      · simp only [rialtoref01_TakeUint.j0]; rw [if_pos trivial]
    · rw [if_neg (by omega)]
      obtain ⟨p, rfl⟩ := Int.eq_ofNat_of_zero_le (by omega : 0 ≤ a)
      have := rtakeU_loop s p hs 9 0 0 rfl (by omega) (by omega)
      simp only [Nat.add_zero, Nat.pow_zero] at this
      refine Ev.congr (f := fun k => rialtoref01_TakeUint.j0 k s (p : Int) false) (fun k => ?_) (Ev.step (fun k => ?_) this)
      · unfold rialtoref01_TakeUint.f; rw [if_neg h0, decide_eq_false h1]
      · simp only [rialtoref01_TakeUint.j0]; rw [if_neg (by simp)]; rfl
end Go.Proofs.Ytaddblicjlohcaa.PackSpec
