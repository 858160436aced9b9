/- What the printed readers of pack, and of its reference, come to: the same plain reader. Conditions: texts are shorter than 2^47, places lie in int. -/
import Derived.Test.YtaddblicjlohcaaA2
namespace Go.Proofs.Ytaddblicjlohcaa.PackSpec
open Go.RowKit Go.Proofs.Ytaddblicjlohcaa.Pk Go.Proofs.YtaddblicjlohcaaW.PrintWords Go.Proofs.YtaddblicjlohcaaW.PrintLast Go.Proofs.YtaddblicjlohcaaW.PrintMore

theorem bytes_range (s : ByteArray) : ∀ x ∈ bytesOf s, 0 ≤ x ∧ x < 256 := by
  intro x hx
  simp only [bytesOf, List.mem_map] at hx
  obtain ⟨b, _, rfl⟩ := hx
  have := b.toNat_lt
  omega
theorem drop_range (s : ByteArray) (p : Nat) : ∀ x ∈ (bytesOf s).drop p, 0 ≤ x ∧ x < 256 := fun x hx => bytes_range s x (List.mem_of_mem_drop hx)
theorem bytes_at (s : ByteArray) (p : Nat) (h : p < s.size) : (bytesOf s).drop p = bt s (p : Int) :: (bytesOf s).drop (p + 1) := by
  have hl : p < (bytesOf s).length := by rw [bytesOf_length]; exact h
  rw [List.drop_eq_getElem_cons hl, ← rd_bytesOf]
  simp [rd, List.getD_eq_getElem?_getD, List.getElem?_eq_getElem hl]

/-- What a reader answers: the number, the place behind it, what is wrong. -/
def outU (v p m : Nat) : Res → Int × Int × Int
  | .ok n c => (((v + m * n : Nat) : Int), ((p + c : Nat) : Int), 0)
  | .err e => (0, 0, e)
def takeU (s : ByteArray) (a : Int) : Int × Int × Int := if a < 0 ∨ a > s.size then (0, 0, 1) else outU 0 a.toNat 1 (tk 0 ((bytesOf s).drop a.toNat))

theorem or_step (i v b : Nat) (hi : i ≤ 9) (hv : v < 128 ^ i) (hb : b < 128) (h9 : i = 9 → b ≤ 1) :
    Go.bits .or .u64 (v : Int) (shl .u64 (b : Int) ((7 * i : Nat) : Int)) = ((v + 128 ^ i * b : Nat) : Int) := by
  have hp : (128 : Nat) ^ i = 2 ^ (7 * i) := by rw [Nat.pow_mul]
  have hlt : 128 ^ i * b < 18446744073709551616 := by
    by_cases e : i = 9
    · subst e; have := h9 rfl; omega
    · have h1 : 128 ^ i * b ≤ 128 ^ i * 127 := Nat.mul_le_mul_left _ (by omega)
      have h2 : 128 ^ i ≤ 128 ^ 8 := Nat.pow_le_pow_right (by omega) (by omega)
      omega
  have h2 : 128 ^ i ≤ 128 ^ 9 := Nat.pow_le_pow_right (by omega) hi
  have hs : shl .u64 (b : Int) ((7 * i : Nat) : Int) = ((128 ^ i * b : Nat) : Int) := by
    unfold shl
    have hm : min ((7 * i : Nat) : Int).toNat IntKind.u64.bits = 7 * i := by
      have : IntKind.u64.bits = 64 := rfl
      rw [this]; omega
    rw [hm, IntKind.wrap_u64, hp, Nat.mul_comm (2 ^ (7 * i)) b]
    have : (b : Int) * 2 ^ (7 * i) = ((b * 2 ^ (7 * i) : Nat) : Int) := by push_cast; rfl
    rw [this]
    rw [hp, Nat.mul_comm] at hlt
    omega
  rw [hs, u64_or_nat v _ (by omega) hlt, Nat.or_comm, nat_join (7 * i) (128 ^ i * b) v (by rw [← hp]; exact Nat.mul_mod_right _ _) (by rw [← hp]; exact hv)]
  congr 1
  omega

theorem and127 (b : Int) (h0 : 0 ≤ b) (h1 : b < 256) : Go.bits .and .u8 b 127 = ((b.toNat % 128 : Nat) : Int) := by
  rw [u8_and b 127 h0 h1 (by omega) (by omega)]
  have e : (127 : Int).toNat = 127 := rfl
  rw [e, nat_mask7]

theorem takeU_loop (s : ByteArray) (p : Nat) (hs : s.size ≤ 4611686018427387904) (j : Nat) : ∀ (i v : Nat), i + j = 9 → p + i ≤ s.size → v < 128 ^ i →
    Ev (fun k => pack_TakeUint.l0 k s (p : Int) (v : Int) (i : Int)) (outU v (p + i) (128 ^ i) (tk i ((bytesOf s).drop (p + i)))) := by
  induction j with
  | zero =>
    intro i v hij hp hv
    obtain rfl : i = 9 := by omega
    have hw : wrap64 ((p : Int) + ((9 : Nat) : Int)) = ((p + 9 : Nat) : Int) := by unfold wrap64; omega
    by_cases he : p + 9 = s.size
    · refine Ev.step (f := fun _ => some (0, 0, 10)) (fun k => ?_) ?_
      · simp only [pack_TakeUint.l0]
        rw [if_pos (by omega), hw, if_pos (by omega)]
      · have : (bytesOf s).drop (p + 9) = [] := List.drop_eq_nil_of_le (by rw [bytesOf_length]; omega)
        rw [this]
        simp only [tk, outU]
        exact Ev.now _
    · have hlt : p + 9 < s.size := by omega
      rw [bytes_at s (p + 9) hlt]
      have hr := bt_range s ((p + 9 : Nat) : Int)
      generalize hb : bt s ((p + 9 : Nat) : Int) = b at *
      by_cases hbad : b > 1 ∨ b = 0
      · rw [tk, if_pos (by omega)]
        simp only [outU]
        refine Ev.step (f := fun k => pack_TakeUint.j2 k s (p : Int) (v : Int) ((9 : Nat) : Int) b ((9 : Nat) : Int) true) (fun k => ?_) (Ev.step (f := fun _ => some (0, 0, 11)) (fun k => ?_) (Ev.now _))
        · simp only [pack_TakeUint.l0]
          rw [if_pos (by omega), hw, if_neg (by omega), if_pos (by omega), if_pos (by omega), if_pos (by omega), hb]
          by_cases h1 : b > 1
          · rw [if_pos h1]
          · have hz : b = 0 := by omega
            rw [if_neg h1, if_pos (by omega)]
            subst hz
            rfl
        · simp only [pack_TakeUint.j2]
          rw [if_pos trivial]
      · rw [tk, if_neg (by omega), if_pos (by omega)]
        simp only [outU]
        refine Ev.step (f := fun k => pack_TakeUint.j2 k s (p : Int) (v : Int) ((9 : Nat) : Int) b ((9 : Nat) : Int) false) (fun k => ?_) (Ev.step (f := fun _ => some (((v + 128 ^ 9 * b.toNat : Nat) : Int), ((p + 9 + 1 : Nat) : Int), 0)) (fun k => ?_) (Ev.now _))
        · simp only [pack_TakeUint.l0]
          rw [if_pos (by omega), hw, if_neg (by omega), if_pos (by omega), if_pos (by omega), if_pos (by omega), hb, if_neg (by omega), if_pos (by omega)]
          have hz : (b == 0) = false := by rw [beq_eq_false_iff_ne]; omega
          rw [hz]
        · simp only [pack_TakeUint.j2]
          have h7 : wrap64 (7 * ((9 : Nat) : Int)) = ((7 * 9 : Nat) : Int) := by unfold wrap64; omega
          rw [if_neg (by simp), h7, if_pos (by omega), if_pos (by omega), hw, and127 b (by omega) (by omega)]
          have hm : b.toNat % 128 = b.toNat := by omega
          have hu : IntKind.u64.wrap ((b.toNat % 128 : Nat) : Int) = ((b.toNat : Nat) : Int) := by rw [IntKind.wrap_u64, hm]; omega
          rw [hu, or_step 9 v b.toNat (by omega) hv (by omega) (by omega)]
          have : wrap64 (((p + 9 : Nat) : Int) + 1) = ((p + 9 + 1 : Nat) : Int) := by unfold wrap64; omega
          rw [this]
  | succ j ih =>
    intro i v hij hp hv
    have hw : wrap64 ((p : Int) + (i : Int)) = ((p + i : Nat) : Int) := by unfold wrap64; omega
    by_cases he : p + i = s.size
    · refine Ev.step (f := fun _ => some (0, 0, 10)) (fun k => ?_) ?_
      · simp only [pack_TakeUint.l0]
        rw [if_pos (by omega), hw, if_pos (by omega)]
      · have : (bytesOf s).drop (p + i) = [] := List.drop_eq_nil_of_le (by rw [bytesOf_length]; omega)
        rw [this]
        simp only [tk, outU]
        exact Ev.now _
    · have hlt : p + i < s.size := by omega
      rw [bytes_at s (p + i) hlt]
      have hr := bt_range s ((p + i : Nat) : Int)
      generalize hb : bt s ((p + i : Nat) : Int) = b at *
      by_cases hbad : i > 0 ∧ b = 0
      · rw [tk, if_pos (by omega)]
        simp only [outU]
        refine Ev.step (f := fun k => pack_TakeUint.j2 k s (p : Int) (v : Int) (i : Int) b (i : Int) true) (fun k => ?_) (Ev.step (f := fun _ => some (0, 0, 11)) (fun k => ?_) (Ev.now _))
        · simp only [pack_TakeUint.l0]
          rw [if_pos (by omega), hw, if_neg (by omega), if_pos (by omega), if_pos (by omega), if_neg (by omega), if_pos (by omega), hb]
          have hz : b = 0 := hbad.2
          subst hz
          rfl
        · simp only [pack_TakeUint.j2]
          rw [if_pos trivial]
      · rw [tk, if_neg (by omega)]
        have h7 : wrap64 (7 * (i : Int)) = ((7 * i : Nat) : Int) := by unfold wrap64; omega
        have hu : IntKind.u64.wrap ((b.toNat % 128 : Nat) : Int) = ((b.toNat % 128 : Nat) : Int) := by rw [IntKind.wrap_u64]; omega
        have hor := or_step i v (b.toNat % 128) (by omega) hv (by omega) (by omega)
        have hl0 : ∀ k, pack_TakeUint.l0 (k + 1) s (p : Int) (v : Int) (i : Int) = pack_TakeUint.j2 k s (p : Int) (v : Int) (i : Int) b (i : Int) false := by
          intro k
          simp only [pack_TakeUint.l0]
          rw [if_pos (by omega), hw, if_neg (by omega), if_pos (by omega), if_pos (by omega), if_neg (by omega), hb]
          by_cases hi0 : (i : Int) > 0
          · rw [if_pos hi0]
            have hz : (b == 0) = false := by rw [beq_eq_false_iff_ne]; omega
            rw [hz]
          · rw [if_neg hi0]
        by_cases hend : b < 128
        · rw [if_pos hend]
          simp only [outU]
          refine Ev.step hl0 (Ev.step (f := fun _ => some (((v + 128 ^ i * b.toNat : Nat) : Int), ((p + i + 1 : Nat) : Int), 0)) (fun k => ?_) (Ev.now _))
          simp only [pack_TakeUint.j2]
          rw [if_neg (by simp), h7, if_pos (by omega), if_pos hend, hw, and127 b (by omega) (by omega), hu, hor]
          have hm : b.toNat % 128 = b.toNat := by omega
          have : wrap64 (((p + i : Nat) : Int) + 1) = ((p + i + 1 : Nat) : Int) := by unfold wrap64; omega
          rw [this, hm]
        · rw [if_neg hend]
          have hv' : v + 128 ^ i * (b.toNat % 128) < 128 ^ (i + 1) := by
            rw [Nat.pow_succ]
            have : 128 ^ i * (b.toNat % 128) ≤ 128 ^ i * 127 := Nat.mul_le_mul_left _ (by omega)
            omega
          have := ih (i + 1) (v + 128 ^ i * (b.toNat % 128)) (by omega) (by omega) hv'
          have fin : ∀ R, Ev (fun k => pack_TakeUint.l0 k s (p : Int) ((v + 128 ^ i * (b.toNat % 128) : Nat) : Int) ((i + 1 : Nat) : Int)) R → Ev (fun k => pack_TakeUint.l0 k s (p : Int) (v : Int) (i : Int)) R := by
            intro R hR
            refine Ev.step hl0 (Ev.step (fun k => ?_) hR)
            simp only [pack_TakeUint.j2]
            rw [if_neg (by simp), h7, if_pos (by omega), if_neg hend, and127 b (by omega) (by omega), hu, hor]
            have : wrap64 ((i : Int) + 1) = ((i + 1 : Nat) : Int) := by unfold wrap64; omega
            rw [this]
          replace this := fin _ this
          rw [show p + (i + 1) = p + i + 1 from by omega] at this
          cases hr : tk (i + 1) ((bytesOf s).drop (p + i + 1)) with
          | err e => rw [hr] at this; exact this
          | ok n c =>
            rw [hr] at this
            simp only [outU] at this ⊢
            have hm : b.toNat % 128 = b.toNat - 128 := by omega
            have e1 : v + 128 ^ i * (b.toNat % 128) + 128 ^ (i + 1) * n = v + 128 ^ i * (b.toNat - 128 + 128 * n) := by
              rw [hm, Nat.pow_succ, Nat.mul_add, Nat.mul_assoc, Nat.add_assoc]
            have e2 : p + i + 1 + c = p + i + (c + 1) := by omega
            rw [e1, e2] at this
            exact this

theorem takeU_ev (s : ByteArray) (a : Int) (hs : s.size ≤ 4611686018427387904) : Ev (fun k => pack_TakeUint.f k s a) (takeU s a) := by
  unfold takeU
  by_cases h0 : a < 0
  · rw [if_pos (.inl h0)]
    refine Ev.congr (f := fun k => pack_TakeUint.j0 k s a true) (fun k => ?_) (Ev.step (f := fun _ => some (0, 0, 1)) (fun k => ?_) (Ev.now _))
    · unfold pack_TakeUint.f; rw [if_pos h0]
    · simp only [pack_TakeUint.j0]; rw [if_pos trivial]
  · by_cases h1 : a > s.size
    · rw [if_pos (.inr h1)]
      refine Ev.congr (f := fun k => pack_TakeUint.j0 k s a true) (fun k => ?_) (Ev.step (f := fun _ => some (0, 0, 1)) (fun k => ?_) (Ev.now _))
      · unfold pack_TakeUint.f; rw [if_neg h0, decide_eq_true h1]
      · simp only [pack_TakeUint.j0]; rw [if_pos trivial]
    · rw [if_neg (by omega)]
      obtain ⟨p, rfl⟩ := Int.eq_ofNat_of_zero_le (by omega : 0 ≤ a)
      have := takeU_loop s p hs 9 0 0 rfl (by omega) (by omega)
      simp only [Nat.add_zero, Nat.pow_zero] at this
      refine Ev.congr (f := fun k => pack_TakeUint.j0 k s (p : Int) false) (fun k => ?_) (Ev.step (fun k => ?_) this)
      · unfold pack_TakeUint.f; rw [if_neg h0, decide_eq_false h1]
      · simp only [pack_TakeUint.j0]; rw [if_neg (by simp)]; rfl
end Go.Proofs.Ytaddblicjlohcaa.PackSpec
