/- What the printed functions of seal's reference, and seal's own, come to in plain words. Conditions: texts are shorter than 2^62 bytes. -/
import Derived.Test.YtaddblicjlohcaaD2
import Derived.Test.YtaddblicjlohcaaD0
import Derived.Test.YtaddblicjlohcaaSl3
import Derived.Test.YtaddblicjlohcaaSl6
import Derived.Test.YtaddblicjlohcaaSl7
import Derived.Test.YtaddblicjlohcaaSl8
import Derived.Test.YtaddblicjlohcaaSl9
import Derived.Test.YtaddblicjlohcaaSl10
namespace Go.Proofs.Ytaddblicjlohcaa.SealSpec
open Go.RowKit Go.Proofs.Ytaddblicjlohcaa.Sl Go.Proofs.Ytaddblicjlohcaa.TextSpec Go.Proofs.YtaddblicjlohcaaW.PrintWords Go.Proofs.YtaddblicjlohcaaW.PrintLast Go.Proofs.YtaddblicjlohcaaW.PrintMore
open Crc (stp stps byte1 bytesL sumL wide)

theorem half32 (x : BitVec 32) : Int.tdiv (x.toNat : Int) (2 : Int) % (4294967296 : Int) = ((x >>> 1).toNat : Int) := by
  have := x.isLt
  rw [Int.tdiv_eq_ediv_of_nonneg (by omega), BitVec.toNat_ushiftRight, Nat.shiftRight_eq_div_pow]
  omega
theorem xor32 (x y : BitVec 32) : Go.bits .xor .u32 (x.toNat : Int) (y.toNat : Int) = ((x ^^^ y).toNat : Int) := Seal.xor_u32 x y
/-- The reference's inner loop: j bits of b, from bit i on. -/
theorem rsum_bits (s : ByteArray) (p : Nat) (R : Int) (hp : p < 4611686018427387904) (j : Nat) : ∀ (i : Nat) (r : BitVec 32) (b : Nat), i + j = 8 → b < 2 ^ j →
    Ev (fun k => rialtoref02_Sum.l0 k s ((stps j (r ^^^ BitVec.ofNat 32 b)).toNat : Int) ((p + 1 : Nat) : Int)) R → Ev (fun k => rialtoref02_Sum.l1 k s (r.toNat : Int) (p : Int) (b : Int) (i : Int)) R := by
  induction j with
  | zero =>
    intro i r b hi hb h
    obtain rfl : b = 0 := by omega
    have hr : stps 0 (r ^^^ BitVec.ofNat 32 0) = r := by show r ^^^ 0#32 = r; exact BitVec.xor_zero
    rw [hr] at h
    refine Ev.step (fun k => ?_) h
    simp only [rialtoref02_Sum.l1]
    have : wrap64 ((p : Int) + 1) = ((p + 1 : Nat) : Int) := by unfold wrap64; omega
    rw [if_neg (by omega), this]
  | succ j ih =>
    intro i r b hi hb h
    have hw : wrap64 ((i : Int) + 1) = ((i + 1 : Nat) : Int) := by unfold wrap64; omega
    have hb2 : Int.tdiv (b : Int) 2 % 4294967296 = ((b / 2 : Nat) : Int) := by
      have : 2 ^ (j + 1) ≤ 2 ^ 8 := Nat.pow_le_pow_right (by omega) (by omega)
      rw [Int.tdiv_eq_ediv_of_nonneg (by omega)]; omega
    have hbj : b / 2 < 2 ^ j := by rw [Nat.pow_succ] at hb; omega
    have hr0 : r.getLsbD 0 = decide (r.toNat % 2 = 1) := by
      have : r.getLsbD 0 = r.toNat.testBit 0 := rfl
      rw [this, Nat.testBit_zero]
    have hsplit : stp (r ^^^ BitVec.ofNat 32 b) = (if r.toNat % 2 = b % 2 then r >>> 1 else (r >>> 1) ^^^ 0xedb88320#32) ^^^ BitVec.ofNat 32 (b / 2) := by
      have hsh : (BitVec.ofNat 32 b) >>> 1 = BitVec.ofNat 32 (b / 2) := by
        have : 2 ^ (j + 1) ≤ 2 ^ 8 := Nat.pow_le_pow_right (by omega) (by omega)
        apply BitVec.eq_of_toNat_eq
        rw [BitVec.toNat_ushiftRight, Nat.shiftRight_eq_div_pow, BitVec.toNat_ofNat, BitVec.toNat_ofNat]
        omega
      have hbit : (r ^^^ BitVec.ofNat 32 b).getLsbD 0 = decide (¬ r.toNat % 2 = b % 2) := by
        rw [BitVec.getLsbD_xor, hr0, BitVec.getLsbD_ofNat]
        simp only [show (0 : Nat) < 32 from by omega, decide_true, Bool.true_and, Nat.testBit_zero]
        rcases Nat.mod_two_eq_zero_or_one r.toNat with e | e <;> rcases Nat.mod_two_eq_zero_or_one b with f | f <;> simp [e, f]
      unfold stp
      rw [hbit, BitVec.ushiftRight_xor_distrib, hsh]
      by_cases c : r.toNat % 2 = b % 2
      · simp [c]
      · simp only [c, not_false_eq_true, decide_true, if_true, if_false]
        rw [BitVec.xor_assoc, BitVec.xor_comm (BitVec.ofNat 32 (b / 2)), ← BitVec.xor_assoc]
    have htm : (Int.tmod (r.toNat : Int) 2 = Int.tmod (b : Int) 2) ↔ r.toNat % 2 = b % 2 := by
      rw [Int.tmod_eq_emod_of_nonneg (by omega), Int.tmod_eq_emod_of_nonneg (by omega)]
      omega
    by_cases c : r.toNat % 2 = b % 2
    · rw [if_pos c] at hsplit
      refine Ev.step (fun k => ?_) (ih (i + 1) (r >>> 1) (b / 2) (by omega) hbj (by rw [← hsplit]; exact h))
      simp only [rialtoref02_Sum.l1]
      rw [if_pos (by omega), if_pos (htm.2 c), half32, hb2, hw]
    · rw [if_neg c] at hsplit
      refine Ev.step (fun k => ?_) (ih (i + 1) ((r >>> 1) ^^^ 0xedb88320#32) (b / 2) (by omega) hbj (by rw [← hsplit]; exact h))
      simp only [rialtoref02_Sum.l1]
      rw [if_pos (by omega), if_neg (fun h => c (htm.1 h)), half32, hb2, hw]
      have := xor32 (r >>> 1) 0xedb88320#32
      have e : ((0xedb88320#32 : BitVec 32).toNat : Int) = 3988292384 := rfl
      rw [e] at this
      rw [this]
theorem rsum_loop (s : ByteArray) (hs : s.size ≤ 4611686018427387904) (j : Nat) : ∀ (p : Nat) (r : BitVec 32), p + j = s.size →
    Ev (fun k => rialtoref02_Sum.l0 k s (r.toNat : Int) (p : Int)) ((~~~ (bytesL r ((bytesOf s).drop p))).toNat : Int) := by
  induction j with
  | zero =>
    intro p r hp
    have : (bytesOf s).drop p = [] := List.drop_eq_nil_of_le (by rw [bytesOf_length]; omega)
    rw [this]
    refine Ev.step (f := fun _ => some ((~~~ r).toNat : Int)) (fun k => ?_) (Ev.now _)
    simp only [rialtoref02_Sum.l0]
    rw [if_neg (by omega)]
    have h := xor32 r (BitVec.allOnes 32)
    rw [BitVec.xor_allOnes] at h
    rw [← h]
    rfl
  | succ j ih =>
    intro p r hp
    have hlt : p < s.size := by omega
    rw [bytes_at s p hlt, bytesL]
    have hb := bt_range s (p : Int)
    obtain ⟨b, hbe⟩ : ∃ b : Nat, bt s (p : Int) = b := ⟨(bt s (p : Int)).toNat, by omega⟩
    rw [hbe] at hb ⊢
    rw [Int.toNat_natCast]
    have hw : wide b = BitVec.ofNat 32 b := by unfold wide; rw [Nat.mod_eq_of_lt (by omega)]
    have := rsum_bits s p ((~~~ (bytesL (byte1 r b) ((bytesOf s).drop (p + 1)))).toNat : Int) (by omega) 8 0 r b rfl (by omega) (by
      have h := ih (p + 1) (byte1 r b) (by omega)
      unfold byte1 at h ⊢
      rw [hw] at h ⊢
      exact h)
    refine Ev.step (fun k => ?_) this
    simp only [rialtoref02_Sum.l0]
    rw [if_pos (by omega), if_pos (by omega), hbe]
    have : (b : Int) % 4294967296 = (b : Int) := by omega
    rw [this]
    rfl
theorem rsum_ev (s : ByteArray) (hs : s.size ≤ 4611686018427387904) : Ev (fun k => rialtoref02_Sum.f k s) ((sumL (bytesOf s)).toNat : Int) := rsum_loop s hs s.size 0 (BitVec.allOnes 32) (by omega)
theorem live02 : rialtolaw02_live.f = some true := by decide +kernel
end Go.Proofs.Ytaddblicjlohcaa.SealSpec
