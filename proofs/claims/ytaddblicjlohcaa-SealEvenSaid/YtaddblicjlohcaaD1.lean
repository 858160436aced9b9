/- The sum of bytes in plain words: one step of the polynomial, the table, one byte, many. No conditions. -/
import Derived.Test.YtaddblicjlohcaaWMore
import Derived.Laws.BitsAllLaws
namespace Go.Proofs.Ytaddblicjlohcaa.Crc
open Go.RowKit

/-- One step: the lowest bit goes out; was it 1, the polynomial comes in. -/
def stp (x : BitVec 32) : BitVec 32 := if x.getLsbD 0 then (x >>> 1) ^^^ 0xedb88320#32 else x >>> 1
def stps : Nat → BitVec 32 → BitVec 32
  | 0, x => x
  | k + 1, x => stps k (stp x)
theorem stps_succ (k : Nat) : ∀ x, stps (k + 1) x = stp (stps k x) := by
  induction k with
  | zero => intro x; rfl
  | succ k ih => intro x; rw [stps, ih, stps]
theorem stps_add (j k : Nat) : ∀ x, stps (j + k) x = stps k (stps j x) := by
  induction j with
  | zero => intro x; rw [Nat.zero_add]; rfl
  | succ j ih => intro x; rw [Nat.succ_add, stps, ih]; rfl
theorem stp_zero : stp 0 = 0 := by decide
theorem stps_zero (k : Nat) : stps k 0 = 0 := by
  induction k with
  | zero => rfl
  | succ k ih => rw [stps_succ, ih, stp_zero]
theorem stp_xor (x y : BitVec 32) : stp (x ^^^ y) = stp x ^^^ stp y := by
  unfold stp
  rw [BitVec.getLsbD_xor, BitVec.ushiftRight_xor_distrib]
  cases x.getLsbD 0 <;> cases y.getLsbD 0 <;> simp only [Bool.xor_false, Bool.xor_true, Bool.not_false, Bool.not_true, if_true, if_false, Bool.false_eq_true]
  · rw [BitVec.xor_assoc]
  · rw [BitVec.xor_assoc, BitVec.xor_assoc]
    congr 1
    rw [BitVec.xor_comm]
  · rw [BitVec.xor_assoc, ← BitVec.xor_assoc (0xedb88320#32), BitVec.xor_comm (0xedb88320#32), BitVec.xor_assoc, BitVec.xor_self, BitVec.xor_zero]
theorem stps_xor (k : Nat) : ∀ x y : BitVec 32, stps k (x ^^^ y) = stps k x ^^^ stps k y := by
  induction k with
  | zero => intro x y; rfl
  | succ k ih => intro x y; rw [stps, stp_xor, ih]; rfl
/-- Bits that are 0 go out without a trace. -/
theorem stps_low (k : Nat) : ∀ x : BitVec 32, (∀ j, j < k → x.getLsbD j = false) → stps k x = x >>> k := by
  induction k with
  | zero => intro x _; simp [stps]
  | succ k ih =>
    intro x h
    have h0 := h 0 (by omega)
    have e : stp x = x >>> 1 := by unfold stp; rw [h0]; simp
    rw [stps, e, ih]
    · rw [← BitVec.shiftRight_add, Nat.add_comm]
    · intro j hj
      rw [BitVec.getLsbD_ushiftRight]
      exact h (1 + j) (by omega)
theorem stp_inj0 (x : BitVec 32) (h : stp x = 0) : x = 0 := by
  unfold stp at h
  by_cases c : x.getLsbD 0 = true
  · rw [if_pos c] at h
    have h31 := congrArg (fun z => z.getLsbD 31) h
    simp at h31
  · rw [if_neg c] at h
    apply BitVec.eq_of_getLsbD_eq
    intro i hi
    cases i with
    | zero => simpa using c
    | succ i =>
      have := congrArg (fun z => z.getLsbD i) h
      simp only [BitVec.getLsbD_ushiftRight] at this
      rw [Nat.add_comm] at this
      simpa using this
theorem stps_inj0 (k : Nat) : ∀ x : BitVec 32, stps k x = 0 → x = 0 := by
  induction k with
  | zero => intro x h; exact h
  | succ k ih => intro x h; exact stp_inj0 _ (ih _ h)
theorem stps_inj (k : Nat) (x y : BitVec 32) (h : stps k x = stps k y) : x = y := by
  have : stps k (x ^^^ y) = 0 := by rw [stps_xor, h]; exact BitVec.xor_self
  have := stps_inj0 k _ this
  have h2 : x ^^^ y ^^^ y = 0#32 ^^^ y := by rw [this]; rfl
  rw [BitVec.xor_assoc, BitVec.xor_self, BitVec.xor_zero, BitVec.zero_xor] at h2
  exact h2

/-- A byte as 32 bits. -/
def wide (b : Nat) : BitVec 32 := BitVec.ofNat 32 (b % 256)
/-- One byte goes in, bit by bit. -/
def byte1 (r : BitVec 32) (b : Nat) : BitVec 32 := stps 8 (r ^^^ wide b)
def bytesL (r : BitVec 32) : List Int → BitVec 32
  | [] => r
  | b :: l => bytesL (byte1 r b.toNat) l
theorem bytesL_append (l m : List Int) : ∀ r, bytesL r (l ++ m) = bytesL (bytesL r l) m := by
  induction l with
  | nil => intro r; rfl
  | cons b l ih => intro r; exact ih _
/-- The sum of bytes. -/
def sumL (l : List Int) : BitVec 32 := ~~~ (bytesL (BitVec.allOnes 32) l)

/-- The table's entry. -/
def tab (i : Nat) : BitVec 32 := stps 8 (BitVec.ofNat 32 i)
/-- One byte by the table. -/
theorem byte1_tab (r : BitVec 32) (b : Nat) (hb : b < 256) : byte1 r b = tab ((r.toNat % 256) ^^^ b) ^^^ (r >>> 8) := by
  have hsplit : r ^^^ wide b = BitVec.ofNat 32 ((r.toNat % 256) ^^^ b) ^^^ ((r >>> 8) <<< 8) := by
    apply BitVec.eq_of_getLsbD_eq
    intro i hi
    have e1 : r.getLsbD i = r.toNat.testBit i := rfl
    simp only [wide, BitVec.getLsbD_xor, BitVec.getLsbD_ofNat, BitVec.getLsbD_shiftLeft, BitVec.getLsbD_ushiftRight, hi, decide_true, Bool.true_and, Nat.testBit_xor, Nat.mod_eq_of_lt hb]
    rw [show (256 : Nat) = 2 ^ 8 from rfl, Nat.testBit_mod_two_pow, e1]
    by_cases h8 : i < 8
    · simp [h8]
    · have hbz : b.testBit i = false := Nat.testBit_lt_two_pow (Nat.lt_of_lt_of_le hb (by
        have : 2 ^ 8 ≤ 2 ^ i := Nat.pow_le_pow_right (by omega) (by omega)
        simpa using this))
      have e2 : r.getLsbD (8 + (i - 8)) = r.toNat.testBit i := by rw [show 8 + (i - 8) = i from by omega]; rfl
      simp [h8, hbz, e2]
  unfold byte1 tab
  rw [hsplit, stps_xor]
  congr 1
  rw [stps_low 8]
  · apply BitVec.eq_of_getLsbD_eq
    intro i hi
    simp only [BitVec.getLsbD_ushiftRight, BitVec.getLsbD_shiftLeft]
    by_cases h : 8 + i < 32
    · simp [h]
    · have h1 : r.getLsbD (8 + i) = false := BitVec.getLsbD_of_ge _ _ (by omega)
      simp [h1]
  · intro j hj
    simp [BitVec.getLsbD_shiftLeft, hj]
end Go.Proofs.Ytaddblicjlohcaa.Crc
