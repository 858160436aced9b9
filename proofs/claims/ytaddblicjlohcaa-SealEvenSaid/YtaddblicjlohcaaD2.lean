/- The sum of bytes is even: what is turned in a text turns its sum by what the turned bits alone come to, and never by nothing within 32 bits. No conditions. -/
import Derived.Test.YtaddblicjlohcaaD1
namespace Go.Proofs.Ytaddblicjlohcaa.Crc
open Go.RowKit

theorem xor4 (a b c d : BitVec 32) : (a ^^^ b) ^^^ (c ^^^ d) = (a ^^^ c) ^^^ (b ^^^ d) := by
  apply BitVec.eq_of_getLsbD_eq
  intro i _
  simp only [BitVec.getLsbD_xor]
  cases a.getLsbD i <;> cases b.getLsbD i <;> cases c.getLsbD i <;> cases d.getLsbD i <;> rfl
theorem wide_xor (a b : Nat) (ha : a < 256) (hb : b < 256) : wide (a ^^^ b) = wide a ^^^ wide b := by
  have h : a ^^^ b < 256 := Nat.xor_lt_two_pow (n := 8) ha hb
  unfold wide
  rw [Nat.mod_eq_of_lt ha, Nat.mod_eq_of_lt hb, Nat.mod_eq_of_lt h]
  apply BitVec.eq_of_getLsbD_eq
  intro i hi
  simp
theorem byte1_xor (r q : BitVec 32) (a b : Nat) (ha : a < 256) (hb : b < 256) : byte1 (r ^^^ q) (a ^^^ b) = byte1 r a ^^^ byte1 q b := by
  unfold byte1
  rw [wide_xor a b ha hb, ← stps_xor, xor4]
theorem wide_zero : wide 0 = 0 := rfl
/-- A turned register goes on turned, whatever the bytes. -/
theorem bytesL_reg (l : List Int) : ∀ r q : BitVec 32, bytesL (r ^^^ q) l = bytesL r l ^^^ stps (8 * l.length) q := by
  induction l with
  | nil => intro r q; rfl
  | cons b l ih =>
    intro r q
    have h : byte1 (r ^^^ q) b.toNat = byte1 r b.toNat ^^^ stps 8 q := by
      unfold byte1
      rw [← stps_xor, BitVec.xor_assoc, BitVec.xor_assoc, BitVec.xor_comm q]
    rw [bytesL, h, ih, bytesL, List.length_cons, show 8 * (l.length + 1) = 8 + 8 * l.length from by omega, stps_add]
/-- Three texts of one length. -/
theorem bytesL_three (n : Nat) : ∀ (a b c : List Int) (p q r : BitVec 32), a.length = n → b.length = n → c.length = n →
    (∀ x ∈ a, 0 ≤ x ∧ x < 256) → (∀ x ∈ b, 0 ≤ x ∧ x < 256) → (∀ x ∈ c, 0 ≤ x ∧ x < 256) → ∀ x : List Int, x.length = n →
    (∀ i, i < n → (x.getD i 0).toNat = (a.getD i 0).toNat ^^^ (b.getD i 0).toNat ^^^ (c.getD i 0).toNat) → bytesL (p ^^^ q ^^^ r) x = bytesL p a ^^^ bytesL q b ^^^ bytesL r c := by
  induction n with
  | zero =>
    intro a b c p q r ha hb hc _ _ _ x hx _
    obtain rfl := List.eq_nil_of_length_eq_zero ha
    obtain rfl := List.eq_nil_of_length_eq_zero hb
    obtain rfl := List.eq_nil_of_length_eq_zero hc
    obtain rfl := List.eq_nil_of_length_eq_zero hx
    rfl
  | succ n ih =>
    intro a b c p q r ha hb hc ra rb rc x hx he
    match a, b, c, x, ha, hb, hc, hx with
    | a0 :: a, b0 :: b, c0 :: c, x0 :: x, ha, hb, hc, hx =>
      have h0 := he 0 (by omega)
      simp only [List.getD_cons_zero] at h0
      have A := ra a0 (by simp)
      have B := rb b0 (by simp)
      have C := rc c0 (by simp)
      have hab : a0.toNat ^^^ b0.toNat < 256 := Nat.xor_lt_two_pow (n := 8) (by omega) (by omega)
      rw [bytesL, bytesL, bytesL, bytesL, h0, byte1_xor _ _ _ _ hab (by omega), byte1_xor _ _ _ _ (by omega) (by omega)]
      exact ih a b c _ _ _ (by simpa using ha) (by simpa using hb) (by simpa using hc) (fun y hy => ra y (by simp [hy])) (fun y hy => rb y (by simp [hy])) (fun y hy => rc y (by simp [hy])) x (by simpa using hx)
        (fun i hi => by have := he (i + 1) (by omega); simpa only [List.getD_cons_succ] using this)

/-- A bit that stands k places up comes down in k steps. -/
theorem stps_one (k : Nat) : k < 32 → stps k (1#32 <<< k) = 1#32 := by
  intro hk
  rw [stps_low k]
  · apply BitVec.eq_of_getLsbD_eq
    intro i hi
    simp only [BitVec.getLsbD_ushiftRight, BitVec.getLsbD_shiftLeft]
    by_cases h : k + i < 32
    · simp [h]
    · have : ¬ i = 0 := by omega
      simp [h, this]
  · intro j hj
    simp [BitVec.getLsbD_shiftLeft, hj]
theorem wide_pow (k : Nat) (h : k < 8) : wide (2 ^ k) = 1#32 <<< k := by
  have : ∀ k : Nat, k < 8 → wide (2 ^ k) = 1#32 <<< k := by decide
  exact this k h
/-- One bit of one byte, turned. -/
theorem bytesL_flip (r : BitVec 32) (bs : List Int) (bit : Nat) (h : bit < 8 * bs.length) (hr : ∀ x ∈ bs, 0 ≤ x ∧ x < 256) (y : Int)
    (hy : y.toNat = (bs.getD (bit / 8) 0).toNat ^^^ 2 ^ (bit % 8)) : bytesL r (bs.set (bit / 8) y) = bytesL r bs ^^^ stps (8 * bs.length - bit) 1#32 := by
  have hq : bit / 8 < bs.length := by omega
  have hx : bs[bit / 8] ∈ bs := List.getElem_mem hq
  have hb := hr _ hx
  have e1 : bs = bs.take (bit / 8) ++ bs[bit / 8] :: bs.drop (bit / 8 + 1) := by
    rw [← List.drop_eq_getElem_cons hq, List.take_append_drop]
  have e2 : bs.set (bit / 8) y = bs.take (bit / 8) ++ y :: bs.drop (bit / 8 + 1) := List.set_eq_take_append_cons_drop ▸ by rw [if_pos hq]
  have e3 : bs.getD (bit / 8) 0 = bs[bit / 8] := by simp [List.getD_eq_getElem?_getD, List.getElem?_eq_getElem hq]
  rw [e3] at hy
  have hp : 2 ^ (bit % 8) < 256 := by
    have : 2 ^ (bit % 8) ≤ 2 ^ 7 := Nat.pow_le_pow_right (by omega) (by omega)
    omega
  have hlen : (bs.drop (bit / 8 + 1)).length = bs.length - (bit / 8 + 1) := List.length_drop
  rw [e2]
  conv => rhs; rw [e1]
  rw [bytesL_append, bytesL_append, bytesL, bytesL, hy]
  have hs : byte1 (bytesL r (bs.take (bit / 8))) (bs[bit / 8].toNat ^^^ 2 ^ (bit % 8)) = byte1 (bytesL r (bs.take (bit / 8))) bs[bit / 8].toNat ^^^ stps (8 - bit % 8) 1#32 := by
    have h0 := byte1_xor (bytesL r (bs.take (bit / 8))) 0#32 bs[bit / 8].toNat (2 ^ (bit % 8)) (by omega) hp
    rw [BitVec.xor_zero] at h0
    rw [h0]
    congr 1
    unfold byte1
    rw [wide_pow _ (by omega), BitVec.zero_xor]
    have := stps_add (bit % 8) (8 - bit % 8) (1#32 <<< (bit % 8))
    rw [show bit % 8 + (8 - bit % 8) = 8 from by omega, stps_one _ (by omega)] at this
    exact this
  rw [hs, bytesL_reg]
  congr 1
  rw [← stps_add, hlen]
  congr 1
  have : (bs.take (bit / 8) ++ bs[bit / 8] :: bs.drop (bit / 8 + 1)).length = bs.length := by rw [← e1]
  rw [this]
  omega
end Go.Proofs.Ytaddblicjlohcaa.Crc
