/- What turned bits come to: never the same sum. Conditions: texts are shorter than 2^62 bytes. -/
import Derived.Test.YtaddblicjlohcaaD4
namespace Go.Proofs.Ytaddblicjlohcaa.SealSpec
open Go.RowKit Go.Proofs.Ytaddblicjlohcaa.Sl Go.Proofs.Ytaddblicjlohcaa.TextSpec Go.Proofs.YtaddblicjlohcaaW.PrintWords Go.Proofs.YtaddblicjlohcaaW.PrintLast Go.Proofs.YtaddblicjlohcaaW.PrintMore
open Crc (stp stps byte1 bytesL sumL wide)

theorem pow8 (R : Nat) (h : R < 8) : 2 ^ R < 256 := Nat.lt_of_le_of_lt (Nat.pow_le_pow_right (by omega) (show R ≤ 7 by omega)) (by decide)
theorem flip_byte (bs : List Int) (bit : Nat) (hb : bit < 8 * bs.length) (hr : ∀ x ∈ bs, 0 ≤ x ∧ x < 256) :
    Go.bits .xor .u8 (bs.getD (bit / 8) 0) ((2 ^ (bit % 8) : Nat) : Int) = (((bs.getD (bit / 8) 0).toNat ^^^ 2 ^ (bit % 8) : Nat) : Int) := by
  have hq : bit / 8 < bs.length := by omega
  have e3 : bs.getD (bit / 8) 0 = bs[bit / 8] := by simp [List.getD_eq_getElem?_getD, List.getElem?_eq_getElem hq]
  have := hr _ (List.getElem_mem hq)
  rw [e3]
  obtain ⟨n, hn⟩ := Int.eq_ofNat_of_zero_le this.1
  rw [hn, Int.toNat_natCast]
  exact u8_xor_nat n _ (by omega) (pow8 _ (by omega))
theorem flip_range (bs : List Int) (bit : Nat) (hb : bit < 8 * bs.length) (hr : ∀ x ∈ bs, 0 ≤ x ∧ x < 256) : ∀ x ∈ flip bs bit, 0 ≤ x ∧ x < 256 := by
  intro x hx
  unfold Sl.flip at hx
  rcases List.mem_or_eq_of_mem_set hx with h | h
  · exact hr x h
  · rw [flip_byte bs bit hb hr] at h
    have hq : bit / 8 < bs.length := by omega
    have e3 : bs.getD (bit / 8) 0 = bs[bit / 8] := by simp [List.getD_eq_getElem?_getD, List.getElem?_eq_getElem hq]
    have := hr _ (List.getElem_mem hq)
    have h2 : (bs.getD (bit / 8) 0).toNat ^^^ 2 ^ (bit % 8) < 256 := Nat.xor_lt_two_pow (n := 8) (by rw [e3]; omega) (pow8 _ (by omega))
    omega
theorem turn_len (j : Nat) : ∀ (bs : List Int) (bit p : Nat) (any : Bool), (turnL j bs bit p any).1.length = bs.length := by
  induction j with
  | zero => intro bs bit p any; rfl
  | succ j ih =>
    intro bs bit p any
    rw [turnL]
    split
    · rw [ih, flip_len]
    · rw [ih]
theorem turn_range (j : Nat) : ∀ (bs : List Int) (bit p : Nat) (any : Bool), (∀ x ∈ bs, 0 ≤ x ∧ x < 256) → ∀ x ∈ (turnL j bs bit p any).1, 0 ≤ x ∧ x < 256 := by
  induction j with
  | zero => intro bs bit p any h; exact h
  | succ j ih =>
    intro bs bit p any h
    rw [turnL]
    split
    · rename_i c; exact ih _ _ _ _ (flip_range bs bit c.2 h)
    · exact ih _ _ _ _ h
theorem one_bit (i k : Nat) (hi : i < 32) : (1#32 <<< i).getLsbD k = decide (k = i) := by
  rw [BitVec.getLsbD_shiftLeft]
  by_cases h : k = i
  · subst h; simp [hi]
  · by_cases h2 : k < i
    · simp [h2, h]
    · have : ¬ k - i = 0 := by omega
      simp [h, this]
theorem turn_reg (r : BitVec 32) (b0 N : Nat) (j : Nat) : ∀ (i : Nat) (bs : List Int) (p : Nat) (any : Bool), i + j ≤ 32 → 8 * bs.length = N → (∀ x ∈ bs, 0 ≤ x ∧ x < 256) →
    ∃ X : BitVec 32, bytesL r (turnL j bs (b0 + i) p any).1 = bytesL r bs ^^^ stps (N - b0) X ∧ (∀ k, k < i → X.getLsbD k = false) ∧ ((turnL j bs (b0 + i) p any).2 = true → any = true ∨ X ≠ 0) := by
  induction j with
  | zero =>
    intro i bs p any _ _ _
    refine ⟨0, ?_, fun _ _ => by simp, fun h => .inl h⟩
    rw [Crc.stps_zero]
    exact (BitVec.xor_zero).symm
  | succ j ih =>
    intro i bs p any hi hN hr
    rw [turnL]
    split
    · rename_i c
      obtain ⟨X, h1, h2, h3⟩ := ih (i + 1) (flip bs (b0 + i)) (p / 2) true (by omega) (by rw [flip_len]; exact hN) (flip_range bs _ c.2 hr)
      have hf : bytesL r (flip bs (b0 + i)) = bytesL r bs ^^^ stps (8 * bs.length - (b0 + i)) 1#32 := by
        unfold Sl.flip
        refine Crc.bytesL_flip r bs (b0 + i) c.2 hr _ ?_
        rw [flip_byte bs _ c.2 hr, Int.toNat_natCast]
      have hs : stps (N - b0) (1#32 <<< i) = stps (8 * bs.length - (b0 + i)) 1#32 := by
        have := Crc.stps_add i (N - b0 - i) (1#32 <<< i)
        rw [Crc.stps_one i (by omega)] at this
        rw [show N - b0 = i + (N - b0 - i) from by omega, this]
        congr 1
        omega
      refine ⟨(1#32 <<< i) ^^^ X, ?_, ?_, fun _ => .inr ?_⟩
      · rw [show b0 + i + 1 = b0 + (i + 1) from by omega, h1, hf, Crc.stps_xor, hs, BitVec.xor_assoc]
      · intro k hk
        rw [BitVec.getLsbD_xor, one_bit i k (by omega), h2 k (by omega)]
        have : ¬ k = i := by omega
        simp [this]
      · intro h0
        have := congrArg (fun z => z.getLsbD i) h0
        simp only [BitVec.getLsbD_xor, one_bit i i (by omega), h2 i (by omega)] at this
        simp at this
    · obtain ⟨X, h1, h2, h3⟩ := ih (i + 1) bs (p / 2) any (by omega) hN hr
      refine ⟨X, ?_, fun k hk => h2 k (by omega), ?_⟩
      · rw [show b0 + i + 1 = b0 + (i + 1) from by omega]; exact h1
      · intro h; rw [show b0 + i + 1 = b0 + (i + 1) from by omega] at h; exact h3 h
/-- What was turned at all has another register, whatever the register before. -/
theorem turn_other (r : BitVec 32) (bs : List Int) (b p : Nat) (hr : ∀ x ∈ bs, 0 ≤ x ∧ x < 256) (h : (turnL 32 bs b p false).2 = true) : bytesL r (turnL 32 bs b p false).1 ≠ bytesL r bs := by
  obtain ⟨X, h1, -, h3⟩ := turn_reg r b (8 * bs.length) 32 0 bs p false (by omega) rfl hr
  rw [Nat.add_zero] at h1 h3
  intro he
  rw [he] at h1
  rcases h3 h with h4 | h4
  · cases h4
  · apply h4
    apply Crc.stps_inj0 (8 * bs.length - b)
    have : bytesL r bs ^^^ bytesL r bs = bytesL r bs ^^^ (bytesL r bs ^^^ stps (8 * bs.length - b) X) := by rw [← h1]
    rw [BitVec.xor_self, ← BitVec.xor_assoc, BitVec.xor_self, BitVec.zero_xor] at this
    exact this.symm

/-! ### numbers of four bytes -/
def num4 (l : List Int) : Nat := (((l.getD 0 0).toNat * 256 + (l.getD 1 0).toNat) * 256 + (l.getD 2 0).toNat) * 256 + (l.getD 3 0).toNat
theorem num4_big (n : Nat) (h : n < 4294967296) (r : List Int) : num4 (big4 n ++ r) = n := by
  simp only [num4, big4, List.cons_append, List.getD_cons_zero, List.getD_cons_succ, Int.toNat_natCast]
  omega
theorem big_num4 (l : List Int) (hl : l.length = 4) (hr : ∀ x ∈ l, 0 ≤ x ∧ x < 256) : big4 (num4 l) = l := by
  match l, hl with
  | [a, b, c, d], _ =>
    have ha := hr a (by simp)
    have hb := hr b (by simp)
    have hc := hr c (by simp)
    have hd := hr d (by simp)
    simp only [num4, big4, List.getD_cons_zero, List.getD_cons_succ]
    congr 1
    · omega
    · congr 1
      · omega
      · congr 1
        · omega
        · congr 1; omega
theorem or_join (k a b : Nat) (ha : a % 2 ^ k = 0) (hb : b < 2 ^ k) (h1 : a < 4294967296) (h2 : b < 4294967296) : Go.bits .or .u32 (a : Int) (b : Int) = ((a + b : Nat) : Int) := by
  rw [u32_or_nat a b h1 h2, nat_join k a b ha hb]
theorem number_of (s : ByteArray) (h : 4 ≤ s.size) : seal_number.f s = some ((num4 (bytesOf s) : Nat) : Int) := by
  have hb : ∀ (i : Nat) (z : Int), z = (i : Int) → i < s.size → (((bytesOf s).getD i 0).toNat : Int) = bt s z ∧ 0 ≤ bt s z ∧ bt s z < 256 := by
    intro i z hz hi
    subst hz
    have h1 := bytes_at s i hi
    have h2 : (bytesOf s)[i]? = some (bt s (i : Int)) := by
      have := congrArg (fun l => l[0]?) h1
      simpa [List.getElem?_drop] using this
    have h3 := bt_range s (i : Int)
    rw [List.getD_eq_getElem?_getD, h2]
    simp only [Option.getD_some]
    omega
  have b0 := hb 0 0 rfl (by omega)
  have b1 := hb 1 1 rfl (by omega)
  have b2 := hb 2 2 rfl (by omega)
  have b3 := hb 3 3 rfl (by omega)
  unfold seal_number.f num4
  rw [if_pos (by omega), if_pos (by omega), if_pos (by omega), if_pos (by omega)]
  generalize ((bytesOf s).getD 0 0).toNat = x0 at *
  generalize ((bytesOf s).getD 1 0).toNat = x1 at *
  generalize ((bytesOf s).getD 2 0).toNat = x2 at *
  generalize ((bytesOf s).getD 3 0).toNat = x3 at *
  have e0 : ((bt s 0 % 4294967296) * 16777216) % 4294967296 = ((x0 * 16777216 : Nat) : Int) := by have := b0.1; have := b0.2; omega
  have e1 : ((bt s 1 % 4294967296) * 65536) % 4294967296 = ((x1 * 65536 : Nat) : Int) := by have := b1.1; have := b1.2; omega
  have e2 : ((bt s 2 % 4294967296) * 256) % 4294967296 = ((x2 * 256 : Nat) : Int) := by have := b2.1; have := b2.2; omega
  have e3 : (bt s 3 % 4294967296) = ((x3 : Nat) : Int) := by have := b3.1; have := b3.2; omega
  have l0 : x0 < 256 := by have := b0.1; have := b0.2; omega
  have l1 : x1 < 256 := by have := b1.1; have := b1.2; omega
  have l2 : x2 < 256 := by have := b2.1; have := b2.2; omega
  have l3 : x3 < 256 := by have := b3.1; have := b3.2; omega
  rw [e0, e1, e2, e3, or_join 24 _ _ (by omega) (by omega) (by omega) (by omega), or_join 16 _ _ (by omega) (by omega) (by omega) (by omega), or_join 8 _ _ (by omega) (by omega) (by omega) (by omega)]
  refine congrArg (fun n : Nat => some (n : Int)) ?_
  omega
end Go.Proofs.Ytaddblicjlohcaa.SealSpec
