/- What the printed readers of signed numbers, texts and lists come to, of pack and of its reference alike. Conditions: texts are shorter than 2^47, places lie in int. -/
import Derived.Test.YtaddblicjlohcaaA4
import Derived.Test.YtaddblicjlohcaaA5
namespace Go.Proofs.Ytaddblicjlohcaa.PackSpec
open Go.RowKit Go.Proofs.Ytaddblicjlohcaa.Pk Go.Proofs.YtaddblicjlohcaaW.PrintWords Go.Proofs.YtaddblicjlohcaaW.PrintLast Go.Proofs.YtaddblicjlohcaaW.PrintMore

/-- The bytes from a place on. -/
def from_ (s : ByteArray) (a : Int) : List Int := (bytesOf s).drop a.toNat
theorem from_range (s : ByteArray) (a : Int) : ∀ x ∈ from_ s a, 0 ≤ x ∧ x < 256 := drop_range s a.toNat
theorem from_len (s : ByteArray) (a : Int) : (from_ s a).length = s.size - a.toNat := by rw [from_, List.length_drop, bytesOf_length]

/-- The cases of reading a number. -/
theorem takeU_cases (s : ByteArray) (a : Int) : (∃ e, takeU s a = (0, 0, e) ∧ e ≠ 0 ∧ (e = 1 ∧ (a < 0 ∨ a > s.size) ∨ 0 ≤ a ∧ a ≤ s.size ∧ tk 0 (from_ s a) = .err e)) ∨
    ∃ n c, 0 ≤ a ∧ a ≤ s.size ∧ tk 0 (from_ s a) = .ok n c ∧ takeU s a = ((n : Int), a + c, 0) ∧ n < 18446744073709551616 ∧ 0 < c ∧ a + c ≤ s.size := by
  unfold takeU
  by_cases h : a < 0 ∨ a > s.size
  · rw [if_pos h]
    exact .inl ⟨1, rfl, by omega, .inl ⟨rfl, h⟩⟩
  · rw [if_neg h]
    cases h1 : tk 0 ((bytesOf s).drop a.toNat) with
    | err e => exact .inl ⟨e, rfl, by have := tk_err h1; omega, .inr ⟨by omega, by omega, h1⟩⟩
    | ok n c =>
      refine .inr ⟨n, c, by omega, by omega, h1, ?_, tk_lt (drop_range s _) h1, (tk_ok (drop_range s _) h1).2.1, ?_⟩
      · simp only [outU]
        rw [Nat.zero_add, Nat.one_mul]
        congr 2
        omega
      · have := (tk_ok (drop_range s _) h1).2.2.1
        rw [List.length_drop, bytesOf_length] at this
        omega

/-! ### signed numbers -/
def zig (n : Nat) : Int := if n % 2 = 0 then ((n / 2 : Nat) : Int) else -((n / 2 : Nat) : Int) - 1
def zag (a : Int) : Nat := if 0 ≤ a then (2 * a).toNat else (-2 * a - 1).toNat
theorem zig_range (n : Nat) (h : n < 18446744073709551616) : -9223372036854775808 ≤ zig n ∧ zig n < 9223372036854775808 := by unfold zig; split <;> omega
theorem zag_zig (n : Nat) : zag (zig n) = n := by unfold zag zig; split <;> split <;> omega
theorem zig_zag (a : Int) : zig (zag a) = a := by unfold zag zig; split <;> split <;> omega
theorem zag_lt (a : Int) (h0 : -9223372036854775808 ≤ a) (h1 : a < 9223372036854775808) : zag a < 18446744073709551616 := by unfold zag; split <;> omega

theorem xor_zero64 (x : Nat) (h : x < 9223372036854775808) : Go.bits .xor .i64 (x : Int) 0 = (x : Int) := by
  have e0 : BitVec.ofInt 64 (0 : Int) = 0#64 := rfl
  have e : Go.bits .xor .i64 (x : Int) 0 = IntKind.i64.wrap (((BitVec.ofInt 64 (x : Int)) ^^^ (BitVec.ofInt 64 (0 : Int))).toNat : Int) := rfl
  rw [e, e0, BitVec.xor_zero, ofInt_u64 x (by omega), IntKind.wrap_i64]
  omega
theorem xor_ones64 (x : Nat) (h : x < 9223372036854775808) : Go.bits .xor .i64 (x : Int) (-1) = -(x : Int) - 1 := by
  have e0 : BitVec.ofInt 64 (-1 : Int) = BitVec.allOnes 64 := by decide
  have e : Go.bits .xor .i64 (x : Int) (-1) = IntKind.i64.wrap (((BitVec.ofInt 64 (x : Int)) ^^^ (BitVec.ofInt 64 (-1 : Int))).toNat : Int) := rfl
  rw [e, e0, BitVec.xor_allOnes, BitVec.toNat_not, ofInt_u64 x (by omega), IntKind.wrap_i64]
  omega
theorem and1 (n : Nat) (h : n < 18446744073709551616) : Go.bits .and .u64 (n : Int) 1 = ((n % 2 : Nat) : Int) := by
  have := u64_and_nat n 1 h (by omega)
  rw [show ((1 : Nat) : Int) = 1 from rfl] at this
  rw [this, nat_mask1]

def takeI (s : ByteArray) (a : Int) : Int × Int × Int := if (takeU s a).2.2 = 0 then (zig (takeU s a).1.toNat, (takeU s a).2.1, 0) else (0, 0, (takeU s a).2.2)
theorem zig_pack (n : Nat) (h : n < 18446744073709551616) : Go.bits .xor .i64 (wrap64 ((n : Int) / 2)) (wrap64 (-(wrap64 (Go.bits .and .u64 (n : Int) 1)))) = zig n := by
  have e1 : wrap64 ((n : Int) / 2) = ((n / 2 : Nat) : Int) := by unfold wrap64; omega
  rw [e1, and1 n h]
  unfold zig
  by_cases c : n % 2 = 0
  · rw [if_pos c, c]
    have : wrap64 (-(wrap64 ((0 : Nat) : Int))) = 0 := by unfold wrap64; omega
    rw [this, xor_zero64 _ (by omega)]
  · rw [if_neg c]
    have c1 : n % 2 = 1 := by omega
    rw [c1]
    have : wrap64 (-(wrap64 ((1 : Nat) : Int))) = -1 := by unfold wrap64; omega
    rw [this, xor_ones64 _ (by omega)]
theorem takeI_ev (s : ByteArray) (a : Int) (hs : s.size ≤ 4611686018427387904) : Ev (fun k => pack_TakeInt.f k s a) (takeI s a) := by
  refine Ev.bind (takeU_ev s a hs) ?_
  unfold takeI
  rcases takeU_cases s a with ⟨e, he, h0, -⟩ | ⟨n, c, -, -, -, he, hn, -, -⟩
  · rw [he]; simp only; rw [if_neg h0, if_neg h0]; exact Ev.now _
  · rw [he]; simp only; rw [if_pos trivial, if_pos trivial, zig_pack n hn]; exact Ev.now _
theorem rtakeI_ev (s : ByteArray) (a : Int) (hs : s.size ≤ 4611686018427387904) : Ev (fun k => rialtoref01_TakeInt.f k s a) (takeI s a) := by
  refine Ev.bind (rtakeU_ev s a hs) ?_
  unfold takeI
  rcases takeU_cases s a with ⟨e, he, h0, -⟩ | ⟨n, c, -, -, -, he, hn, -, -⟩
  · rw [he]; simp only; rw [if_neg h0, if_neg h0]; exact Ev.now _
  · rw [he]; simp only; rw [if_pos trivial, if_pos trivial]
    have e1 : Int.tdiv (n : Int) 2 = ((n / 2 : Nat) : Int) := by rw [Int.tdiv_eq_ediv_of_nonneg (by omega)]; rfl
    have e2 : Int.tmod (n : Int) 2 = ((n % 2 : Nat) : Int) := by rw [Int.tmod_eq_emod_of_nonneg (by omega)]; rfl
    have e3 : wrap64 (IntKind.u64.wrap ((n / 2 : Nat) : Int)) = ((n / 2 : Nat) : Int) := by rw [IntKind.wrap_u64]; unfold wrap64; omega
    rw [e1, e2, e3, Int.toNat_natCast]
    unfold zig
    by_cases c : n % 2 = 0
    · rw [if_pos (by omega), if_pos c]; exact Ev.now _
    · rw [if_neg (by omega), if_neg c]
      have : wrap64 (wrap64 (-((n / 2 : Nat) : Int)) - 1) = -((n / 2 : Nat) : Int) - 1 := by unfold wrap64; omega
      rw [this]; exact Ev.now _
theorem int_ev (a : Int) (h0 : -9223372036854775808 ≤ a) (h1 : a < 9223372036854775808) : Ev (fun k => pack_Int.f k a) (strOfNums (putN (zag a))) := by
  have key : Go.bits .xor .u64 (IntKind.u64.wrap (IntKind.u64.wrap a * 2)) (IntKind.u64.wrap (a / 9223372036854775808)) = ((zag a : Nat) : Int) := by
    by_cases c : 0 ≤ a
    · have e1 : a / 9223372036854775808 = 0 := by omega
      have e2 : IntKind.u64.wrap (IntKind.u64.wrap a * 2) = (((2 * a).toNat : Nat) : Int) := by rw [IntKind.wrap_u64, IntKind.wrap_u64]; omega
      have e3 : IntKind.u64.wrap 0 = ((0 : Nat) : Int) := by rw [IntKind.wrap_u64]; rfl
      rw [e1, e2, e3, u64_xor_nat _ 0 (by omega) (by omega), Nat.xor_zero]
      unfold zag; rw [if_pos c]
    · have e1 : a / 9223372036854775808 = -1 := by omega
      have e2 : IntKind.u64.wrap (IntKind.u64.wrap a * 2) = (((18446744073709551616 + 2 * a).toNat : Nat) : Int) := by rw [IntKind.wrap_u64, IntKind.wrap_u64]; omega
      have e3 : IntKind.u64.wrap (-1) = ((18446744073709551615 : Nat) : Int) := by rw [IntKind.wrap_u64]; rfl
      rw [e1, e2, e3, u64_xor_nat _ _ (by omega) (by omega)]
      have hx : ∀ x : Nat, x < 18446744073709551616 → x ^^^ 18446744073709551615 = 18446744073709551615 - x := by
        intro x hx
        have h := BitVec.toNat_not (x := BitVec.ofNat 64 x)
        rw [← BitVec.xor_allOnes, BitVec.toNat_xor, BitVec.toNat_ofNat, BitVec.toNat_allOnes] at h
        rw [Nat.mod_eq_of_lt (by omega)] at h
        simpa using h
      rw [hx _ (by omega)]
      unfold zag; rw [if_neg c]; omega
  unfold pack_Int.f
  rw [key]
  exact Ev.bind (uint_ev (zag a) (zag_lt a h0 h1)) (Ev.now _)
theorem rint_ev (a : Int) (h0 : -9223372036854775808 ≤ a) (h1 : a < 9223372036854775808) : Ev (fun k => rialtoref01_Int.f k a) (strOfNums (putN (zag a))) := by
  unfold rialtoref01_Int.f
  have hz := rUint_ev (zag a) (zag_lt a h0 h1)
  by_cases c : a ≥ 0
  · have e2 : IntKind.u64.wrap (2 * IntKind.u64.wrap a) = ((zag a : Nat) : Int) := by unfold zag; rw [if_pos c, IntKind.wrap_u64, IntKind.wrap_u64]; omega
    refine Ev.congr (fun k => by rw [if_pos c, e2]) (Ev.bind hz (Ev.now _))
  · have e1 : wrap64 (-(wrap64 (a + 1))) = -(a + 1) := by unfold wrap64; omega
    have e2 : IntKind.u64.wrap (IntKind.u64.wrap (2 * IntKind.u64.wrap (-(a + 1))) + 1) = ((zag a : Nat) : Int) := by unfold zag; rw [if_neg (by omega), IntKind.wrap_u64, IntKind.wrap_u64, IntKind.wrap_u64]; omega
    refine Ev.congr (fun k => by rw [if_neg c, e1, e2]) (Ev.bind hz (Ev.now _))

/-! ### texts -/
def outT (a : Int) : ResT → ByteArray × Int × Int
  | .ok t c => (strOfNums t, a + c, 0)
  | .err e => (⟨#[]⟩, 0, e)
def takeT (s : ByteArray) (a : Int) : ByteArray × Int × Int := if a < 0 ∨ a > s.size then (⟨#[]⟩, 0, 1) else outT a (tkT (from_ s a))
/-- A number with a greatest one. -/
def takeC (s : ByteArray) (a m : Int) : Int × Int × Int := if (takeU s a).2.2 = 0 ∧ (takeU s a).1 > m then (0, 0, 11) else takeU s a
theorem takeC_err {s : ByteArray} {a m e : Int} (he : takeU s a = (0, 0, e)) (h0 : e ≠ 0) : takeC s a m = (0, 0, e) := by
  unfold takeC; rw [he, if_neg (fun h => h0 h.1)]
theorem takeC_big {s : ByteArray} {a m p n : Int} (he : takeU s a = (n, p, 0)) (h0 : n > m) : takeC s a m = (0, 0, 11) := by
  unfold takeC; rw [he, if_pos ⟨rfl, h0⟩]
theorem takeC_ok {s : ByteArray} {a m p n : Int} (he : takeU s a = (n, p, 0)) (h0 : ¬ n > m) : takeC s a m = (n, p, 0) := by
  unfold takeC; rw [he, if_neg (fun h => h0 h.2)]
theorem counted_ev (s : ByteArray) (a m : Int) (hm : m < 9223372036854775808) (hs : s.size ≤ 4611686018427387904) : Ev (fun k => pack_counted.f k s a m) (takeC s a m) := by
  refine Ev.bind (takeU_ev s a hs) ?_
  rcases takeU_cases s a with ⟨e, he, h0, -⟩ | ⟨n, c, -, -, -, he, hn, -, -⟩
  · rw [takeC_err he h0, he]; simp only
    have : wrap64 0 = 0 := by unfold wrap64; omega
    rw [if_neg h0, this]
    exact Ev.now _
  · by_cases c1 : (n : Int) > m
    · rw [takeC_big he c1, he]; simp only; rw [if_pos trivial, if_pos c1]; exact Ev.now _
    · rw [takeC_ok he c1, he]; simp only
      have : wrap64 (n : Int) = n := by unfold wrap64; omega
      rw [if_pos trivial, if_neg c1, this]; exact Ev.now _
theorem takeT_core (s : ByteArray) (a : Int) (n c : Nat) (h0 : 0 ≤ a) (hc : a + c ≤ s.size) (h1 : tk 0 (from_ s a) = .ok n c) (hn : n ≤ 60000) :
    outT a (tkT (from_ s a)) = if (n : Int) > (s.size : Int) - (a + c) then (⟨#[]⟩, 0, 10) else (s.extract (a + c).toNat (a + c + n).toNat, a + c + n, 0) := by
  unfold tkT
  rw [h1]
  simp only
  rw [if_neg (by omega)]
  have hl := from_len s a
  by_cases c2 : n > (from_ s a).length - c
  · rw [if_pos c2, if_pos (by omega)]; rfl
  · rw [if_neg c2, if_neg (by omega)]
    simp only [outT]
    rw [extract_str]
    have e : (a + c + n).toNat = (a + c).toNat + n := by omega
    have e2 : (a + c).toNat = a.toNat + c := by omega
    rw [e, List.drop_take, show (a + c).toNat + n - (a + c).toNat = n from by omega, e2, ← List.drop_drop, Prod.mk.injEq, Prod.mk.injEq]
    refine ⟨rfl, by omega, rfl⟩
theorem takeT_err1 {s : ByteArray} {a : Int} {e : Int} (h : e ≠ 0) (hh : e = 1 ∧ (a < 0 ∨ a > s.size) ∨ 0 ≤ a ∧ a ≤ s.size ∧ tk 0 (from_ s a) = .err e) : takeT s a = (⟨#[]⟩, 0, e) := by
  unfold takeT
  rcases hh with ⟨rfl, h2⟩ | ⟨h1, h2, h3⟩
  · rw [if_pos h2]
  · rw [if_neg (by omega)]; unfold tkT; rw [h3]; rfl
theorem takeT_long {s : ByteArray} {a : Int} {n c : Nat} (h1 : 0 ≤ a) (h2 : a ≤ s.size) (h : tk 0 (from_ s a) = .ok n c) (hn : n > 60000) : takeT s a = (⟨#[]⟩, 0, 11) := by
  unfold takeT
  rw [if_neg (by omega)]; unfold tkT; rw [h]; simp only; rw [if_pos hn]; rfl
theorem takeT_mid (s : ByteArray) (a : Int) (n c : Nat) (h0 : 0 ≤ a) (hc : a + c ≤ s.size) (h1 : tk 0 (from_ s a) = .ok n c) (hn : n ≤ 60000) :
    takeT s a = if (n : Int) > (s.size : Int) - (a + c) then (⟨#[]⟩, 0, 10) else (s.extract (a + c).toNat (a + c + n).toNat, a + c + n, 0) := by
  unfold takeT
  rw [if_neg (by omega)]
  exact takeT_core s a n c h0 hc h1 hn
theorem takeT_ev (s : ByteArray) (a : Int) (hs : s.size ≤ 4611686018427387904) : Ev (fun k => pack_TakeText.f k s a) (takeT s a) := by
  refine Ev.bind (counted_ev s a 60000 (by omega) hs) ?_
  rcases takeU_cases s a with ⟨e, he, h0, hh⟩ | ⟨n, c, g0, g1, h1, he, hn, hc0, hc⟩
  · rw [takeC_err he h0, takeT_err1 h0 hh]; simp only
    rw [if_neg h0]
    exact Ev.now _
  · by_cases c1 : (n : Int) > 60000
    · rw [takeC_big he c1, takeT_long g0 g1 h1 (by omega)]; simp only; rw [if_neg (by omega)]; exact Ev.now _
    · have e1 : wrap64 ((s.size : Int) - (a + c)) = (s.size : Int) - (a + c) := by unfold wrap64; omega
      have e2 : wrap64 (a + c + n) = a + c + n := by unfold wrap64; omega
      rw [takeC_ok he c1, takeT_mid s a n c g0 hc h1 (by omega)]; simp only
      rw [if_pos trivial, e1, e2]
      by_cases c2 : (n : Int) > (s.size : Int) - (a + c)
      · rw [if_pos c2, if_pos c2]; exact Ev.now _
      · rw [if_neg c2, if_neg c2, if_pos (by omega), if_pos (by omega), if_pos (by omega)]; exact Ev.now _
theorem rtakeT_ev (s : ByteArray) (a : Int) (hs : s.size ≤ 4611686018427387904) : Ev (fun k => rialtoref01_TakeText.f k s a) (takeT s a) := by
  refine Ev.bind (rtakeU_ev s a hs) ?_
  rcases takeU_cases s a with ⟨e, he, h0, hh⟩ | ⟨n, c, g0, g1, h1, he, hn, hc0, hc⟩
  · rw [he, takeT_err1 h0 hh]; simp only
    rw [if_neg h0]
    exact Ev.now _
  · rw [he]
    by_cases c1 : (n : Int) > 60000
    · rw [takeT_long g0 g1 h1 (by omega)]; simp only; rw [if_pos trivial, if_pos c1]; exact Ev.now _
    · have e0 : wrap64 (n : Int) = n := by unfold wrap64; omega
      have e1 : wrap64 ((s.size : Int) - (a + c)) = (s.size : Int) - (a + c) := by unfold wrap64; omega
      have e2 : wrap64 (a + c + n) = a + c + n := by unfold wrap64; omega
      rw [takeT_mid s a n c g0 hc h1 (by omega)]; simp only
      rw [if_pos trivial, if_neg c1, e0, e1, e2]
      by_cases c2 : (n : Int) > (s.size : Int) - (a + c)
      · rw [if_pos c2, if_pos c2]; exact Ev.now _
      · rw [if_neg c2, if_neg c2, if_pos (by omega), if_pos (by omega), if_pos (by omega)]; exact Ev.now _
end Go.Proofs.Ytaddblicjlohcaa.PackSpec
