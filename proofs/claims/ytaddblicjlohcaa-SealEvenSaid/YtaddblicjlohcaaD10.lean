/- SealEven in plain words. Conditions: texts are shorter than 2^47 bytes. -/
import Derived.Test.YtaddblicjlohcaaD4
import Derived.Test.YtaddblicjlohcaaE1
namespace Go.Proofs.Ytaddblicjlohcaa.SealSpec
open Go.RowKit Go.Proofs.Ytaddblicjlohcaa.Sl Go.Proofs.Ytaddblicjlohcaa.TextSpec Go.Proofs.YtaddblicjlohcaaW.PrintWords Go.Proofs.YtaddblicjlohcaaW.PrintLast Go.Proofs.YtaddblicjlohcaaW.PrintMore
open Crc (stp stps byte1 bytesL sumL wide)

theorem bt_getD (s : ByteArray) (i : Nat) (hi : i < s.size) : (bytesOf s).getD i 0 = bt s (i : Int) := by
  have h1 := bytes_at s i hi
  have h2 : (bytesOf s)[i]? = some (bt s (i : Int)) := by
    have := congrArg (fun l => l[0]?) h1
    simpa [List.getElem?_drop] using this
  rw [List.getD_eq_getElem?_getD, h2]
  rfl
theorem not3 (a b c : BitVec 32) : ~~~ (a ^^^ b ^^^ c) = ~~~ a ^^^ ~~~ b ^^^ ~~~ c := by
  apply BitVec.eq_of_getLsbD_eq
  intro i hi
  simp only [BitVec.getLsbD_xor, BitVec.getLsbD_not, hi, decide_true, Bool.true_and]
  cases a.getLsbD i <;> cases b.getLsbD i <;> cases c.getLsbD i <;> rfl
theorem ones3 : BitVec.allOnes 32 ^^^ BitVec.allOnes 32 ^^^ BitVec.allOnes 32 = BitVec.allOnes 32 := by decide
theorem sum_three (n : Nat) (a b c x : List Int) (ha : a.length = n) (hb : b.length = n) (hc : c.length = n) (hx : x.length = n) (ra : ∀ x ∈ a, 0 ≤ x ∧ x < 256) (rb : ∀ x ∈ b, 0 ≤ x ∧ x < 256) (rc : ∀ x ∈ c, 0 ≤ x ∧ x < 256)
    (he : ∀ i, i < n → (x.getD i 0).toNat = (a.getD i 0).toNat ^^^ (b.getD i 0).toNat ^^^ (c.getD i 0).toNat) : sumL x = sumL a ^^^ sumL b ^^^ sumL c := by
  have h := Crc.bytesL_three n a b c (BitVec.allOnes 32) (BitVec.allOnes 32) (BitVec.allOnes 32) ha hb hc ra rb rc x hx he
  rw [ones3] at h
  unfold sumL
  rw [h, not3]
theorem xor3 (x y z : Int) (hx : 0 ≤ x ∧ x < 256) (hy : 0 ≤ y ∧ y < 256) (hz : 0 ≤ z ∧ z < 256) : Go.bits .xor .u8 (Go.bits .xor .u8 x y) z = ((x.toNat ^^^ y.toNat ^^^ z.toNat : Nat) : Int) ∧ x.toNat ^^^ y.toNat ^^^ z.toNat < 256 := by
  obtain ⟨a, rfl⟩ := Int.eq_ofNat_of_zero_le hx.1
  obtain ⟨b, rfl⟩ := Int.eq_ofNat_of_zero_le hy.1
  obtain ⟨c, rfl⟩ := Int.eq_ofNat_of_zero_le hz.1
  simp only [Int.toNat_natCast]
  have h1 : a ^^^ b < 256 := Nat.xor_lt_two_pow (n := 8) (by omega) (by omega)
  have h2 : a ^^^ b ^^^ c < 256 := Nat.xor_lt_two_pow (n := 8) h1 (by omega)
  exact ⟨by rw [u8_xor_nat a b (by omega) (by omega), u8_xor_nat _ c h1 (by omega)], h2⟩
theorem even_loop (a b c : ByteArray) (n : Nat) (ha : n ≤ a.size) (hb : n ≤ b.size) (hc : n ≤ c.size) (hn : n ≤ 140737488351232) (j : Nat) : ∀ (i : Nat) (x : List Int), i + j = n → x.length = n → (∀ y ∈ x, 0 ≤ y ∧ y < 256) →
    (∀ k, k < i → (x.getD k 0).toNat = ((bytesOf a).getD k 0).toNat ^^^ ((bytesOf b).getD k 0).toNat ^^^ ((bytesOf c).getD k 0).toNat) → Ev (fun k => rialtolaw02_SealEven.l0 k a b c (n : Int) x (i : Int)) true := by
  induction j with
  | zero =>
    intro i x hi hx hr he
    have hin : i = n := by omega
    subst hin
    have la : ((bytesOf a).take i).length = i := by rw [List.length_take, bytesOf_length]; omega
    have lb : ((bytesOf b).take i).length = i := by rw [List.length_take, bytesOf_length]; omega
    have lc : ((bytesOf c).take i).length = i := by rw [List.length_take, bytesOf_length]; omega
    have gt : ∀ (l : List Int) (k : Nat), k < i → (l.take i).getD k 0 = l.getD k 0 := by
      intro l k hk
      simp [List.getD_eq_getElem?_getD, hk]
    have h3 := sum_three i _ _ _ x la lb lc hx (fun y hy => bytes_range a y (List.mem_of_mem_take hy)) (fun y hy => bytes_range b y (List.mem_of_mem_take hy)) (fun y hy => bytes_range c y (List.mem_of_mem_take hy)) (fun k hk => by rw [gt _ k hk, gt _ k hk, gt _ k hk]; exact he k hk)
    have ea : bytesOf (a.extract 0 i) = (bytesOf a).take i := by rw [bytes_extract, List.drop_zero]
    have eb : bytesOf (b.extract 0 i) = (bytesOf b).take i := by rw [bytes_extract, List.drop_zero]
    have ec : bytesOf (c.extract 0 i) = (bytesOf c).take i := by rw [bytes_extract, List.drop_zero]
    have sa := sum_eq (a.extract 0 i) (by rw [ByteArray.size_extract]; omega)
    have sb := sum_eq (b.extract 0 i) (by rw [ByteArray.size_extract]; omega)
    have sc := sum_eq (c.extract 0 i) (by rw [ByteArray.size_extract]; omega)
    have sx := sum_eq (strOfNums x) (by rw [strOfNums_size]; omega)
    rw [ea] at sa
    rw [eb] at sb
    rw [ec] at sc
    rw [bytes_str x hr, h3] at sx
    have q0 : (0 : Int) ≤ (i : Int) := by omega
    have q1 : (i : Int) ≤ (a.size : Int) := by omega
    have q2 : (i : Int) ≤ (b.size : Int) := by omega
    have q3 : (i : Int) ≤ (c.size : Int) := by omega
    refine Ev.step (f := fun k => some true) (fun k => ?_) (Ev.now _)
    simp only [rialtolaw02_SealEven.l0]
    rw [if_neg (by omega), live02, sx]
    simp only [Option.bind_some]
    rw [if_pos trivial, if_pos q0, if_pos q1, Int.toNat_natCast, sa]
    simp only [Option.bind_some]
    rw [if_pos q2, sb]
    simp only [Option.bind_some]
    rw [if_pos q3, sc]
    simp only [Option.bind_some]
    rw [xor32, xor32, beq_self_eq_true]
  | succ j ih =>
    intro i x hi hx hr he
    have hw : wrap64 ((i : Int) + 1) = ((i + 1 : Nat) : Int) := by unfold wrap64; omega
    have ra := bt_range a (i : Int)
    have rb := bt_range b (i : Int)
    have rc := bt_range c (i : Int)
    obtain ⟨h3, h4⟩ := xor3 (bt a (i : Int)) (bt b (i : Int)) (bt c (i : Int)) (by omega) (by omega) (by omega)
    refine Ev.step (fun k => ?_) (ih (i + 1) (x.set i (Go.bits .xor .u8 (Go.bits .xor .u8 (bt a (i : Int)) (bt b (i : Int))) (bt c (i : Int)))) (by omega) (by rw [List.length_set]; exact hx) ?_ ?_)
    · simp only [rialtolaw02_SealEven.l0]
      clear h3 h4
      rw [if_pos (by omega), if_pos (by omega), if_pos (by omega), if_pos (by omega), if_pos (by omega), if_pos (by omega), Int.toNat_natCast, hw]
    · intro y hy
      rcases List.mem_or_eq_of_mem_set hy with h | h
      · exact hr y h
      · rw [h, h3]; omega
    · intro k hk
      by_cases hki : k = i
      · subst hki
        rw [bt_getD a k (by omega), bt_getD b k (by omega), bt_getD c k (by omega), List.getD_eq_getElem?_getD, List.getElem?_set_self (by omega), Option.getD_some, h3, Int.toNat_natCast]
      · rw [← he k (by omega), List.getD_eq_getElem?_getD, List.getElem?_set_ne (by omega), ← List.getD_eq_getElem?_getD]
theorem even (a b c : ByteArray) (ha : a.size ≤ 140737488351232) : Ev (fun k => rialtolaw02_SealEven.f k a b c) true := by
  obtain ⟨n, hn, h1, h2, h3⟩ : ∃ n : Nat, mn (mn (a.size : Int) (b.size : Int)) (c.size : Int) = (n : Int) ∧ n ≤ a.size ∧ n ≤ b.size ∧ n ≤ c.size := by
    refine ⟨(mn (mn (a.size : Int) (b.size : Int)) (c.size : Int)).toNat, ?_, ?_, ?_, ?_⟩ <;> unfold mn <;> (repeat' split) <;> omega
  unfold rialtolaw02_SealEven.f
  rw [hn, Int.toNat_natCast]
  refine Ev.congr (fun k => if_pos (by omega)) ?_
  refine Ev.congr (fun k => if_pos (by omega)) ?_
  refine even_loop a b c n h1 h2 h3 (by omega) n 0 (List.replicate n 0) (by omega) List.length_replicate ?_ (fun k hk => by omega)
  intro y hy
  rw [List.eq_of_mem_replicate hy]
  omega
end Go.Proofs.Ytaddblicjlohcaa.SealSpec
