/- Plain facts about numbers written in digits of seven bits: what is written is read again, what is read is written so. No conditions. -/
import Derived.Test.YtaddblicjlohcaaWMore
import Derived.Laws.BitsAllLaws
namespace Go.Proofs.Ytaddblicjlohcaa.PackSpec
open Go.RowKit Go.Proofs.YtaddblicjlohcaaW.PrintWords

/-- A number's bytes. -/
def putN (n : Nat) : List Int := if n < 128 then [(n : Int)] else ((n % 128 + 128 : Nat) : Int) :: putN (n / 128)
termination_by n
decreasing_by omega

theorem putN_small {n : Nat} (h : n < 128) : putN n = [(n : Int)] := by rw [putN, if_pos h]
theorem putN_great {n : Nat} (h : 128 ≤ n) : putN n = ((n % 128 + 128 : Nat) : Int) :: putN (n / 128) := by rw [putN, if_neg (by omega)]
theorem putN_pos (n : Nat) : 0 < (putN n).length := by rw [putN]; split <;> simp
theorem putN_len (j : Nat) : ∀ n : Nat, n < 128 ^ j → (putN n).length ≤ max j 1 := by
  induction j with
  | zero => intro n h; simp at h; subst h; rw [putN_small (by omega)]; simp
  | succ j ih =>
    intro n h
    by_cases c : n < 128
    · rw [putN_small c]; simp
    · rw [putN_great (by omega), List.length_cons]
      have hd : n / 128 < 128 ^ j := by rw [Nat.div_lt_iff_lt_mul (by omega)]; rw [Nat.pow_succ] at h; omega
      have := ih _ hd
      have hj : j ≠ 0 := by intro e; subst e; simp at hd; omega
      omega
theorem putN_len10 {n : Nat} (h : n < 18446744073709551616) : (putN n).length ≤ 10 := by
  have := putN_len 10 n (by omega)
  omega
theorem putN_range (n : Nat) : ∀ x ∈ putN n, 0 ≤ x ∧ x < 256 := by
  induction n using Nat.strongRecOn with
  | _ n ih =>
    intro x hx
    by_cases c : n < 128
    · rw [putN_small c] at hx; simp at hx; omega
    · rw [putN_great (by omega)] at hx
      rcases List.mem_cons.1 hx with h | h
      · omega
      · exact ih (n / 128) (by omega) x h

/-- What a reader says: a number and how many bytes it has, or what is wrong. -/
inductive Res where
  | ok (n : Nat) (c : Nat)
  | err (e : Int)

/-- Reading, at digit k. -/
def tk : Nat → List Int → Res
  | _, [] => .err 10
  | k, b :: r =>
    if k = 9 ∧ b > 1 ∨ k > 0 ∧ b = 0 ∨ 10 ≤ k then .err 11
    else if b < 128 then .ok b.toNat 1
    else match tk (k + 1) r with
      | .ok n c => .ok (b.toNat - 128 + 128 * n) (c + 1)
      | .err e => .err e

theorem tk_err {k : Nat} {l : List Int} {e : Int} (h : tk k l = .err e) : e = 10 ∨ e = 11 := by
  induction l generalizing k e with
  | nil => simp [tk] at h; omega
  | cons b r ih =>
    rw [tk] at h
    split at h
    · cases h; omega
    · split at h
      · cases h
      · split at h
        · cases h
        · rename_i e' he; cases h; exact ih he

/-- What is read, written again, is what was read; and a part of it is cut off. -/
theorem tk_ok {l : List Int} : ∀ {k n c : Nat}, (∀ x ∈ l, 0 ≤ x ∧ x < 256) → tk k l = .ok n c →
    putN n = l.take c ∧ 0 < c ∧ c ≤ l.length ∧ k < 10 ∧ n < 2 * 128 ^ (9 - k) * (if k = 9 then 1 else 1) ∧ (0 < k → 0 < n) := by
  induction l with
  | nil => intro k n c _ h; simp [tk] at h
  | cons b r ih =>
    intro k n c hl h
    have hb := hl b (by simp)
    rw [tk] at h
    split at h
    · cases h
    · rename_i c1
      have hk : k < 10 := by omega
      split at h
      · rename_i c2
        simp only [Res.ok.injEq] at h
        obtain ⟨rfl, rfl⟩ := h
        have hn : b.toNat < 128 := by omega
        rw [putN_small hn]
        refine ⟨by simp; omega, by omega, by simp, hk, ?_, by omega⟩
        by_cases h9 : k = 9
        · subst h9; simp; omega
        · rw [if_neg h9]
          have h1 : 1 ≤ 9 - k := by omega
          have : 128 ^ 1 ≤ 128 ^ (9 - k) := Nat.pow_le_pow_right (by omega) h1
          omega
      · rename_i c2
        split at h
        · rename_i n' c' h'
          simp only [Res.ok.injEq] at h
          obtain ⟨rfl, rfl⟩ := h
          obtain ⟨i1, i2, i3, i4, i5, i6⟩ := ih (fun x hx => hl x (by simp [hx])) h'
          have hn' := i6 (by omega)
          have e1 : (b.toNat - 128 + 128 * n') / 128 = n' := by omega
          have e2 : (b.toNat - 128 + 128 * n') % 128 = b.toNat - 128 := by omega
          refine ⟨?_, by omega, by simp; omega, hk, ?_, fun _ => by omega⟩
          · rw [putN_great (by omega), e1, e2, i1, List.take_succ_cons]
            congr 1; omega
          · have h9 : k ≠ 9 := by omega
            rw [if_neg h9]
            have e3 : 9 - k = (9 - (k + 1)) + 1 := by omega
            rw [e3, Nat.pow_succ]
            have i5' : n' < 2 * 128 ^ (9 - (k + 1)) := by
              split at i5 <;> omega
            omega
        · cases h

theorem tk_lt {l : List Int} {n c : Nat} (hl : ∀ x ∈ l, 0 ≤ x ∧ x < 256) (h : tk 0 l = .ok n c) : n < 18446744073709551616 := by
  have := (tk_ok hl h).2.2.2.2.1
  simp at this
  omega

/-- What is written is read again. -/
theorem tk_putN (j : Nat) : ∀ (k n : Nat) (r : List Int), k + j = 9 → n < 2 * 128 ^ j → (0 < k → 0 < n) → tk k (putN n ++ r) = .ok n (putN n).length := by
  induction j with
  | zero =>
    intro k n r hk hn hp
    rw [putN_small (by simp at hn; omega), List.singleton_append, tk, if_neg (by simp at hn; omega), if_pos (by simp at hn; omega)]
    simp
  | succ j ih =>
    intro k n r hk hn hp
    by_cases c : n < 128
    · rw [putN_small c, List.singleton_append, tk, if_neg (by omega), if_pos (by omega)]
      simp
    · rw [putN_great (by omega), List.cons_append, tk, if_neg (by omega), if_neg (by omega), ih (k + 1) (n / 128) r (by omega) (by rw [Nat.pow_succ] at hn; omega) (by omega)]
      simp only [List.length_cons, Res.ok.injEq]
      exact ⟨by omega, trivial⟩
theorem tk_put {n : Nat} (h : n < 18446744073709551616) (r : List Int) : tk 0 (putN n ++ r) = .ok n (putN n).length := tk_putN 9 0 n r rfl (by omega) (by omega)

/-- Without its last byte it is cut off. -/
theorem tk_cut {l : List Int} : ∀ {k n c : Nat}, tk k l = .ok n c → ∀ m, m < c → tk k (l.take m) = .err 10 := by
  induction l with
  | nil => intro k n c h; simp [tk] at h
  | cons b r ih =>
    intro k n c h m hm
    cases m with
    | zero => simp [tk]
    | succ m =>
      rw [tk] at h
      split at h
      · cases h
      · rename_i c1
        split at h
        · simp only [Res.ok.injEq] at h; omega
        · rename_i c2
          split at h
          · rename_i n' c' h'
            simp only [Res.ok.injEq] at h
            rw [List.take_succ_cons, tk, if_neg c1, if_neg c2, ih h' m (by omega)]
          · cases h
/-- What stands behind does not count. -/
theorem tk_more {l : List Int} : ∀ {k n c : Nat}, tk k l = .ok n c → ∀ r, tk k (l ++ r) = .ok n c := by
  induction l with
  | nil => intro k n c h; simp [tk] at h
  | cons b r ih =>
    intro k n c h q
    rw [tk] at h
    rw [List.cons_append, tk]
    split at h
    · cases h
    · rename_i c1
      rw [if_neg c1]
      split at h
      · rename_i c2; rw [if_pos c2]; exact h
      · rename_i c2
        rw [if_neg c2]
        split at h
        · rename_i n' c' h'
          rw [ih h' q]; exact h
        · cases h
end Go.Proofs.Ytaddblicjlohcaa.PackSpec
