/- What the printed functions of pack, and of its reference, come to in plain words. Conditions: numbers lie in their kind, texts are shorter than 2^47. -/
import Derived.Test.YtaddblicjlohcaaA1
import Derived.Test.YtaddblicjlohcaaPk1
import Derived.Test.YtaddblicjlohcaaPk2
import Derived.Test.YtaddblicjlohcaaPk4
import Derived.Test.YtaddblicjlohcaaPk5
import Derived.Test.YtaddblicjlohcaaPk6
namespace Go.Proofs.Ytaddblicjlohcaa.PackSpec
open Go.RowKit Go.Proofs.Ytaddblicjlohcaa.Pk Go.Proofs.YtaddblicjlohcaaW.PrintWords Go.Proofs.YtaddblicjlohcaaW.PrintLast Go.Proofs.YtaddblicjlohcaaW.PrintMore

theorem or128 : ∀ a : Nat, a < 256 → a ||| 128 = a % 128 + 128 := by decide +kernel
theorem bits_or128 (x : Int) (_h : 0 ≤ x) : Go.bits .or .u8 (x % 256) 128 = x % 128 + 128 := by
  rw [u8_or _ _ (by omega) (by omega) (by omega) (by omega)]
  have := or128 (x % 256).toNat (by omega)
  have e : (128 : Int).toNat = 128 := rfl
  rw [e, this]
  omega

theorem put_ev (n : Nat) : ∀ (acc : List Int), acc.length + (putN n).length ≤ 140737488355328 → Ev (fun k => pack_put.l0 k acc (n : Int)) (acc ++ putN n) := by
  induction n using Nat.strongRecOn with
  | _ n ih =>
    intro acc ha
    by_cases c : n < 128
    · rw [putN_small c] at ha ⊢
      simp at ha
      refine Ev.step (f := fun _ => some (acc ++ [(n : Int)])) (fun k => ?_) (Ev.now _)
      simp only [pack_put.l0]
      rw [if_neg (by omega), if_pos (by omega)]
      have : ((n : Int)) % 256 = n := by omega
      rw [this]
    · rw [putN_great (by omega)] at ha ⊢
      simp only [List.length_cons] at ha
      refine Ev.step (f := fun k => pack_put.l0 k (acc ++ [((n % 128 + 128 : Nat) : Int)]) ((n / 128 : Nat) : Int)) (fun k => ?_) ?_
      · simp only [pack_put.l0]
        rw [if_pos (by omega), if_pos (by omega), bits_or128 _ (by omega)]
        rfl
      · have := ih (n / 128) (by omega) (acc ++ [((n % 128 + 128 : Nat) : Int)]) (by simp; omega)
        rw [List.append_assoc, List.singleton_append] at this
        exact this

theorem ruint_ev (n : Nat) : ∀ (acc : List Int), n < 18446744073709551616 → acc.length + (putN n).length ≤ 140737488355328 → Ev (fun k => rialtoref01_Uint.l0 k (n : Int) acc) (strOfNums (acc ++ putN n)) := by
  induction n using Nat.strongRecOn with
  | _ n ih =>
    intro acc hn ha
    by_cases c : n < 128
    · rw [putN_small c] at ha ⊢
      simp at ha
      refine Ev.step (f := fun _ => some (strOfNums (acc ++ [(n : Int)]))) (fun k => ?_) (Ev.now _)
      simp only [rialtoref01_Uint.l0]
      rw [if_neg (by omega), if_pos (by omega)]
      have : ((n : Int)) % 256 = n := by omega
      rw [this]
    · rw [putN_great (by omega)] at ha ⊢
      simp only [List.length_cons] at ha
      refine Ev.step (f := fun k => rialtoref01_Uint.l0 k ((n / 128 : Nat) : Int) (acc ++ [((n % 128 + 128 : Nat) : Int)])) (fun k => ?_) ?_
      · simp only [rialtoref01_Uint.l0]
        rw [if_pos (by omega), if_pos (by omega)]
        have e1 : Int.tdiv (n : Int) 128 = ((n / 128 : Nat) : Int) := by rw [Int.tdiv_eq_ediv_of_nonneg (by omega)]; rfl
        have e2 : Int.tmod (n : Int) 128 = ((n % 128 : Nat) : Int) := by rw [Int.tmod_eq_emod_of_nonneg (by omega)]; rfl
        rw [e1, e2, IntKind.wrap_u64, IntKind.wrap_u64]
        congr 1
        · omega
        · congr 2
          omega
      · have := ih (n / 128) (by omega) (acc ++ [((n % 128 + 128 : Nat) : Int)]) (by omega) (by simp; omega)
        rw [List.append_assoc, List.singleton_append] at this
        exact this

theorem uint_ev (n : Nat) (h : n < 18446744073709551616) : Ev (fun k => pack_Uint.f k (n : Int)) (strOfNums (putN n)) := by
  have := putN_len10 h
  exact Ev.bind (put_ev n [] (by simp; omega)) (Ev.now _)
theorem rUint_ev (n : Nat) (h : n < 18446744073709551616) : Ev (fun k => rialtoref01_Uint.f k (n : Int)) (strOfNums (putN n)) := by
  have := putN_len10 h
  exact ruint_ev n [] h (by simp; omega)

theorem live_ev : Ev (fun k => rialtolaw01_live.f k) true := Ev.of (fun k => rialtolaw01_live.mono k) (k := 24) (by decide +kernel)

theorem strOfNums_sz (l : List Int) : (strOfNums l).size = l.length := by simp [strOfNums_size]

/-- How many digits a number has, none if it is 0. -/
def dg (n : Nat) : Nat := if n = 0 then 0 else (putN n).length
theorem dg_len (n : Nat) : (putN n).length = 1 + dg (n / 128) := by
  unfold dg
  by_cases c : n < 128
  · rw [putN_small c, if_pos (by omega)]; rfl
  · rw [putN_great (by omega), if_neg (by omega), List.length_cons]; omega
theorem dg_step (n : Nat) (h : 0 < n) : dg n = 1 + dg (n / 128) := by
  rw [← dg_len]; unfold dg; rw [if_neg (by omega)]

theorem small_ev (n : Nat) (hn : n < 18446744073709551616) (m : Nat) : ∀ (c : Nat), m < 18446744073709551616 → c + dg m = (putN n).length → Ev (fun k => rialtolaw01_PackSmall.l0 k n c m) true := by
  have h10 := putN_len10 hn
  induction m using Nat.strongRecOn with
  | _ m ih =>
    intro c hm hc
    by_cases z : m = 0
    · subst z
      refine Ev.step (f := fun k => (rialtolaw01_live.f k).bind fun t122 => (if t122 = true then ((pack_Uint.f k n).bind fun t123 => (some ((t123.size : Int) == (c : Int)))) else (some false))) (fun k => ?_) ?_
      · simp only [rialtolaw01_PackSmall.l0]
        rw [if_neg (by omega)]
      · refine Ev.bind live_ev ?_
        simp only [if_true]
        refine Ev.bind (uint_ev n hn) ?_
        have : (((strOfNums (putN n)).size : Int) == (c : Int)) = true := by
          rw [strOfNums_sz]
          simp [dg] at hc
          rw [beq_iff_eq]; omega
        rw [this]
        exact Ev.now _
    · have hs := dg_step m (by omega)
      refine Ev.step (f := fun k => rialtolaw01_PackSmall.l0 k n ((c + 1 : Nat) : Int) ((m / 128 : Nat) : Int)) (fun k => ?_) (ih (m / 128) (by omega) (c + 1) (by omega) (by omega))
      simp only [rialtolaw01_PackSmall.l0]
      rw [if_pos (by omega)]
      have e1 : Int.tdiv (m : Int) 128 = ((m / 128 : Nat) : Int) := by rw [Int.tdiv_eq_ediv_of_nonneg (by omega)]; rfl
      rw [e1, IntKind.wrap_u64]
      have e2 : wrap64 ((c : Int) + 1) = ((c + 1 : Nat) : Int) := by unfold wrap64; omega
      have e3 : (((m / 128 : Nat) : Int)) % 18446744073709551616 = ((m / 128 : Nat) : Int) := by omega
      rw [e2, e3]
theorem nat_of_u64 {a : Int} (h : (Lit.int .u64 a).wf = true) : ∃ n : Nat, a = n ∧ n < 18446744073709551616 := by
  have h2 : 0 ≤ a ∧ a < 18446744073709551616 := by
    simp [Lit.wf, IntKind.min, IntKind.max, IntKind.signed, IntKind.bits] at h
    omega
  exact ⟨a.toNat, by omega, by omega⟩
theorem small (a : Int) (h : (Lit.int .u64 a).wf = true) : ∃ k, rialtolaw01_PackSmall.f k a = some true := by
  obtain ⟨n, rfl, hn⟩ := nat_of_u64 h
  have hl := dg_len n
  have := small_ev n hn (n / 128) 1 (by omega) (by omega)
  refine Ev.rounds (g := fun k => rialtolaw01_PackSmall.f k (n : Int)) ?_
  unfold rialtolaw01_PackSmall.f
  have e1 : Int.tdiv (n : Int) 128 = ((n / 128 : Nat) : Int) := by rw [Int.tdiv_eq_ediv_of_nonneg (by omega)]; rfl
  have e3 : (((n / 128 : Nat) : Int)) % 18446744073709551616 = ((n / 128 : Nat) : Int) := by omega
  rw [e1, IntKind.wrap_u64, e3]
  exact this
end Go.Proofs.Ytaddblicjlohcaa.PackSpec
