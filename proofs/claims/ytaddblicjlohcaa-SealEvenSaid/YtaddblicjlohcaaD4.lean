/- Frames in plain words: seal's and the reference's write the same. Conditions: texts are shorter than 2^62 bytes. -/
import Derived.Test.YtaddblicjlohcaaD3
namespace Go.Proofs.Ytaddblicjlohcaa.SealSpec
open Go.RowKit Go.Proofs.Ytaddblicjlohcaa.Sl Go.Proofs.Ytaddblicjlohcaa.TextSpec Go.Proofs.YtaddblicjlohcaaW.PrintWords Go.Proofs.YtaddblicjlohcaaW.PrintLast Go.Proofs.YtaddblicjlohcaaW.PrintMore
open Crc (stp stps byte1 bytesL sumL wide)

/-- A number in four bytes, the greatest first. -/
def big4 (n : Nat) : List Int := [((n / 16777216 % 256 : Nat) : Int), ((n / 65536 % 256 : Nat) : Int), ((n / 256 % 256 : Nat) : Int), ((n % 256 : Nat) : Int)]
theorem big4_range (n : Nat) : ∀ x ∈ big4 n, 0 ≤ x ∧ x < 256 := by
  intro x hx
  simp only [big4, List.mem_cons, List.not_mem_nil, or_false] at hx
  rcases hx with rfl | rfl | rfl | rfl <;> omega
theorem four_big (n : Nat) : seal_four.f (n : Int) = some (strOfNums (big4 n)) := by
  unfold seal_four.f big4
  congr 4
theorem rfour_big (n : Nat) (h : n < 4294967296) : rialtoref02_four.f (n : Int) = some (strOfNums (big4 n)) := by
  unfold rialtoref02_four.f big4
  rw [Int.tdiv_eq_ediv_of_nonneg (by omega), Int.tdiv_eq_ediv_of_nonneg (by omega), Int.tdiv_eq_ediv_of_nonneg (by omega), Int.tmod_eq_emod_of_nonneg (by omega)]
  congr 3
  · omega
  · congr 1
    · omega
    · congr 1
      · omega
      · congr 1
        omega
/-- The frame of a text. -/
def headL (l : List Int) : List Int := big4 l.length ++ big4 (sumL (big4 l.length ++ l)).toNat
def frameL (l : List Int) : List Int := headL l ++ l
def frameF (s : ByteArray) : ByteArray × Int := if (s.size : Int) > 70000 then (⟨#[]⟩, 2) else (strOfNums (frameL (bytesOf s)), 0)
theorem strOfNums_bytes (l : List Int) (s : ByteArray) : strOfNums l ++ s = strOfNums (l ++ bytesOf s) := by rw [str_append, str_bytes]
theorem frame_eq (s : ByteArray) : seal_Frame.f s = some (frameF s) := by
  unfold seal_Frame.f frameF
  by_cases c : (s.size : Int) > 70000
  · rw [if_pos c, if_pos c]
  · rw [if_neg c, if_neg c]
    have h : (s.size : Int) % 4294967296 = ((s.size : Nat) : Int) := by omega
    rw [h, four_big]
    simp only [Option.bind_some, sum2, Seal.cat, List.append_nil]
    rw [four_big]
    simp only [Option.bind_some]
    rw [← str_append, strOfNums_bytes, bytes_str _ (big4_range _), frameL, headL, bytesOf_length]
theorem rframe_ev (s : ByteArray) : Ev (fun k => rialtoref02_Frame.f k s) (frameF s) := by
  unfold rialtoref02_Frame.f frameF
  by_cases c : (s.size : Int) > 70000
  · rw [if_pos c]
    exact Ev.congr (fun k => if_pos c) (Ev.now _)
  · rw [if_neg c]
    refine Ev.congr (fun k => if_neg c) ?_
    have h : (s.size : Int) % 4294967296 = ((s.size : Nat) : Int) := by omega
    rw [h, rfour_big _ (by omega)]
    have z4 : ∀ n, (strOfNums (big4 n)).size = 4 := fun n => by rw [strOfNums_size]; rfl
    have hs := rsum_ev (strOfNums (big4 s.size) ++ s) (by rw [ByteArray.size_append, z4]; omega)
    rw [bytes_append, bytes_str _ (big4_range _)] at hs
    refine Ev.bind (Ev.now _) ?_
    refine Ev.congr (fun k => if_pos (by rw [z4]; omega)) (Ev.bind hs ?_)
    rw [rfour_big _ (sumL _).isLt]
    refine Ev.bind (Ev.now _) ?_
    refine Ev.congr (fun k => if_pos (by rw [z4, z4]; omega)) (Ev.congr (fun k => if_pos (by rw [ByteArray.size_append, z4, z4]; omega)) ?_)
    rw [← str_append, strOfNums_bytes, frameL, headL, bytesOf_length]
    exact Ev.now _
theorem sum_eq (s : ByteArray) (h : s.size ≤ 140737488355328) : seal_Sum.f s = some ((sumL (bytesOf s)).toNat : Int) := if_pos h
theorem sums (s : ByteArray) (h : s.size ≤ 140737488351232) : Ev (fun k => rialtolaw02_SealSums.f k s) true := by
  unfold rialtolaw02_SealSums.f
  rw [frame_eq, live02, sum_eq s (by omega)]
  refine Ev.bind (Ev.now _) (Ev.bind (rframe_ev s) (Ev.bind (Ev.now _) (Ev.congr (fun k => if_pos rfl) (Ev.bind (Ev.now _) (Ev.bind (rsum_ev s (by omega)) (Ev.congr (fun k => if_pos rfl) (Ev.congr (fun k => if_pos rfl) ?_)))))))
  rw [beq_self_eq_true]
  exact Ev.now _
end Go.Proofs.Ytaddblicjlohcaa.SealSpec
