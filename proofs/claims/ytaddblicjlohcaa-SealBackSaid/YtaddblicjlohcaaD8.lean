/- Frames put together are read again; a cut frame is not there yet. Conditions: texts are shorter than 2^62 bytes, lists than 2^43 texts. -/
import Derived.Test.YtaddblicjlohcaaD7
import Derived.Test.YtaddblicjlohcaaSl12
namespace Go.Proofs.Ytaddblicjlohcaa.SealSpec
open Go.RowKit Go.Proofs.Ytaddblicjlohcaa.Sl Go.Proofs.Ytaddblicjlohcaa.TextSpec Go.Proofs.YtaddblicjlohcaaW.PrintWords Go.Proofs.YtaddblicjlohcaaW.PrintLast Go.Proofs.YtaddblicjlohcaaW.PrintMore
open Crc (stp stps byte1 bytesL sumL wide)

theorem frame_len (b : List Int) : (frameL b).length = 8 + b.length := by rw [frameL, List.length_append, head_len]
/-- Behind other bytes. -/
theorem takeB_behind (a l : List Int) : takeB (a ++ l) a.length = ((takeB l 0).1, if (takeB l 0).2.2 = 0 then (a.length : Int) + (takeB l 0).2.1 else 0, (takeB l 0).2.2) := by
  have e0 : (a ++ l).drop a.length = l.drop 0 := by rw [List.drop_left, List.drop_zero]
  have e4 : (a ++ l).drop (a.length + 4) = l.drop (0 + 4) := by rw [← List.drop_drop, List.drop_left, Nat.zero_add]
  have e8 : (a ++ l).drop (a.length + 8) = l.drop (0 + 8) := by rw [← List.drop_drop, List.drop_left, Nat.zero_add]
  unfold takeB
  rw [e0, e4, e8, List.length_append]
  generalize num4 (l.drop 0) = n
  generalize num4 (l.drop (0 + 4)) = m
  generalize (sumL (List.take 4 (l.drop 0) ++ List.take n (l.drop (0 + 8)))).toNat = q
  generalize List.take n (l.drop (0 + 8)) = t
  by_cases c1 : l.length < 0 + 8
  · rw [if_pos c1, if_pos (by omega)]; rfl
  · rw [if_neg c1, if_neg (by omega)]
    by_cases c2 : n > 70000
    · rw [if_pos c2, if_pos c2]; rfl
    · rw [if_neg c2, if_neg c2]
      by_cases c3 : l.length < 0 + 8 + n
      · rw [if_pos c3, if_pos (by omega)]; rfl
      · rw [if_neg c3, if_neg (by omega)]
        by_cases c4 : m = q
        · rw [if_pos c4, if_pos c4]
          refine Prod.ext rfl (Prod.ext ?_ rfl)
          show ((a.length + 8 + n : Nat) : Int) = if (0 : Int) = 0 then (a.length : Int) + ((0 + 8 + n : Nat) : Int) else 0
          rw [if_pos rfl]
          omega
        · rw [if_neg c4, if_neg c4]; rfl
theorem takeB_frame (b r : List Int) (hb : b.length ≤ 70000) : takeB (frameL b ++ r) 0 = (strOfNums b, ((8 + b.length : Nat) : Int), 0) := by
  have h := takeB_three b.length (big4 (sumL (big4 b.length ++ b)).toNat) b (big4_len _) rfl hb r
  have hq := num4_big (sumL (big4 b.length ++ b)).toNat (sumL_toNat_lt _) []
  rw [List.append_nil] at hq
  rw [hq, if_pos rfl] at h
  exact h
theorem takeB_cut (b : List Int) (hb : b.length ≤ 70000) (k : Nat) (hk : k < 8 + b.length) : takeB ((frameL b).take k) 0 = (⟨#[]⟩, 0, 20) := by
  have hl : ((frameL b).take k).length = k := by rw [List.length_take, frame_len]; omega
  unfold takeB
  rw [hl]
  by_cases c : k < 0 + 8
  · rw [if_pos c]
  · rw [if_neg c]
    have hn : num4 (((frameL b).take k).drop 0) = b.length := by
      rw [List.drop_zero, num4_take _ k (by omega), frameL, headL, List.append_assoc]
      exact num4_big b.length (by omega) _
    rw [hn, if_neg (by omega), if_pos (by omega)]
theorem takeB_end : takeB [] 0 = (⟨#[]⟩, 0, 20) := rfl
/-- Frames, one behind the other. -/
def catF : List ByteArray → List Int
  | [] => []
  | s :: l => frameL (bytesOf s) ++ catF l
theorem catF_append (a b : List ByteArray) : catF (a ++ b) = catF a ++ catF b := by
  induction a with
  | nil => rfl
  | cons s l ih => simp only [List.cons_append, catF, ih, List.append_assoc]
theorem catF_range (l : List ByteArray) : ∀ x ∈ catF l, 0 ≤ x ∧ x < 256 := by
  induction l with
  | nil => intro x hx; simp [catF] at hx
  | cons s l ih => exact app_range (app_range (head_range _) (bytes_range s)) ih
theorem catF_len (l : List ByteArray) (h : ∀ s ∈ l, s.size ≤ 70000) : (catF l).length ≤ 70008 * l.length := by
  induction l with
  | nil => simp [catF]
  | cons s l ih =>
    have h1 := h s (by simp)
    have h2 := ih (fun t ht => h t (by simp [ht]))
    simp only [catF, List.length_append, frame_len, bytesOf_length, List.length_cons]
    omega
theorem takeG_list (l : List Int) (hl : ∀ x ∈ l, 0 ≤ x ∧ x < 256) (p : Nat) (hp : p ≤ l.length) : takeG (strOfNums l) (p : Int) = takeB l p := by
  have hsz := strOfNums_size l
  unfold takeG
  rw [if_neg (by omega), bytes_str l hl, Int.toNat_natCast]
theorem frames_cat (tail : List Int) (ht : ∀ x ∈ tail, 0 ≤ x ∧ x < 256) (h20 : takeB tail 0 = (⟨#[]⟩, 0, 20)) : ∀ (m : List ByteArray) (pre : List Int) (out : List ByteArray), (∀ x ∈ pre, 0 ≤ x ∧ x < 256) → (∀ s ∈ m, s.size ≤ 70000) →
    out.length + m.length < 8796093022208 → (pre ++ catF m ++ tail).length ≤ 4611686018427387904 →
    Ev (fun k => seal_Frames.l0 k (strOfNums (pre ++ catF m ++ tail)) out (pre.length : Int)) (out ++ m, ((pre.length + (catF m).length : Nat) : Int)) := by
  intro m
  induction m with
  | nil =>
    intro pre out hp _ ho hz
    have hG : takeG (strOfNums (pre ++ catF [] ++ tail)) (pre.length : Int) = (⟨#[]⟩, 0, 20) := by
      rw [takeG_list _ (app_range (app_range hp (catF_range _)) ht) _ (by simp only [List.length_append]; omega)]
      rw [show pre ++ catF [] ++ tail = pre ++ tail from by simp [catF], takeB_behind, h20]
      rfl
    have hu := unframe_eq (strOfNums (pre ++ catF [] ++ tail)) (pre.length : Int) (by rw [strOfNums_size]; exact hz)
    rw [hG] at hu
    refine Ev.step (f := fun k => some _) (fun k => ?_) (Ev.now _)
    simp only [seal_Frames.l0]
    rw [hu]
    simp only [Option.bind_some]
    rw [if_neg (by decide), List.append_nil]
    rfl
  | cons s m ih =>
    intro pre out hp hm ho hz
    have h1 := hm s (by simp)
    have hb := bytesOf_length s
    have e : pre ++ catF (s :: m) ++ tail = (pre ++ frameL (bytesOf s)) ++ catF m ++ tail := by simp only [catF, List.append_assoc]
    have hr : ∀ x ∈ frameL (bytesOf s), 0 ≤ x ∧ x < 256 := app_range (head_range _) (bytes_range s)
    have hG : takeG (strOfNums (pre ++ catF (s :: m) ++ tail)) (pre.length : Int) = (s, (((pre ++ frameL (bytesOf s)).length : Nat) : Int), 0) := by
      rw [takeG_list _ (app_range (app_range hp (catF_range _)) ht) _ (by simp only [List.length_append]; omega)]
      rw [show pre ++ catF (s :: m) ++ tail = pre ++ (frameL (bytesOf s) ++ (catF m ++ tail)) from by simp only [catF, List.append_assoc], takeB_behind, takeB_frame _ _ (by omega)]
      refine Prod.ext (str_bytes s) (Prod.ext ?_ rfl)
      show (if (0 : Int) = 0 then (pre.length : Int) + ((8 + (bytesOf s).length : Nat) : Int) else 0) = (((pre ++ frameL (bytesOf s)).length : Nat) : Int)
      rw [if_pos rfl, List.length_append, frame_len]
      omega
    have hu := unframe_eq (strOfNums (pre ++ catF (s :: m) ++ tail)) (pre.length : Int) (by rw [strOfNums_size]; exact hz)
    rw [hG] at hu
    have hi := ih (pre ++ frameL (bytesOf s)) (out ++ [s]) (app_range hp hr) (fun t ht => hm t (by simp [ht])) (by simp only [List.length_append, List.length_cons, List.length_nil] at ho ⊢; omega) (by rw [← e]; exact hz)
    rw [← e] at hi
    have hv : (out ++ [s] ++ m, (((pre ++ frameL (bytesOf s)).length + (catF m).length : Nat) : Int)) = (out ++ s :: m, ((pre.length + (catF (s :: m)).length : Nat) : Int)) := by
      refine Prod.ext (by simp) ?_
      simp only [catF, List.length_append]
      omega
    rw [hv] at hi
    refine Ev.step (fun k => ?_) hi
    simp only [seal_Frames.l0]
    rw [hu]
    simp only [Option.bind_some]
    rw [if_pos trivial, if_pos (by simp only [List.length_cons] at ho; omega)]
theorem frames_all (m : List ByteArray) (tail : List Int) (ht : ∀ x ∈ tail, 0 ≤ x ∧ x < 256) (h20 : takeB tail 0 = (⟨#[]⟩, 0, 20)) (hm : ∀ s ∈ m, s.size ≤ 70000) (hl : m.length < 8796093022208) (hz : (catF m ++ tail).length ≤ 4611686018427387904) :
    Ev (fun k => seal_Frames.f k (strOfNums (catF m ++ tail))) (m, ((catF m).length : Int)) := by
  have h := frames_cat tail ht h20 m [] [] (by simp) hm (by simpa using hl) (by simpa using hz)
  simp only [List.nil_append, List.length_nil, Nat.zero_add] at h
  exact h
end Go.Proofs.Ytaddblicjlohcaa.SealSpec
