/- SealBack in plain words. Conditions: the list has less than 2^43 texts. -/
import Derived.Test.YtaddblicjlohcaaD8
namespace Go.Proofs.Ytaddblicjlohcaa.SealSpec
open Go.RowKit Go.Proofs.Ytaddblicjlohcaa.Sl Go.Proofs.Ytaddblicjlohcaa.TextSpec Go.Proofs.YtaddblicjlohcaaW.PrintWords Go.Proofs.YtaddblicjlohcaaW.PrintLast Go.Proofs.YtaddblicjlohcaaW.PrintMore
open Crc (stp stps byte1 bytesL sumL wide)

theorem back_j1 (a1 : Int) (m : List ByteArray) (x7 : ByteArray) (h0 : -9223372036854775808 ≤ a1) (h1 : a1 < 9223372036854775808) (hm : ∀ s ∈ m, s.size ≤ 70000) (hl : m.length < 8796093022208)
    (hx : x7 = ⟨#[]⟩ ∨ ∃ s : ByteArray, s.size ≤ 70000 ∧ x7 = strOfNums (frameL (bytesOf s))) : Ev (fun k => rialtolaw02_SealBack.j1 k a1 (strOfNums (catF m)) m x7 false) true := by
  have hc := catF_len m hm
  by_cases ct : x7.toList = ([] : List UInt8)
  · refine Ev.step (f := fun k => some true) (fun k => ?_) (Ev.now _)
    simp only [rialtolaw02_SealBack.j1]
    rw [if_neg (by decide), if_pos ct]
  · rcases hx with hx | ⟨s, hs, hx⟩
    · exact absurd (by rw [hx, ByteArray.toList, ByteArray.toList.loop]; rfl) ct
    · have hb := bytesOf_length s
      have hz : x7.size = 8 + s.size := by rw [hx, strOfNums_size, frame_len, hb]
      have hr : ∀ x ∈ frameL (bytesOf s), 0 ≤ x ∧ x < 256 := app_range (head_range _) (bytes_range s)
      obtain ⟨b, hp, hlt⟩ := pick_ok a1 (x7.size : Int) h0 h1 (by omega)
      have hb2 : b < 8 + s.size := by omega
      have hcut : x7.extract 0 b = strOfNums ((frameL (bytesOf s)).take b) := by
        rw [extract_str, hx, bytes_str _ hr, List.drop_zero]
      have hlen : ((frameL (bytesOf s)).take b).length = b := by rw [List.length_take, frame_len]; omega
      have hrt : ∀ x ∈ (frameL (bytesOf s)).take b, 0 ≤ x ∧ x < 256 := fun x hx => hr x (List.mem_of_mem_take hx)
      have h20 := takeB_cut (bytesOf s) (by omega) b (by omega)
      generalize (frameL (bytesOf s)).take b = t at *
      have hf := frames_all m t hrt h20 hm hl (by rw [List.length_append]; omega)
      have hu := unframe_list t hrt (by omega) 0 (by omega)
      rw [h20] at hu
      have h00 : ((0 : Nat) : Int) = 0 := rfl
      rw [h00] at hu
      have z1 : (strOfNums (catF m)).size = (catF m).length := strOfNums_size _
      have z2 : (strOfNums t).size = b := by rw [strOfNums_size, hlen]
      have q1 : 0 ≤ (b : Int) := by omega
      have q2 : (b : Int) ≤ (x7.size : Int) := by omega
      have q3 : (strOfNums (catF m)).size + (strOfNums t).size ≤ 9223372036854775807 := by omega
      have q4 : ((catF m).length : Int) = ((strOfNums (catF m)).size : Int) := by omega
      refine Ev.step (f := fun k => (seal_Frames.f k (strOfNums (catF m ++ t))).bind fun bt185 => ((rialtolaw02_same.f k bt185.1 m).bind fun t192 => (if t192 = true then (if bt185.2 = ((strOfNums (catF m)).size : Int) then some true else (some false)) else (some false)))) (fun k => ?_) ?_
      · simp only [rialtolaw02_SealBack.j1]
        rw [if_neg (by decide), if_neg ct, hp]
        simp only [Option.bind_some, Int.toNat_natCast]
        rw [if_pos q1, if_pos q2, hcut, if_pos q3, ← str_append, hu]
        rfl
      · refine Ev.bind hf ?_
        refine Ev.bind (same_ev2 m (by omega)) ?_
        refine Ev.congr (fun k => if_pos rfl) ?_
        refine Ev.congr (fun k => if_pos q4) ?_
        exact Ev.now _
theorem back_l0 (l : List ByteArray) (a1 : Int) (h0 : -9223372036854775808 ≤ a1) (h1 : a1 < 9223372036854775808) (hl : l.length < 8796093022208) (j : Nat) : ∀ (i : Nat) (m : List ByteArray) (x7 : ByteArray), i + j = l.length → m.length ≤ i → (∀ s ∈ m, s.size ≤ 70000) →
    (x7 = ⟨#[]⟩ ∨ ∃ s : ByteArray, s.size ≤ 70000 ∧ x7 = strOfNums (frameL (bytesOf s))) → Ev (fun k => rialtolaw02_SealBack.l0 k l a1 (strOfNums (catF m)) m x7 (i : Int)) true := by
  induction j with
  | zero =>
    intro i m x7 hi hm hs hx
    have hc := catF_len m hs
    have hf := frames_all m [] (by simp) takeB_end hs (by omega) (by rw [List.append_nil]; omega)
    rw [List.append_nil] at hf
    have z1 : (strOfNums (catF m)).size = (catF m).length := strOfNums_size _
    have q4 : ((catF m).length : Int) = ((strOfNums (catF m)).size : Int) := by omega
    refine Ev.step (f := fun k => (seal_Frames.f k (strOfNums (catF m))).bind fun bt178 => ((rialtolaw02_same.f k bt178.1 m).bind fun t182 => (if t182 = true then (if bt178.2 = ((strOfNums (catF m)).size : Int) then ((rialtolaw02_live.f).bind fun t183 => (rialtolaw02_SealBack.j1 k a1 (strOfNums (catF m)) m x7 (!t183))) else (rialtolaw02_SealBack.j1 k a1 (strOfNums (catF m)) m x7 true)) else (rialtolaw02_SealBack.j1 k a1 (strOfNums (catF m)) m x7 true)))) (fun k => ?_) ?_
    · simp only [rialtolaw02_SealBack.l0]
      rw [if_neg (by omega)]
    · refine Ev.bind hf ?_
      refine Ev.bind (same_ev2 m (by omega)) ?_
      refine Ev.congr (fun k => if_pos rfl) ?_
      refine Ev.congr (fun k => if_pos q4) ?_
      rw [live02]
      refine Ev.bind (Ev.now _) ?_
      exact back_j1 a1 m x7 h0 h1 hs (by omega) hx
  | succ j ih =>
    intro i m x7 hi hm hs hx
    have hc := catF_len m hs
    have hw : wrap64 ((i : Int) + 1) = ((i + 1 : Nat) : Int) := by unfold wrap64; omega
    have hfe := frame_eq (rdOf ByteArray.empty l (i : Int))
    generalize hg : rdOf ByteArray.empty l (i : Int) = s at *
    have hb := bytesOf_length s
    unfold frameF at hfe
    by_cases cs : (s.size : Int) > 70000
    · rw [if_pos cs] at hfe
      refine Ev.step (fun k => ?_) (ih (i + 1) m x7 (by omega) (by omega) hs hx)
      simp only [rialtolaw02_SealBack.l0]
      rw [if_pos (by omega), if_pos (by omega), hg, hfe]
      simp only [Option.bind_some]
      rw [if_neg (by decide), hw]
    · rw [if_neg cs] at hfe
      have hr : ∀ x ∈ frameL (bytesOf s), 0 ≤ x ∧ x < 256 := app_range (head_range _) (bytes_range s)
      have zf : (strOfNums (frameL (bytesOf s))).size = 8 + s.size := by rw [strOfNums_size, frame_len, hb]
      have zc : (strOfNums (catF m)).size = (catF m).length := strOfNums_size _
      have z1 : ((⟨#[120]⟩ : ByteArray) ++ strOfNums (frameL (bytesOf s))).size = 9 + s.size := by
        rw [ByteArray.size_append, zf]
        have : (⟨#[120]⟩ : ByteArray).size = 1 := rfl
        omega
      have hx1 : ((⟨#[120]⟩ : ByteArray) ++ strOfNums (frameL (bytesOf s))) ++ (⟨#[121]⟩ : ByteArray) = strOfNums ([120] ++ (frameL (bytesOf s) ++ [121])) := by
        rw [str_append, str_append, ByteArray.append_assoc]; rfl
      have hrr : ∀ x ∈ ([120] ++ (frameL (bytesOf s) ++ [121]) : List Int), 0 ≤ x ∧ x < 256 := app_range (by intro x hx; simp at hx; omega) (app_range hr (by intro x hx; simp at hx; omega))
      have hu := unframe_list ([120] ++ (frameL (bytesOf s) ++ [121])) hrr (by simp only [List.length_append, frame_len, List.length_cons, List.length_nil]; omega) 1 (by simp)
      have htb := takeB_behind [120] (frameL (bytesOf s) ++ [121])
      rw [takeB_frame _ _ (by omega)] at htb
      have hl1 : ([120] : List Int).length = 1 := rfl
      rw [hl1] at htb
      rw [htb] at hu
      have h11 : ((1 : Nat) : Int) = 1 := rfl
      rw [h11] at hu
      have hv : ((1 : Int) + ((8 + (bytesOf s).length : Nat) : Int)) = 1 + ((strOfNums (frameL (bytesOf s))).size : Int) := by rw [zf, hb]
      have hi2 := ih (i + 1) (m ++ [s]) (strOfNums (frameL (bytesOf s))) (by omega) (by rw [List.length_append, List.length_singleton]; omega) (by
        intro t ht
        rcases List.mem_append.1 ht with h | h
        · exact hs t h
        · rw [List.mem_singleton.1 h]; omega) (.inr ⟨s, by omega, rfl⟩)
      have hcat : strOfNums (catF (m ++ [s])) = strOfNums (catF m) ++ strOfNums (frameL (bytesOf s)) := by
        rw [catF_append, str_append]; simp [catF]
      rw [hcat] at hi2
      have q1 : 1 + (strOfNums (frameL (bytesOf s))).size ≤ 9223372036854775807 := by omega
      have q2 : ((⟨#[120]⟩ : ByteArray) ++ strOfNums (frameL (bytesOf s))).size + 1 ≤ 9223372036854775807 := by omega
      have q3 : (strOfNums (catF m)).size + (strOfNums (frameL (bytesOf s))).size ≤ 9223372036854775807 := by omega
      have q4 : m.length < 8796093022208 := by omega
      refine Ev.step (fun k => ?_) hi2
      simp only [rialtolaw02_SealBack.l0]
      rw [if_pos (by omega), if_pos (by omega), hg, hfe]
      simp only [Option.bind_some]
      rw [if_pos trivial, if_pos q1, if_pos q2, hx1, hu]
      simp only [Option.bind_some]
      rw [str_bytes, if_pos trivial, if_pos trivial, if_pos hv, if_pos rfl, if_pos q3, if_pos q4, hw]
theorem sback (l : List ByteArray) (a1 : Int) (h0 : -9223372036854775808 ≤ a1) (h1 : a1 < 9223372036854775808) (hl : l.length < 8796093022208) : Ev (fun k => rialtolaw02_SealBack.f k l a1) true :=
  back_l0 l a1 h0 h1 hl l.length 0 [] ⟨#[]⟩ (by omega) (by simp) (by simp) (.inl rfl)
end Go.Proofs.Ytaddblicjlohcaa.SealSpec
