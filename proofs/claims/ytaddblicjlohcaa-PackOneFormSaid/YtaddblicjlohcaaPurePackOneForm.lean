/- PackOneForm's pure statement: what is read, written again, is the bytes that were read, and without the last of them it is cut off. For every text of fewer than 2^47 bytes and every int. -/
import Derived.Test.YtaddblicjlohcaaPk8
import Derived.Test.YtaddblicjlohcaaPurePackReads
namespace Go.Proofs.Ytaddblicjlohcaa.PackSpec
open Go.RowKit Go.Proofs.Ytaddblicjlohcaa.Pk Go.Proofs.YtaddblicjlohcaaW.PrintWords Go.Proofs.YtaddblicjlohcaaW.PrintLast Go.Proofs.YtaddblicjlohcaaW.PrintMore

theorem cut_text (s : ByteArray) (a : Int) (c : Nat) (h0 : 0 ≤ a) : s.extract a.toNat (a + c).toNat = strOfNums ((from_ s a).take c) := by
  rw [extract_str, List.drop_take, from_, show (a + c).toNat - a.toNat = c from by omega]
theorem from_cut (s : ByteArray) (a : Int) (m : Nat) (_h1 : a.toNat ≤ m) : from_ (s.extract 0 m) a = (from_ s a).take (m - a.toNat) := by
  rw [from_, bytes_extract, List.drop_zero, List.drop_take, from_]
theorem size_cut (s : ByteArray) (m : Nat) (h : m ≤ s.size) : (s.extract 0 m).size = m := by
  have := bytesOf_length (s.extract 0 m)
  rw [← this, bytes_extract, List.drop_zero, List.length_take, bytesOf_length]
  omega
theorem writeL_back (ts : List (List Int)) (h0 : ts.length ≤ 4000) (h : ∀ t ∈ ts, t.length ≤ 60000 ∧ ∀ x ∈ t, 0 ≤ x ∧ x < 256) : writeL (ts.map strOfNums) = (strOfNums (wrL ts), 0) := by
  unfold writeL
  rw [if_neg]
  · congr 3
    rw [List.map_map]
    conv => rhs; rw [← List.map_id ts]
    apply List.map_congr_left
    intro t ht
    exact bytes_str t (h t ht).2
  · rintro (h1 | ⟨s, hs, h1⟩)
    · simp at h1; omega
    · obtain ⟨t, ht, rfl⟩ := List.mem_map.1 hs
      have := (h t ht).1
      rw [strOfNums_sz] at h1
      omega
theorem j1_eq (s : ByteArray) (a : Int) (k : Nat) : rialtolaw01_PackOneForm.j1 (k + 1) s a = (pack_TakeList.f k s a).bind fun b => (if b.2.2 = 0 then (if a < 0 then (rialtolaw01_PackOneForm.j2 k s a b.2.1 b.1 true) else (if b.2.1 ≤ a then (rialtolaw01_PackOneForm.j2 k s a b.2.1 b.1 true) else (rialtolaw01_PackOneForm.j2 k s a b.2.1 b.1 (decide (b.2.1 > (s.size : Int)))))) else ((rialtolaw01_live.f k).bind fun t => (if t = true then (some ((b.1.length : Int) == 0)) else (some false)))) := by
  simp only [rialtolaw01_PackOneForm.j1]
theorem one_list (s : ByteArray) (a : Int) (hs : s.size ≤ 140737488351232) : Ev (fun k => rialtolaw01_PackOneForm.j1 k s a) true := by
  have hl := takeL_ev s a hs
  rcases takeL_cases s a with ⟨e, he, h0⟩ | ⟨ts, c, g0, g1, h, he⟩
  · rw [he] at hl
    refine Ev.step (j1_eq s a) (Ev.bind hl (Ev.congr (fun k => if_neg h0) (Ev.bind live_ev (Ev.congr (fun k => if_pos rfl) (Ev.now _)))))
  · rw [he] at hl
    obtain ⟨a1, a2, a3, a4, a5⟩ := tkL_ok (from_range s a) h
    rw [from_len] at a3
    have hcut := tkL_cut (from_range s a) h (c - 1) (by omega)
    have e1 : wrap64 (a + c - 1) = a + c - 1 := by unfold wrap64; omega
    have hsz := size_cut s (a + c - 1).toNat (by omega)
    have hl2 : Ev (fun k => pack_TakeList.f k (s.extract 0 (a + c - 1).toNat) a) ([], 0, 10) := by
      have := takeL_ev (s.extract 0 (a + c - 1).toNat) a (by omega)
      have h2 : takeL (s.extract 0 (a + c - 1).toNat) a = ([], 0, 10) := by
        unfold takeL
        rw [if_neg (by omega), from_cut _ _ _ (by omega), show (a + c - 1).toNat - a.toNat = c - 1 from by omega, hcut]
        rfl
      rw [h2] at this
      exact this
    have hw : Ev (fun k => pack_List.f k (ts.map strOfNums)) (strOfNums (wrL ts), 0) := by
      have := list_ev (ts.map strOfNums) (by rw [List.length_map]; omega)
      rw [writeL_back ts a4 a5] at this
      exact this
    have htext : strOfNums (wrL ts) = s.extract a.toNat (a + c).toNat := by rw [cut_text s a c g0, a1]
    have hj2 : Ev (fun k => rialtolaw01_PackOneForm.j2 k s a (a + c) (ts.map strOfNums) false) true := by
      refine Ev.step (f := fun k => (pack_List.f k (ts.map strOfNums)).bind fun b => (pack_TakeList.f k (s.extract 0 (a + c - 1).toNat) a).bind fun d => (rialtolaw01_live.f k).bind fun t => (if t = true then (if b.1.toList = (s.extract a.toNat (a + c).toNat).toList then (if b.2 = 0 then (some (d.2.2 == 10)) else (some false)) else (some false)) else (some false))) (fun k => ?_) (Ev.bind hw (Ev.bind hl2 (Ev.bind live_ev ?_)))
      · simp only [rialtolaw01_PackOneForm.j2, e1]
        rw [if_neg (by simp)]
        congr 1
        funext b
        rw [if_pos (by omega), if_pos (by omega)]
        congr 1
        funext d
        congr 1
        funext t
        congr 1
        rw [if_pos (by omega), if_pos (by omega), if_pos (by omega)]
      · refine Ev.congr (fun k => (if_pos rfl).trans ((if_pos ?_).trans (if_pos rfl))) (Ev.now _)
        exact congrArg ByteArray.toList htext
    refine Ev.step (j1_eq s a) (Ev.bind hl (Ev.congr (fun k => if_pos rfl) (Ev.congr (f := fun k => rialtolaw01_PackOneForm.j2 k s a (a + c) (ts.map strOfNums) false) (fun k => ?_) hj2)))
    rw [if_neg (by omega), if_neg (by simp only; omega), decide_eq_false (by simp only; omega)]
theorem one_form (s : ByteArray) (a : Int) (hs : s.size ≤ 140737488351232) : Ev (fun k => rialtolaw01_PackOneForm.f k s a) true := by
  have hu := takeU_ev s a hs
  rcases takeU_cases s a with ⟨e, he, h0, -⟩ | ⟨n, c, g0, g1, h, he, hn, hc0, hc⟩
  · rw [he] at hu
    exact Ev.bind hu (Ev.congr (fun k => if_neg h0) (one_list s a hs))
  · rw [he] at hu
    obtain ⟨a1, a2, a3, -⟩ := tk_ok (from_range s a) h
    have htext : strOfNums (putN n) = s.extract a.toNat (a + c).toNat := by rw [cut_text s a c g0, a1]
    have e1 : wrap64 (a + c - 1) = a + c - 1 := by unfold wrap64; omega
    have hsz := size_cut s (a + c - 1).toNat (by omega)
    have hl2 : Ev (fun k => pack_TakeUint.f k (s.extract 0 (a + c - 1).toNat) a) (0, 0, 10) := by
      have := takeU_ev (s.extract 0 (a + c - 1).toNat) a (by omega)
      have h2 : takeU (s.extract 0 (a + c - 1).toNat) a = (0, 0, 10) := by
        have hf : (bytesOf (s.extract 0 (a + c - 1).toNat)).drop a.toNat = from_ (s.extract 0 (a + c - 1).toNat) a := rfl
        unfold takeU
        rw [if_neg (by omega), hf, from_cut _ _ _ (by omega), show (a + c - 1).toNat - a.toNat = c - 1 from by omega, tk_cut h (c - 1) (by omega)]
        rfl
      rw [h2] at this
      exact this
    have hi : Ev (fun k => pack_TakeInt.f k s a) (zig n, a + c, 0) := by
      have := takeI_ev s a hs
      unfold takeI at this
      rw [he] at this
      exact this
    have hz := zig_range n hn
    have hw : Ev (fun k => pack_Int.f k (zig n)) (strOfNums (putN n)) := by
      have := int_ev (zig n) hz.1 hz.2
      rw [zag_zig] at this
      exact this
    have hj0 : Ev (fun k => rialtolaw01_PackOneForm.j0 k s a (a + c) false) true := by
      refine Ev.step (f := fun k => (pack_TakeUint.f k (s.extract 0 (a + c - 1).toNat) a).bind fun b => (pack_TakeInt.f k s a).bind fun d => if b.2.2 = 10 then (if d.2.2 = 0 then (if d.2.1 = a + c then ((pack_Int.f k d.1).bind fun t => if t.toList = (s.extract a.toNat (a + c).toNat).toList then rialtolaw01_PackOneForm.j1 k s a else some false) else some false) else some false) else some false) (fun k => ?_) (Ev.bind hl2 (Ev.bind hi (Ev.congr (fun k => (if_pos rfl).trans ((if_pos rfl).trans (if_pos rfl))) (Ev.bind hw (Ev.congr (fun k => if_pos (congrArg ByteArray.toList htext)) (one_list s a hs))))))
      simp only [rialtolaw01_PackOneForm.j0, e1]
      rw [if_neg (by simp), if_pos (by omega), if_pos (by omega)]
      congr 1
      funext b
      congr 1
      funext d
      congr 3
      congr 1
      funext t
      rw [if_pos (by omega), if_pos (by omega), if_pos (by omega)]
    refine Ev.bind hu (Ev.congr (fun k => if_pos rfl) (Ev.congr (f := fun k => (pack_Uint.f k (n : Int)).bind fun t => rialtolaw01_PackOneForm.j0 k s a (a + c) (t.toList != (s.extract a.toNat (a + c).toNat).toList)) (fun k => ?_) (Ev.bind (uint_ev n hn) ?_)))
    · rw [if_neg (by omega), if_neg (by simp only; omega), if_neg (by simp only; omega)]
      congr 1
      funext t
      rw [if_pos (by omega), if_pos (by simp only; omega), if_pos (by simp only; omega)]
    · rw [htext]
      simp only [bne_self_eq_false]
      exact hj0
end Go.Proofs.Ytaddblicjlohcaa.PackSpec
namespace Go.Proofs.Ytaddblicjlohcaa.Pure
open Go.Proofs.Ytaddblicjlohcaa.Pk
theorem PackOneForm : rialtolaw01_PackOneForm.Pure := fun s a hs _ => (PackSpec.one_form s a hs).rounds
end Go.Proofs.Ytaddblicjlohcaa.Pure
