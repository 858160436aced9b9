/- What the reference and seal read of a text: the same. Conditions: texts are shorter than 2^62 bytes; lists of frames are read of texts of at most 2^42 bytes. -/
import Derived.Test.YtaddblicjlohcaaD6
import Derived.Test.YtaddblicjlohcaaSl11
namespace Go.Proofs.Ytaddblicjlohcaa.SealSpec
open Go.RowKit Go.Proofs.Ytaddblicjlohcaa.Sl Go.Proofs.Ytaddblicjlohcaa.TextSpec Go.Proofs.YtaddblicjlohcaaW.PrintWords Go.Proofs.YtaddblicjlohcaaW.PrintLast Go.Proofs.YtaddblicjlohcaaW.PrintMore
open Crc (stp stps byte1 bytesL sumL wide)

/-- What is read at a place. -/
def takeG (s : ByteArray) (a : Int) : ByteArray × Int × Int := if a < 0 ∨ a > s.size then (⟨#[]⟩, 0, 1) else takeB (bytesOf s) a.toNat
theorem unframe_eq (s : ByteArray) (a : Int) (hs : s.size ≤ 4611686018427387904) : seal_Unframe.f s a = some (takeG s a) := by
  unfold seal_Unframe.f takeG
  rw [if_pos hs, takeF_eq]
theorem byte_at (s : ByteArray) (i : Nat) (z : Int) (hz : z = (i : Int)) (hi : i < s.size) : (((bytesOf s).getD i 0).toNat : Int) = bt s z ∧ 0 ≤ bt s z ∧ bt s z < 256 := by
  subst hz
  have h1 := bytes_at s i hi
  have h2 : (bytesOf s)[i]? = some (bt s (i : Int)) := by
    have := congrArg (fun l => l[0]?) h1
    simpa [List.getElem?_drop] using this
  have h3 := bt_range s (i : Int)
  rw [List.getD_eq_getElem?_getD, h2]
  simp only [Option.getD_some]
  omega
theorem rnumber_ev (s : ByteArray) (h : s.size = 4) : Ev (fun k => rialtoref02_number.f k s) ((num4 (bytesOf s) : Nat) : Int) := by
  have st : ∀ (x i : Nat) (b : Nat), i < 4 → (b : Int) = bt s (i : Int) → b < 256 → x < 4294967296 → Ev (fun k => rialtoref02_number.l0 k s ((x * 256 + b : Nat) : Int) ((i + 1 : Nat) : Int)) ((num4 (bytesOf s) : Nat) : Int) → Ev (fun k => rialtoref02_number.l0 k s (x : Int) (i : Int)) ((num4 (bytesOf s) : Nat) : Int) := by
    intro x i b hi hb hlt hx hv
    refine Ev.step (fun k => ?_) hv
    simp only [rialtoref02_number.l0]
    have h11 : wrap64 ((x : Int) * 256) = ((x * 256 : Nat) : Int) := by unfold wrap64; omega
    have h12 : wrap64 (b : Int) = (b : Int) := by unfold wrap64; omega
    have h13 : wrap64 (((x * 256 : Nat) : Int) + (b : Int)) = ((x * 256 + b : Nat) : Int) := by unfold wrap64; omega
    have h1 : wrap64 ((wrap64 ((x : Int) * 256)) + (wrap64 (bt s (i : Int)))) = ((x * 256 + b : Nat) : Int) := by rw [← hb, h11, h12, h13]
    have h2 : wrap64 ((i : Int) + 1) = ((i + 1 : Nat) : Int) := by unfold wrap64; omega
    rw [if_pos (by omega), if_pos (by omega), if_pos (by omega), h1, h2]
  have b0 := byte_at s 0 0 rfl (by omega)
  have b1 := byte_at s 1 1 rfl (by omega)
  have b2 := byte_at s 2 2 rfl (by omega)
  have b3 := byte_at s 3 3 rfl (by omega)
  have e : num4 (bytesOf s) = (((0 * 256 + ((bytesOf s).getD 0 0).toNat) * 256 + ((bytesOf s).getD 1 0).toNat) * 256 + ((bytesOf s).getD 2 0).toNat) * 256 + ((bytesOf s).getD 3 0).toNat := by unfold num4; rw [Nat.zero_mul, Nat.zero_add]
  generalize ((bytesOf s).getD 0 0).toNat = x0 at *
  generalize ((bytesOf s).getD 1 0).toNat = x1 at *
  generalize ((bytesOf s).getD 2 0).toNat = x2 at *
  generalize ((bytesOf s).getD 3 0).toNat = x3 at *
  have l0 : x0 < 256 := by omega
  have l1 : x1 < 256 := by omega
  have l2 : x2 < 256 := by omega
  have l3 : x3 < 256 := by omega
  unfold rialtoref02_number.f
  refine st 0 0 x0 (by omega) b0.1 (by omega) (by omega) (st (0 * 256 + x0) 1 x1 (by omega) b1.1 (by omega) (by omega) (st _ 2 x2 (by omega) b2.1 (by omega) (by omega) (st _ 3 x3 (by omega) b3.1 (by omega) (by omega) ?_)))
  rw [← e]
  refine Ev.step (f := fun k => some _) (fun k => ?_) (Ev.now _)
  simp only [rialtoref02_number.l0]
  rw [if_neg (by omega)]
theorem num4_lt (l : List Int) (h : ∀ x ∈ l, 0 ≤ x ∧ x < 256) : num4 l < 4294967296 := by
  have hg : ∀ i : Nat, (l.getD i 0).toNat < 256 := by
    intro i
    rw [List.getD_eq_getElem?_getD]
    cases hi : l[i]? with
    | none => simp
    | some x =>
      have := h x (List.mem_of_getElem? hi)
      simp only [Option.getD_some]
      omega
  have := hg 0
  have := hg 1
  have := hg 2
  have := hg 3
  unfold num4
  omega
theorem runframe_ev (s : ByteArray) (a : Int) (hs : s.size ≤ 4611686018427387904) : Ev (fun k => rialtoref02_Unframe.f k s a) (takeG s a) := by
  unfold rialtoref02_Unframe.f takeG
  by_cases h : a < 0
  · rw [if_pos (.inl h)]
    refine Ev.congr (fun k => if_pos h) ?_
    refine Ev.step (f := fun k => some _) (fun k => ?_) (Ev.now _)
    simp only [rialtoref02_Unframe.j0]
    rw [if_pos trivial]
  · refine Ev.congr (fun k => if_neg h) ?_
    by_cases h2 : a > s.size
    · rw [if_pos (.inr h2), decide_eq_true h2]
      refine Ev.step (f := fun k => some _) (fun k => ?_) (Ev.now _)
      simp only [rialtoref02_Unframe.j0]
      rw [if_pos trivial]
    · rw [if_neg (by omega), decide_eq_false h2]
      obtain ⟨p, rfl⟩ := Int.eq_ofNat_of_zero_le (Int.not_lt.1 h)
      rw [Int.toNat_natCast]
      have hp : p ≤ s.size := by omega
      have w0 : wrap64 ((s.size : Int) - (p : Int)) = ((s.size - p : Nat) : Int) := by unfold wrap64; omega
      unfold takeB
      rw [bytesOf_length]
      by_cases c1 : s.size < p + 8
      · rw [if_pos c1]
        refine Ev.step (f := fun k => some _) (fun k => ?_) (Ev.now _)
        simp only [rialtoref02_Unframe.j0]
        rw [if_neg (by decide), w0, if_pos (by omega)]
      · rw [if_neg c1]
        have w4 : wrap64 ((p : Int) + 4) = ((p + 4 : Nat) : Int) := by unfold wrap64; omega
        have w8 : wrap64 ((p : Int) + 8) = ((p + 8 : Nat) : Int) := by unfold wrap64; omega
        have wr : wrap64 (((s.size - p : Nat) : Int) - 8) = ((s.size - p - 8 : Nat) : Int) := by unfold wrap64; omega
        have x1 : (s.extract p (p + 4)).size = 4 := by rw [ByteArray.size_extract]; omega
        have y1 : bytesOf (s.extract p (p + 4)) = ((bytesOf s).drop p).take 4 := by rw [bytes_extract, List.drop_take]; congr 1; omega
        have hn1 := rnumber_ev _ x1
        rw [y1, num4_take _ 4 (by omega)] at hn1
        have hlt := num4_lt ((bytesOf s).drop p) (drop_range s p)
        generalize hn : num4 ((bytesOf s).drop p) = n at *
        have st : Ev (fun k => (rialtoref02_number.f k (s.extract p (p + 4))).bind fun t139 => (if t139 > 70000 then (some ((⟨#[]⟩ : ByteArray), 0, 22)) else (if ((s.size - p - 8 : Nat) : Int) < t139 then (some ((⟨#[]⟩ : ByteArray), 0, 20)) else (if 0 ≤ ((p + 8 : Nat) : Int) then (if ((p + 8 : Nat) : Int) ≤ (wrap64 (((p + 8 : Nat) : Int) + t139)) then (if (wrap64 (((p + 8 : Nat) : Int) + t139)) ≤ (s.size : Int) then (if 0 ≤ ((p + 4 : Nat) : Int) then (if ((p + 4 : Nat) : Int) ≤ ((p + 8 : Nat) : Int) then (if ((p + 8 : Nat) : Int) ≤ (s.size : Int) then ((rialtoref02_number.f k (s.extract (p + 4) (p + 8))).bind fun t140 => (if (s.extract p (p + 4)).size + (s.extract (p + 8) ((wrap64 (((p + 8 : Nat) : Int) + t139)) : Int).toNat).size ≤ 9223372036854775807 then ((rialtoref02_Sum.f k ((s.extract p (p + 4)) ++ (s.extract (p + 8) ((wrap64 (((p + 8 : Nat) : Int) + t139)) : Int).toNat))).bind fun t141 => (if ((t140) % 4294967296) = t141 then (some (s.extract (p + 8) ((wrap64 (((p + 8 : Nat) : Int) + t139)) : Int).toNat, wrap64 (((p + 8 : Nat) : Int) + t139), 0)) else (some ((⟨#[]⟩ : ByteArray), 0, 21)))) else (none))) else (none)) else (none)) else (none)) else (none)) else (none)) else (none)))))
            (if n > 70000 then ((⟨#[]⟩ : ByteArray), (0 : Int), (22 : Int)) else if s.size < p + 8 + n then (⟨#[]⟩, 0, 20) else
    if num4 ((bytesOf s).drop (p + 4)) = (sumL (((bytesOf s).drop p).take 4 ++ ((bytesOf s).drop (p + 8)).take n)).toNat then (strOfNums (((bytesOf s).drop (p + 8)).take n), ((p + 8 + n : Nat) : Int), 0) else (⟨#[]⟩, 0, 21)) := by
          clear w0 w4 w8 wr
          refine Ev.bind hn1 ?_
          by_cases c2 : n > 70000
          · rw [if_pos c2]
            exact Ev.congr (fun k => if_pos (by omega)) (Ev.now _)
          · rw [if_neg c2]
            refine Ev.congr (fun k => if_neg (by omega)) ?_
            by_cases c3 : s.size < p + 8 + n
            · rw [if_pos c3]
              exact Ev.congr (fun k => if_pos (by omega)) (Ev.now _)
            · rw [if_neg c3]
              have wn : wrap64 (((p + 8 : Nat) : Int) + (n : Int)) = ((p + 8 + n : Nat) : Int) := by unfold wrap64; omega
              rw [wn, Int.toNat_natCast]
              clear wn
              have q0 : ¬ ((s.size - p - 8 : Nat) : Int) < (n : Int) := by omega
              have q1 : 0 ≤ ((p + 8 : Nat) : Int) := by omega
              have q2 : ((p + 8 : Nat) : Int) ≤ ((p + 8 + n : Nat) : Int) := by omega
              have q3 : ((p + 8 + n : Nat) : Int) ≤ (s.size : Int) := by omega
              have q4 : 0 ≤ ((p + 4 : Nat) : Int) := by omega
              have q5 : ((p + 4 : Nat) : Int) ≤ ((p + 8 : Nat) : Int) := by omega
              have q6 : ((p + 8 : Nat) : Int) ≤ (s.size : Int) := by omega
              refine Ev.congr (fun k => if_neg q0) ?_
              refine Ev.congr (fun k => if_pos q1) ?_
              refine Ev.congr (fun k => if_pos q2) ?_
              refine Ev.congr (fun k => if_pos q3) ?_
              refine Ev.congr (fun k => if_pos q4) ?_
              refine Ev.congr (fun k => if_pos q5) ?_
              refine Ev.congr (fun k => if_pos q6) ?_
              have x2 : (s.extract (p + 4) (p + 8)).size = 4 := by rw [ByteArray.size_extract]; omega
              have y2 : bytesOf (s.extract (p + 4) (p + 8)) = ((bytesOf s).drop (p + 4)).take 4 := by rw [bytes_extract, List.drop_take]; congr 1; omega
              have hn2 := rnumber_ev _ x2
              rw [y2, num4_take _ 4 (by omega)] at hn2
              have hq := num4_lt ((bytesOf s).drop (p + 4)) (drop_range s _)
              have x3 : (s.extract (p + 8) (p + 8 + n)).size = n := by rw [ByteArray.size_extract]; omega
              have y3 : bytesOf (s.extract (p + 8) (p + 8 + n)) = ((bytesOf s).drop (p + 8)).take n := by rw [bytes_extract, List.drop_take]; congr 1; omega
              have hs3 := rsum_ev (s.extract p (p + 4) ++ s.extract (p + 8) (p + 8 + n)) (by rw [ByteArray.size_append]; omega)
              rw [bytes_append, y1, y3] at hs3
              have q7 : (s.extract p (p + 4)).size + (s.extract (p + 8) (p + 8 + n)).size ≤ 9223372036854775807 := by omega
              refine Ev.bind hn2 ?_
              refine Ev.congr (fun k => if_pos q7) ?_
              refine Ev.bind hs3 ?_
              by_cases c4 : num4 ((bytesOf s).drop (p + 4)) = (sumL (((bytesOf s).drop p).take 4 ++ ((bytesOf s).drop (p + 8)).take n)).toNat
              · rw [if_pos c4, if_pos (by omega), ← y3, str_bytes]
                exact Ev.now _
              · rw [if_neg c4, if_neg (by omega)]
                exact Ev.now _
        refine Ev.step (fun k => ?_) st
        simp only [rialtoref02_Unframe.j0]
        rw [if_neg (by decide), w0, if_neg (by omega), w4, w8, wr, if_pos (by omega), if_pos (by omega), if_pos (by omega), Int.toNat_natCast, Int.toNat_natCast, Int.toNat_natCast]
theorem takeB_ok (l : List Int) (p : Nat) (h : (takeB l p).2.2 = 0) : ∃ q : Nat, (takeB l p).2.1 = (q : Int) ∧ p + 8 ≤ q ∧ q ≤ l.length := by
  unfold takeB at h ⊢
  split at h
  · simp at h
  · split at h
    · simp at h
    · split at h
      · simp at h
      · split at h
        · rename_i c1 c2 c3 c4
          rw [if_neg c1, if_neg c2, if_neg c3, if_pos c4]
          exact ⟨_, rfl, by omega, by omega⟩
        · simp at h
/-- All frames of a text, from a place on. -/
def frs (s : ByteArray) : Nat → List ByteArray → Int → List ByteArray × Int
  | 0, out, a => (out, a)
  | j + 1, out, a => if (takeG s a).2.2 = 0 then frs s j (out ++ [(takeG s a).1]) (takeG s a).2.1 else (out, a)
theorem takeG_ok {s : ByteArray} {p : Nat} (hp : p ≤ s.size) (h : (takeG s (p : Int)).2.2 = 0) : ∃ q : Nat, (takeG s (p : Int)).2.1 = (q : Int) ∧ p + 8 ≤ q ∧ q ≤ s.size := by
  unfold takeG at h ⊢
  rw [if_neg (by omega), Int.toNat_natCast] at h ⊢
  obtain ⟨q, h1, h2, h3⟩ := takeB_ok _ _ h
  exact ⟨q, h1, h2, by rw [bytesOf_length] at h3; exact h3⟩
theorem frames_loop (s : ByteArray) (hs : s.size ≤ 4398046511104) (j : Nat) : ∀ (p : Nat) (out : List ByteArray), p ≤ s.size → s.size - p < j → out.length ≤ p → Ev (fun k => seal_Frames.l0 k s out (p : Int)) (frs s j out (p : Int)) := by
  induction j with
  | zero => intro p out _ h; omega
  | succ j ih =>
    intro p out hp hj ho
    rw [frs]
    by_cases c : (takeG s (p : Int)).2.2 = 0
    · rw [if_pos c]
      obtain ⟨q, h1, h2, h3⟩ := takeG_ok hp c
      rw [h1]
      refine Ev.step (fun k => ?_) (ih q (out ++ [(takeG s (p : Int)).1]) h3 (by omega) (by rw [List.length_append, List.length_singleton]; omega))
      simp only [seal_Frames.l0]
      rw [unframe_eq s _ (by omega)]
      simp only [Option.bind_some]
      rw [if_pos c, if_pos (by omega), h1]
    · rw [if_neg c]
      refine Ev.step (f := fun k => some _) (fun k => ?_) (Ev.now _)
      simp only [seal_Frames.l0]
      rw [unframe_eq s _ (by omega)]
      simp only [Option.bind_some]
      rw [if_neg c]
theorem rframes_loop (s : ByteArray) (hs : s.size ≤ 4398046511104) (j : Nat) : ∀ (p : Nat) (out : List ByteArray), p ≤ s.size → s.size - p < j → out.length ≤ p → Ev (fun k => rialtoref02_Frames.l0 k s out (p : Int)) (frs s j out (p : Int)) := by
  induction j with
  | zero => intro p out _ h; omega
  | succ j ih =>
    intro p out hp hj ho
    have hr := runframe_ev s (p : Int) (by omega)
    rw [frs]
    by_cases c : (takeG s (p : Int)).2.2 = 0
    · rw [if_pos c]
      obtain ⟨q, h1, h2, h3⟩ := takeG_ok hp c
      have hi := ih q (out ++ [(takeG s (p : Int)).1]) h3 (by omega) (by rw [List.length_append, List.length_singleton]; omega)
      rw [← h1] at hi
      refine Ev.step (fun k => ?_) (Ev.bind (f := fun k bt142 => (if bt142.2.2 = 0 then (if out.length < 8796093022208 then (rialtoref02_Frames.l0 k s (out ++ [bt142.1]) bt142.2.1) else (none)) else (some (out, (p : Int))))) hr (Ev.congr (fun k => if_pos c) (Ev.congr (fun k => if_pos (show out.length < 8796093022208 by omega)) hi)))
      simp only [rialtoref02_Frames.l0]
    · rw [if_neg c]
      refine Ev.step (fun k => ?_) (Ev.bind (f := fun k bt142 => (if bt142.2.2 = 0 then (if out.length < 8796093022208 then (rialtoref02_Frames.l0 k s (out ++ [bt142.1]) bt142.2.1) else (none)) else (some (out, (p : Int))))) hr (Ev.congr (fun k => if_neg c) (Ev.now _)))
      simp only [rialtoref02_Frames.l0]
def framesF (s : ByteArray) : List ByteArray × Int := frs s (s.size + 1) [] 0
theorem frames_ev (s : ByteArray) (hs : s.size ≤ 4398046511104) : Ev (fun k => seal_Frames.f k s) (framesF s) := frames_loop s hs (s.size + 1) 0 [] (by omega) (by omega) (by simp)
theorem rframes_ev (s : ByteArray) (hs : s.size ≤ 4398046511104) : Ev (fun k => rialtoref02_Frames.f k s) (framesF s) := rframes_loop s hs (s.size + 1) 0 [] (by omega) (by omega) (by simp)
theorem frs_len (s : ByteArray) (j : Nat) : ∀ (p : Nat) (out : List ByteArray), p ≤ s.size → out.length ≤ p → (frs s j out (p : Int)).1.length ≤ s.size := by
  induction j with
  | zero => intro p out h1 h2; simp only [frs]; omega
  | succ j ih =>
    intro p out hp ho
    rw [frs]
    by_cases c : (takeG s (p : Int)).2.2 = 0
    · rw [if_pos c]
      obtain ⟨q, h1, h2, h3⟩ := takeG_ok hp c
      rw [h1]
      exact ih q _ h3 (by rw [List.length_append, List.length_singleton]; omega)
    · rw [if_neg c]; show out.length ≤ s.size; omega
theorem framesF_len (s : ByteArray) : (framesF s).1.length ≤ s.size := frs_len s _ 0 [] (by omega) (by simp)
theorem same_loop2 (l : List ByteArray) (hl : l.length ≤ 4611686018427387904) (j : Nat) : ∀ i : Nat, i + j = l.length → Ev (fun k => rialtolaw02_same.l0 k l l (i : Int)) true := by
  induction j with
  | zero =>
    intro i hi
    refine Ev.step (f := fun _ => some true) (fun k => ?_) (Ev.now _)
    simp only [rialtolaw02_same.l0]
    rw [if_neg (by omega)]
  | succ j ih =>
    intro i hi
    refine Ev.step (f := fun k => rialtolaw02_same.l0 k l l ((i + 1 : Nat) : Int)) (fun k => ?_) (ih (i + 1) (by omega))
    simp only [rialtolaw02_same.l0]
    have hw : wrap64 ((i : Int) + 1) = ((i + 1 : Nat) : Int) := by unfold wrap64; omega
    rw [if_pos (by omega), if_pos (by omega), if_pos (by omega), if_pos trivial, hw]
theorem same_ev2 (l : List ByteArray) (hl : l.length ≤ 4611686018427387904) : Ev (fun k => rialtolaw02_same.f k l l) true := by
  unfold rialtolaw02_same.f
  exact Ev.congr (fun k => if_pos rfl) (same_loop2 l hl l.length 0 (by omega))
theorem reads_l1 (s : ByteArray) (u : ByteArray) (x6 x7 : Int) (l : List ByteArray) (x12 : Int) (r : Nat) (hl0 : Ev (fun k => rialtolaw02_SealReads.l0 k s u x6 x7 u x6 x7 l x12 ((r + 1 : Nat) : Int)) true) (hr : r ≤ 5) (j : Nat) :
    ∀ (i : Nat) (m : List ByteArray), m.length ≤ 4398046511104 → i + j = m.length → Ev (fun k => rialtolaw02_SealReads.l1 k s u x6 x7 u x6 x7 l x12 (r : Int) m (i : Int)) true := by
  induction j with
  | zero =>
    intro i m hm hi
    refine Ev.step (fun k => ?_) hl0
    simp only [rialtolaw02_SealReads.l1]
    have : wrap64 ((r : Int) + 1) = ((r + 1 : Nat) : Int) := by unfold wrap64; omega
    rw [if_neg (by omega), this]
  | succ j ih =>
    intro i m hm hi
    refine Ev.step (fun k => ?_) (ih (i + 1) (m.set i (⟨#[119, 114, 105, 116, 116, 101, 110]⟩ : ByteArray)) (by rw [List.length_set]; exact hm) (by rw [List.length_set]; omega))
    simp only [rialtolaw02_SealReads.l1]
    have : wrap64 ((i : Int) + 1) = ((i + 1 : Nat) : Int) := by unfold wrap64; omega
    rw [if_pos (by omega), if_pos (by omega), this, Int.toNat_natCast]
theorem reads_l0 (s : ByteArray) (u : ByteArray) (x6 x7 : Int) (hs : s.size ≤ 4398046511104) (r : Nat) (hr : r < 2) (h : Ev (fun k => rialtolaw02_SealReads.l0 k s u x6 x7 u x6 x7 (framesF s).1 (framesF s).2 ((r + 1 : Nat) : Int)) true) :
    Ev (fun k => rialtolaw02_SealReads.l0 k s u x6 x7 u x6 x7 (framesF s).1 (framesF s).2 (r : Int)) true := by
  have hlen := framesF_len s
  have h1 := frames_ev s hs
  generalize framesF s = t at *
  refine Ev.step (f := fun k => (seal_Frames.f k s).bind fun b => (rialtolaw02_same.f k b.1 t.1).bind fun c => if c = true then rialtolaw02_SealReads.j1 k s u x6 x7 u x6 x7 t.1 t.2 (r : Int) b.1 (b.2 != t.2) else rialtolaw02_SealReads.j1 k s u x6 x7 u x6 x7 t.1 t.2 (r : Int) b.1 true) (fun k => ?_) (Ev.bind h1 (Ev.bind (same_ev2 t.1 (by omega)) ?_))
  · simp only [rialtolaw02_SealReads.l0]
    rw [if_pos (by omega)]
  · refine Ev.congr (f := fun k => rialtolaw02_SealReads.j1 k s u x6 x7 u x6 x7 t.1 t.2 (r : Int) t.1 false) (fun k => by simp) ?_
    refine Ev.step (fun k => ?_) (reads_l1 s u x6 x7 t.1 t.2 r h (by omega) t.1.length 0 t.1 (by omega) (by omega))
    simp only [rialtolaw02_SealReads.j1]
    rw [if_neg (by simp)]
    rfl
theorem reads (s : ByteArray) (a : Int) (hs : s.size ≤ 4398046511104) : Ev (fun k => rialtolaw02_SealReads.f k s a) true := by
  unfold rialtolaw02_SealReads.f
  rw [unframe_eq s a (by omega)]
  refine Ev.bind (Ev.now _) (Ev.bind (runframe_ev s a (by omega)) (Ev.bind (rframes_ev s hs) ?_))
  refine reads_l0 s _ _ _ hs 0 (by omega) (reads_l0 s _ _ _ hs 1 (by omega) ?_)
  refine Ev.step (f := fun _ => some true) (fun k => ?_) (Ev.now _)
  simp only [rialtolaw02_SealReads.l0]
  rw [if_neg (by omega), live02]
  simp
end Go.Proofs.Ytaddblicjlohcaa.SealSpec
