/- SealTurned in plain words. Conditions: texts are shorter than 2^62 bytes. -/
import Derived.Test.YtaddblicjlohcaaD5
namespace Go.Proofs.Ytaddblicjlohcaa.SealSpec
open Go.RowKit Go.Proofs.Ytaddblicjlohcaa.Sl Go.Proofs.Ytaddblicjlohcaa.TextSpec Go.Proofs.YtaddblicjlohcaaW.PrintWords Go.Proofs.YtaddblicjlohcaaW.PrintLast Go.Proofs.YtaddblicjlohcaaW.PrintMore
open Crc (stp stps byte1 bytesL sumL wide)

/-- What is read of a text's bytes at a place: in plain words. -/
def takeB (l : List Int) (p : Nat) : ByteArray × Int × Int :=
  if l.length < p + 8 then (⟨#[]⟩, 0, 20) else if num4 (l.drop p) > 70000 then (⟨#[]⟩, 0, 22) else if l.length < p + 8 + num4 (l.drop p) then (⟨#[]⟩, 0, 20) else
    if num4 (l.drop (p + 4)) = (sumL ((l.drop p).take 4 ++ (l.drop (p + 8)).take (num4 (l.drop p)))).toNat then (strOfNums ((l.drop (p + 8)).take (num4 (l.drop p))), ((p + 8 + num4 (l.drop p) : Nat) : Int), 0) else (⟨#[]⟩, 0, 21)
theorem num4_take (l : List Int) (n : Nat) (h : 4 ≤ n) : num4 (l.take n) = num4 l := by
  unfold num4
  simp only [List.getD_eq_getElem?_getD, List.getElem?_take, show (0 < n) from by omega, show (1 < n) from by omega, show (2 < n) from by omega, show (3 < n) from by omega, if_true]
theorem takeAt_eq (s : ByteArray) (p : Nat) : takeAt s p = some (takeB (bytesOf s) p) := by
  unfold takeAt takeB
  rw [bytesOf_length]
  by_cases c1 : s.size < p + 8
  · rw [if_pos (by omega), if_pos c1]
  · rw [if_neg (by omega), if_neg c1]
    have hh : (headOf s p).size = 8 := by unfold headOf; rw [ByteArray.size_extract]; omega
    have hb : bytesOf (headOf s p) = ((bytesOf s).drop p).take 8 := by
      unfold headOf; rw [bytes_extract, List.drop_take]; congr 1; omega
    have hr : bytesOf (restOf s p) = (bytesOf s).drop (p + 8) := by
      unfold restOf; rw [bytes_extract, List.take_of_length_le (by rw [bytesOf_length]; omega)]
    rw [number_of _ (by omega), hb, num4_take _ 8 (by omega)]
    simp only [Option.bind_some]
    generalize hn : num4 ((bytesOf s).drop p) = n
    by_cases c2 : n > 70000
    · rw [if_pos (by omega), if_pos c2]
    · rw [if_neg (by omega), if_neg c2]
      by_cases c3 : s.size < p + 8 + n
      · rw [if_pos (by omega), if_pos c3]
      · rw [if_neg (by omega), if_neg c3]
        have h4 : ((headOf s p).extract 4 (headOf s p).size).size = 4 := by rw [ByteArray.size_extract]; omega
        have hb4 : bytesOf ((headOf s p).extract 4 (headOf s p).size) = ((bytesOf s).drop (p + 4)).take 4 := by
          rw [bytes_extract, hb, hh, List.take_take, List.drop_take, List.drop_drop]
          rfl
        rw [number_of _ (by omega), hb4, num4_take _ 4 (by omega)]
        simp only [Option.bind_some, Int.toNat_natCast]
        have hs : sum2 ((headOf s p).extract 0 4) ((restOf s p).extract 0 n) = ((sumL (((bytesOf s).drop p).take 4 ++ ((bytesOf s).drop (p + 8)).take n)).toNat : Int) := by
          unfold sum2
          simp only [Seal.cat, List.append_nil]
          rw [bytes_extract, bytes_extract, hb, hr, List.take_take, List.drop_zero, List.drop_zero]
          rfl
        rw [hs]
        by_cases c4 : num4 ((bytesOf s).drop (p + 4)) = (sumL (((bytesOf s).drop p).take 4 ++ ((bytesOf s).drop (p + 8)).take n)).toNat
        · rw [if_pos (by omega), if_pos c4, extract_str, hr, List.drop_zero]
          simp only [Option.some.injEq, Prod.mk.injEq, true_and]
          push_cast
          exact ⟨rfl, trivial⟩
        · rw [if_neg (by omega), if_neg c4]
theorem takeF_eq (s : ByteArray) (a : Int) : takeF s a = some (if a < 0 ∨ a > s.size then (⟨#[]⟩, 0, 1) else takeB (bytesOf s) a.toNat) := by
  unfold takeF
  by_cases h : a < 0
  · rw [if_pos h, if_pos (.inl h)]
  · rw [if_neg h]
    by_cases h2 : a > s.size
    · rw [if_pos h2, if_pos (.inr h2)]
    · rw [if_neg h2, if_neg (by omega), takeAt_eq]
theorem unframe_list (l : List Int) (hl : ∀ x ∈ l, 0 ≤ x ∧ x < 256) (hz : l.length ≤ 4611686018427387904) (p : Nat) (hp : p ≤ l.length) : seal_Unframe.f (strOfNums l) (p : Int) = some (takeB l p) := by
  unfold seal_Unframe.f
  have hsz := strOfNums_size l
  rw [if_pos (by omega), takeF_eq, if_neg (by omega), bytes_str l hl, Int.toNat_natCast]
theorem big4_len (n : Nat) : (big4 n).length = 4 := rfl
theorem sumL_toNat_lt (l : List Int) : (sumL l).toNat < 4294967296 := (sumL l).isLt
theorem sumL_ne {a b c d : List Int} (h : bytesL (BitVec.allOnes 32) (a ++ b) ≠ bytesL (BitVec.allOnes 32) (c ++ d)) : (sumL (a ++ b)).toNat ≠ (sumL (c ++ d)).toNat := by
  intro he
  apply h
  have := BitVec.eq_of_toNat_eq he
  unfold sumL at this
  have := congrArg (fun x => ~~~ x) this
  simpa using this
/-- A head of four, a sum of four, a text: what is read. -/
theorem takeB_three (n : Nat) (q t : List Int) (hq : q.length = 4) (ht : t.length = n) (hn : n ≤ 70000) (r : List Int) :
    takeB (big4 n ++ q ++ t ++ r) 0 = if num4 q = (sumL (big4 n ++ t)).toNat then (strOfNums t, ((8 + n : Nat) : Int), 0) else (⟨#[]⟩, 0, 21) := by
  have e0 : num4 ((big4 n ++ q ++ t ++ r).drop 0) = n := by rw [List.drop_zero, List.append_assoc, List.append_assoc]; exact num4_big n (by omega) _
  have e4 : (big4 n ++ q ++ t ++ r).drop (0 + 4) = q ++ (t ++ r) := by
    rw [List.append_assoc, List.append_assoc]; exact List.drop_left' (by rw [big4_len])
  have e8 : (big4 n ++ q ++ t ++ r).drop (0 + 8) = t ++ r := by
    rw [List.append_assoc (big4 n ++ q)]; exact List.drop_left' (by rw [List.length_append, big4_len]; omega)
  have e5 : num4 (q ++ (t ++ r)) = num4 q := by
    have := num4_take (q ++ (t ++ r)) 4 (by omega)
    rw [← this, List.take_left' hq]
  have e6 : ((big4 n ++ q ++ t ++ r).drop 0).take 4 = big4 n := by rw [List.drop_zero, List.append_assoc, List.append_assoc]; exact List.take_left' rfl
  unfold takeB
  rw [e0, e4, e8, e5, e6, List.take_left' ht]
  have hl : (big4 n ++ q ++ t ++ r).length = 8 + n + r.length := by simp only [List.length_append, big4_len]; omega
  rw [hl, if_neg (by omega), if_neg (by omega), if_neg (by omega)]
  try simp only [Nat.zero_add]
theorem pick_ok (a : Int) (m : Int) (h0 : -9223372036854775808 ≤ a) (h1 : a < 9223372036854775808) (hm : 0 < m) : ∃ b : Nat, rialtolaw02_pick.f a m = some (b : Int) ∧ (b : Int) < m := by
  unfold rialtolaw02_pick.f
  by_cases h : a < 0
  · rw [if_pos h, if_neg (by omega)]
    have hw : wrap64 (-(wrap64 (a + 1))) = -(a + 1) := by unfold wrap64; omega
    rw [hw, Int.tmod_eq_emod_of_nonneg (by omega)]
    have h2 := Int.emod_nonneg (-(a + 1)) (show m ≠ 0 by omega)
    have h3 := Int.emod_lt_of_pos (-(a + 1)) hm
    exact ⟨((-(a + 1)) % m).toNat, by congr 1; omega, by omega⟩
  · rw [if_neg h, if_neg (by omega), Int.tmod_eq_emod_of_nonneg (by omega)]
    have h2 := Int.emod_nonneg a (show m ≠ 0 by omega)
    have h3 := Int.emod_lt_of_pos a hm
    exact ⟨(a % m).toNat, by congr 1; omega, by omega⟩
/-- What is turned in a text. -/
theorem turned_of (s : ByteArray) (a1 a2 : Int) (hs : s.size ≤ 1000000) (h0 : -9223372036854775808 ≤ a1) (h1 : a1 < 9223372036854775808) (h2 : 0 ≤ a2) (h3 : a2 < 4294967296) :
    ∃ (l : List Int) (any : Bool), rialtolaw02_turned.f s a1 a2 = some (strOfNums l, any) ∧ l.length = s.size ∧ (∀ x ∈ l, 0 ≤ x ∧ x < 256) ∧ (any = true → ∀ r, bytesL r l ≠ bytesL r (bytesOf s)) := by
  unfold rialtolaw02_turned.f
  by_cases c : s.size = 0
  · rw [if_pos c]
    exact ⟨bytesOf s, false, by rw [str_bytes], bytesOf_length s, bytes_range s, fun h => by cases h⟩
  · rw [if_neg c, if_pos ⟨hs, h2, h3⟩]
    obtain ⟨b, hb, hlt⟩ := pick_ok a1 (8 * (s.size : Int)) h0 h1 (by omega)
    rw [hb]
    simp only [Option.bind_some]
    rw [if_pos ⟨by omega, hlt⟩, Int.toNat_natCast]
    exact ⟨_, _, rfl, by rw [turn_len, bytesOf_length], turn_range 32 _ _ _ _ (bytes_range s), fun h r => turn_other r _ _ _ (bytes_range s) h⟩
theorem head_range (l : List Int) : ∀ x ∈ headL l, 0 ≤ x ∧ x < 256 := by
  intro x hx
  rcases List.mem_append.1 hx with h | h
  · exact big4_range _ x h
  · exact big4_range _ x h
theorem app_range {a b : List Int} (ha : ∀ x ∈ a, 0 ≤ x ∧ x < 256) (hb : ∀ x ∈ b, 0 ≤ x ∧ x < 256) : ∀ x ∈ a ++ b, 0 ≤ x ∧ x < 256 := by
  intro x hx
  rcases List.mem_append.1 hx with h | h
  · exact ha x h
  · exact hb x h
theorem head_len (l : List Int) : (headL l).length = 8 := rfl
theorem turned_j0 (s : ByteArray) (a1 a2 : Int) (hs : s.size ≤ 70000) (h0 : -9223372036854775808 ≤ a1) (h1 : a1 < 9223372036854775808) (h2 : 0 ≤ a2) (h3 : a2 < 4294967296) :
    Ev (fun k => rialtolaw02_SealTurned.j0 k s a1 a2 (strOfNums (frameL (bytesOf s)))) true := by
  have hfz : (strOfNums (frameL (bytesOf s))).size = 8 + s.size := by rw [strOfNums_size, frameL, List.length_append, head_len, bytesOf_length]
  have hfr : ∀ x ∈ frameL (bytesOf s), 0 ≤ x ∧ x < 256 := app_range (head_range _) (bytes_range s)
  have x48 : (strOfNums (frameL (bytesOf s))).extract 4 8 = strOfNums (big4 (sumL (big4 s.size ++ bytesOf s)).toNat) := by
    rw [extract_str, bytes_str _ hfr, frameL, List.take_left' (head_len _), headL, List.drop_left' (big4_len _), bytesOf_length]
  have x04 : (strOfNums (frameL (bytesOf s))).extract 0 4 = strOfNums (big4 s.size) := by
    rw [extract_str, bytes_str _ hfr, frameL, headL, List.append_assoc, List.take_left' (big4_len _), List.drop_zero, bytesOf_length]
  generalize hQ : (sumL (big4 s.size ++ bytesOf s)).toNat = Q at *
  obtain ⟨l, any, ht, hl, hlr, hany⟩ := turned_of (strOfNums (big4 Q)) a1 a2 (by rw [strOfNums_size, big4_len]; omega) h0 h1 h2 h3
  rw [strOfNums_size, big4_len] at hl
  rw [bytes_str _ (big4_range _)] at hany
  refine Ev.step (f := fun k => some true) (fun k => ?_) (Ev.now _)
  simp only [rialtolaw02_SealTurned.j0]
  rw [if_pos (by omega), if_pos (by omega), x48, ht, live02]
  simp only [Option.bind_some]
  by_cases ca : any = true
  · rw [if_pos ca, if_pos (by omega), if_pos (by omega), x04]
    have z1 : (strOfNums (big4 s.size)).size = 4 := by rw [strOfNums_size]; rfl
    have z2 : (strOfNums l).size = 4 := by rw [strOfNums_size, hl]
    rw [if_pos (by omega), if_pos (by rw [ByteArray.size_append]; omega)]
    have hx : strOfNums (big4 s.size) ++ strOfNums l ++ s = strOfNums (big4 s.size ++ l ++ bytesOf s ++ []) := by
      rw [← str_append, strOfNums_bytes, List.append_nil]
    have hu := unframe_list (big4 s.size ++ l ++ bytesOf s ++ []) (by rw [List.append_nil]; exact app_range (app_range (big4_range _) hlr) (bytes_range s)) (by simp only [List.length_append, big4_len, bytesOf_length, List.length_nil]; omega) 0 (by omega)
    rw [hx]
    have h00 : ((0 : Nat) : Int) = 0 := rfl
    rw [h00] at hu
    rw [hu, takeB_three s.size l (bytesOf s) hl (bytesOf_length s) hs [], hQ, if_neg]
    · simp
    · intro he
      have := big_num4 l hl hlr
      rw [he] at this
      exact hany ca 0 (by rw [this])
  · rw [if_neg ca]
theorem turned (s : ByteArray) (a1 a2 : Int) (h0 : -9223372036854775808 ≤ a1) (h1 : a1 < 9223372036854775808) (h2 : 0 ≤ a2) (h3 : a2 < 4294967296) :
    Ev (fun k => rialtolaw02_SealTurned.f k s a1 a2) true := by
  unfold rialtolaw02_SealTurned.f
  rw [frame_eq, live02]
  refine Ev.bind (Ev.now _) ?_
  unfold frameF
  by_cases c : (s.size : Int) > 70000
  · rw [if_pos c]
    refine Ev.congr (fun k => if_neg (by decide)) ?_
    refine Ev.bind (Ev.now _) (Ev.congr (fun k => if_pos rfl) ?_)
    rw [decide_eq_true c]
    exact Ev.now _
  · rw [if_neg c]
    have hj := turned_j0 s a1 a2 (by omega) h0 h1 h2 h3
    have hfz : (strOfNums (frameL (bytesOf s))).size = 8 + s.size := by rw [strOfNums_size, frameL, List.length_append, head_len, bytesOf_length]
    have hfr : ∀ x ∈ frameL (bytesOf s), 0 ≤ x ∧ x < 256 := app_range (head_range _) (bytes_range s)
    have x08 : (strOfNums (frameL (bytesOf s))).extract 0 8 = strOfNums (headL (bytesOf s)) := by
      rw [extract_str, bytes_str _ hfr, frameL, List.take_left' (head_len _), List.drop_zero]
    refine Ev.congr (fun k => if_pos rfl) (Ev.congr (fun k => if_neg (by show ¬ ((strOfNums (frameL (bytesOf s))).size : Int) < 8; omega)) ?_)
    obtain ⟨l, any, ht, hl, hlr, hany⟩ := turned_of s a1 a2 (by omega) h0 h1 h2 h3
    rw [ht]
    refine Ev.bind (Ev.now _) ?_
    by_cases ca : any = true
    · have z1 : (strOfNums (headL (bytesOf s))).size = 8 := by rw [strOfNums_size]; rfl
      have z2 : (strOfNums l).size = s.size := by rw [strOfNums_size, hl]
      refine Ev.congr (fun k => if_pos ca) (Ev.congr (fun k => if_pos (by omega)) (Ev.congr (fun k => if_pos (by show 8 ≤ ((strOfNums (frameL (bytesOf s))).size : Int); omega)) ?_))
      show Ev (fun k => if ((strOfNums (frameL (bytesOf s))).extract 0 8).size + (strOfNums l).size ≤ 9223372036854775807 then _ else none) true
      rw [x08]
      refine Ev.congr (fun k => if_pos (by omega)) ?_
      have hu := unframe_list (big4 s.size ++ big4 (sumL (big4 s.size ++ bytesOf s)).toNat ++ l ++ []) (by rw [List.append_nil]; exact app_range (app_range (big4_range _) (big4_range _)) hlr) (by simp only [List.length_append, big4_len, hl, List.length_nil]; omega) 0 (by omega)
      have h00 : ((0 : Nat) : Int) = 0 := rfl
      rw [h00] at hu
      have hx : strOfNums (headL (bytesOf s)) ++ strOfNums l = strOfNums (big4 s.size ++ big4 (sumL (big4 s.size ++ bytesOf s)).toNat ++ l ++ []) := by
        rw [← str_append, List.append_nil, headL, bytesOf_length]
      rw [hx, hu, takeB_three s.size _ l (big4_len _) hl (by omega) []]
      have hne : (sumL (big4 s.size ++ bytesOf s)).toNat ≠ (sumL (big4 s.size ++ l)).toNat := by
        apply sumL_ne
        rw [Crc.bytesL_append, Crc.bytesL_append]
        exact fun h => hany ca _ h.symm
      have hq := num4_big (sumL (big4 s.size ++ bytesOf s)).toNat (sumL_toNat_lt _) []
      rw [List.append_nil] at hq
      rw [hq, if_neg hne]
      exact Ev.bind (Ev.now _) (Ev.congr (fun k => if_pos rfl) hj)
    · exact Ev.congr (fun k => if_neg ca) hj
end Go.Proofs.Ytaddblicjlohcaa.SealSpec
