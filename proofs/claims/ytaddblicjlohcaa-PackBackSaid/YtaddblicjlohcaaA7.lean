/- What the printed readers and writers of lists come to, of pack and of its reference alike. Conditions: texts are shorter than 2^47, places lie in int. -/
import Derived.Test.YtaddblicjlohcaaA6
namespace Go.Proofs.Ytaddblicjlohcaa.PackSpec
open Go.RowKit Go.Proofs.Ytaddblicjlohcaa.Pk Go.Proofs.YtaddblicjlohcaaW.PrintWords Go.Proofs.YtaddblicjlohcaaW.PrintLast Go.Proofs.YtaddblicjlohcaaW.PrintMore

def outI (a : Int) : ResI → List ByteArray × Int × Int
  | .ok ts c => (ts.map strOfNums, a + c, 0)
  | .err e => ([], 0, e)
def takeL (s : ByteArray) (a : Int) : List ByteArray × Int × Int := if a < 0 ∨ a > s.size then ([], 0, 1) else outI a (tkL (from_ s a))

/-- Reading j texts from a place on, behind some. -/
def outJ (acc : List ByteArray) (p : Int) : ResI → List ByteArray × Int × Int
  | .ok ts c => (acc ++ ts.map strOfNums, p + c, 0)
  | .err e => ([], 0, e)
theorem from_drop (s : ByteArray) (p : Int) (c : Nat) (h : 0 ≤ p) : from_ s (p + c) = (from_ s p).drop c := by
  unfold from_
  rw [List.drop_drop]
  congr 1
  omega
theorem takeT_from (s : ByteArray) (p : Int) (h0 : 0 ≤ p) (h1 : p ≤ s.size) : takeT s p = outT p (tkT (from_ s p)) := by
  unfold takeT; rw [if_neg (by omega)]

theorem items_ev (s : ByteArray) (hs : s.size ≤ 4611686018427387904) (n : Nat) (hn : n ≤ 4000) (j : Nat) : ∀ (i : Nat) (p : Int) (acc : List ByteArray), i + j = n → acc.length = i → 0 ≤ p → p ≤ s.size →
    Ev (fun k => pack_TakeList.l0 k s (n : Int) p acc (i : Int)) (outJ acc p (tkI j (from_ s p))) := by
  induction j with
  | zero =>
    intro i p acc hi ha h0 h1
    simp only [tkI, outJ, List.map_nil, List.append_nil]
    refine Ev.step (f := fun _ => some (acc, p + ((0 : Nat) : Int), 0)) (fun k => ?_) (Ev.now _)
    simp only [pack_TakeList.l0]
    rw [if_neg (by omega)]
    simp
  | succ j ih =>
    intro i p acc hi ha h0 h1
    have ht := takeT_ev s p hs
    rw [takeT_from s p h0 h1] at ht
    have hl0 : ∀ k, pack_TakeList.l0 (k + 1) s (n : Int) p acc (i : Int) = (pack_TakeText.f k s p).bind fun r => (if r.2.2 = 0 then pack_TakeList.l0 k s (n : Int) r.2.1 (acc ++ [r.1]) ((i + 1 : Nat) : Int) else some ([], 0, r.2.2)) := by
      intro k
      simp only [pack_TakeList.l0]
      have hw : wrap64 ((i : Int) + 1) = ((i + 1 : Nat) : Int) := by unfold wrap64; omega
      rw [if_pos (by omega), hw]
      congr 1
      funext r
      rw [if_pos (by omega)]
    cases h : tkT (from_ s p) with
    | err e =>
      rw [h] at ht
      have ht' : Ev (fun k => pack_TakeText.f k s p) (⟨#[]⟩, 0, e) := ht
      have he : e ≠ 0 := by rcases tkT_err h with rfl | rfl <;> decide
      have e3 : tkI (j + 1) (from_ s p) = .err e := by simp only [tkI, h]
      rw [e3]
      exact Ev.step hl0 (Ev.bind ht' (Ev.congr (fun k => if_neg he) (Ev.now _)))
    | ok t c =>
      rw [h] at ht
      have ht' : Ev (fun k => pack_TakeText.f k s p) (strOfNums t, p + c, 0) := ht
      obtain ⟨-, -, hc0, hc, -⟩ := tkT_ok (from_range s p) h
      rw [from_len] at hc
      have := ih (i + 1) (p + c) (acc ++ [strOfNums t]) (by omega) (by simp [ha]) (by omega) (by omega)
      rw [from_drop s p c h0] at this
      refine Ev.step hl0 (Ev.bind ht' (Ev.congr (fun k => if_pos rfl) ?_))
      cases h2 : tkI j ((from_ s p).drop c) with
      | err e =>
        have e3 : tkI (j + 1) (from_ s p) = .err e := by simp only [tkI, h, h2]
        rw [e3]
        rw [h2] at this
        exact this
      | ok ts d =>
        have e3 : tkI (j + 1) (from_ s p) = .ok (t :: ts) (c + d) := by simp only [tkI, h, h2]
        rw [e3]
        rw [h2] at this
        simp only [outJ] at this ⊢
        have e1 : acc ++ [strOfNums t] ++ ts.map strOfNums = acc ++ (t :: ts).map strOfNums := by simp
        have e2 : p + (c : Int) + (d : Int) = p + ((c + d : Nat) : Int) := by push_cast; omega
        rw [e1, e2] at this
        exact this
theorem ritems_ev (s : ByteArray) (hs : s.size ≤ 4611686018427387904) (n : Nat) (hn : n ≤ 4000) (j : Nat) : ∀ (i : Nat) (p : Int) (acc : List ByteArray), i + j = n → acc.length = i → 0 ≤ p → p ≤ s.size →
    Ev (fun k => rialtoref01_TakeList.l0 k s (n : Int) p acc (i : Int)) (outJ acc p (tkI j (from_ s p))) := by
  have hwn : wrap64 (n : Int) = n := by unfold wrap64; omega
  induction j with
  | zero =>
    intro i p acc hi ha h0 h1
    simp only [tkI, outJ, List.map_nil, List.append_nil]
    refine Ev.step (f := fun _ => some (acc, p + ((0 : Nat) : Int), 0)) (fun k => ?_) (Ev.now _)
    simp only [rialtoref01_TakeList.l0]
    rw [hwn, if_neg (by omega)]
    simp
  | succ j ih =>
    intro i p acc hi ha h0 h1
    have ht := rtakeT_ev s p hs
    rw [takeT_from s p h0 h1] at ht
    have hl0 : ∀ k, rialtoref01_TakeList.l0 (k + 1) s (n : Int) p acc (i : Int) = (rialtoref01_TakeText.f k s p).bind fun r => (if r.2.2 = 0 then rialtoref01_TakeList.l0 k s (n : Int) r.2.1 (acc ++ [r.1]) ((i + 1 : Nat) : Int) else some ([], 0, r.2.2)) := by
      intro k
      simp only [rialtoref01_TakeList.l0]
      have hw : wrap64 ((i : Int) + 1) = ((i + 1 : Nat) : Int) := by unfold wrap64; omega
      rw [hwn, if_pos (by omega), hw]
      congr 1
      funext r
      rw [if_pos (show acc.length < 8796093022208 by omega)]
    cases h : tkT (from_ s p) with
    | err e =>
      rw [h] at ht
      have ht' : Ev (fun k => rialtoref01_TakeText.f k s p) (⟨#[]⟩, 0, e) := ht
      have he : e ≠ 0 := by rcases tkT_err h with rfl | rfl <;> decide
      have e3 : tkI (j + 1) (from_ s p) = .err e := by simp only [tkI, h]
      rw [e3]
      exact Ev.step hl0 (Ev.bind ht' (Ev.congr (fun k => if_neg he) (Ev.now _)))
    | ok t c =>
      rw [h] at ht
      have ht' : Ev (fun k => rialtoref01_TakeText.f k s p) (strOfNums t, p + c, 0) := ht
      obtain ⟨-, -, hc0, hc, -⟩ := tkT_ok (from_range s p) h
      rw [from_len] at hc
      have := ih (i + 1) (p + c) (acc ++ [strOfNums t]) (by omega) (by simp [ha]) (by omega) (by omega)
      rw [from_drop s p c h0] at this
      refine Ev.step hl0 (Ev.bind ht' (Ev.congr (fun k => if_pos rfl) ?_))
      cases h2 : tkI j ((from_ s p).drop c) with
      | err e =>
        have e3 : tkI (j + 1) (from_ s p) = .err e := by simp only [tkI, h, h2]
        rw [e3]
        rw [h2] at this
        exact this
      | ok ts d =>
        have e3 : tkI (j + 1) (from_ s p) = .ok (t :: ts) (c + d) := by simp only [tkI, h, h2]
        rw [e3]
        rw [h2] at this
        simp only [outJ] at this ⊢
        have e1 : acc ++ [strOfNums t] ++ ts.map strOfNums = acc ++ (t :: ts).map strOfNums := by simp
        have e2 : p + (c : Int) + (d : Int) = p + ((c + d : Nat) : Int) := by push_cast; omega
        rw [e1, e2] at this
        exact this

theorem takeL_err1 {s : ByteArray} {a : Int} {e : Int} (hh : e = 1 ∧ (a < 0 ∨ a > s.size) ∨ 0 ≤ a ∧ a ≤ s.size ∧ tk 0 (from_ s a) = .err e) : takeL s a = ([], 0, e) := by
  unfold takeL
  rcases hh with ⟨rfl, h2⟩ | ⟨h1, h2, h3⟩
  · rw [if_pos h2]
  · rw [if_neg (by omega)]; unfold tkL; rw [h3]; rfl
theorem takeL_long {s : ByteArray} {a : Int} {n c : Nat} (h1 : 0 ≤ a) (h2 : a ≤ s.size) (h : tk 0 (from_ s a) = .ok n c) (hn : n > 4000) : takeL s a = ([], 0, 11) := by
  unfold takeL
  rw [if_neg (by omega)]; unfold tkL; rw [h]; simp only; rw [if_pos hn]; rfl
theorem takeL_mid {s : ByteArray} {a : Int} {n c : Nat} (h1 : 0 ≤ a) (h2 : a ≤ s.size) (h : tk 0 (from_ s a) = .ok n c) (hn : ¬ n > 4000) : takeL s a = outJ [] (a + c) (tkI n (from_ s (a + c))) := by
  unfold takeL
  rw [if_neg (by omega), from_drop s a c h1]; unfold tkL; rw [h]; simp only; rw [if_neg hn]
  cases tkI n ((from_ s a).drop c) with
  | err e => rfl
  | ok ts d =>
    simp only [outI, outJ, List.nil_append]
    congr 2
    push_cast; omega
theorem takeL_ev (s : ByteArray) (a : Int) (hs : s.size ≤ 4611686018427387904) : Ev (fun k => pack_TakeList.f k s a) (takeL s a) := by
  refine Ev.bind (counted_ev s a 4000 (by omega) hs) ?_
  rcases takeU_cases s a with ⟨e, he, h0, hh⟩ | ⟨n, c, g0, g1, h1, he, hn, hc0, hc⟩
  · rw [takeC_err he h0, takeL_err1 hh]
    exact Ev.congr (fun k => if_neg h0) (Ev.now _)
  · by_cases c1 : (n : Int) > 4000
    · rw [takeC_big he c1, takeL_long g0 g1 h1 (by omega)]
      exact Ev.congr (fun k => if_neg (by decide)) (Ev.now _)
    · rw [takeC_ok he c1, takeL_mid g0 g1 h1 (by omega)]
      exact Ev.congr (fun k => if_pos rfl) (items_ev s hs n (by omega) n 0 (a + c) [] (by omega) rfl (by omega) hc)
theorem rtakeL_ev (s : ByteArray) (a : Int) (hs : s.size ≤ 4611686018427387904) : Ev (fun k => rialtoref01_TakeList.f k s a) (takeL s a) := by
  refine Ev.bind (rtakeU_ev s a hs) ?_
  rcases takeU_cases s a with ⟨e, he, h0, hh⟩ | ⟨n, c, g0, g1, h1, he, hn, hc0, hc⟩
  · rw [he, takeL_err1 hh]
    exact Ev.congr (fun k => if_neg h0) (Ev.now _)
  · rw [he]
    by_cases c1 : (n : Int) > 4000
    · rw [takeL_long g0 g1 h1 (by omega)]
      exact Ev.congr (fun k => (if_pos rfl).trans (if_pos c1)) (Ev.now _)
    · rw [takeL_mid g0 g1 h1 (by omega)]
      exact Ev.congr (fun k => (if_pos rfl).trans (if_neg c1)) (ritems_ev s hs n (by omega) n 0 (a + c) [] (by omega) rfl (by omega) hc)

/-! ### the comparison of two lists -/
theorem same_loop (l : List ByteArray) (hl : l.length ≤ 9223372036854775807) (j : Nat) : ∀ i : Nat, i + j = l.length → Ev (fun k => rialtolaw01_same.l0 k l l (i : Int)) true := by
  induction j with
  | zero =>
    intro i hi
    refine Ev.step (f := fun _ => some true) (fun k => ?_) (Ev.now _)
    simp only [rialtolaw01_same.l0]
    rw [if_neg (by omega)]
  | succ j ih =>
    intro i hi
    refine Ev.step (f := fun k => rialtolaw01_same.l0 k l l ((i + 1 : Nat) : Int)) (fun k => ?_) (ih (i + 1) (by omega))
    simp only [rialtolaw01_same.l0]
    have hw : wrap64 ((i : Int) + 1) = ((i + 1 : Nat) : Int) := by unfold wrap64; omega
    rw [if_pos (by omega), if_pos (by omega), if_pos (by omega), if_pos trivial, hw]
theorem same_ev (l : List ByteArray) (hl : l.length ≤ 9223372036854775807) : Ev (fun k => rialtolaw01_same.f k l l) true := by
  unfold rialtolaw01_same.f
  exact Ev.congr (fun k => if_pos rfl) (same_loop l hl l.length 0 (by omega))

/-! ### writing -/
theorem text_ev (s : ByteArray) : Ev (fun k => pack_Text.f k s) (if (s.size : Int) > 60000 then (⟨#[]⟩, 2) else (strOfNums (wrT (bytesOf s)), 0)) := by
  unfold pack_Text.f
  by_cases c : (s.size : Int) > 60000
  · rw [if_pos c]; exact Ev.congr (fun k => by rw [if_pos c]) (Ev.now _)
  · rw [if_neg c]
    have e1 : IntKind.u64.wrap (s.size : Int) = (s.size : Int) := by rw [IntKind.wrap_u64]; omega
    refine Ev.congr (fun k => by rw [if_neg c, e1]) (Ev.bind (uint_ev s.size (by omega)) ?_)
    have h10 := putN_len10 (n := s.size) (by omega)
    rw [strOfNums_sz, if_pos (by omega), wrT, bytesOf_length, str_append, str_bytes]
    exact Ev.now _
theorem rtext_ev (s : ByteArray) : Ev (fun k => rialtoref01_Text.f k s) (if (s.size : Int) > 60000 then (⟨#[]⟩, 2) else (strOfNums (wrT (bytesOf s)), 0)) := by
  unfold rialtoref01_Text.f
  by_cases c : (s.size : Int) > 60000
  · rw [if_pos c]; exact Ev.congr (fun k => by rw [if_pos c]) (Ev.now _)
  · rw [if_neg c]
    have e1 : IntKind.u64.wrap (s.size : Int) = (s.size : Int) := by rw [IntKind.wrap_u64]; omega
    refine Ev.congr (fun k => by rw [if_neg c, e1]) (Ev.bind (rUint_ev s.size (by omega)) ?_)
    have h10 := putN_len10 (n := s.size) (by omega)
    rw [strOfNums_sz, if_pos (by omega), wrT, bytesOf_length, str_append, str_bytes]
    exact Ev.now _
/-- The bytes of a list, or that it is too long. -/
def writeL (l : List ByteArray) : ByteArray × Int := if l.length > 4000 ∨ ∃ s ∈ l, s.size > 60000 then (⟨#[]⟩, 2) else (strOfNums (wrL (l.map bytesOf)), 0)
theorem wrI_len : ∀ ts : List (List Int), (∀ t ∈ ts, t.length ≤ 60000) → (wrI ts).length ≤ 60010 * ts.length := by
  intro ts
  induction ts with
  | nil => intro _; simp [wrI]
  | cons t r ih =>
    intro h
    have h1 := h t (by simp)
    have h2 := ih (fun x hx => h x (by simp [hx]))
    have h10 := putN_len10 (n := t.length) (by omega)
    simp only [wrI, wrT, List.length_append, List.length_cons]
    omega
theorem at_list (l : List ByteArray) (i : Nat) (h : i < l.length) : rdOf ByteArray.empty l (i : Int) = l[i] ∧ l.drop i = l[i] :: l.drop (i + 1) := by
  refine ⟨?_, List.drop_eq_getElem_cons h⟩
  simp [rdOf, List.getD_eq_getElem?_getD, List.getElem?_eq_getElem h]
theorem list_loop (l : List ByteArray) (hl : l.length ≤ 4000) (j : Nat) : ∀ (i : Nat) (acc : List Int), i + j = l.length → acc.length ≤ 10 + 60010 * i →
    Ev (fun k => pack_List.l0 k acc l (l.length : Int) (i : Int)) (if ∃ s ∈ l.drop i, s.size > 60000 then (⟨#[]⟩, 2) else (strOfNums (acc ++ wrI ((l.drop i).map bytesOf)), 0)) := by
  induction j with
  | zero =>
    intro i acc hi ha
    have : l.drop i = [] := List.drop_eq_nil_of_le (by omega)
    rw [this, if_neg (by simp)]
    simp only [List.map_nil, wrI, List.append_nil]
    refine Ev.step (f := fun _ => some (strOfNums acc, 0)) (fun k => ?_) (Ev.now _)
    simp only [pack_List.l0]
    rw [if_neg (by omega)]
  | succ j ih =>
    intro i acc hi ha
    obtain ⟨h1, h2⟩ := at_list l i (by omega)
    rw [h2]
    generalize l[i] = s at h1
    have hw : wrap64 ((i : Int) + 1) = ((i + 1 : Nat) : Int) := by unfold wrap64; omega
    by_cases c : s.size > 60000
    · rw [if_pos ⟨s, by simp, c⟩]
      refine Ev.step (f := fun _ => some (⟨#[]⟩, 2)) (fun k => ?_) (Ev.now _)
      simp only [pack_List.l0]
      rw [if_pos (by omega), if_pos (by omega), if_pos (by omega), h1, if_pos (by omega)]
    · have h10 := putN_len10 (n := s.size) (by omega)
      have e1 : IntKind.u64.wrap (s.size : Int) = (s.size : Int) := by rw [IntKind.wrap_u64]; omega
      have hp := put_ev s.size acc (by omega)
      have := ih (i + 1) (acc ++ putN s.size ++ bytesOf s) (by omega) (by simp only [List.length_append, bytesOf_length]; omega)
      have hx : (∃ t ∈ s :: l.drop (i + 1), t.size > 60000) ↔ ∃ t ∈ l.drop (i + 1), t.size > 60000 := by
        constructor
        · rintro ⟨t, ht, h⟩
          rcases List.mem_cons.1 ht with rfl | h'
          · exact absurd h c
          · exact ⟨t, h', h⟩
        · rintro ⟨t, ht, h⟩; exact ⟨t, by simp [ht], h⟩
      have hy : acc ++ putN s.size ++ bytesOf s ++ wrI ((l.drop (i + 1)).map bytesOf) = acc ++ wrI ((s :: l.drop (i + 1)).map bytesOf) := by
        simp [wrI, wrT, bytesOf_length]
      rw [hy] at this
      simp only [hx]
      refine Ev.step (f := fun k => (pack_put.f k acc (s.size : Int)).bind fun t => (if t.length + s.size < 140737488355328 then (pack_List.l0 k (t ++ bytesOf s) l (l.length : Int) ((i + 1 : Nat) : Int)) else none)) (fun k => ?_) (Ev.bind hp ?_)
      · simp only [pack_List.l0]
        rw [if_pos (by omega), if_pos (by omega), if_pos (by omega), h1, if_neg (by omega), e1, hw]
      · exact Ev.congr (fun k => if_pos (by simp only [List.length_append]; omega)) this
theorem rlist_loop (l : List ByteArray) (hl : l.length ≤ 4000) (j : Nat) : ∀ (i : Nat) (acc : List Int), i + j = l.length → acc.length ≤ 10 + 60010 * i →
    Ev (fun k => rialtoref01_List.l0 k acc l (i : Int)) (if ∃ s ∈ l.drop i, s.size > 60000 then (⟨#[]⟩, 2) else (strOfNums (acc ++ wrI ((l.drop i).map bytesOf)), 0)) := by
  induction j with
  | zero =>
    intro i acc hi ha
    have : l.drop i = [] := List.drop_eq_nil_of_le (by omega)
    rw [this, if_neg (by simp)]
    simp only [List.map_nil, wrI, List.append_nil]
    refine Ev.step (f := fun _ => some (strOfNums acc, 0)) (fun k => ?_) (Ev.now _)
    simp only [rialtoref01_List.l0]
    rw [if_neg (by omega)]
  | succ j ih =>
    intro i acc hi ha
    obtain ⟨h1, h2⟩ := at_list l i (by omega)
    rw [h2]
    generalize l[i] = s at h1
    have hw : wrap64 ((i : Int) + 1) = ((i + 1 : Nat) : Int) := by unfold wrap64; omega
    have ht := rtext_ev s
    have hl0 : ∀ k, rialtoref01_List.l0 (k + 1) acc l (i : Int) = (rialtoref01_Text.f k s).bind fun r => (if r.2 = 0 then (if acc.length + r.1.size < 140737488355328 then rialtoref01_List.l0 k (acc ++ bytesOf r.1) l ((i + 1 : Nat) : Int) else none) else some (⟨#[]⟩, r.2)) := by
      intro k
      simp only [rialtoref01_List.l0]
      rw [if_pos (by omega), if_pos (by omega), h1, hw]
    by_cases c : s.size > 60000
    · rw [if_pos ⟨s, by simp, c⟩]
      rw [if_pos (by omega)] at ht
      exact Ev.step hl0 (Ev.bind ht (Ev.congr (fun k => if_neg (by decide)) (Ev.now _)))
    · have h10 := putN_len10 (n := s.size) (by omega)
      rw [if_neg (by omega)] at ht
      have := ih (i + 1) (acc ++ wrT (bytesOf s)) (by omega) (by simp only [List.length_append, wrT, bytesOf_length]; omega)
      have hx : (∃ t ∈ s :: l.drop (i + 1), t.size > 60000) ↔ ∃ t ∈ l.drop (i + 1), t.size > 60000 := by
        constructor
        · rintro ⟨t, ht, h⟩
          rcases List.mem_cons.1 ht with rfl | h'
          · exact absurd h c
          · exact ⟨t, h', h⟩
        · rintro ⟨t, ht, h⟩; exact ⟨t, by simp [ht], h⟩
      have hy : acc ++ wrT (bytesOf s) ++ wrI ((l.drop (i + 1)).map bytesOf) = acc ++ wrI ((s :: l.drop (i + 1)).map bytesOf) := by
        simp [wrI]
      rw [hy] at this
      simp only [hx]
      have hb : bytesOf (strOfNums (wrT (bytesOf s))) = wrT (bytesOf s) := by
        refine bytes_str _ (fun x hx => ?_)
        rcases List.mem_append.1 hx with h | h
        · exact putN_range _ x h
        · exact bytes_range s x h
      have hsz : acc.length + (strOfNums (wrT (bytesOf s))).size < 140737488355328 := by rw [strOfNums_sz]; simp only [List.length_append, wrT, bytesOf_length]; omega
      refine Ev.step hl0 (Ev.bind ht (Ev.congr (fun k => (if_pos rfl).trans (if_pos hsz)) ?_))
      show Ev (fun k => rialtoref01_List.l0 k (acc ++ bytesOf (strOfNums (wrT (bytesOf s)))) l ((i + 1 : Nat) : Int)) _
      rw [hb]
      exact this
theorem list_ev (l : List ByteArray) (hl : l.length ≤ 8796093022208) : Ev (fun k => pack_List.f k l) (writeL l) := by
  unfold pack_List.f writeL
  by_cases c : (l.length : Int) > 4000
  · rw [if_pos (.inl (by omega))]; exact Ev.congr (fun k => by rw [if_pos c]) (Ev.now _)
  · have h10 := putN_len10 (n := l.length) (by omega)
    have e1 : IntKind.u64.wrap (l.length : Int) = (l.length : Int) := by rw [IntKind.wrap_u64]; omega
    have hx : (l.length > 4000 ∨ ∃ s ∈ l, s.size > 60000) ↔ ∃ s ∈ l, s.size > 60000 := ⟨fun h => h.resolve_left (by omega), .inr⟩
    simp only [hx]
    refine Ev.congr (f := fun k => (pack_put.f k [] (l.length : Int)).bind fun t => pack_List.l0 k t l (l.length : Int) 0) (fun k => by rw [if_neg c, e1]) (Ev.bind (put_ev l.length [] (by simp; omega)) ?_)
    have := list_loop l (by omega) l.length 0 ([] ++ putN l.length) (by omega) (by simpa using h10)
    rw [List.drop_zero] at this
    simp only [List.nil_append] at this ⊢
    have e2 : wrL (l.map bytesOf) = putN l.length ++ wrI (l.map bytesOf) := by rw [wrL, List.length_map]
    rw [e2]
    exact this
theorem rlist_ev (l : List ByteArray) (hl : l.length ≤ 8796093022208) : Ev (fun k => rialtoref01_List.f k l) (writeL l) := by
  unfold rialtoref01_List.f writeL
  by_cases c : (l.length : Int) > 4000
  · rw [if_pos (.inl (by omega))]; exact Ev.congr (fun k => by rw [if_pos c]) (Ev.now _)
  · have h10 := putN_len10 (n := l.length) (by omega)
    have hx : (l.length > 4000 ∨ ∃ s ∈ l, s.size > 60000) ↔ ∃ s ∈ l, s.size > 60000 := ⟨fun h => h.resolve_left (by omega), .inr⟩
    simp only [hx]
    refine Ev.congr (fun k => by rw [if_neg c]) (Ev.bind (rUint_ev l.length (by omega)) ?_)
    refine Ev.congr (fun k => if_pos (by rw [strOfNums_sz]; omega)) ?_
    rw [bytes_str _ (putN_range _)]
    have := rlist_loop l (by omega) l.length 0 (putN l.length) (by omega) (by simpa using h10)
    rw [List.drop_zero] at this
    have e2 : wrL (l.map bytesOf) = putN l.length ++ wrI (l.map bytesOf) := by rw [wrL, List.length_map]
    rw [e2]
    exact this
end Go.Proofs.Ytaddblicjlohcaa.PackSpec
