/- Plain facts about texts and lists of texts as bytes: what is written is read again, what is read is written so, what is cut is cut off. No conditions. -/
import Derived.Test.YtaddblicjlohcaaA1
import Derived.Laws.BytesArg
namespace Go.Proofs.Ytaddblicjlohcaa.PackSpec
open Go.RowKit Go.Proofs.YtaddblicjlohcaaW.PrintWords

/-! ### texts and their bytes -/
theorem str_bytes (s : ByteArray) : strOfNums (bytesOf s) = s := by
  obtain ⟨d⟩ := s
  simp only [strOfNums, bytesOf, List.map_map]
  have : (fun (n : Int) => UInt8.ofNat n.toNat) ∘ (fun (b : UInt8) => (b.toNat : Int)) = id := by
    funext b; simp
  rw [this, List.map_id]
theorem bytes_str (l : List Int) (h : ∀ x ∈ l, 0 ≤ x ∧ x < 256) : bytesOf (strOfNums l) = l := by
  simp only [bytesOf, strOfNums, List.map_map]
  conv => rhs; rw [← List.map_id l]
  apply List.map_congr_left
  intro x hx
  have := h x hx
  simp only [Function.comp, UInt8.toNat_ofNat', id]
  omega
theorem bytes_append (s t : ByteArray) : bytesOf (s ++ t) = bytesOf s ++ bytesOf t := by
  simp [bytesOf, ByteArray.data_append]
theorem bytes_extract (s : ByteArray) (a b : Nat) : bytesOf (s.extract a b) = ((bytesOf s).take b).drop a := by
  simp only [bytesOf, ByteArray.data_extract, Array.toList_extract, List.extract_eq_take_drop]
  rw [← List.map_take, ← List.map_drop, List.drop_take]
theorem bytes_inj {s t : ByteArray} (h : bytesOf s = bytesOf t) : s = t := by rw [← str_bytes s, h, str_bytes]
theorem extract_str (s : ByteArray) (a b : Nat) : s.extract a b = strOfNums (((bytesOf s).take b).drop a) := by rw [← bytes_extract, str_bytes]
theorem str_append (a b : List Int) : strOfNums (a ++ b) = strOfNums a ++ strOfNums b := by
  simp [strOfNums, ByteArray.ext_iff]

/-! ### texts -/
def wrT (t : List Int) : List Int := putN t.length ++ t
inductive ResT where
  | ok (t : List Int) (c : Nat)
  | err (e : Int)
def tkT (l : List Int) : ResT :=
  match tk 0 l with
  | .err e => .err e
  | .ok n c => if n > 60000 then .err 11 else if n > l.length - c then .err 10 else .ok ((l.drop c).take n) (c + n)

theorem tkT_ok {l t : List Int} {c : Nat} (hl : ∀ x ∈ l, 0 ≤ x ∧ x < 256) (h : tkT l = .ok t c) : wrT t = l.take c ∧ t.length ≤ 60000 ∧ 0 < c ∧ c ≤ l.length ∧ (∀ x ∈ t, 0 ≤ x ∧ x < 256) := by
  unfold tkT at h
  split at h
  · cases h
  · rename_i n c' h'
    split at h
    · cases h
    · split at h
      · cases h
      · simp only [ResT.ok.injEq] at h
        obtain ⟨rfl, rfl⟩ := h
        obtain ⟨h1, h2, h3, -⟩ := tk_ok hl h'
        have hlen : ((l.drop c').take n).length = n := by rw [List.length_take, List.length_drop]; omega
        refine ⟨?_, by omega, by omega, by omega, fun x hx => hl x (List.mem_of_mem_drop (List.mem_of_mem_take hx))⟩
        rw [wrT, hlen, h1, List.take_add]
theorem tkT_cut {l t : List Int} {c : Nat} (h : tkT l = .ok t c) (m : Nat) (hm : m < c) : tkT (l.take m) = .err 10 := by
  unfold tkT at h
  split at h
  · cases h
  · rename_i n c' h'
    split at h
    · cases h
    · rename_i c1
      split at h
      · cases h
      · rename_i c2
        simp only [ResT.ok.injEq] at h
        obtain ⟨rfl, rfl⟩ := h
        unfold tkT
        by_cases hc : m < c'
        · rw [tk_cut h' m hc]
        · have hx : tk 0 (l.take m) = .ok n c' := by
            have hl : l.take m = l.take c' ++ (l.drop c').take (m - c') := by
              rw [← List.take_add, show c' + (m - c') = m from by omega]
            have h3 : tk 0 (l.take c') = .ok n c' := by
              by_cases hle : c' ≤ l.length
              · exact tk_take h'
              · rw [List.take_of_length_le (by omega)]; exact h'
            rw [hl]; exact tk_more h3 _
          rw [hx]
          simp only
          rw [if_neg c1, if_pos]
          rw [List.length_take]; omega
where
  tk_take {l : List Int} : ∀ {k n c : Nat}, tk k l = .ok n c → tk k (l.take c) = .ok n c := by
    induction l with
    | nil => intro k n c h; simp [tk] at h
    | cons b r ih =>
      intro k n c h
      rw [tk] at h
      split at h
      · cases h
      · rename_i c1
        split at h
        · rename_i c2
          simp only [Res.ok.injEq] at h
          obtain ⟨rfl, rfl⟩ := h
          rw [List.take_succ_cons, List.take_zero, tk, if_neg c1, if_pos c2]
        · rename_i c2
          split at h
          · rename_i n' c' h'
            simp only [Res.ok.injEq] at h
            obtain ⟨rfl, rfl⟩ := h
            rw [List.take_succ_cons, tk, if_neg c1, if_neg c2, ih h']
          · cases h
theorem tkT_put {t : List Int} (h : t.length ≤ 60000) (r : List Int) : tkT (wrT t ++ r) = .ok t (wrT t).length := by
  unfold tkT wrT
  rw [List.append_assoc, tk_put (by omega)]
  simp only
  rw [if_neg (by omega), if_neg (by simp only [List.length_append]; omega)]
  simp only [ResT.ok.injEq, List.length_append]
  refine ⟨?_, trivial⟩
  rw [List.drop_left, List.take_left]
theorem tkT_err {l : List Int} {e : Int} (h : tkT l = .err e) : e = 10 ∨ e = 11 := by
  unfold tkT at h
  split at h
  · rename_i h'; cases h; exact tk_err h'
  · split at h
    · cases h; omega
    · split at h
      · cases h; omega
      · cases h

/-! ### several texts, one behind the other -/
def wrI : List (List Int) → List Int
  | [] => []
  | t :: r => wrT t ++ wrI r
inductive ResI where
  | ok (ts : List (List Int)) (c : Nat)
  | err (e : Int)
def tkI : Nat → List Int → ResI
  | 0, _ => .ok [] 0
  | j + 1, l => match tkT l with
    | .err e => .err e
    | .ok t c => match tkI j (l.drop c) with
      | .err e => .err e
      | .ok ts d => .ok (t :: ts) (c + d)
theorem wrI_append (a b : List (List Int)) : wrI (a ++ b) = wrI a ++ wrI b := by
  induction a with
  | nil => rfl
  | cons x r ih => simp [wrI, ih]
theorem tkI_err {j : Nat} : ∀ {l : List Int} {e : Int}, tkI j l = .err e → e = 10 ∨ e = 11 := by
  induction j with
  | zero => intro l e h; simp [tkI] at h
  | succ j ih =>
    intro l e h
    rw [tkI] at h
    split at h
    · rename_i h'; cases h; exact tkT_err h'
    · split at h
      · rename_i h'; cases h; exact ih h'
      · cases h
theorem tkI_ok {j : Nat} : ∀ {l : List Int} {ts : List (List Int)} {c : Nat}, (∀ x ∈ l, 0 ≤ x ∧ x < 256) → tkI j l = .ok ts c → wrI ts = l.take c ∧ ts.length = j ∧ c ≤ l.length ∧ (∀ t ∈ ts, t.length ≤ 60000 ∧ ∀ x ∈ t, 0 ≤ x ∧ x < 256) := by
  induction j with
  | zero => intro l ts c _ h; simp only [tkI, ResI.ok.injEq] at h; obtain ⟨rfl, rfl⟩ := h; simp [wrI]
  | succ j ih =>
    intro l ts c hl h
    rw [tkI] at h
    split at h
    · cases h
    · rename_i t c1 h1
      split at h
      · cases h
      · rename_i ts' d h2
        simp only [ResI.ok.injEq] at h
        obtain ⟨rfl, rfl⟩ := h
        obtain ⟨a1, a2, a3, a4, a5⟩ := tkT_ok hl h1
        obtain ⟨b1, b2, b3, b4⟩ := ih (fun x hx => hl x (List.mem_of_mem_drop hx)) h2
        rw [List.length_drop] at b3
        refine ⟨?_, by simp [b2], by omega, ?_⟩
        · rw [wrI, a1, b1, List.take_add]
        · intro t' ht'
          rcases List.mem_cons.1 ht' with rfl | h'
          · exact ⟨a2, a5⟩
          · exact b4 t' h'
theorem tkI_cut {j : Nat} : ∀ {l : List Int} {ts : List (List Int)} {c : Nat}, (∀ x ∈ l, 0 ≤ x ∧ x < 256) → tkI j l = .ok ts c → ∀ m, m < c → tkI j (l.take m) = .err 10 := by
  induction j with
  | zero => intro l ts c _ h m hm; simp only [tkI, ResI.ok.injEq] at h; omega
  | succ j ih =>
    intro l ts c hl h m hm
    rw [tkI] at h
    split at h
    · cases h
    · rename_i t c1 h1
      split at h
      · cases h
      · rename_i ts' d h2
        simp only [ResI.ok.injEq] at h
        obtain ⟨rfl, rfl⟩ := h
        rw [tkI]
        by_cases hc : m < c1
        · rw [tkT_cut h1 m hc]
        · have h3 : tkT (l.take m) = .ok t c1 := by
            obtain ⟨a1, a2, a3, a4, a5⟩ := tkT_ok hl h1
            have : l.take m = wrT t ++ (l.drop c1).take (m - c1) := by
              rw [a1, ← List.take_add, show c1 + (m - c1) = m from by omega]
            rw [this, tkT_put a2, a1, List.length_take, Nat.min_eq_left a4]
          rw [h3]
          simp only
          rw [List.drop_take, ih (fun x hx => hl x (List.mem_of_mem_drop hx)) h2 (m - c1) (by omega)]
theorem tkI_put : ∀ {ts : List (List Int)}, (∀ t ∈ ts, t.length ≤ 60000) → ∀ r, tkI ts.length (wrI ts ++ r) = .ok ts (wrI ts).length := by
  intro ts
  induction ts with
  | nil => intro _ r; simp [tkI, wrI]
  | cons t r' ih =>
    intro h r
    rw [List.length_cons, tkI, wrI, List.append_assoc, tkT_put (h t (by simp))]
    simp only
    rw [List.drop_left, ih (fun x hx => h x (by simp [hx]))]
    simp

/-! ### lists -/
def wrL (ts : List (List Int)) : List Int := putN ts.length ++ wrI ts
def tkL (l : List Int) : ResI :=
  match tk 0 l with
  | .err e => .err e
  | .ok n c => if n > 4000 then .err 11 else match tkI n (l.drop c) with
    | .err e => .err e
    | .ok ts d => .ok ts (c + d)
theorem tkL_ok {l : List Int} {ts : List (List Int)} {c : Nat} (hl : ∀ x ∈ l, 0 ≤ x ∧ x < 256) (h : tkL l = .ok ts c) : wrL ts = l.take c ∧ 0 < c ∧ c ≤ l.length ∧ ts.length ≤ 4000 ∧ (∀ t ∈ ts, t.length ≤ 60000 ∧ ∀ x ∈ t, 0 ≤ x ∧ x < 256) := by
  unfold tkL at h
  split at h
  · cases h
  · rename_i n c1 h1
    split at h
    · cases h
    · split at h
      · cases h
      · rename_i ts' d h2
        simp only [ResI.ok.injEq] at h
        obtain ⟨rfl, rfl⟩ := h
        obtain ⟨a1, a2, a3, -⟩ := tk_ok hl h1
        obtain ⟨b1, b2, b3, b4⟩ := tkI_ok (fun x hx => hl x (List.mem_of_mem_drop hx)) h2
        rw [List.length_drop] at b3
        refine ⟨?_, by omega, by omega, by omega, b4⟩
        rw [wrL, b2, a1, b1, List.take_add]
theorem tkL_cut {l : List Int} {ts : List (List Int)} {c : Nat} (hl : ∀ x ∈ l, 0 ≤ x ∧ x < 256) (h : tkL l = .ok ts c) (m : Nat) (hm : m < c) : tkL (l.take m) = .err 10 := by
  unfold tkL at h
  split at h
  · cases h
  · rename_i n c1 h1
    split at h
    · cases h
    · rename_i hn
      split at h
      · cases h
      · rename_i ts' d h2
        simp only [ResI.ok.injEq] at h
        obtain ⟨rfl, rfl⟩ := h
        unfold tkL
        by_cases hc : m < c1
        · rw [tk_cut h1 m hc]
        · have h3 : tk 0 (l.take m) = .ok n c1 := by
            have hl : l.take m = l.take c1 ++ (l.drop c1).take (m - c1) := by
              rw [← List.take_add, show c1 + (m - c1) = m from by omega]
            rw [hl]; exact tk_more (tkT_cut.tk_take h1) _
          rw [h3]
          simp only
          rw [if_neg hn, List.drop_take, tkI_cut (fun x hx => hl x (List.mem_of_mem_drop hx)) h2 (m - c1) (by omega)]
theorem tkL_put {ts : List (List Int)} (h0 : ts.length ≤ 4000) (h : ∀ t ∈ ts, t.length ≤ 60000) (r : List Int) : tkL (wrL ts ++ r) = .ok ts (wrL ts).length := by
  unfold tkL wrL
  rw [List.append_assoc, tk_put (by omega)]
  simp only
  rw [if_neg (by omega), List.drop_left, tkI_put h]
  simp
theorem tkL_err {l : List Int} {e : Int} (h : tkL l = .err e) : e = 10 ∨ e = 11 := by
  unfold tkL at h
  split at h
  · rename_i h'; cases h; exact tk_err h'
  · split at h
    · cases h; omega
    · split at h
      · rename_i h'; cases h; exact tkI_err h'
      · cases h
end Go.Proofs.Ytaddblicjlohcaa.PackSpec
