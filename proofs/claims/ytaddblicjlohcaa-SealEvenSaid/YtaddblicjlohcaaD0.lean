/- Texts and their bytes. No conditions. -/
import Derived.Test.YtaddblicjlohcaaWMore
import Derived.Laws.BytesArg
namespace Go.Proofs.Ytaddblicjlohcaa.TextSpec
open Go.RowKit Go.Proofs.YtaddblicjlohcaaW.PrintWords Go.Proofs.YtaddblicjlohcaaW.PrintLast Go.Proofs.YtaddblicjlohcaaW.PrintMore

theorem bytes_range (s : ByteArray) : ∀ x ∈ bytesOf s, 0 ≤ x ∧ x < 256 := by
  intro x hx
  simp only [bytesOf, List.mem_map] at hx
  obtain ⟨b, _, rfl⟩ := hx
  have := b.toNat_lt
  omega
theorem drop_range (s : ByteArray) (p : Nat) : ∀ x ∈ (bytesOf s).drop p, 0 ≤ x ∧ x < 256 := fun x hx => bytes_range s x (List.mem_of_mem_drop hx)
theorem bytes_at (s : ByteArray) (p : Nat) (h : p < s.size) : (bytesOf s).drop p = bt s (p : Int) :: (bytesOf s).drop (p + 1) := by
  have hl : p < (bytesOf s).length := by rw [bytesOf_length]; exact h
  rw [List.drop_eq_getElem_cons hl, ← rd_bytesOf]
  simp [rd, List.getD_eq_getElem?_getD, List.getElem?_eq_getElem hl]


theorem str_bytes (s : ByteArray) : strOfNums (bytesOf s) = s := by
  obtain ⟨d⟩ := s
  simp only [strOfNums, bytesOf, List.map_map]
  have : (fun (n : Int) => UInt8.ofNat n.toNat) ∘ (fun (b : UInt8) => (b.toNat : Int)) = id := by
    funext b; simp
  rw [this, List.map_id]
theorem bytes_str (l : List Int) (h : ∀ x ∈ l, 0 ≤ x ∧ x < 256) : bytesOf (strOfNums l) = l := by
  simp only [bytesOf, strOfNums, List.map_map]
  conv => rhs; rw [← List.map_id l]
  apply List.map_congr_left
  intro x hx
  have := h x hx
  simp only [Function.comp, UInt8.toNat_ofNat', id]
  omega
theorem bytes_append (s t : ByteArray) : bytesOf (s ++ t) = bytesOf s ++ bytesOf t := by
  simp [bytesOf, ByteArray.data_append]
theorem bytes_extract (s : ByteArray) (a b : Nat) : bytesOf (s.extract a b) = ((bytesOf s).take b).drop a := by
  simp only [bytesOf, ByteArray.data_extract, Array.toList_extract, List.extract_eq_take_drop]
  rw [← List.map_take, ← List.map_drop, List.drop_take]
theorem bytes_inj {s t : ByteArray} (h : bytesOf s = bytesOf t) : s = t := by rw [← str_bytes s, h, str_bytes]
theorem extract_str (s : ByteArray) (a b : Nat) : s.extract a b = strOfNums (((bytesOf s).take b).drop a) := by rw [← bytes_extract, str_bytes]
theorem str_append (a b : List Int) : strOfNums (a ++ b) = strOfNums a ++ strOfNums b := by
  simp [strOfNums, ByteArray.ext_iff]

end Go.Proofs.Ytaddblicjlohcaa.TextSpec
