/- An argument that is a slice of texts, opened: it reads as a list of texts, no longer than its weight allows. No conditions. -/
import Derived.Test.YtaddblicjlohcaaWMore
import Derived.SizedLaws
import Derived.SliceStrings
import Derived.ProofKit
namespace Go.Proofs.Ytaddblicjlohcaa.Args
open Go.RowKit Go.Proofs.YtaddblicjlohcaaW.PrintWords Go.ChangeShapes Go.WideShapes Go.ChangeAt

theorem open_strs {H : Type} {enc : TypeId × Value → H} {P : Program} {W : World} {base : Nat} {spare : Nat → Bool} {held : Bool} {t e : TypeId} {a : Option Addr} {len cap : Nat} {d : DataW H} {ps : List MemPlace} {ts : List TypeId} {ds : List (DataW H)} {j : Nat}
    (hsz : (DataW.weightsEach P ts ds).all (· ≤ reachBytes) = true) (ht : ts[j]? = some t) (hd : ds[j]? = some d) (hu : P.underlying t = some (.slice e)) (he : P.underlying e = some .string) (hc : P.cellsOf e = 1) (hB : P.bytesOf e = 16)
    (h : DataW.Trod enc P W base spare held t (.slice a len cap) d ps) :
    ∃ l : List ByteArray, l.length = len ∧ Kd.C Kd.string W a l.length l ∧ l.length ≤ cap ∧ l.length * 16 ≤ 140737488351232 ∧ (∀ s ∈ l, s.size ≤ maxLen) := by
  obtain ⟨fuel, hf⟩ := h
  rcases open_strings hu he hc hf with ⟨hcs, _⟩ | ⟨x, l, c, ss, hcs, _, hl, hm, hz, hx, hcell, hws⟩
  · simp [Value.cells] at hcs
    obtain ⟨rfl, rfl, rfl⟩ := hcs
    exact ⟨[], rfl, Kd.C_nil _ _, by simp, by simp, by simp⟩
  · simp [Value.cells] at hcs
    obtain ⟨rfl, rfl, rfl⟩ := hcs
    obtain ⟨hx, _⟩ := Prod.mk.inj hx
    subst hx
    have z := sized_slice hsz ht hd hu
    rw [hB] at z
    have hl2 : len ≤ ss.length := by
      rw [hz]
      split
      · exact hl
      · exact Nat.le_refl _
    have h1 : (strs (H := H) (ss.take len)).length + (strs (H := H) (ss.drop len)).length = ss.length := by
      simp [strs]
      omega
    rw [h1] at z
    have hlen : (ss.take len).length = len := by rw [List.length_take]; omega
    refine ⟨ss.take len, hlen, ?_, by omega, by have := reachBytes_lt; rw [hlen]; exact Nat.le_trans (Nat.mul_le_mul_right _ hl2) z, fun s hs => hws s (List.mem_of_mem_take hs)⟩
    refine Kd.C_of_reads (d := ByteArray.empty) (h1 := fun _ => rfl) ⟨rfl, by simp only [maxLen] at hm; omega, fun hp => ⟨x, rfl, fun i hi => ?_⟩⟩
    rw [hcell i (by omega)]
    simp [List.getD_eq_getElem?_getD, show i < len by omega]
end Go.Proofs.Ytaddblicjlohcaa.Args
