/- Bytes of a text laid as a row, some of them written: what the row holds. No conditions. -/
import Derived.Test.YtaddblicjlohcaaB1
namespace Go.Proofs.Ytaddblicjlohcaa.Rows8
open Go Go.RowKit Go.Proofs.YtaddblicjlohcaaW.PrintWords
theorem OwnB.cell {w : World} {base g n cap : Nat} {e : TypeId} {xs : List Int} (h : OwnB w base e (.slice (some ⟨g, 0, none⟩) n cap) (nums .u8 xs)) (i : Nat) (hi : i < xs.length) :
    w.cell? ⟨g, i, none⟩ = some (.int .u8 (xs.getD i 0)) ∧ w.frozen? ⟨g, i, none⟩ = false := by
  constructor
  · have := h.cells i (.int .u8 (xs.getD i 0)) (by simp [nums, List.getElem?_eq_getElem hi, List.getD_eq_getElem?_getD])
    have ha : (⟨g, 0, none⟩ : Addr).add i = ⟨g, i, none⟩ := by unfold Addr.add; split <;> simp_all
    rwa [ha] at this
  · obtain ⟨g', cap', cur, fz, hv, _, hgg, hfz, hnc, _⟩ := h
    have : g = g' := by injection hv with hv; injection hv with hv; injection hv with hv
    subst this
    rw [nums_length] at hnc
    obtain ⟨lo, hi'⟩ := fz
    simp only [World.frozen?, hgg, Bool.and_eq_false_iff, decide_eq_false_iff_not]
    simp only at hfz
    omega
theorem OwnB.set_ {w : World} {base g n cap : Nat} {e : TypeId} {xs : List Int} (h : OwnB w base e (.slice (some ⟨g, 0, none⟩) n cap) (nums .u8 xs)) (i : Nat) (x : Int) :
    OwnB (w.setCell ⟨g, i, none⟩ (.int .u8 x)) base e (.slice (some ⟨g, 0, none⟩) n cap) (nums .u8 (xs.set i x)) := by
  obtain ⟨g', cap', cur, fz, hv, hb, hgg, hfz, hnc, hm, hs, ht⟩ := h
  have : g = g' := by injection hv with hv; injection hv with hv; injection hv with hv
  subst this
  refine ⟨g, cap', cur.setIfInBounds i (.int .u8 x), fz, ?_, hb, ?_, hfz, ?_, hm, by simpa using hs, ?_⟩
  · rw [hv]; simp [nums]
  · rw [setCell_eq_setRow w g i cur e fz _ hgg]; exact setRow_heap w g cur _ e _ hgg
  · simpa [nums] using hnc
  · rw [Array.toList_setIfInBounds, List.take_set]
    have hl : (nums .u8 (xs.set i x)).length = (nums .u8 xs).length := by simp [nums]
    rw [hl, ht]
    simp [nums, List.map_set]
theorem OwnB.base_le {w : World} {base g n cap : Nat} {e : TypeId} {xs : List Value} (h : OwnB w base e (.slice (some ⟨g, 0, none⟩) n cap) xs) : base ≤ g := h.base g rfl
end Go.Proofs.Ytaddblicjlohcaa.Rows8
