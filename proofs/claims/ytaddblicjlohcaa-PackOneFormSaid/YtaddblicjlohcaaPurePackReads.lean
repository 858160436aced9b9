/- PackReads' pure statement: pack and its reference read the same from any place of any text. For every text of fewer than 2^47 bytes and every int. -/
import Derived.Test.YtaddblicjlohcaaPk7
import Derived.Test.YtaddblicjlohcaaA7
namespace Go.Proofs.Ytaddblicjlohcaa.PackSpec
open Go.RowKit Go.Proofs.Ytaddblicjlohcaa.Pk Go.Proofs.YtaddblicjlohcaaW.PrintWords Go.Proofs.YtaddblicjlohcaaW.PrintLast Go.Proofs.YtaddblicjlohcaaW.PrintMore

theorem takeL_cases (s : ByteArray) (a : Int) : (∃ e, takeL s a = ([], 0, e) ∧ e ≠ 0) ∨
    ∃ ts c, 0 ≤ a ∧ a ≤ s.size ∧ tkL (from_ s a) = .ok ts c ∧ takeL s a = (ts.map strOfNums, a + c, 0) := by
  unfold takeL
  by_cases h : a < 0 ∨ a > s.size
  · rw [if_pos h]; exact .inl ⟨1, rfl, by decide⟩
  · rw [if_neg h]
    cases h1 : tkL (from_ s a) with
    | err e => exact .inl ⟨e, rfl, by rcases tkL_err h1 with rfl | rfl <;> decide⟩
    | ok ts c => exact .inr ⟨ts, c, by omega, by omega, rfl, rfl⟩
theorem takeL_len (s : ByteArray) (a : Int) : (takeL s a).1.length ≤ 4000 := by
  rcases takeL_cases s a with ⟨e, he, -⟩ | ⟨ts, c, -, -, h, he⟩
  · rw [he]; simp
  · rw [he]; simpa using (tkL_ok (from_range s a) h).2.2.2.1

theorem reads_l1 (s : ByteArray) (a : Int) (l : List ByteArray) (x24 x25 : Int) (r : Nat) (hl0 : Ev (fun k => rialtolaw01_PackReads.l0 k s a l x24 x25 ((r + 1 : Nat) : Int)) true) (hr : r ≤ 5) (j : Nat) :
    ∀ (i : Nat) (m : List ByteArray), m.length ≤ 4000 → i + j = m.length → Ev (fun k => rialtolaw01_PackReads.l1 k s a l x24 x25 (r : Int) m (i : Int)) true := by
  induction j with
  | zero =>
    intro i m hm hi
    refine Ev.step (fun k => ?_) hl0
    simp only [rialtolaw01_PackReads.l1]
    have : wrap64 ((r : Int) + 1) = ((r + 1 : Nat) : Int) := by unfold wrap64; omega
    rw [if_neg (by omega), this]
  | succ j ih =>
    intro i m hm hi
    refine Ev.step (fun k => ?_) (ih (i + 1) (m.set i (⟨#[119, 114, 105, 116, 116, 101, 110]⟩ : ByteArray)) (by rw [List.length_set]; exact hm) (by rw [List.length_set]; omega))
    simp only [rialtolaw01_PackReads.l1]
    have : wrap64 ((i : Int) + 1) = ((i + 1 : Nat) : Int) := by unfold wrap64; omega
    rw [if_pos (by omega), if_pos (by omega), this, Int.toNat_natCast]
theorem reads_l0 (s : ByteArray) (a : Int) (hs : s.size ≤ 140737488351232) (r : Nat) (hr : r < 2) (h : Ev (fun k => rialtolaw01_PackReads.l0 k s a (takeL s a).1 (takeL s a).2.1 (takeL s a).2.2 ((r + 1 : Nat) : Int)) true) :
    Ev (fun k => rialtolaw01_PackReads.l0 k s a (takeL s a).1 (takeL s a).2.1 (takeL s a).2.2 (r : Int)) true := by
  have hlen := takeL_len s a
  have h1 := takeL_ev s a hs
  generalize takeL s a = t at *
  refine Ev.step (f := fun k => (pack_TakeList.f k s a).bind fun b => (rialtolaw01_same.f k b.1 t.1).bind fun c => if c = true then (if b.2.1 = t.2.1 then rialtolaw01_PackReads.j2 k s a t.1 t.2.1 t.2.2 (r : Int) b.1 (b.2.2 != t.2.2) else rialtolaw01_PackReads.j2 k s a t.1 t.2.1 t.2.2 (r : Int) b.1 true) else rialtolaw01_PackReads.j2 k s a t.1 t.2.1 t.2.2 (r : Int) b.1 true) (fun k => ?_) (Ev.bind h1 (Ev.bind (same_ev t.1 (by omega)) ?_))
  · simp only [rialtolaw01_PackReads.l0]
    rw [if_pos (by omega)]
  · refine Ev.congr (f := fun k => rialtolaw01_PackReads.j2 k s a t.1 t.2.1 t.2.2 (r : Int) t.1 false) (fun k => by simp) ?_
    refine Ev.step (fun k => ?_) (reads_l1 s a t.1 t.2.1 t.2.2 r h (by omega) t.1.length 0 t.1 hlen (by omega))
    simp only [rialtolaw01_PackReads.j2]
    rw [if_neg (by simp)]
    rfl
theorem reads (s : ByteArray) (a : Int) (hs : s.size ≤ 140737488351232) : Ev (fun k => rialtolaw01_PackReads.f k s a) true := by
  refine Ev.bind (takeU_ev s a hs) (Ev.bind (rtakeU_ev s a hs) (Ev.bind (takeI_ev s a hs) (Ev.bind (rtakeI_ev s a hs) (Ev.bind (takeT_ev s a hs) (Ev.bind (rtakeT_ev s a hs) (Ev.bind live_ev ?_))))))
  refine Ev.congr (f := fun k => rialtolaw01_PackReads.j0 k s a false) (fun k => by simp) ?_
  refine Ev.step (f := fun k => (rialtoref01_TakeList.f k s a).bind fun b => rialtolaw01_PackReads.l0 k s a b.1 b.2.1 b.2.2 0) (fun k => ?_) (Ev.bind (rtakeL_ev s a hs) ?_)
  · simp only [rialtolaw01_PackReads.j0]
    rw [if_neg (by simp)]
  · refine reads_l0 s a hs 0 (by omega) (reads_l0 s a hs 1 (by omega) ?_)
    refine Ev.step (f := fun _ => some true) (fun k => ?_) (Ev.now _)
    simp only [rialtolaw01_PackReads.l0]
    rw [if_neg (by omega)]
end Go.Proofs.Ytaddblicjlohcaa.PackSpec
namespace Go.Proofs.Ytaddblicjlohcaa.Pure
open Go.Proofs.Ytaddblicjlohcaa.Pk
theorem PackReads : rialtolaw01_PackReads.Pure := fun s a hs _ => (PackSpec.reads s a hs).rounds
end Go.Proofs.Ytaddblicjlohcaa.Pure
