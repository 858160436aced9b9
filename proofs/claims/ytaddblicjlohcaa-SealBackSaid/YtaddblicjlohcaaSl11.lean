/- Functions of the given program as Lean functions, each with a proof that a call of it comes to what its Lean function says. Written by a program (wip/tools/myprint.py over the kit's print). No conditions. -/
import Derived.Test.YtaddblicjlohcaaSl0
import Derived.Test.YtaddblicjlohcaaSl6
import Derived.Test.YtaddblicjlohcaaSl7
import Derived.Test.YtaddblicjlohcaaSl9
import Derived.Test.YtaddblicjlohcaaSl10
namespace Go.Proofs.Ytaddblicjlohcaa.Sl
open Go.RowKit Go.Proofs.YtaddblicjlohcaaW.PrintWords Go.Proofs.YtaddblicjlohcaaW.PrintLast Go.Proofs.YtaddblicjlohcaaW.PrintMore
attribute [local go_sem] max2_int min2_int max_two min_two max_three min_three max_four min_four   -- for this text's walks alone
set_option linter.unusedVariables false
set_option linter.unusedSimpArgs false

/-! ### rialtolaw02_same: function 46 -/
def rialtolaw02_same.l0 : Nat → List ByteArray → List ByteArray → Int → Option (Bool)
  | 0, _, _, _ => none
  | k + 1, x0, x1, x5 => if x5 < (x0.length : Int) then (if 0 ≤ x5 then (if x5 < (x1.length : Int) then (if (rdOf ByteArray.empty x0 x5).toList = (rdOf ByteArray.empty x1 x5).toList then (rialtolaw02_same.l0 k x0 x1 (wrap64 (x5 + 1))) else (some false)) else (none)) else (none)) else (some true)
def rialtolaw02_same.f (k : Nat) (l0 : List ByteArray) (l1 : List ByteArray) : Option (Bool) := if (l0.length : Int) = (l1.length : Int) then (rialtolaw02_same.l0 k l0 l1 0) else (some false)
theorem rialtolaw02_same.mono_l : ∀ k, (∀ y0 y1 y2, LeO (rialtolaw02_same.l0 k y0 y1 y2) (rialtolaw02_same.l0 (k + 1) y0 y1 y2))
  | 0 => fun _ _ _ r h => by simp [rialtolaw02_same.l0] at h
  | k + 1 => by
    have ih0 := rialtolaw02_same.mono_l k
    · intro y0 y1 y2
      unfold rialtolaw02_same.l0
      repeat' first
      | (with_reducible exact ih0 _ _ _)
      | (with_reducible exact LeO.refl _)
      | (with_reducible exact LeO.none _)
      | (with_reducible refine LeO.ite ?_ ?_)
      | (with_reducible refine LeO.bind ?_ (fun _ => ?_))
      | exact ih0 _ _ _
      | exact LeO.none _
      | refine LeO.ite ?_ ?_
      | refine LeO.bind ?_ (fun _ => ?_)
theorem rialtolaw02_same.mono : ∀ a0 a1 k, LeO (rialtolaw02_same.f k a0 a1) (rialtolaw02_same.f (k + 1) a0 a1) := by
  intro a0 a1 k
  have ih0 := rialtolaw02_same.mono_l k
  unfold rialtolaw02_same.f
  repeat' first
      | (with_reducible exact ih0 _ _ _)
      | (with_reducible exact LeO.refl _)
      | (with_reducible exact LeO.none _)
      | (with_reducible refine LeO.ite ?_ ?_)
      | (with_reducible refine LeO.bind ?_ (fun _ => ?_))
      | exact ih0 _ _ _
      | exact LeO.none _
      | refine LeO.ite ?_ ?_
      | refine LeO.bind ?_ (fun _ => ?_)
set_option maxHeartbeats 8000000 in
set_option maxRecDepth 100000 in
theorem rialtolaw02_same.calls (k : Nat) (A0 : Option Addr) (c0 : Nat) (l0 : List ByteArray) (A1 : Option Addr) (c1 : Nat) (l1 : List ByteArray) (r : Bool) (w : World) (hr0 : Kd.C Kd.string w A0 l0.length l0) (hc0 : l0.length ≤ c0) (hr1 : Kd.C Kd.string w A1 l1.length l1) (hc1 : l1.length ≤ c1) (h : rialtolaw02_same.f k l0 l1 = some r) :
    Calls Try.prog 46 #[.slice A0 l0.length c0, .slice A1 l1.length c1] w fun e w' => e = .returned (.bool r) ∧ Drawn0 w w' := by
  have HR0 := Aside0.mk hr0
  have HC0 := Aside0.mk hc0
  clear hr0 hc0
  have HR1 := Aside0.mk hr1
  have HC1 := Aside0.mk hc1
  clear hr1 hc1
  have H : (if (l0.length : Int) = (l1.length : Int) then (rialtolaw02_same.l0 k l0 l1 0) else (some false)) = some r := h
  clear h
  by_cases c3 : (l0.length : Int) = (l1.length : Int)
  · rw [if_pos c3] at H
    have c3b0 : ((l0.length : Int) == (l1.length : Int)) = true := beq_iff_eq.mpr c3
    have c3b1 : ((l0.length : Int) != (l1.length : Int)) = false := bne_eq_false_iff_eq.mpr c3
    have c3b2 : (l0.length == l1.length) = true := by first | simpa using c3 | (simp at c3 ⊢; omega)
    clear c3
    have H' := Aside0.mk H
    clear H
    go_enter Try.func46, Try.ntmps46
    go_wp2
    repeat (go_quiet (fail); try go_wp2)
    go_loopg [5] k (fun kq v5 w' => ∃ (x5_1 : Int), v5 = .int .i64 x5_1 ∧ Aside0 (rialtolaw02_same.l0 kq l0 l1 x5_1 = some r) ∧ Aside0 (kq ≤ k) ∧ Drawn0 w w')
    case atStart => exact ⟨(0), (by first | rfl | (simp; done) | (simp [*]; done)), H', ⟨Nat.le_refl _⟩, by repeat (first | exact Drawn0.refl _ | apply Drawn0.step)⟩
    case round =>
      clear H'
      try clear c1
      try clear p2
      try clear c3
      try clear c3b0
      try clear c3b1
      try clear c3b2
      obtain ⟨x5_1, rfl, HA, HK1, ⟨m1, rfl⟩⟩ := hrel
      cases gk with
      | zero => exact absurd HA.out (by simp [rialtolaw02_same.l0])
      | succ k1 =>
        have H := HA.out
        clear HA
        simp only [rialtolaw02_same.l0] at H
        by_cases c4 : x5_1 < (l0.length : Int)
        · rw [if_pos c4] at H
          have c4b0 : decide (x5_1 < (l0.length : Int)) = true := decide_eq_true c4
          clear c4
          by_cases c5 : 0 ≤ x5_1
          · rw [if_pos c5] at H
            have c5b0 : decide (0 ≤ x5_1) = true := decide_eq_true c5
            clear c5
            by_cases c6 : x5_1 < (l1.length : Int)
            · rw [if_pos c6] at H
              have c6b0 : decide (x5_1 < (l1.length : Int)) = true := decide_eq_true c6
              clear c6
              by_cases c7 : (rdOf ByteArray.empty l0 x5_1).toList = (rdOf ByteArray.empty l1 x5_1).toList
              · rw [if_pos c7] at H
                have c7b0 : ((rdOf ByteArray.empty l0 x5_1).toList == (rdOf ByteArray.empty l1 x5_1).toList) = true := beq_iff_eq.mpr c7
                have c7b1 : ((rdOf ByteArray.empty l0 x5_1).toList != (rdOf ByteArray.empty l1 x5_1).toList) = false := bne_eq_false_iff_eq.mpr c7
                clear c7
                have H' := Aside0.mk H
                clear H
                have p148 : 0 ≤ (x5_1 : Int) := of_decide_eq_true (by first | (with_reducible assumption) | assumption)
                have q148 : x5_1 < (l0.length : Int) := of_decide_eq_true (by first | (with_reducible assumption) | assumption)
                obtain ⟨ad148, e148, hx148_0⟩ := Kd.at_string HR0.out x5_1 p148 q148
                cases e148
                replace p148 := eq_true p148
                replace q148 := eq_true q148
                have p149 : 0 ≤ (x5_1 : Int) := of_decide_eq_true (by first | (with_reducible assumption) | assumption)
                have q149 : x5_1 < (l1.length : Int) := of_decide_eq_true (by first | (with_reducible assumption) | assumption)
                obtain ⟨ad149, e149, hx149_0⟩ := Kd.at_string HR1.out x5_1 p149 q149
                cases e149
                replace p149 := eq_true p149
                replace q149 := eq_true q149
                go_wp2
                repeat (go_quiet (fail); try go_wp2)
                go_roundg k1
                case measure => have := HK1.out; omega
                case rel => exact ⟨(wrap64 (x5_1 + 1)), (by first | rfl | (simp; done) | (simp [*]; done)), H', ⟨by have := HK1.out; omega⟩, by repeat (first | exact Drawn0.refl _ | apply Drawn0.step)⟩
              · rw [if_neg c7] at H
                have c7b0 : ((rdOf ByteArray.empty l0 x5_1).toList == (rdOf ByteArray.empty l1 x5_1).toList) = false := beq_eq_false_iff_ne.mpr c7
                have c7b1 : ((rdOf ByteArray.empty l0 x5_1).toList != (rdOf ByteArray.empty l1 x5_1).toList) = true := bne_iff_ne.mpr c7
                obtain rfl := Option.some.inj H
                have p148 : 0 ≤ (x5_1 : Int) := of_decide_eq_true (by first | (with_reducible assumption) | assumption)
                have q148 : x5_1 < (l0.length : Int) := of_decide_eq_true (by first | (with_reducible assumption) | assumption)
                obtain ⟨ad148, e148, hx148_0⟩ := Kd.at_string HR0.out x5_1 p148 q148
                cases e148
                replace p148 := eq_true p148
                replace q148 := eq_true q148
                have p149 : 0 ≤ (x5_1 : Int) := of_decide_eq_true (by first | (with_reducible assumption) | assumption)
                have q149 : x5_1 < (l1.length : Int) := of_decide_eq_true (by first | (with_reducible assumption) | assumption)
                obtain ⟨ad149, e149, hx149_0⟩ := Kd.at_string HR1.out x5_1 p149 q149
                cases e149
                replace p149 := eq_true p149
                replace q149 := eq_true q149
                go_wp2
                repeat (go_quiet (fail); try go_wp2)
                go_ret
                exact ⟨by first | rfl | (simp; done) | (simp [*]; done), by repeat (first | exact Drawn0.refl _ | apply Drawn0.step)⟩
            · rw [if_neg c6] at H
              exact absurd H (by simp)
          · rw [if_neg c5] at H
            exact absurd H (by simp)
        · rw [if_neg c4] at H
          have c4b0 : decide (x5_1 < (l0.length : Int)) = false := decide_eq_false c4
          clear c4
          obtain rfl := Option.some.inj H
          go_wp2
          repeat (go_quiet (fail); try go_wp2)
          go_ret
          exact ⟨by first | rfl | (simp; done) | (simp [*]; done), by repeat (first | exact Drawn0.refl _ | apply Drawn0.step)⟩
  · rw [if_neg c3] at H
    have c3b0 : ((l0.length : Int) == (l1.length : Int)) = false := beq_eq_false_iff_ne.mpr c3
    have c3b1 : ((l0.length : Int) != (l1.length : Int)) = true := bne_iff_ne.mpr c3
    have c3b2 : (l0.length == l1.length) = false := by first | simpa using c3 | (simp at c3 ⊢; omega)
    obtain rfl := Option.some.inj H
    go_enter Try.func46, Try.ntmps46
    go_wp2
    repeat (go_quiet (fail); try go_wp2)
    go_ret
    exact ⟨by first | rfl | (simp; done) | (simp [*]; done), by repeat (first | exact Drawn0.refl _ | apply Drawn0.step)⟩

/-! ### rialtolaw02_SealReads: function 11 -/
mutual
def rialtolaw02_SealReads.l0 : Nat → ByteArray → ByteArray → Int → Int → ByteArray → Int → Int → List ByteArray → Int → Int → Option (Bool)
  | 0, _, _, _, _, _, _, _, _, _, _ => none
  | k + 1, x0, x5, x6, x7, x8, x9, x10, x11, x12, x13 => if x13 < 2 then ((seal_Frames.f k x0).bind fun bt161 => ((rialtolaw02_same.f k bt161.1 x11).bind fun t165 => (if t165 = true then (rialtolaw02_SealReads.j1 k x0 x5 x6 x7 x8 x9 x10 x11 x12 x13 bt161.1 (bt161.2 != x12)) else (rialtolaw02_SealReads.j1 k x0 x5 x6 x7 x8 x9 x10 x11 x12 x13 bt161.1 true)))) else ((rialtolaw02_live.f).bind fun t160 => (if t160 = true then (if x5.toList = x8.toList then (if x6 = x9 then (some (x7 == x10)) else (some false)) else (some false)) else (some false)))
def rialtolaw02_SealReads.j1 : Nat → ByteArray → ByteArray → Int → Int → ByteArray → Int → Int → List ByteArray → Int → Int → List ByteArray → Bool → Option (Bool)
  | 0, _, _, _, _, _, _, _, _, _, _, _, _ => none
  | k + 1, x0, x5, x6, x7, x8, x9, x10, x11, x12, x13, x14, x53 => if x53 = true then (some false) else (rialtolaw02_SealReads.l1 k x0 x5 x6 x7 x8 x9 x10 x11 x12 x13 x14 0)
def rialtolaw02_SealReads.l1 : Nat → ByteArray → ByteArray → Int → Int → ByteArray → Int → Int → List ByteArray → Int → Int → List ByteArray → Int → Option (Bool)
  | 0, _, _, _, _, _, _, _, _, _, _, _, _ => none
  | k + 1, x0, x5, x6, x7, x8, x9, x10, x11, x12, x13, x14, x16 => if x16 < (x14.length : Int) then (if 0 ≤ x16 then (rialtolaw02_SealReads.l1 k x0 x5 x6 x7 x8 x9 x10 x11 x12 x13 (x14.set (x16 : Int).toNat (⟨#[119, 114, 105, 116, 116, 101, 110]⟩ : ByteArray)) (wrap64 (x16 + 1))) else (none)) else (rialtolaw02_SealReads.l0 k x0 x5 x6 x7 x8 x9 x10 x11 x12 (wrap64 (x13 + 1)))
end
def rialtolaw02_SealReads.f (k : Nat) (a0 : ByteArray) (a1 : Int) : Option (Bool) := (seal_Unframe.f a0 a1).bind fun bt150 => ((rialtoref02_Unframe.f k a0 a1).bind fun bt153 => ((rialtoref02_Frames.f k a0).bind fun bt156 => (rialtolaw02_SealReads.l0 k a0 bt150.1 bt150.2.1 bt150.2.2 bt153.1 bt153.2.1 bt153.2.2 bt156.1 bt156.2 0)))
theorem rialtolaw02_SealReads.mono_l : ∀ k, (∀ y0 y1 y2 y3 y4 y5 y6 y7 y8 y9, LeO (rialtolaw02_SealReads.l0 k y0 y1 y2 y3 y4 y5 y6 y7 y8 y9) (rialtolaw02_SealReads.l0 (k + 1) y0 y1 y2 y3 y4 y5 y6 y7 y8 y9)) ∧ (∀ y0 y1 y2 y3 y4 y5 y6 y7 y8 y9 y10 y11, LeO (rialtolaw02_SealReads.j1 k y0 y1 y2 y3 y4 y5 y6 y7 y8 y9 y10 y11) (rialtolaw02_SealReads.j1 (k + 1) y0 y1 y2 y3 y4 y5 y6 y7 y8 y9 y10 y11)) ∧ (∀ y0 y1 y2 y3 y4 y5 y6 y7 y8 y9 y10 y11, LeO (rialtolaw02_SealReads.l1 k y0 y1 y2 y3 y4 y5 y6 y7 y8 y9 y10 y11) (rialtolaw02_SealReads.l1 (k + 1) y0 y1 y2 y3 y4 y5 y6 y7 y8 y9 y10 y11))
  | 0 => ⟨fun _ _ _ _ _ _ _ _ _ _ r h => by simp [rialtolaw02_SealReads.l0] at h, fun _ _ _ _ _ _ _ _ _ _ _ _ r h => by simp [rialtolaw02_SealReads.j1] at h, fun _ _ _ _ _ _ _ _ _ _ _ _ r h => by simp [rialtolaw02_SealReads.l1] at h⟩
  | k + 1 => by
    obtain ⟨ih0, ih1, ih2⟩ := rialtolaw02_SealReads.mono_l k
    refine ⟨?_, ?_, ?_⟩
    · intro y0 y1 y2 y3 y4 y5 y6 y7 y8 y9
      unfold rialtolaw02_SealReads.l0
      repeat' first
      | (with_reducible exact ih0 _ _ _ _ _ _ _ _ _ _)
      | (with_reducible exact ih1 _ _ _ _ _ _ _ _ _ _ _ _)
      | (with_reducible exact ih2 _ _ _ _ _ _ _ _ _ _ _ _)
      | (with_reducible exact rialtolaw02_same.mono _ _ _)
      | (with_reducible exact rialtoref02_Frames.mono _ _)
      | (with_reducible exact rialtoref02_Unframe.mono _ _ _)
      | (with_reducible exact seal_Frames.mono _ _)
      | (with_reducible exact LeO.refl _)
      | (with_reducible exact LeO.none _)
      | (with_reducible refine LeO.ite ?_ ?_)
      | (with_reducible refine LeO.bind ?_ (fun _ => ?_))
      | exact ih0 _ _ _ _ _ _ _ _ _ _
      | exact ih1 _ _ _ _ _ _ _ _ _ _ _ _
      | exact ih2 _ _ _ _ _ _ _ _ _ _ _ _
      | exact rialtolaw02_same.mono _ _ _
      | exact rialtoref02_Frames.mono _ _
      | exact rialtoref02_Unframe.mono _ _ _
      | exact seal_Frames.mono _ _
      | exact LeO.none _
      | refine LeO.ite ?_ ?_
      | refine LeO.bind ?_ (fun _ => ?_)
    · intro y0 y1 y2 y3 y4 y5 y6 y7 y8 y9 y10 y11
      unfold rialtolaw02_SealReads.j1
      repeat' first
      | (with_reducible exact ih0 _ _ _ _ _ _ _ _ _ _)
      | (with_reducible exact ih1 _ _ _ _ _ _ _ _ _ _ _ _)
      | (with_reducible exact ih2 _ _ _ _ _ _ _ _ _ _ _ _)
      | (with_reducible exact rialtolaw02_same.mono _ _ _)
      | (with_reducible exact rialtoref02_Frames.mono _ _)
      | (with_reducible exact rialtoref02_Unframe.mono _ _ _)
      | (with_reducible exact seal_Frames.mono _ _)
      | (with_reducible exact LeO.refl _)
      | (with_reducible exact LeO.none _)
      | (with_reducible refine LeO.ite ?_ ?_)
      | (with_reducible refine LeO.bind ?_ (fun _ => ?_))
      | exact ih0 _ _ _ _ _ _ _ _ _ _
      | exact ih1 _ _ _ _ _ _ _ _ _ _ _ _
      | exact ih2 _ _ _ _ _ _ _ _ _ _ _ _
      | exact rialtolaw02_same.mono _ _ _
      | exact rialtoref02_Frames.mono _ _
      | exact rialtoref02_Unframe.mono _ _ _
      | exact seal_Frames.mono _ _
      | exact LeO.none _
      | refine LeO.ite ?_ ?_
      | refine LeO.bind ?_ (fun _ => ?_)
    · intro y0 y1 y2 y3 y4 y5 y6 y7 y8 y9 y10 y11
      unfold rialtolaw02_SealReads.l1
      repeat' first
      | (with_reducible exact ih0 _ _ _ _ _ _ _ _ _ _)
      | (with_reducible exact ih1 _ _ _ _ _ _ _ _ _ _ _ _)
      | (with_reducible exact ih2 _ _ _ _ _ _ _ _ _ _ _ _)
      | (with_reducible exact rialtolaw02_same.mono _ _ _)
      | (with_reducible exact rialtoref02_Frames.mono _ _)
      | (with_reducible exact rialtoref02_Unframe.mono _ _ _)
      | (with_reducible exact seal_Frames.mono _ _)
      | (with_reducible exact LeO.refl _)
      | (with_reducible exact LeO.none _)
      | (with_reducible refine LeO.ite ?_ ?_)
      | (with_reducible refine LeO.bind ?_ (fun _ => ?_))
      | exact ih0 _ _ _ _ _ _ _ _ _ _
      | exact ih1 _ _ _ _ _ _ _ _ _ _ _ _
      | exact ih2 _ _ _ _ _ _ _ _ _ _ _ _
      | exact rialtolaw02_same.mono _ _ _
      | exact rialtoref02_Frames.mono _ _
      | exact rialtoref02_Unframe.mono _ _ _
      | exact seal_Frames.mono _ _
      | exact LeO.none _
      | refine LeO.ite ?_ ?_
      | refine LeO.bind ?_ (fun _ => ?_)
theorem rialtolaw02_SealReads.mono : ∀ a0 a1 k, LeO (rialtolaw02_SealReads.f k a0 a1) (rialtolaw02_SealReads.f (k + 1) a0 a1) := by
  intro a0 a1 k
  obtain ⟨ih0, ih1, ih2⟩ := rialtolaw02_SealReads.mono_l k
  unfold rialtolaw02_SealReads.f
  repeat' first
      | (with_reducible exact ih0 _ _ _ _ _ _ _ _ _ _)
      | (with_reducible exact ih1 _ _ _ _ _ _ _ _ _ _ _ _)
      | (with_reducible exact ih2 _ _ _ _ _ _ _ _ _ _ _ _)
      | (with_reducible exact rialtolaw02_same.mono _ _ _)
      | (with_reducible exact rialtoref02_Frames.mono _ _)
      | (with_reducible exact rialtoref02_Unframe.mono _ _ _)
      | (with_reducible exact seal_Frames.mono _ _)
      | (with_reducible exact LeO.refl _)
      | (with_reducible exact LeO.none _)
      | (with_reducible refine LeO.ite ?_ ?_)
      | (with_reducible refine LeO.bind ?_ (fun _ => ?_))
      | exact ih0 _ _ _ _ _ _ _ _ _ _
      | exact ih1 _ _ _ _ _ _ _ _ _ _ _ _
      | exact ih2 _ _ _ _ _ _ _ _ _ _ _ _
      | exact rialtolaw02_same.mono _ _ _
      | exact rialtoref02_Frames.mono _ _
      | exact rialtoref02_Unframe.mono _ _ _
      | exact seal_Frames.mono _ _
      | exact LeO.none _
      | refine LeO.ite ?_ ?_
      | refine LeO.bind ?_ (fun _ => ?_)
set_option maxHeartbeats 8000000 in
set_option maxRecDepth 100000 in
theorem rialtolaw02_SealReads.calls (k : Nat) (a0 : ByteArray) (a1 : Int) (r : Bool) (w : World) (h : rialtolaw02_SealReads.f k a0 a1 = some r) :
    Calls Try.prog 11 #[.string a0, .int .i64 a1] w fun e w' => e = .returned (.bool r) ∧ Below w.heap.size w w' := by
  have HB := Aside0.mk (Below.refl w.heap.size w)
  have H : ((seal_Unframe.f a0 a1).bind fun bt150 => ((rialtoref02_Unframe.f k a0 a1).bind fun bt153 => ((rialtoref02_Frames.f k a0).bind fun bt156 => (rialtolaw02_SealReads.l0 k a0 bt150.1 bt150.2.1 bt150.2.2 bt153.1 bt153.2.1 bt153.2.2 bt156.1 bt156.2 0)))) = some r := h
  clear h
  replace H := Option.bind_eq_some_iff.mp H
  obtain ⟨⟨t150, t151, t152⟩, A30, H⟩ := H
  replace H : ((rialtoref02_Unframe.f k a0 a1).bind fun bt153 => ((rialtoref02_Frames.f k a0).bind fun bt156 => (rialtolaw02_SealReads.l0 k a0 t150 t151 t152 bt153.1 bt153.2.1 bt153.2.2 bt156.1 bt156.2 0))) = some r := H
  have A3 := Aside0.mk A30
  clear A30
  replace H := Option.bind_eq_some_iff.mp H
  obtain ⟨⟨t153, t154, t155⟩, A40, H⟩ := H
  replace H : ((rialtoref02_Frames.f k a0).bind fun bt156 => (rialtolaw02_SealReads.l0 k a0 t150 t151 t152 t153 t154 t155 bt156.1 bt156.2 0)) = some r := H
  have A4 := Aside0.mk A40
  clear A40
  replace H := Option.bind_eq_some_iff.mp H
  obtain ⟨⟨t156, t157⟩, A50, H⟩ := H
  replace H : (rialtolaw02_SealReads.l0 k a0 t150 t151 t152 t153 t154 t155 t156 t157 0) = some r := H
  have A5 := Aside0.mk A50
  clear A50
  have H' := Aside0.mk H
  clear H
  go_enter Try.func11, Try.ntmps11
  go_wp2_with (first | ((with_reducible refine gate_callee (f := 42) rfl ?_); refine goesL_ (some 20) rfl rfl Try.func42 (by kernel_rfl) rfl #[.string a0, .int .i64 a1] rfl (by (try simp only [List.map_toArray, List.map_cons, List.map_nil]); first | done | rfl | (simp only [List.length_drop, List.length_take]; rfl)) ?_; (with_reducible refine (seal_Unframe.calls a0 a1 t150 t151 t152 _ A3.out).mono ?_); rintro e w6 ⟨rfl, hb⟩; refine ⟨_, rfl, ?_⟩; have n0_ := Aside0.mk (below_step (by repeat (first | (with_reducible first | exact HB.out | apply below_alloc | apply pw_below_drewN | apply below_drew1) | exact HB.out)) hb); clear HB; have HB := n0_; clear n0_; (try clear hb); (try clear hb2); (try clear hk); (try clear hi)) | ((with_reducible refine gate_callee (f := 43) rfl ?_); refine goesL_ (some 27) rfl rfl Try.func43 (by kernel_rfl) rfl #[.string a0, .int .i64 a1] rfl (by (try simp only [List.map_toArray, List.map_cons, List.map_nil]); first | done | rfl | (simp only [List.length_drop, List.length_take]; rfl)) ?_; (with_reducible refine (rialtoref02_Unframe.calls k a0 a1 t153 t154 t155 _ A4.out).mono ?_); rintro e w' ⟨rfl, ⟨nd, rfl⟩⟩; refine ⟨_, rfl, ?_⟩) | ((with_reducible refine gate_callee (f := 44) rfl ?_); refine goesL_ (some 33) rfl rfl Try.func44 (by kernel_rfl) rfl #[.string a0] rfl (by (try simp only [List.map_toArray, List.map_cons, List.map_nil]); first | done | rfl | (simp only [List.length_drop, List.length_take]; rfl)) ?_; (with_reducible refine (rialtoref02_Frames.calls k a0 t156 t157 _ A5.out).mono ?_); rintro e w7 ⟨v158, rfl, ho0, hb⟩; refine ⟨_, rfl, ?_⟩; have n0_ := Aside0.mk (Kd.R_lower ho0 (below_size (by repeat (first | (with_reducible first | exact HB.out | apply below_alloc | apply pw_below_drewN | apply below_drew1) | exact HB.out)))); have n1_ := Aside0.mk (below_step (by repeat (first | (with_reducible first | exact HB.out | apply below_alloc | apply pw_below_drewN | apply below_drew1) | exact HB.out)) hb); clear HB; have HO159 := n0_; have HB := n1_; clear n0_ n1_; (try clear hb); (try clear hb2); (try clear hk); (try clear hi); (try clear ho0)))
  go_loopg [13] k (fun kq v13 w' => ∃ (x11_1 : List ByteArray) (x13_1 : Int), v13 = .int .i64 x13_1 ∧ Aside0 (rialtolaw02_SealReads.l0 kq a0 t150 t151 t152 t153 t154 t155 x11_1 t157 x13_1 = some r) ∧ Aside0 (kq ≤ k) ∧ Aside0 (Kd.R Kd.string 9 w' w.heap.size (fun _ => True) v158 x11_1) ∧ Aside0 (Below w.heap.size w w'))
  case atStart => exact ⟨(t156), (0), (by first | rfl | (simp; done) | (simp [*]; done)), H', ⟨Nat.le_refl _⟩, ⟨by (with_reducible repeat (first | apply Kd.R_alloc | apply Kd.R_drewN | apply Kd.R_drew)); exact HO159.out⟩, ⟨by repeat (first | (with_reducible first | exact HB.out | apply below_alloc | apply pw_below_drewN | apply below_drew1) | exact HB.out)⟩⟩
  case round =>
    clear H'
    try clear c1
    try clear p2
    try clear c4
    obtain ⟨x11_1, x13_1, rfl, HA, HK1, HO_11, HB⟩ := hrel
    cases gk with
    | zero => exact absurd HA.out (by simp [rialtolaw02_SealReads.l0])
    | succ k1 =>
      have H := HA.out
      clear HA
      simp only [rialtolaw02_SealReads.l0] at H
      by_cases c8 : x13_1 < 2
      · rw [if_pos c8] at H
        have c8b0 : decide (x13_1 < 2) = true := decide_eq_true c8
        clear c8
        replace H := Option.bind_eq_some_iff.mp H
        obtain ⟨⟨t161, t162⟩, A90, H⟩ := H
        replace H : ((rialtolaw02_same.f k1 t161 x11_1).bind fun t165 => (if t165 = true then (rialtolaw02_SealReads.j1 k1 a0 t150 t151 t152 t153 t154 t155 x11_1 t157 x13_1 t161 (t162 != t157)) else (rialtolaw02_SealReads.j1 k1 a0 t150 t151 t152 t153 t154 t155 x11_1 t157 x13_1 t161 true))) = some r := H
        have A9 := Aside0.mk A90
        clear A90
        have HC10 := Aside0.mk H
        clear H
        go_upto_region 8 with (first | ((with_reducible refine gate_callee (f := 45) rfl ?_); refine goesL_ (some 42) rfl rfl Try.func45 (by kernel_rfl) rfl #[.string a0] rfl (by (try simp only [List.map_toArray, List.map_cons, List.map_nil]); first | done | rfl | (simp only [List.length_drop, List.length_take]; rfl)) ?_; (with_reducible refine (seal_Frames.calls k1 a0 t161 t162 _ A9.out).mono ?_); rintro e w11 ⟨v163, rfl, ho0, hb⟩; refine ⟨_, rfl, ?_⟩; have n0_ := Aside0.mk (Kd.R_elder' (by (with_reducible repeat (first | apply Kd.R_alloc | apply Kd.R_drewN | apply Kd.R_drew)); exact HO_11.out) (Kd.R_base ho0) hb); have n1_ := Aside0.mk (Kd.R_lower (Kd.R_new' ho0 (Kd.R_lt (by (with_reducible repeat (first | apply Kd.R_alloc | apply Kd.R_drewN | apply Kd.R_drew)); exact HO_11.out))) (below_size (by repeat (first | (with_reducible first | exact HB.out | apply below_alloc | apply pw_below_drewN | apply below_drew1) | exact HB.out)))); have n2_ := Aside0.mk (below_step (by repeat (first | (with_reducible first | exact HB.out | apply below_alloc | apply pw_below_drewN | apply below_drew1) | exact HB.out)) hb); clear HO_11; clear HB; have HO_11 := n0_; have HO164 := n1_; have HB := n2_; clear n0_ n1_ n2_; (try clear hb); (try clear hb2); (try clear hk); (try clear hi); (try clear ho0)))
        (try simp only [Act.put, List.setIfInBounds_toArray, List.set_cons_zero, List.set_cons_succ])
        go_cut [53] (fun v53 wc => ∃ (kq : Nat) (x53_9 : Bool), v53 = .bool x53_9 ∧ Aside0 (rialtolaw02_SealReads.j1 kq a0 t150 t151 t152 t153 t154 t155 x11_1 t157 x13_1 t161 x53_9 = some r) ∧ Aside0 (kq ≤ k1) ∧ Aside0 (Kd.R Kd.string 9 wc w.heap.size (fun k_ => some k_ ≠ (v163 : Value).ownBlock) v158 x11_1) ∧ Aside0 (Kd.R Kd.string 9 wc w.heap.size (fun k_ => some k_ ≠ (v158 : Value).ownBlock) v163 t161) ∧ Aside0 (Below w.heap.size w wc))
        case first =>
          have H := HC10.out
          clear HC10
          replace H := Option.bind_eq_some_iff.mp H
          obtain ⟨t165, A120, H⟩ := H
          replace H : (if t165 = true then (rialtolaw02_SealReads.j1 k1 a0 t150 t151 t152 t153 t154 t155 x11_1 t157 x13_1 t161 (t162 != t157)) else (rialtolaw02_SealReads.j1 k1 a0 t150 t151 t152 t153 t154 t155 x11_1 t157 x13_1 t161 true)) = some r := H
          have A12 := Aside0.mk A120
          clear A120
          by_cases c13 : t165 = true
          · subst c13
            have H1 : (rialtolaw02_SealReads.j1 k1 a0 t150 t151 t152 t153 t154 t155 x11_1 t157 x13_1 t161 (t162 != t157)) = some r := by rw [if_pos rfl] at H; exact H
            clear H
            have H := H1
            clear H1
            have H' := Aside0.mk H
            clear H
            obtain ⟨Ao14, co14, eo14⟩ := Kd.R_slice HO164.out
            subst eo14
            obtain ⟨Ao15, co15, eo15⟩ := Kd.R_slice HO_11.out
            subst eo15
            go_wp2_with (first | ((with_reducible refine gate_callee (f := 46) rfl ?_); refine goesL_ (some 47) rfl rfl Try.func46 (by kernel_rfl) rfl #[.slice Ao14 t161.length co14, .slice Ao15 x11_1.length co15] rfl (by (try simp only [List.map_toArray, List.map_cons, List.map_nil]); first | done | rfl | (simp only [List.length_drop, List.length_take]; rfl)) ?_; (with_reducible refine (rialtolaw02_same.calls k1 _ _ t161 _ _ x11_1 true _ ?side1 ?side2 ?side3 ?side4 A12.out).mono ?_); (case side1 => repeat (first | exact (Kd.R_reads' HO164.out).2.2 | (with_reducible refine Kd.C_alloc ?_ _) | (with_reducible refine Kd.C_drewN ?_ _) | (with_reducible refine Kd.C_drew ?_))); (case side2 => exact (Kd.R_reads' HO164.out).2.1); (case side3 => repeat (first | exact (Kd.R_reads' HO_11.out).2.2 | (with_reducible refine Kd.C_alloc ?_ _) | (with_reducible refine Kd.C_drewN ?_ _) | (with_reducible refine Kd.C_drew ?_))); (case side4 => exact (Kd.R_reads' HO_11.out).2.1); rintro e w' ⟨rfl, ⟨nd, rfl⟩⟩; refine ⟨_, rfl, ?_⟩))
            go_meet
            case rel => exact ⟨_, ((t162 != t157)), (by first | rfl | (simp; done) | (simp [*]; done)), H', ⟨by have := HK1.out; first | omega | exact Nat.le_refl _⟩, ⟨by (with_reducible repeat (first | apply Kd.R_alloc | apply Kd.R_drewN | apply Kd.R_drew)); exact Kd.R_mono HO_11.out (fun _ hk => hk.2)⟩, ⟨by (with_reducible repeat (first | apply Kd.R_alloc | apply Kd.R_drewN | apply Kd.R_drew)); exact Kd.R_mono HO164.out (fun _ hk => hk.2)⟩, ⟨by repeat (first | (with_reducible first | exact HB.out | apply below_alloc | apply pw_below_drewN | apply below_drew1) | exact HB.out)⟩⟩
          · replace c13 := Bool.eq_false_iff.mpr c13
            subst c13
            have H1 : (rialtolaw02_SealReads.j1 k1 a0 t150 t151 t152 t153 t154 t155 x11_1 t157 x13_1 t161 true) = some r := by rw [if_neg (show ¬ (false = true) by decide)] at H; exact H
            clear H
            have H := H1
            clear H1
            have H' := Aside0.mk H
            clear H
            obtain ⟨Ao16, co16, eo16⟩ := Kd.R_slice HO164.out
            subst eo16
            obtain ⟨Ao17, co17, eo17⟩ := Kd.R_slice HO_11.out
            subst eo17
            go_wp2_with (first | ((with_reducible refine gate_callee (f := 46) rfl ?_); refine goesL_ (some 47) rfl rfl Try.func46 (by kernel_rfl) rfl #[.slice Ao16 t161.length co16, .slice Ao17 x11_1.length co17] rfl (by (try simp only [List.map_toArray, List.map_cons, List.map_nil]); first | done | rfl | (simp only [List.length_drop, List.length_take]; rfl)) ?_; (with_reducible refine (rialtolaw02_same.calls k1 _ _ t161 _ _ x11_1 false _ ?side1 ?side2 ?side3 ?side4 A12.out).mono ?_); (case side1 => repeat (first | exact (Kd.R_reads' HO164.out).2.2 | (with_reducible refine Kd.C_alloc ?_ _) | (with_reducible refine Kd.C_drewN ?_ _) | (with_reducible refine Kd.C_drew ?_))); (case side2 => exact (Kd.R_reads' HO164.out).2.1); (case side3 => repeat (first | exact (Kd.R_reads' HO_11.out).2.2 | (with_reducible refine Kd.C_alloc ?_ _) | (with_reducible refine Kd.C_drewN ?_ _) | (with_reducible refine Kd.C_drew ?_))); (case side4 => exact (Kd.R_reads' HO_11.out).2.1); rintro e w' ⟨rfl, ⟨nd, rfl⟩⟩; refine ⟨_, rfl, ?_⟩))
            go_meet
            case rel => exact ⟨_, (true), (by first | rfl | (simp; done) | (simp [*]; done)), H', ⟨by have := HK1.out; first | omega | exact Nat.le_refl _⟩, ⟨by (with_reducible repeat (first | apply Kd.R_alloc | apply Kd.R_drewN | apply Kd.R_drew)); exact Kd.R_mono HO_11.out (fun _ hk => hk.2)⟩, ⟨by (with_reducible repeat (first | apply Kd.R_alloc | apply Kd.R_drewN | apply Kd.R_drew)); exact Kd.R_mono HO164.out (fun _ hk => hk.2)⟩, ⟨by repeat (first | (with_reducible first | exact HB.out | apply below_alloc | apply pw_below_drewN | apply below_drew1) | exact HB.out)⟩⟩
        case rest =>
          clear HC10
          try clear c1
          try clear p2
          try clear c4
          try clear c8
          try clear c8b0
          try clear c11
          try clear c13
          try clear p2
          obtain ⟨kq, x53_9, rfl, HA, HJ9, HO_11, HO_14, HB⟩ := hcut
          cases kq with
          | zero => exact absurd HA.out (by simp [rialtolaw02_SealReads.j1])
          | succ kj9 =>
            have H := HA.out
            clear HA
            simp only [rialtolaw02_SealReads.j1] at H
            by_cases c18 : x53_9 = true
            · subst c18
              have H1 : (some false) = some r := by rw [if_pos rfl] at H; exact H
              clear H
              have H := H1
              clear H1
              obtain rfl := Option.some.inj H
              go_wp2
              go_ret
              exact ⟨by first | rfl | (simp [errW_none, errW_some] <;> rfl) | (simp [*, errW_none, errW_some] <;> rfl), by repeat (first | (with_reducible first | exact HB.out | apply below_alloc | apply pw_below_drewN | apply below_drew1) | exact HB.out)⟩
            · replace c18 := Bool.eq_false_iff.mpr c18
              subst c18
              have H1 : (rialtolaw02_SealReads.l1 kj9 a0 t150 t151 t152 t153 t154 t155 x11_1 t157 x13_1 t161 0) = some r := by rw [if_neg (show ¬ (false = true) by decide)] at H; exact H
              clear H
              have H := H1
              clear H1
              have H' := Aside0.mk H
              clear H
              go_wp2
              go_loopg [16] kj9 (fun kq v16 w' => ∃ (x14_3 : List ByteArray) (x16_3 : Int), v16 = .int .i64 x16_3 ∧ Aside0 (rialtolaw02_SealReads.l1 kq a0 t150 t151 t152 t153 t154 t155 x11_1 t157 x13_1 x14_3 x16_3 = some r) ∧ Aside0 (kq ≤ kj9) ∧ Aside0 (Kd.R Kd.string 9 w' w.heap.size (fun k_ => some k_ ≠ (v163 : Value).ownBlock) v158 x11_1) ∧ Aside0 (Kd.R Kd.string 9 w' w.heap.size (fun k_ => some k_ ≠ (v158 : Value).ownBlock) v163 x14_3) ∧ Aside0 (Below w.heap.size w w'))
              case atStart => exact ⟨(t161), (0), (by first | rfl | (simp; done) | (simp [*]; done)), H', ⟨Nat.le_refl _⟩, ⟨by (with_reducible repeat (first | apply Kd.R_alloc | apply Kd.R_drewN | apply Kd.R_drew)); exact HO_11.out⟩, ⟨by (with_reducible repeat (first | apply Kd.R_alloc | apply Kd.R_drewN | apply Kd.R_drew)); exact HO_14.out⟩, ⟨by repeat (first | (with_reducible first | exact HB.out | apply below_alloc | apply pw_below_drewN | apply below_drew1) | exact HB.out)⟩⟩
              case round =>
                clear H'
                try clear c1
                try clear p2
                try clear c4
                try clear c8
                try clear c8b0
                try clear c11
                try clear c13
                try clear c18
                try clear p2
                obtain ⟨x14_3, x16_3, rfl, HA, HK3, HO_11, HO_14, HB⟩ := hrel
                cases gk with
                | zero => exact absurd HA.out (by simp [rialtolaw02_SealReads.l1])
                | succ k3 =>
                  have H := HA.out
                  clear HA
                  simp only [rialtolaw02_SealReads.l1] at H
                  by_cases c19 : x16_3 < (x14_3.length : Int)
                  · rw [if_pos c19] at H
                    have c19b0 : decide (x16_3 < (x14_3.length : Int)) = true := decide_eq_true c19
                    clear c19
                    by_cases c20 : 0 ≤ x16_3
                    · rw [if_pos c20] at H
                      have c20b0 : decide (0 ≤ x16_3) = true := decide_eq_true c20
                      clear c20
                      obtain ⟨y166, hy166⟩ : ∃ y_ : List ByteArray, y_ = (x14_3.set (x16_3 : Int).toNat (⟨#[119, 114, 105, 116, 116, 101, 110]⟩ : ByteArray)) := ⟨_, rfl⟩
                      replace H : (rialtolaw02_SealReads.l1 k3 a0 t150 t151 t152 t153 t154 t155 x11_1 t157 x13_1 y166 (wrap64 (x16_3 + 1))) = some r := by first | (rw [hy166]; with_reducible exact H) | (have H2_ := (Option.bind_some _ _).symm.trans H; rw [hy166]; with_reducible exact H2_) | (have H2_ := (Option.bind_some _ _).symm.trans H; with_reducible exact H2_) | with_reducible exact H | (rw [hy166]; exact H) | exact H
                      have Ny166 := Aside0.mk hy166
                      clear hy166
                      have H' := Aside0.mk H
                      clear H
                      obtain ⟨Ao22, co22, eo22⟩ := Kd.R_slice HO_14.out
                      subst eo22
                      have p21 : 0 ≤ (x16_3 : Int) := of_decide_eq_true (by first | (with_reducible assumption) | assumption)
                      have q21 : (x16_3 : Int) < ((x14_3.length : Int) : Int) := of_decide_eq_true (by first | (with_reducible assumption) | assumption)
                      obtain ⟨go21, co21, eo21, gb21, gl21, cl21, HG21⟩ := Kd.R_form HO_14.out (by omega)
                      (first | cases eo21 | (injection eo21 with ea_ en_ ec_; (first | subst ea_ | (injection ea_ with ea_; subst ea_)); subst ec_; clear en_))
                      have GB21 := Aside0.mk gb21
                      have GG21 := Aside0.mk HG21
                      clear gb21 gl21 HG21
                      obtain ⟨hx21_0, hf21_0⟩ := Kd.R_celln (⟨#[]⟩ : ByteArray) HO_14.out (x16_3 : Int) p21 q21
                      replace p21 := eq_true p21
                      replace q21 := eq_true q21
                      have HP23 := Kd.R_putg HO_14.out (x16_3 : Int) (⟨#[119, 114, 105, 116, 116, 101, 110]⟩ : ByteArray)
                      go_wp2_with (first | ((with_reducible refine gate_store (t := 9) (p := 62) rfl ?_); refine store_event (t := 9) (p := 62) (v := ?vo_w24) (w1 := (wr.setCell ⟨go21, (x16_3 : Int).toNat, none⟩ (.string (⟨#[119, 114, 105, 116, 116, 101, 110]⟩ : ByteArray)))) ?hg ?ho ?hn ?hr ?_; (case ho => rfl); (case hg => rfl); (case hn => rfl); (case hr => first | (go_simp; done) | (go_simp; rfl)); intro w24 hw; have hg : wr.grownBy w24 (some go21) := (by rw [hw]; exact HP23.2); have hp_ : Kd.R Kd.string 9 w24 w.heap.size (fun k_ => some k_ ≠ (v158 : Value).ownBlock) (.slice (some ⟨go21, 0, none⟩) x14_3.length co22) y166 := (by rw [hw, Ny166.out]; exact HP23.1); clear HP23; have n0_ := Aside0.mk (Kd.R_after (v := (.slice (some ⟨go21, 0, none⟩) x14_3.length co22)) (v1 := (.slice (some ⟨go21, 0, none⟩) x14_3.length co22)) (ok := (fun _ => True)) (by (with_reducible repeat (first | apply Kd.R_alloc | apply Kd.R_drewN | apply Kd.R_drew)); exact Kd.R_mono HO_11.out (fun _ hk => ⟨trivial, hk⟩)) hg (.inl rfl)); have n1_ := Aside0.mk (hp_); have n2_ := Aside0.mk ((by rw [hw]; exact below_set (HB.out) GB21.out : Below w.heap.size w w24)); clear HO_11; clear HO_14; clear HB; have HO_11 := n0_; have HO_14 := n1_; have HB := n2_; clear n0_ n1_ n2_; clear hg hw hp_))
                      go_roundg k3
                      case measure => have := HK1.out; have := HJ9.out; have := HK3.out; omega
                      case rel => exact ⟨(y166), (wrap64 (x16_3 + 1)), (by first | rfl | (simp; done) | (simp [*]; done)), H', ⟨by have := HK1.out; have := HJ9.out; have := HK3.out; omega⟩, ⟨by (with_reducible repeat (first | apply Kd.R_alloc | apply Kd.R_drewN | apply Kd.R_drew)); exact Kd.R_mono HO_11.out (fun _ hk => hk.2)⟩, ⟨by (with_reducible repeat (first | apply Kd.R_alloc | apply Kd.R_drewN | apply Kd.R_drew)); exact HO_14.out⟩, ⟨by repeat (first | (with_reducible first | exact HB.out | apply below_alloc | apply pw_below_drewN | apply below_drew1) | exact HB.out)⟩⟩
                    · rw [if_neg c20] at H
                      exact absurd H (by simp)
                  · rw [if_neg c19] at H
                    have c19b0 : decide (x16_3 < (x14_3.length : Int)) = false := decide_eq_false c19
                    clear c19
                    have H' := Aside0.mk H
                    clear H
                    obtain ⟨Ao25, co25, eo25⟩ := Kd.R_slice HO_14.out
                    subst eo25
                    go_wp2
                    go_roundg k3
                    case measure => have := HK1.out; have := HJ9.out; have := HK3.out; omega
                    case rel => exact ⟨(x11_1), (wrap64 (x13_1 + 1)), (by first | rfl | (simp; done) | (simp [*]; done)), H', ⟨by have := HK1.out; have := HJ9.out; have := HK3.out; omega⟩, ⟨by (with_reducible repeat (first | apply Kd.R_alloc | apply Kd.R_drewN | apply Kd.R_drew)); exact Kd.R_mono HO_11.out (fun _ hk => trivial)⟩, ⟨by repeat (first | (with_reducible first | exact HB.out | apply below_alloc | apply pw_below_drewN | apply below_drew1) | exact HB.out)⟩⟩
      · rw [if_neg c8] at H
        have c8b0 : decide (x13_1 < 2) = false := decide_eq_false c8
        clear c8
        replace H := Option.bind_eq_some_iff.mp H
        obtain ⟨t160, A260, H⟩ := H
        replace H : (if t160 = true then (if t150.toList = t153.toList then (if t151 = t154 then (some (t152 == t155)) else (some false)) else (some false)) else (some false)) = some r := H
        have A26 := Aside0.mk A260
        clear A260
        by_cases c27 : t160 = true
        · subst c27
          have H1 : (if t150.toList = t153.toList then (if t151 = t154 then (some (t152 == t155)) else (some false)) else (some false)) = some r := by rw [if_pos rfl] at H; exact H
          clear H
          have H := H1
          clear H1
          by_cases c28 : t150.toList = t153.toList
          · rw [if_pos c28] at H
            have c28b0 : (t150.toList == t153.toList) = true := beq_iff_eq.mpr c28
            have c28b1 : (t150.toList != t153.toList) = false := bne_eq_false_iff_eq.mpr c28
            clear c28
            by_cases c29 : t151 = t154
            · rw [if_pos c29] at H
              have c29b0 : (t151 == t154) = true := beq_iff_eq.mpr c29
              have c29b1 : (t151 != t154) = false := bne_eq_false_iff_eq.mpr c29
              clear c29
              obtain rfl := Option.some.inj H
              go_wp2_with (first | ((with_reducible refine gate_callee (f := 38) rfl ?_); refine goesL_ (some 63) rfl rfl Try.func38 (by kernel_rfl) rfl #[] rfl (by (try simp only [List.map_toArray, List.map_cons, List.map_nil]); first | done | rfl | (simp only [List.length_drop, List.length_take]; rfl)) ?_; (with_reducible refine (rialtolaw02_live.calls  true _ A26.out).mono ?_); rintro e w30 ⟨rfl, hb⟩; refine ⟨_, rfl, ?_⟩; have n0_ := Aside0.mk (Kd.R_below (by (with_reducible repeat (first | apply Kd.R_alloc | apply Kd.R_drewN | apply Kd.R_drew)); exact HO_11.out) hb); have n1_ := Aside0.mk (below_step (by repeat (first | (with_reducible first | exact HB.out | apply below_alloc | apply pw_below_drewN | apply below_drew1) | exact HB.out)) hb); clear HO_11; clear HB; have HO_11 := n0_; have HB := n1_; clear n0_ n1_; (try clear hb); (try clear hb2); (try clear hk); (try clear hi)))
              go_ret
              exact ⟨by first | rfl | (simp [errW_none, errW_some] <;> rfl) | (simp [*, errW_none, errW_some] <;> rfl), by repeat (first | (with_reducible first | exact HB.out | apply below_alloc | apply pw_below_drewN | apply below_drew1) | exact HB.out)⟩
            · rw [if_neg c29] at H
              have c29b0 : (t151 == t154) = false := beq_eq_false_iff_ne.mpr c29
              have c29b1 : (t151 != t154) = true := bne_iff_ne.mpr c29
              obtain rfl := Option.some.inj H
              go_wp2_with (first | ((with_reducible refine gate_callee (f := 38) rfl ?_); refine goesL_ (some 63) rfl rfl Try.func38 (by kernel_rfl) rfl #[] rfl (by (try simp only [List.map_toArray, List.map_cons, List.map_nil]); first | done | rfl | (simp only [List.length_drop, List.length_take]; rfl)) ?_; (with_reducible refine (rialtolaw02_live.calls  true _ A26.out).mono ?_); rintro e w31 ⟨rfl, hb⟩; refine ⟨_, rfl, ?_⟩; have n0_ := Aside0.mk (Kd.R_below (by (with_reducible repeat (first | apply Kd.R_alloc | apply Kd.R_drewN | apply Kd.R_drew)); exact HO_11.out) hb); have n1_ := Aside0.mk (below_step (by repeat (first | (with_reducible first | exact HB.out | apply below_alloc | apply pw_below_drewN | apply below_drew1) | exact HB.out)) hb); clear HO_11; clear HB; have HO_11 := n0_; have HB := n1_; clear n0_ n1_; (try clear hb); (try clear hb2); (try clear hk); (try clear hi)))
              go_ret
              exact ⟨by first | rfl | (simp [errW_none, errW_some] <;> rfl) | (simp [*, errW_none, errW_some] <;> rfl), by repeat (first | (with_reducible first | exact HB.out | apply below_alloc | apply pw_below_drewN | apply below_drew1) | exact HB.out)⟩
          · rw [if_neg c28] at H
            have c28b0 : (t150.toList == t153.toList) = false := beq_eq_false_iff_ne.mpr c28
            have c28b1 : (t150.toList != t153.toList) = true := bne_iff_ne.mpr c28
            obtain rfl := Option.some.inj H
            go_wp2_with (first | ((with_reducible refine gate_callee (f := 38) rfl ?_); refine goesL_ (some 63) rfl rfl Try.func38 (by kernel_rfl) rfl #[] rfl (by (try simp only [List.map_toArray, List.map_cons, List.map_nil]); first | done | rfl | (simp only [List.length_drop, List.length_take]; rfl)) ?_; (with_reducible refine (rialtolaw02_live.calls  true _ A26.out).mono ?_); rintro e w32 ⟨rfl, hb⟩; refine ⟨_, rfl, ?_⟩; have n0_ := Aside0.mk (Kd.R_below (by (with_reducible repeat (first | apply Kd.R_alloc | apply Kd.R_drewN | apply Kd.R_drew)); exact HO_11.out) hb); have n1_ := Aside0.mk (below_step (by repeat (first | (with_reducible first | exact HB.out | apply below_alloc | apply pw_below_drewN | apply below_drew1) | exact HB.out)) hb); clear HO_11; clear HB; have HO_11 := n0_; have HB := n1_; clear n0_ n1_; (try clear hb); (try clear hb2); (try clear hk); (try clear hi)))
            go_ret
            exact ⟨by first | rfl | (simp [errW_none, errW_some] <;> rfl) | (simp [*, errW_none, errW_some] <;> rfl), by repeat (first | (with_reducible first | exact HB.out | apply below_alloc | apply pw_below_drewN | apply below_drew1) | exact HB.out)⟩
        · replace c27 := Bool.eq_false_iff.mpr c27
          subst c27
          have H1 : (some false) = some r := by rw [if_neg (show ¬ (false = true) by decide)] at H; exact H
          clear H
          have H := H1
          clear H1
          obtain rfl := Option.some.inj H
          go_wp2_with (first | ((with_reducible refine gate_callee (f := 38) rfl ?_); refine goesL_ (some 63) rfl rfl Try.func38 (by kernel_rfl) rfl #[] rfl (by (try simp only [List.map_toArray, List.map_cons, List.map_nil]); first | done | rfl | (simp only [List.length_drop, List.length_take]; rfl)) ?_; (with_reducible refine (rialtolaw02_live.calls  false _ A26.out).mono ?_); rintro e w33 ⟨rfl, hb⟩; refine ⟨_, rfl, ?_⟩; have n0_ := Aside0.mk (Kd.R_below (by (with_reducible repeat (first | apply Kd.R_alloc | apply Kd.R_drewN | apply Kd.R_drew)); exact HO_11.out) hb); have n1_ := Aside0.mk (below_step (by repeat (first | (with_reducible first | exact HB.out | apply below_alloc | apply pw_below_drewN | apply below_drew1) | exact HB.out)) hb); clear HO_11; clear HB; have HO_11 := n0_; have HB := n1_; clear n0_ n1_; (try clear hb); (try clear hb2); (try clear hk); (try clear hi)))
          go_ret
          exact ⟨by first | rfl | (simp [errW_none, errW_some] <;> rfl) | (simp [*, errW_none, errW_some] <;> rfl), by repeat (first | (with_reducible first | exact HB.out | apply below_alloc | apply pw_below_drewN | apply below_drew1) | exact HB.out)⟩

/-- THE ONE PURE STATEMENT of rialtolaw02_SealReads: yours. -/
def rialtolaw02_SealReads.Pure : Prop := ∀ (a0 : ByteArray) (a1 : Int), a0.size ≤ 140737488351232 → (Lit.int .i64 a1).wf = true → ∃ k, rialtolaw02_SealReads.f k a0 a1 = some true
theorem rialtolaw02_SealReads.walk (P : rialtolaw02_SealReads.Pure) (a0 : ByteArray) (a1 : Int) (w : World) (w0 : a0.size ≤ 140737488351232) (w1 : (Lit.int .i64 a1).wf = true) :
    Calls Try.prog 11 #[.string a0, .int .i64 a1] w fun e w' => e = .returned (.bool true) ∧ Below w.heap.size w w' := by
  obtain ⟨k, h⟩ := P a0 a1 w0 w1
  refine (rialtolaw02_SealReads.calls k a0 a1 true w h).mono ?_
  rintro e w' ⟨rfl, hd⟩
  exact ⟨rfl, hd⟩

end Go.Proofs.Ytaddblicjlohcaa.Sl
