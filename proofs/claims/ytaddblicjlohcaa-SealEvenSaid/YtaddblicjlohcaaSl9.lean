/- Functions of the given program as Lean functions, each with a proof that a call of it comes to what its Lean function says. Written by a program (wip/tools/myprint.py over the kit's print). No conditions. -/
import Derived.Test.YtaddblicjlohcaaSl0
import Derived.Test.YtaddblicjlohcaaSl2
import Derived.Test.YtaddblicjlohcaaSl3
import Derived.Test.YtaddblicjlohcaaSl6
import Derived.Test.YtaddblicjlohcaaSl7
import Derived.Test.YtaddblicjlohcaaSl8
namespace Go.Proofs.Ytaddblicjlohcaa.Sl
open Go.RowKit Go.Proofs.YtaddblicjlohcaaW.PrintWords Go.Proofs.YtaddblicjlohcaaW.PrintLast Go.Proofs.YtaddblicjlohcaaW.PrintMore
attribute [local go_sem] max2_int min2_int max_two min_two max_three min_three max_four min_four   -- for this text's walks alone
set_option linter.unusedVariables false
set_option linter.unusedSimpArgs false

/-! ### rialtolaw02_SealTurned: function 9 -/
def rialtolaw02_SealTurned.j0 : Nat → ByteArray → Int → Int → ByteArray → Option (Bool)
  | 0, _, _, _, _ => none
  | k + 1, x0, x1, x2, x7 => if 4 ≤ 8 then (if 8 ≤ (x7.size : Int) then ((rialtolaw02_turned.f (x7.extract 4 8) x1 x2).bind fun bt132 => (if bt132.2 = true then (if 0 ≤ 4 then (if 4 ≤ (x7.size : Int) then (if (x7.extract 0 4).size + bt132.1.size ≤ 9223372036854775807 then (if ((x7.extract 0 4) ++ bt132.1).size + x0.size ≤ 9223372036854775807 then ((seal_Unframe.f (((x7.extract 0 4) ++ bt132.1) ++ x0) 0).bind fun bt134 => (if bt134.2.2 = 21 then ((rialtolaw02_live.f).bind fun t137 => (some t137)) else (some false))) else (none)) else (none)) else (none)) else (none)) else ((rialtolaw02_live.f).bind fun t138 => (some t138)))) else (none)) else (none)
def rialtolaw02_SealTurned.f (k : Nat) (a0 : ByteArray) (a1 : Int) (a2 : Int) : Option (Bool) := (seal_Frame.f a0).bind fun bt124 => (if bt124.2 = 0 then (if (bt124.1.size : Int) < 8 then (some false) else ((rialtolaw02_turned.f a0 a1 a2).bind fun bt127 => (if bt127.2 = true then (if 0 ≤ 8 then (if 8 ≤ (bt124.1.size : Int) then (if (bt124.1.extract 0 8).size + bt127.1.size ≤ 9223372036854775807 then ((seal_Unframe.f ((bt124.1.extract 0 8) ++ bt127.1) 0).bind fun bt129 => (if bt129.2.2 = 21 then (rialtolaw02_SealTurned.j0 k a0 a1 a2 bt124.1) else (some false))) else (none)) else (none)) else (none)) else (rialtolaw02_SealTurned.j0 k a0 a1 a2 bt124.1)))) else ((rialtolaw02_live.f).bind fun t126 => (if t126 = true then (some (decide ((a0.size : Int) > 70000))) else (some false))))
theorem rialtolaw02_SealTurned.mono_l : ∀ k, (∀ y0 y1 y2 y3, LeO (rialtolaw02_SealTurned.j0 k y0 y1 y2 y3) (rialtolaw02_SealTurned.j0 (k + 1) y0 y1 y2 y3))
  | 0 => fun _ _ _ _ r h => by simp [rialtolaw02_SealTurned.j0] at h
  | k + 1 => by
    have ih0 := rialtolaw02_SealTurned.mono_l k
    · intro y0 y1 y2 y3
      unfold rialtolaw02_SealTurned.j0
      repeat' first
      | (with_reducible exact ih0 _ _ _ _)
      | (with_reducible exact LeO.refl _)
      | (with_reducible exact LeO.none _)
      | (with_reducible refine LeO.ite ?_ ?_)
      | (with_reducible refine LeO.bind ?_ (fun _ => ?_))
      | exact ih0 _ _ _ _
      | exact LeO.none _
      | refine LeO.ite ?_ ?_
      | refine LeO.bind ?_ (fun _ => ?_)
theorem rialtolaw02_SealTurned.mono : ∀ a0 a1 a2 k, LeO (rialtolaw02_SealTurned.f k a0 a1 a2) (rialtolaw02_SealTurned.f (k + 1) a0 a1 a2) := by
  intro a0 a1 a2 k
  have ih0 := rialtolaw02_SealTurned.mono_l k
  unfold rialtolaw02_SealTurned.f
  repeat' first
      | (with_reducible exact ih0 _ _ _ _)
      | (with_reducible exact LeO.refl _)
      | (with_reducible exact LeO.none _)
      | (with_reducible refine LeO.ite ?_ ?_)
      | (with_reducible refine LeO.bind ?_ (fun _ => ?_))
      | exact ih0 _ _ _ _
      | exact LeO.none _
      | refine LeO.ite ?_ ?_
      | refine LeO.bind ?_ (fun _ => ?_)
set_option maxHeartbeats 8000000 in
set_option maxRecDepth 100000 in
theorem rialtolaw02_SealTurned.calls (k : Nat) (a0 : ByteArray) (a1 : Int) (a2 : Int) (r : Bool) (w : World) (h : rialtolaw02_SealTurned.f k a0 a1 a2 = some r) :
    Calls Try.prog 9 #[.string a0, .int .i64 a1, .int .u32 a2] w fun e w' => e = .returned (.bool r) ∧ Below w.heap.size w w' := by
  have HB := Aside0.mk (Below.refl w.heap.size w)
  have H : ((seal_Frame.f a0).bind fun bt124 => (if bt124.2 = 0 then (if (bt124.1.size : Int) < 8 then (some false) else ((rialtolaw02_turned.f a0 a1 a2).bind fun bt127 => (if bt127.2 = true then (if 0 ≤ 8 then (if 8 ≤ (bt124.1.size : Int) then (if (bt124.1.extract 0 8).size + bt127.1.size ≤ 9223372036854775807 then ((seal_Unframe.f ((bt124.1.extract 0 8) ++ bt127.1) 0).bind fun bt129 => (if bt129.2.2 = 21 then (rialtolaw02_SealTurned.j0 k a0 a1 a2 bt124.1) else (some false))) else (none)) else (none)) else (none)) else (rialtolaw02_SealTurned.j0 k a0 a1 a2 bt124.1)))) else ((rialtolaw02_live.f).bind fun t126 => (if t126 = true then (some (decide ((a0.size : Int) > 70000))) else (some false))))) = some r := h
  clear h
  replace H := Option.bind_eq_some_iff.mp H
  obtain ⟨⟨t124, t125⟩, A40, H⟩ := H
  replace H : (if t125 = 0 then (if (t124.size : Int) < 8 then (some false) else ((rialtolaw02_turned.f a0 a1 a2).bind fun bt127 => (if bt127.2 = true then (if 0 ≤ 8 then (if 8 ≤ (t124.size : Int) then (if (t124.extract 0 8).size + bt127.1.size ≤ 9223372036854775807 then ((seal_Unframe.f ((t124.extract 0 8) ++ bt127.1) 0).bind fun bt129 => (if bt129.2.2 = 21 then (rialtolaw02_SealTurned.j0 k a0 a1 a2 t124) else (some false))) else (none)) else (none)) else (none)) else (rialtolaw02_SealTurned.j0 k a0 a1 a2 t124)))) else ((rialtolaw02_live.f).bind fun t126 => (if t126 = true then (some (decide ((a0.size : Int) > 70000))) else (some false)))) = some r := H
  have A4 := Aside0.mk A40
  clear A40
  by_cases c5 : t125 = 0
  · rw [if_pos c5] at H
    have c5b0 : (t125 == 0) = true := beq_iff_eq.mpr c5
    have c5b1 : (t125 != 0) = false := bne_eq_false_iff_eq.mpr c5
    clear c5
    by_cases c6 : (t124.size : Int) < 8
    · rw [if_pos c6] at H
      have c6b0 : decide ((t124.size : Int) < 8) = true := decide_eq_true c6
      have c6b1 : decide (t124.size < 8) = true := decide_eq_true (by omega)
      clear c6
      obtain rfl := Option.some.inj H
      go_enter Try.func9, Try.ntmps9
      go_wp2_with (first | ((with_reducible refine gate_callee (f := 36) rfl ?_); refine goesL_ (some 21) rfl rfl Try.func36 (by kernel_rfl) rfl #[.string a0] rfl (by (try simp only [List.map_toArray, List.map_cons, List.map_nil]); first | done | rfl | (simp only [List.length_drop, List.length_take]; rfl)) ?_; (with_reducible refine (seal_Frame.calls a0 t124 t125 _ A4.out).mono ?_); rintro e w7 ⟨rfl, hb⟩; refine ⟨_, rfl, ?_⟩; have n0_ := Aside0.mk (below_step (by repeat (first | (with_reducible first | exact HB.out | apply below_alloc | apply pw_below_drewN | apply below_drew1) | exact HB.out)) hb); clear HB; have HB := n0_; clear n0_; (try clear hb); (try clear hb2); (try clear hk); (try clear hi)))
      go_ret
      exact ⟨by first | rfl | (simp [errW_none, errW_some] <;> rfl) | (simp [*, errW_none, errW_some] <;> rfl), by repeat (first | (with_reducible first | exact HB.out | apply below_alloc | apply pw_below_drewN | apply below_drew1) | exact HB.out)⟩
    · rw [if_neg c6] at H
      have c6b0 : decide ((t124.size : Int) < 8) = false := decide_eq_false c6
      have c6b1 : decide (t124.size < 8) = false := decide_eq_false (by omega)
      clear c6
      replace H := Option.bind_eq_some_iff.mp H
      obtain ⟨⟨t127, t128⟩, A80, H⟩ := H
      replace H : (if t128 = true then (if 0 ≤ 8 then (if 8 ≤ (t124.size : Int) then (if (t124.extract 0 8).size + t127.size ≤ 9223372036854775807 then ((seal_Unframe.f ((t124.extract 0 8) ++ t127) 0).bind fun bt129 => (if bt129.2.2 = 21 then (rialtolaw02_SealTurned.j0 k a0 a1 a2 t124) else (some false))) else (none)) else (none)) else (none)) else (rialtolaw02_SealTurned.j0 k a0 a1 a2 t124)) = some r := H
      have A8 := Aside0.mk A80
      clear A80
      have HC9 := Aside0.mk H
      clear H
      go_enter Try.func9, Try.ntmps9
      go_upto_if 42 with (first | ((with_reducible refine gate_callee (f := 36) rfl ?_); refine goesL_ (some 21) rfl rfl Try.func36 (by kernel_rfl) rfl #[.string a0] rfl (by (try simp only [List.map_toArray, List.map_cons, List.map_nil]); first | done | rfl | (simp only [List.length_drop, List.length_take]; rfl)) ?_; (with_reducible refine (seal_Frame.calls a0 t124 t125 _ A4.out).mono ?_); rintro e w10 ⟨rfl, hb⟩; refine ⟨_, rfl, ?_⟩; have n0_ := Aside0.mk (below_step (by repeat (first | (with_reducible first | exact HB.out | apply below_alloc | apply pw_below_drewN | apply below_drew1) | exact HB.out)) hb); clear HB; have HB := n0_; clear n0_; (try clear hb); (try clear hb2); (try clear hk); (try clear hi)) | ((with_reducible refine gate_callee (f := 41) rfl ?_); refine goesL_ (some 39) rfl rfl Try.func41 (by kernel_rfl) rfl #[.string a0, .int .i64 a1, .int .u32 a2] rfl (by (try simp only [List.map_toArray, List.map_cons, List.map_nil]); first | done | rfl | (simp only [List.length_drop, List.length_take]; rfl)) ?_; (with_reducible refine (rialtolaw02_turned.calls a0 a1 a2 t127 t128 _ A8.out).mono ?_); rintro e w11 ⟨rfl, hb⟩; refine ⟨_, rfl, ?_⟩; have n0_ := Aside0.mk (below_step (by repeat (first | (with_reducible first | exact HB.out | apply below_alloc | apply pw_below_drewN | apply below_drew1) | exact HB.out)) hb); clear HB; have HB := n0_; clear n0_; (try clear hb); (try clear hb2); (try clear hk); (try clear hi)))
      (try simp only [Act.put, List.setIfInBounds_toArray, List.set_cons_zero, List.set_cons_succ])
      go_cut [] (fun wc => ∃ (kq : Nat), Aside0 (rialtolaw02_SealTurned.j0 kq a0 a1 a2 t124 = some r) ∧ Aside0 (kq ≤ k) ∧ Aside0 (Below w.heap.size w wc))
      case first =>
        have H := HC9.out
        clear HC9
        by_cases c12 : t128 = true
        · subst c12
          have H1 : (if 0 ≤ 8 then (if 8 ≤ (t124.size : Int) then (if (t124.extract 0 8).size + t127.size ≤ 9223372036854775807 then ((seal_Unframe.f ((t124.extract 0 8) ++ t127) 0).bind fun bt129 => (if bt129.2.2 = 21 then (rialtolaw02_SealTurned.j0 k a0 a1 a2 t124) else (some false))) else (none)) else (none)) else (none)) = some r := by rw [if_pos rfl] at H; exact H
          clear H
          have H := H1
          clear H1
          by_cases c13 : 0 ≤ 8
          · rw [if_pos c13] at H
            have c13b0 := eq_true c13
            have c13b1 : decide (0 ≤ 8) = true := decide_eq_true c13
            clear c13
            by_cases c14 : 8 ≤ (t124.size : Int)
            · rw [if_pos c14] at H
              have c14b0 := eq_true c14
              have c14b1 : decide (8 ≤ (t124.size : Int)) = true := decide_eq_true c14
              clear c14
              by_cases c15 : (t124.extract 0 8).size + t127.size ≤ 9223372036854775807
              · rw [if_pos c15] at H
                have c15b0 := eq_true c15
                have c15b1 : decide ((t124.extract 0 8).size + t127.size ≤ 9223372036854775807) = true := decide_eq_true c15
                try have c15b2 : (9223372036854775807 < (t124.extract 0 8).size + t127.size) = False := eq_false (Nat.not_lt.2 c15)
                replace H := Option.bind_eq_some_iff.mp H
                obtain ⟨⟨t129, t130, t131⟩, A160, H⟩ := H
                replace H : (if t131 = 21 then (rialtolaw02_SealTurned.j0 k a0 a1 a2 t124) else (some false)) = some r := H
                have A16 := Aside0.mk A160
                clear A160
                by_cases c17 : t131 = 21
                · rw [if_pos c17] at H
                  have c17b0 : (t131 == 21) = true := beq_iff_eq.mpr c17
                  have c17b1 : (t131 != 21) = false := bne_eq_false_iff_eq.mpr c17
                  clear c17
                  (first | rw [c17b0] | (simp only [i64_w, i32_w]; rw [c17b0]) | skip)
                  have H' := Aside0.mk H
                  clear H
                  go_wp2_with (first | ((with_reducible refine gate_callee (f := 42) rfl ?_); refine goesL_ (some 48) rfl rfl Try.func42 (by kernel_rfl) rfl #[.string ((t124.extract 0 8) ++ t127), .int .i64 0] rfl (by (try simp only [List.map_toArray, List.map_cons, List.map_nil]); first | done | rfl | (simp only [List.length_drop, List.length_take]; rfl)) ?_; (with_reducible refine (seal_Unframe.calls ((t124.extract 0 8) ++ t127) 0 t129 t130 t131 _ A16.out).mono ?_); rintro e w18 ⟨rfl, hb⟩; refine ⟨_, rfl, ?_⟩; have n0_ := Aside0.mk (below_step (by repeat (first | (with_reducible first | exact HB.out | apply below_alloc | apply pw_below_drewN | apply below_drew1) | exact HB.out)) hb); clear HB; have HB := n0_; clear n0_; (try clear hb); (try clear hb2); (try clear hk); (try clear hi)))
                  go_meet
                  case rel => exact ⟨_, H', ⟨by first | omega | exact Nat.le_refl _⟩, ⟨by repeat (first | (with_reducible first | exact HB.out | apply below_alloc | apply pw_below_drewN | apply below_drew1) | exact HB.out)⟩⟩
                · rw [if_neg c17] at H
                  have c17b0 : (t131 == 21) = false := beq_eq_false_iff_ne.mpr c17
                  have c17b1 : (t131 != 21) = true := bne_iff_ne.mpr c17
                  (first | rw [c17b0] | (simp only [i64_w, i32_w]; rw [c17b0]) | skip)
                  obtain rfl := Option.some.inj H
                  go_wp2_with (first | ((with_reducible refine gate_callee (f := 42) rfl ?_); refine goesL_ (some 48) rfl rfl Try.func42 (by kernel_rfl) rfl #[.string ((t124.extract 0 8) ++ t127), .int .i64 0] rfl (by (try simp only [List.map_toArray, List.map_cons, List.map_nil]); first | done | rfl | (simp only [List.length_drop, List.length_take]; rfl)) ?_; (with_reducible refine (seal_Unframe.calls ((t124.extract 0 8) ++ t127) 0 t129 t130 t131 _ A16.out).mono ?_); rintro e w19 ⟨rfl, hb⟩; refine ⟨_, rfl, ?_⟩; have n0_ := Aside0.mk (below_step (by repeat (first | (with_reducible first | exact HB.out | apply below_alloc | apply pw_below_drewN | apply below_drew1) | exact HB.out)) hb); clear HB; have HB := n0_; clear n0_; (try clear hb); (try clear hb2); (try clear hk); (try clear hi)))
                  go_ret
                  exact ⟨by first | rfl | (simp [errW_none, errW_some] <;> rfl) | (simp [*, errW_none, errW_some] <;> rfl), by repeat (first | (with_reducible first | exact HB.out | apply below_alloc | apply pw_below_drewN | apply below_drew1) | exact HB.out)⟩
              · rw [if_neg c15] at H
                exact absurd H (by simp)
            · rw [if_neg c14] at H
              exact absurd H (by simp)
          · rw [if_neg c13] at H
            exact absurd H (by simp)
        · replace c12 := Bool.eq_false_iff.mpr c12
          subst c12
          have H1 : (rialtolaw02_SealTurned.j0 k a0 a1 a2 t124) = some r := by rw [if_neg (show ¬ (false = true) by decide)] at H; exact H
          clear H
          have H := H1
          clear H1
          have H' := Aside0.mk H
          clear H
          go_wp2
          go_meet
          case rel => exact ⟨_, H', ⟨by first | omega | exact Nat.le_refl _⟩, ⟨by repeat (first | (with_reducible first | exact HB.out | apply below_alloc | apply pw_below_drewN | apply below_drew1) | exact HB.out)⟩⟩
      case rest =>
        clear HC9
        try clear c1
        try clear p2
        try clear c3
        try clear c4
        try clear c5
        try clear c5b0
        try clear c5b1
        try clear c6
        try clear c6b0
        try clear c6b1
        try clear c9
        try clear c12
        try clear c13
        try clear c13b0
        try clear c13b1
        try clear c14
        try clear c14b0
        try clear c14b1
        try clear c15
        try clear c15b0
        try clear c15b1
        try clear c15b2
        try clear c17
        try clear c17b0
        try clear c17b1
        obtain ⟨kq, HA, HJ8, HB⟩ := hcut
        cases kq with
        | zero => exact absurd HA.out (by simp [rialtolaw02_SealTurned.j0])
        | succ kj8 =>
          have H := HA.out
          clear HA
          simp only [rialtolaw02_SealTurned.j0] at H
          by_cases c20 : 4 ≤ 8
          · rw [if_pos c20] at H
            have c20b0 := eq_true c20
            have c20b1 : decide (4 ≤ 8) = true := decide_eq_true c20
            clear c20
            by_cases c21 : 8 ≤ (t124.size : Int)
            · rw [if_pos c21] at H
              have c21b0 := eq_true c21
              have c21b1 : decide (8 ≤ (t124.size : Int)) = true := decide_eq_true c21
              clear c21
              replace H := Option.bind_eq_some_iff.mp H
              obtain ⟨⟨t132, t133⟩, A220, H⟩ := H
              replace H : (if t133 = true then (if 0 ≤ 4 then (if 4 ≤ (t124.size : Int) then (if (t124.extract 0 4).size + t132.size ≤ 9223372036854775807 then (if ((t124.extract 0 4) ++ t132).size + a0.size ≤ 9223372036854775807 then ((seal_Unframe.f (((t124.extract 0 4) ++ t132) ++ a0) 0).bind fun bt134 => (if bt134.2.2 = 21 then ((rialtolaw02_live.f).bind fun t137 => (some t137)) else (some false))) else (none)) else (none)) else (none)) else (none)) else ((rialtolaw02_live.f).bind fun t138 => (some t138))) = some r := H
              have A22 := Aside0.mk A220
              clear A220
              by_cases c23 : t133 = true
              · subst c23
                have H1 : (if 0 ≤ 4 then (if 4 ≤ (t124.size : Int) then (if (t124.extract 0 4).size + t132.size ≤ 9223372036854775807 then (if ((t124.extract 0 4) ++ t132).size + a0.size ≤ 9223372036854775807 then ((seal_Unframe.f (((t124.extract 0 4) ++ t132) ++ a0) 0).bind fun bt134 => (if bt134.2.2 = 21 then ((rialtolaw02_live.f).bind fun t137 => (some t137)) else (some false))) else (none)) else (none)) else (none)) else (none)) = some r := by rw [if_pos rfl] at H; exact H
                clear H
                have H := H1
                clear H1
                by_cases c24 : 0 ≤ 4
                · rw [if_pos c24] at H
                  have c24b0 := eq_true c24
                  have c24b1 : decide (0 ≤ 4) = true := decide_eq_true c24
                  clear c24
                  by_cases c25 : 4 ≤ (t124.size : Int)
                  · rw [if_pos c25] at H
                    have c25b0 := eq_true c25
                    have c25b1 : decide (4 ≤ (t124.size : Int)) = true := decide_eq_true c25
                    clear c25
                    by_cases c26 : (t124.extract 0 4).size + t132.size ≤ 9223372036854775807
                    · rw [if_pos c26] at H
                      have c26b0 := eq_true c26
                      have c26b1 : decide ((t124.extract 0 4).size + t132.size ≤ 9223372036854775807) = true := decide_eq_true c26
                      try have c26b2 : (9223372036854775807 < (t124.extract 0 4).size + t132.size) = False := eq_false (Nat.not_lt.2 c26)
                      by_cases c27 : ((t124.extract 0 4) ++ t132).size + a0.size ≤ 9223372036854775807
                      · rw [if_pos c27] at H
                        have c27b0 := eq_true c27
                        have c27b1 : decide (((t124.extract 0 4) ++ t132).size + a0.size ≤ 9223372036854775807) = true := decide_eq_true c27
                        try have c27b2 : (9223372036854775807 < ((t124.extract 0 4) ++ t132).size + a0.size) = False := eq_false (Nat.not_lt.2 c27)
                        replace H := Option.bind_eq_some_iff.mp H
                        obtain ⟨⟨t134, t135, t136⟩, A280, H⟩ := H
                        replace H : (if t136 = 21 then ((rialtolaw02_live.f).bind fun t137 => (some t137)) else (some false)) = some r := H
                        have A28 := Aside0.mk A280
                        clear A280
                        by_cases c29 : t136 = 21
                        · rw [if_pos c29] at H
                          have c29b0 : (t136 == 21) = true := beq_iff_eq.mpr c29
                          have c29b1 : (t136 != 21) = false := bne_eq_false_iff_eq.mpr c29
                          clear c29
                          replace H := Option.bind_eq_some_iff.mp H
                          obtain ⟨t137, A300, H⟩ := H
                          replace H : (some t137) = some r := H
                          have A30 := Aside0.mk A300
                          clear A300
                          obtain rfl := Option.some.inj H
                          go_wp2_with (first | ((with_reducible refine gate_callee (f := 41) rfl ?_); refine goesL_ (some 59) rfl rfl Try.func41 (by kernel_rfl) rfl #[.string (t124.extract 4 8), .int .i64 a1, .int .u32 a2] rfl (by (try simp only [List.map_toArray, List.map_cons, List.map_nil]); first | done | rfl | (simp only [List.length_drop, List.length_take]; rfl)) ?_; (with_reducible refine (rialtolaw02_turned.calls (t124.extract 4 8) a1 a2 t132 true _ A22.out).mono ?_); rintro e w31 ⟨rfl, hb⟩; refine ⟨_, rfl, ?_⟩; have n0_ := Aside0.mk (below_step (by repeat (first | (with_reducible first | exact HB.out | apply below_alloc | apply pw_below_drewN | apply below_drew1) | exact HB.out)) hb); clear HB; have HB := n0_; clear n0_; (try clear hb); (try clear hb2); (try clear hk); (try clear hi)) | ((with_reducible refine gate_callee (f := 42) rfl ?_); refine goesL_ (some 70) rfl rfl Try.func42 (by kernel_rfl) rfl #[.string (((t124.extract 0 4) ++ t132) ++ a0), .int .i64 0] rfl (by (try simp only [List.map_toArray, List.map_cons, List.map_nil]); first | done | rfl | (simp only [List.length_drop, List.length_take]; rfl)) ?_; (with_reducible refine (seal_Unframe.calls (((t124.extract 0 4) ++ t132) ++ a0) 0 t134 t135 t136 _ A28.out).mono ?_); rintro e w32 ⟨rfl, hb⟩; refine ⟨_, rfl, ?_⟩; have n0_ := Aside0.mk (below_step (by repeat (first | (with_reducible first | exact HB.out | apply below_alloc | apply pw_below_drewN | apply below_drew1) | exact HB.out)) hb); clear HB; have HB := n0_; clear n0_; (try clear hb); (try clear hb2); (try clear hk); (try clear hi)) | ((with_reducible refine gate_callee (f := 38) rfl ?_); refine goesL_ (some 76) rfl rfl Try.func38 (by kernel_rfl) rfl #[] rfl (by (try simp only [List.map_toArray, List.map_cons, List.map_nil]); first | done | rfl | (simp only [List.length_drop, List.length_take]; rfl)) ?_; (with_reducible refine (rialtolaw02_live.calls  t137 _ A30.out).mono ?_); rintro e w33 ⟨rfl, hb⟩; refine ⟨_, rfl, ?_⟩; have n0_ := Aside0.mk (below_step (by repeat (first | (with_reducible first | exact HB.out | apply below_alloc | apply pw_below_drewN | apply below_drew1) | exact HB.out)) hb); clear HB; have HB := n0_; clear n0_; (try clear hb); (try clear hb2); (try clear hk); (try clear hi)))
                          go_ret
                          exact ⟨by first | rfl | (simp [errW_none, errW_some] <;> rfl) | (simp [*, errW_none, errW_some] <;> rfl), by repeat (first | (with_reducible first | exact HB.out | apply below_alloc | apply pw_below_drewN | apply below_drew1) | exact HB.out)⟩
                        · rw [if_neg c29] at H
                          have c29b0 : (t136 == 21) = false := beq_eq_false_iff_ne.mpr c29
                          have c29b1 : (t136 != 21) = true := bne_iff_ne.mpr c29
                          obtain rfl := Option.some.inj H
                          go_wp2_with (first | ((with_reducible refine gate_callee (f := 41) rfl ?_); refine goesL_ (some 59) rfl rfl Try.func41 (by kernel_rfl) rfl #[.string (t124.extract 4 8), .int .i64 a1, .int .u32 a2] rfl (by (try simp only [List.map_toArray, List.map_cons, List.map_nil]); first | done | rfl | (simp only [List.length_drop, List.length_take]; rfl)) ?_; (with_reducible refine (rialtolaw02_turned.calls (t124.extract 4 8) a1 a2 t132 true _ A22.out).mono ?_); rintro e w34 ⟨rfl, hb⟩; refine ⟨_, rfl, ?_⟩; have n0_ := Aside0.mk (below_step (by repeat (first | (with_reducible first | exact HB.out | apply below_alloc | apply pw_below_drewN | apply below_drew1) | exact HB.out)) hb); clear HB; have HB := n0_; clear n0_; (try clear hb); (try clear hb2); (try clear hk); (try clear hi)) | ((with_reducible refine gate_callee (f := 42) rfl ?_); refine goesL_ (some 70) rfl rfl Try.func42 (by kernel_rfl) rfl #[.string (((t124.extract 0 4) ++ t132) ++ a0), .int .i64 0] rfl (by (try simp only [List.map_toArray, List.map_cons, List.map_nil]); first | done | rfl | (simp only [List.length_drop, List.length_take]; rfl)) ?_; (with_reducible refine (seal_Unframe.calls (((t124.extract 0 4) ++ t132) ++ a0) 0 t134 t135 t136 _ A28.out).mono ?_); rintro e w35 ⟨rfl, hb⟩; refine ⟨_, rfl, ?_⟩; have n0_ := Aside0.mk (below_step (by repeat (first | (with_reducible first | exact HB.out | apply below_alloc | apply pw_below_drewN | apply below_drew1) | exact HB.out)) hb); clear HB; have HB := n0_; clear n0_; (try clear hb); (try clear hb2); (try clear hk); (try clear hi)))
                          go_ret
                          exact ⟨by first | rfl | (simp [errW_none, errW_some] <;> rfl) | (simp [*, errW_none, errW_some] <;> rfl), by repeat (first | (with_reducible first | exact HB.out | apply below_alloc | apply pw_below_drewN | apply below_drew1) | exact HB.out)⟩
                      · rw [if_neg c27] at H
                        exact absurd H (by simp)
                    · rw [if_neg c26] at H
                      exact absurd H (by simp)
                  · rw [if_neg c25] at H
                    exact absurd H (by simp)
                · rw [if_neg c24] at H
                  exact absurd H (by simp)
              · replace c23 := Bool.eq_false_iff.mpr c23
                subst c23
                have H1 : ((rialtolaw02_live.f).bind fun t138 => (some t138)) = some r := by rw [if_neg (show ¬ (false = true) by decide)] at H; exact H
                clear H
                have H := H1
                clear H1
                replace H := Option.bind_eq_some_iff.mp H
                obtain ⟨t138, A360, H⟩ := H
                replace H : (some t138) = some r := H
                have A36 := Aside0.mk A360
                clear A360
                obtain rfl := Option.some.inj H
                go_wp2_with (first | ((with_reducible refine gate_callee (f := 41) rfl ?_); refine goesL_ (some 59) rfl rfl Try.func41 (by kernel_rfl) rfl #[.string (t124.extract 4 8), .int .i64 a1, .int .u32 a2] rfl (by (try simp only [List.map_toArray, List.map_cons, List.map_nil]); first | done | rfl | (simp only [List.length_drop, List.length_take]; rfl)) ?_; (with_reducible refine (rialtolaw02_turned.calls (t124.extract 4 8) a1 a2 t132 false _ A22.out).mono ?_); rintro e w37 ⟨rfl, hb⟩; refine ⟨_, rfl, ?_⟩; have n0_ := Aside0.mk (below_step (by repeat (first | (with_reducible first | exact HB.out | apply below_alloc | apply pw_below_drewN | apply below_drew1) | exact HB.out)) hb); clear HB; have HB := n0_; clear n0_; (try clear hb); (try clear hb2); (try clear hk); (try clear hi)) | ((with_reducible refine gate_callee (f := 38) rfl ?_); refine goesL_ (some 76) rfl rfl Try.func38 (by kernel_rfl) rfl #[] rfl (by (try simp only [List.map_toArray, List.map_cons, List.map_nil]); first | done | rfl | (simp only [List.length_drop, List.length_take]; rfl)) ?_; (with_reducible refine (rialtolaw02_live.calls  t138 _ A36.out).mono ?_); rintro e w38 ⟨rfl, hb⟩; refine ⟨_, rfl, ?_⟩; have n0_ := Aside0.mk (below_step (by repeat (first | (with_reducible first | exact HB.out | apply below_alloc | apply pw_below_drewN | apply below_drew1) | exact HB.out)) hb); clear HB; have HB := n0_; clear n0_; (try clear hb); (try clear hb2); (try clear hk); (try clear hi)))
                go_ret
                exact ⟨by first | rfl | (simp [errW_none, errW_some] <;> rfl) | (simp [*, errW_none, errW_some] <;> rfl), by repeat (first | (with_reducible first | exact HB.out | apply below_alloc | apply pw_below_drewN | apply below_drew1) | exact HB.out)⟩
            · rw [if_neg c21] at H
              exact absurd H (by simp)
          · rw [if_neg c20] at H
            exact absurd H (by simp)
  · rw [if_neg c5] at H
    have c5b0 : (t125 == 0) = false := beq_eq_false_iff_ne.mpr c5
    have c5b1 : (t125 != 0) = true := bne_iff_ne.mpr c5
    replace H := Option.bind_eq_some_iff.mp H
    obtain ⟨t126, A390, H⟩ := H
    replace H : (if t126 = true then (some (decide ((a0.size : Int) > 70000))) else (some false)) = some r := H
    have A39 := Aside0.mk A390
    clear A390
    by_cases c40 : t126 = true
    · subst c40
      have H1 : (some (decide ((a0.size : Int) > 70000))) = some r := by rw [if_pos rfl] at H; exact H
      clear H
      have H := H1
      clear H1
      obtain rfl := Option.some.inj H
      go_enter Try.func9, Try.ntmps9
      go_wp2_with (first | ((with_reducible refine gate_callee (f := 36) rfl ?_); refine goesL_ (some 21) rfl rfl Try.func36 (by kernel_rfl) rfl #[.string a0] rfl (by (try simp only [List.map_toArray, List.map_cons, List.map_nil]); first | done | rfl | (simp only [List.length_drop, List.length_take]; rfl)) ?_; (with_reducible refine (seal_Frame.calls a0 t124 t125 _ A4.out).mono ?_); rintro e w41 ⟨rfl, hb⟩; refine ⟨_, rfl, ?_⟩; have n0_ := Aside0.mk (below_step (by repeat (first | (with_reducible first | exact HB.out | apply below_alloc | apply pw_below_drewN | apply below_drew1) | exact HB.out)) hb); clear HB; have HB := n0_; clear n0_; (try clear hb); (try clear hb2); (try clear hk); (try clear hi)) | ((with_reducible refine gate_callee (f := 38) rfl ?_); refine goesL_ (some 26) rfl rfl Try.func38 (by kernel_rfl) rfl #[] rfl (by (try simp only [List.map_toArray, List.map_cons, List.map_nil]); first | done | rfl | (simp only [List.length_drop, List.length_take]; rfl)) ?_; (with_reducible refine (rialtolaw02_live.calls  true _ A39.out).mono ?_); rintro e w42 ⟨rfl, hb⟩; refine ⟨_, rfl, ?_⟩; have n0_ := Aside0.mk (below_step (by repeat (first | (with_reducible first | exact HB.out | apply below_alloc | apply pw_below_drewN | apply below_drew1) | exact HB.out)) hb); clear HB; have HB := n0_; clear n0_; (try clear hb); (try clear hb2); (try clear hk); (try clear hi)))
      go_ret
      exact ⟨by first | rfl | (simp [errW_none, errW_some] <;> rfl) | (simp [*, errW_none, errW_some] <;> rfl), by repeat (first | (with_reducible first | exact HB.out | apply below_alloc | apply pw_below_drewN | apply below_drew1) | exact HB.out)⟩
    · replace c40 := Bool.eq_false_iff.mpr c40
      subst c40
      have H1 : (some false) = some r := by rw [if_neg (show ¬ (false = true) by decide)] at H; exact H
      clear H
      have H := H1
      clear H1
      obtain rfl := Option.some.inj H
      go_enter Try.func9, Try.ntmps9
      go_wp2_with (first | ((with_reducible refine gate_callee (f := 36) rfl ?_); refine goesL_ (some 21) rfl rfl Try.func36 (by kernel_rfl) rfl #[.string a0] rfl (by (try simp only [List.map_toArray, List.map_cons, List.map_nil]); first | done | rfl | (simp only [List.length_drop, List.length_take]; rfl)) ?_; (with_reducible refine (seal_Frame.calls a0 t124 t125 _ A4.out).mono ?_); rintro e w43 ⟨rfl, hb⟩; refine ⟨_, rfl, ?_⟩; have n0_ := Aside0.mk (below_step (by repeat (first | (with_reducible first | exact HB.out | apply below_alloc | apply pw_below_drewN | apply below_drew1) | exact HB.out)) hb); clear HB; have HB := n0_; clear n0_; (try clear hb); (try clear hb2); (try clear hk); (try clear hi)) | ((with_reducible refine gate_callee (f := 38) rfl ?_); refine goesL_ (some 26) rfl rfl Try.func38 (by kernel_rfl) rfl #[] rfl (by (try simp only [List.map_toArray, List.map_cons, List.map_nil]); first | done | rfl | (simp only [List.length_drop, List.length_take]; rfl)) ?_; (with_reducible refine (rialtolaw02_live.calls  false _ A39.out).mono ?_); rintro e w44 ⟨rfl, hb⟩; refine ⟨_, rfl, ?_⟩; have n0_ := Aside0.mk (below_step (by repeat (first | (with_reducible first | exact HB.out | apply below_alloc | apply pw_below_drewN | apply below_drew1) | exact HB.out)) hb); clear HB; have HB := n0_; clear n0_; (try clear hb); (try clear hb2); (try clear hk); (try clear hi)))
      go_ret
      exact ⟨by first | rfl | (simp [errW_none, errW_some] <;> rfl) | (simp [*, errW_none, errW_some] <;> rfl), by repeat (first | (with_reducible first | exact HB.out | apply below_alloc | apply pw_below_drewN | apply below_drew1) | exact HB.out)⟩

/-- THE ONE PURE STATEMENT of rialtolaw02_SealTurned: yours. -/
def rialtolaw02_SealTurned.Pure : Prop := ∀ (a0 : ByteArray) (a1 : Int) (a2 : Int), a0.size ≤ 140737488351232 → (Lit.int .i64 a1).wf = true → (Lit.int .u32 a2).wf = true → ∃ k, rialtolaw02_SealTurned.f k a0 a1 a2 = some true
theorem rialtolaw02_SealTurned.walk (P : rialtolaw02_SealTurned.Pure) (a0 : ByteArray) (a1 : Int) (a2 : Int) (w : World) (w0 : a0.size ≤ 140737488351232) (w1 : (Lit.int .i64 a1).wf = true) (w2 : (Lit.int .u32 a2).wf = true) :
    Calls Try.prog 9 #[.string a0, .int .i64 a1, .int .u32 a2] w fun e w' => e = .returned (.bool true) ∧ Below w.heap.size w w' := by
  obtain ⟨k, h⟩ := P a0 a1 a2 w0 w1 w2
  refine (rialtolaw02_SealTurned.calls k a0 a1 a2 true w h).mono ?_
  rintro e w' ⟨rfl, hd⟩
  exact ⟨rfl, hd⟩

/-! ### rialtoref02_number: function 79 -/
def rialtoref02_number.l0 : Nat → ByteArray → Int → Int → Option (Int)
  | 0, _, _, _ => none
  | k + 1, x0, x3, x4 => if x4 < 4 then (if 0 ≤ x4 then (if x4 < (x0.size : Int) then (rialtoref02_number.l0 k x0 (wrap64 ((wrap64 (x3 * 256)) + (wrap64 (bt x0 x4)))) (wrap64 (x4 + 1))) else (none)) else (none)) else (some x3)
def rialtoref02_number.f (k : Nat) (a0 : ByteArray) : Option (Int) := rialtoref02_number.l0 k a0 0 0
theorem rialtoref02_number.mono_l : ∀ k, (∀ y0 y1 y2, LeO (rialtoref02_number.l0 k y0 y1 y2) (rialtoref02_number.l0 (k + 1) y0 y1 y2))
  | 0 => fun _ _ _ r h => by simp [rialtoref02_number.l0] at h
  | k + 1 => by
    have ih0 := rialtoref02_number.mono_l k
    · intro y0 y1 y2
      unfold rialtoref02_number.l0
      repeat' first
      | (with_reducible exact ih0 _ _ _)
      | (with_reducible exact LeO.refl _)
      | (with_reducible exact LeO.none _)
      | (with_reducible refine LeO.ite ?_ ?_)
      | (with_reducible refine LeO.bind ?_ (fun _ => ?_))
      | exact ih0 _ _ _
      | exact LeO.none _
      | refine LeO.ite ?_ ?_
      | refine LeO.bind ?_ (fun _ => ?_)
theorem rialtoref02_number.mono : ∀ a0 k, LeO (rialtoref02_number.f k a0) (rialtoref02_number.f (k + 1) a0) := by
  intro a0 k
  have ih0 := rialtoref02_number.mono_l k
  unfold rialtoref02_number.f
  repeat' first
      | (with_reducible exact ih0 _ _ _)
      | (with_reducible exact LeO.refl _)
      | (with_reducible exact LeO.none _)
      | (with_reducible refine LeO.ite ?_ ?_)
      | (with_reducible refine LeO.bind ?_ (fun _ => ?_))
      | exact ih0 _ _ _
      | exact LeO.none _
      | refine LeO.ite ?_ ?_
      | refine LeO.bind ?_ (fun _ => ?_)
set_option maxHeartbeats 8000000 in
set_option maxRecDepth 100000 in
theorem rialtoref02_number.calls (k : Nat) (a0 : ByteArray) (r : Int) (w : World) (h : rialtoref02_number.f k a0 = some r) :
    Calls Try.prog 79 #[.string a0] w fun e w' => e = .returned (.int .i64 r) ∧ Drawn0 w w' := by
  have H : (rialtoref02_number.l0 k a0 0 0) = some r := h
  clear h
  have H' := Aside0.mk H
  clear H
  go_enter Try.func79, Try.ntmps79
  go_wp2
  go_loopg [3, 4] k (fun kq v3 v4 w' => ∃ (x3_1 : Int) (x4_1 : Int), v3 = .int .i64 x3_1 ∧ v4 = .int .i64 x4_1 ∧ Aside0 (rialtoref02_number.l0 kq a0 x3_1 x4_1 = some r) ∧ Aside0 (kq ≤ k) ∧ Drawn0 w w')
  case atStart => exact ⟨(0), (0), (by first | rfl | (simp; done) | (simp [*]; done)), (by first | rfl | (simp; done) | (simp [*]; done)), H', ⟨Nat.le_refl _⟩, by repeat (first | exact Drawn0.refl _ | apply Drawn0.step)⟩
  case round =>
    clear H'
    obtain ⟨x3_1, x4_1, rfl, rfl, HA, HK1, ⟨m1, rfl⟩⟩ := hrel
    cases gk with
    | zero => exact absurd HA.out (by simp [rialtoref02_number.l0])
    | succ k1 =>
      have H := HA.out
      clear HA
      simp only [rialtoref02_number.l0] at H
      by_cases c2 : x4_1 < 4
      · rw [if_pos c2] at H
        have c2b0 : decide (x4_1 < 4) = true := decide_eq_true c2
        clear c2
        by_cases c3 : 0 ≤ x4_1
        · rw [if_pos c3] at H
          have c3b0 : decide (0 ≤ x4_1) = true := decide_eq_true c3
          clear c3
          by_cases c4 : x4_1 < (a0.size : Int)
          · rw [if_pos c4] at H
            have c4b0 : decide (x4_1 < (a0.size : Int)) = true := decide_eq_true c4
            clear c4
            have H' := Aside0.mk H
            clear H
            have p5 : 0 ≤ (x4_1 : Int) := of_decide_eq_true (by first | (with_reducible assumption) | assumption)
            have q5 : x4_1 < (a0.size : Int) := of_decide_eq_true (by first | (with_reducible assumption) | assumption)
            have hx5 := bt_at a0 x4_1
            replace p5 := eq_true p5
            replace q5 := eq_true q5
            go_wp2
            go_roundg k1
            case measure => have := HK1.out; omega
            case rel => exact ⟨(wrap64 ((wrap64 (x3_1 * 256)) + (wrap64 (bt a0 x4_1)))), (wrap64 (x4_1 + 1)), (by first | rfl | (simp; done) | (simp [*]; done)), (by first | rfl | (simp; done) | (simp [*]; done)), H', ⟨by have := HK1.out; omega⟩, by repeat (first | exact Drawn0.refl _ | apply Drawn0.step)⟩
          · rw [if_neg c4] at H
            exact absurd H (by simp)
        · rw [if_neg c3] at H
          exact absurd H (by simp)
      · rw [if_neg c2] at H
        have c2b0 : decide (x4_1 < 4) = false := decide_eq_false c2
        clear c2
        obtain rfl := Option.some.inj H
        go_wp2
        go_ret
        exact ⟨by first | rfl | (simp; done) | (simp [*]; done), by repeat (first | exact Drawn0.refl _ | apply Drawn0.step)⟩

/-! ### rialtoref02_Unframe: function 43 -/
def rialtoref02_Unframe.j0 : Nat → ByteArray → Int → Bool → Option (ByteArray × Int × Int)
  | 0, _, _, _ => none
  | k + 1, x0, x1, x16 => if x16 = true then (some ((⟨#[]⟩ : ByteArray), 0, 1)) else (if (wrap64 ((x0.size : Int) - x1)) < 8 then (some ((⟨#[]⟩ : ByteArray), 0, 20)) else (if 0 ≤ x1 then (if x1 ≤ (wrap64 (x1 + 4)) then (if (wrap64 (x1 + 4)) ≤ (x0.size : Int) then ((rialtoref02_number.f k (x0.extract (x1 : Int).toNat ((wrap64 (x1 + 4)) : Int).toNat)).bind fun t139 => (if t139 > 70000 then (some ((⟨#[]⟩ : ByteArray), 0, 22)) else (if (wrap64 ((wrap64 ((x0.size : Int) - x1)) - 8)) < t139 then (some ((⟨#[]⟩ : ByteArray), 0, 20)) else (if 0 ≤ (wrap64 (x1 + 8)) then (if (wrap64 (x1 + 8)) ≤ (wrap64 ((wrap64 (x1 + 8)) + t139)) then (if (wrap64 ((wrap64 (x1 + 8)) + t139)) ≤ (x0.size : Int) then (if 0 ≤ (wrap64 (x1 + 4)) then (if (wrap64 (x1 + 4)) ≤ (wrap64 (x1 + 8)) then (if (wrap64 (x1 + 8)) ≤ (x0.size : Int) then ((rialtoref02_number.f k (x0.extract ((wrap64 (x1 + 4)) : Int).toNat ((wrap64 (x1 + 8)) : Int).toNat)).bind fun t140 => (if (x0.extract (x1 : Int).toNat ((wrap64 (x1 + 4)) : Int).toNat).size + (x0.extract ((wrap64 (x1 + 8)) : Int).toNat ((wrap64 ((wrap64 (x1 + 8)) + t139)) : Int).toNat).size ≤ 9223372036854775807 then ((rialtoref02_Sum.f k ((x0.extract (x1 : Int).toNat ((wrap64 (x1 + 4)) : Int).toNat) ++ (x0.extract ((wrap64 (x1 + 8)) : Int).toNat ((wrap64 ((wrap64 (x1 + 8)) + t139)) : Int).toNat))).bind fun t141 => (if ((t140) % 4294967296) = t141 then (some (x0.extract ((wrap64 (x1 + 8)) : Int).toNat ((wrap64 ((wrap64 (x1 + 8)) + t139)) : Int).toNat, wrap64 ((wrap64 (x1 + 8)) + t139), 0)) else (some ((⟨#[]⟩ : ByteArray), 0, 21)))) else (none))) else (none)) else (none)) else (none)) else (none)) else (none)) else (none))))) else (none)) else (none)) else (none)))
def rialtoref02_Unframe.f (k : Nat) (a0 : ByteArray) (a1 : Int) : Option (ByteArray × Int × Int) := if a1 < 0 then (rialtoref02_Unframe.j0 k a0 a1 true) else (rialtoref02_Unframe.j0 k a0 a1 (decide (a1 > (a0.size : Int))))
theorem rialtoref02_Unframe.mono_l : ∀ k, (∀ y0 y1 y2, LeO (rialtoref02_Unframe.j0 k y0 y1 y2) (rialtoref02_Unframe.j0 (k + 1) y0 y1 y2))
  | 0 => fun _ _ _ r h => by simp [rialtoref02_Unframe.j0] at h
  | k + 1 => by
    have ih0 := rialtoref02_Unframe.mono_l k
    · intro y0 y1 y2
      unfold rialtoref02_Unframe.j0
      repeat' first
      | (with_reducible exact ih0 _ _ _)
      | (with_reducible exact rialtoref02_Sum.mono _ _)
      | (with_reducible exact rialtoref02_number.mono _ _)
      | (with_reducible exact LeO.refl _)
      | (with_reducible exact LeO.none _)
      | (with_reducible refine LeO.ite ?_ ?_)
      | (with_reducible refine LeO.bind ?_ (fun _ => ?_))
      | exact ih0 _ _ _
      | exact rialtoref02_Sum.mono _ _
      | exact rialtoref02_number.mono _ _
      | exact LeO.none _
      | refine LeO.ite ?_ ?_
      | refine LeO.bind ?_ (fun _ => ?_)
theorem rialtoref02_Unframe.mono : ∀ a0 a1 k, LeO (rialtoref02_Unframe.f k a0 a1) (rialtoref02_Unframe.f (k + 1) a0 a1) := by
  intro a0 a1 k
  have ih0 := rialtoref02_Unframe.mono_l k
  unfold rialtoref02_Unframe.f
  repeat' first
      | (with_reducible exact ih0 _ _ _)
      | (with_reducible exact rialtoref02_Sum.mono _ _)
      | (with_reducible exact rialtoref02_number.mono _ _)
      | (with_reducible exact LeO.refl _)
      | (with_reducible exact LeO.none _)
      | (with_reducible refine LeO.ite ?_ ?_)
      | (with_reducible refine LeO.bind ?_ (fun _ => ?_))
      | exact ih0 _ _ _
      | exact rialtoref02_Sum.mono _ _
      | exact rialtoref02_number.mono _ _
      | exact LeO.none _
      | refine LeO.ite ?_ ?_
      | refine LeO.bind ?_ (fun _ => ?_)
set_option maxHeartbeats 8000000 in
set_option maxRecDepth 100000 in
theorem rialtoref02_Unframe.calls (k : Nat) (a0 : ByteArray) (a1 : Int) (r1 : ByteArray) (r2 : Int) (r3 : Int) (w : World) (h : rialtoref02_Unframe.f k a0 a1 = some (r1, r2, r3)) :
    Calls Try.prog 43 #[.string a0, .int .i64 a1] w fun e w' => e = .returned (.tuple #[.string r1, .int .i64 r2, .int .i64 r3]) ∧ Drawn0 w w' := by
  have H : (if a1 < 0 then (rialtoref02_Unframe.j0 k a0 a1 true) else (rialtoref02_Unframe.j0 k a0 a1 (decide (a1 > (a0.size : Int))))) = some (r1, r2, r3) := h
  clear h
  have HC3 := Aside0.mk H
  clear H
  go_enter Try.func43, Try.ntmps43
  go_upto_region 1 with (fail)
  repeat (go_quiet (fail); go_upto_region 1 with (fail))
  go_cut [16] (fun v16 wc => ∃ (kq : Nat) (x16_2 : Bool), v16 = .bool x16_2 ∧ Aside0 (rialtoref02_Unframe.j0 kq a0 a1 x16_2 = some (r1, r2, r3)) ∧ Aside0 (kq ≤ k) ∧ Drawn0 w wc)
  case first =>
    have H := HC3.out
    clear HC3
    by_cases c4 : a1 < 0
    · rw [if_pos c4] at H
      have c4b0 : decide (a1 < 0) = true := decide_eq_true c4
      clear c4
      (first | rw [c4b0] | (simp only [i64_w, i32_w]; rw [c4b0]) | skip)
      have H' := Aside0.mk H
      clear H
      go_wp2
      repeat (go_quiet (fail); try go_wp2)
      go_meet
      case rel => exact ⟨_, (true), (by first | rfl | (simp; done) | (simp [*]; done)), H', ⟨by first | omega | exact Nat.le_refl _⟩, by repeat (first | exact Drawn0.refl _ | apply Drawn0.step)⟩
    · rw [if_neg c4] at H
      have c4b0 : decide (a1 < 0) = false := decide_eq_false c4
      clear c4
      (first | rw [c4b0] | (simp only [i64_w, i32_w]; rw [c4b0]) | skip)
      have H' := Aside0.mk H
      clear H
      go_wp2
      repeat (go_quiet (fail); try go_wp2)
      go_meet
      case rel => exact ⟨_, (decide (a1 > (a0.size : Int))), (by first | rfl | (simp; done) | (simp [*]; done)), H', ⟨by first | omega | exact Nat.le_refl _⟩, by repeat (first | exact Drawn0.refl _ | apply Drawn0.step)⟩
  case rest =>
    clear HC3
    try clear p2
    try clear c4
    try clear c4b0
    obtain ⟨kq, x16_2, rfl, HA, HJ2, ⟨mc2, rfl⟩⟩ := hcut
    cases kq with
    | zero => exact absurd HA.out (by simp [rialtoref02_Unframe.j0])
    | succ kj2 =>
      have H := HA.out
      clear HA
      simp only [rialtoref02_Unframe.j0] at H
      by_cases c5 : x16_2 = true
      · subst c5
        have H1 : (some ((⟨#[]⟩ : ByteArray), 0, 1)) = some (r1, r2, r3) := by rw [if_pos rfl] at H; exact H
        clear H
        have H := H1
        clear H1
        simp only [Option.some.injEq, Prod.mk.injEq] at H
        obtain ⟨rfl, rfl, rfl⟩ := H
        go_wp2
        repeat (go_quiet (fail); try go_wp2)
        go_ret3
        exact ⟨by first | rfl | (simp; done) | (simp [*]; done), by repeat (first | exact Drawn0.refl _ | apply Drawn0.step)⟩
      · replace c5 := Bool.eq_false_iff.mpr c5
        subst c5
        have H1 : (if (wrap64 ((a0.size : Int) - a1)) < 8 then (some ((⟨#[]⟩ : ByteArray), 0, 20)) else (if 0 ≤ a1 then (if a1 ≤ (wrap64 (a1 + 4)) then (if (wrap64 (a1 + 4)) ≤ (a0.size : Int) then ((rialtoref02_number.f kj2 (a0.extract (a1 : Int).toNat ((wrap64 (a1 + 4)) : Int).toNat)).bind fun t139 => (if t139 > 70000 then (some ((⟨#[]⟩ : ByteArray), 0, 22)) else (if (wrap64 ((wrap64 ((a0.size : Int) - a1)) - 8)) < t139 then (some ((⟨#[]⟩ : ByteArray), 0, 20)) else (if 0 ≤ (wrap64 (a1 + 8)) then (if (wrap64 (a1 + 8)) ≤ (wrap64 ((wrap64 (a1 + 8)) + t139)) then (if (wrap64 ((wrap64 (a1 + 8)) + t139)) ≤ (a0.size : Int) then (if 0 ≤ (wrap64 (a1 + 4)) then (if (wrap64 (a1 + 4)) ≤ (wrap64 (a1 + 8)) then (if (wrap64 (a1 + 8)) ≤ (a0.size : Int) then ((rialtoref02_number.f kj2 (a0.extract ((wrap64 (a1 + 4)) : Int).toNat ((wrap64 (a1 + 8)) : Int).toNat)).bind fun t140 => (if (a0.extract (a1 : Int).toNat ((wrap64 (a1 + 4)) : Int).toNat).size + (a0.extract ((wrap64 (a1 + 8)) : Int).toNat ((wrap64 ((wrap64 (a1 + 8)) + t139)) : Int).toNat).size ≤ 9223372036854775807 then ((rialtoref02_Sum.f kj2 ((a0.extract (a1 : Int).toNat ((wrap64 (a1 + 4)) : Int).toNat) ++ (a0.extract ((wrap64 (a1 + 8)) : Int).toNat ((wrap64 ((wrap64 (a1 + 8)) + t139)) : Int).toNat))).bind fun t141 => (if ((t140) % 4294967296) = t141 then (some (a0.extract ((wrap64 (a1 + 8)) : Int).toNat ((wrap64 ((wrap64 (a1 + 8)) + t139)) : Int).toNat, wrap64 ((wrap64 (a1 + 8)) + t139), 0)) else (some ((⟨#[]⟩ : ByteArray), 0, 21)))) else (none))) else (none)) else (none)) else (none)) else (none)) else (none)) else (none))))) else (none)) else (none)) else (none))) = some (r1, r2, r3) := by rw [if_neg (show ¬ (false = true) by decide)] at H; exact H
        clear H
        have H := H1
        clear H1
        by_cases c6 : (wrap64 ((a0.size : Int) - a1)) < 8
        · rw [if_pos c6] at H
          have c6b0 : decide ((wrap64 ((a0.size : Int) - a1)) < 8) = true := decide_eq_true c6
          clear c6
          simp only [Option.some.injEq, Prod.mk.injEq] at H
          obtain ⟨rfl, rfl, rfl⟩ := H
          go_wp2
          repeat (go_quiet (fail); try go_wp2)
          go_ret3
          exact ⟨by first | rfl | (simp; done) | (simp [*]; done), by repeat (first | exact Drawn0.refl _ | apply Drawn0.step)⟩
        · rw [if_neg c6] at H
          have c6b0 : decide ((wrap64 ((a0.size : Int) - a1)) < 8) = false := decide_eq_false c6
          clear c6
          by_cases c7 : 0 ≤ a1
          · rw [if_pos c7] at H
            have c7b0 := eq_true c7
            have c7b1 : decide (0 ≤ a1) = true := decide_eq_true c7
            clear c7
            by_cases c8 : a1 ≤ (wrap64 (a1 + 4))
            · rw [if_pos c8] at H
              have c8b0 := eq_true c8
              have c8b1 : decide (a1 ≤ (wrap64 (a1 + 4))) = true := decide_eq_true c8
              by_cases c9 : (wrap64 (a1 + 4)) ≤ (a0.size : Int)
              · rw [if_pos c9] at H
                have c9b0 := eq_true c9
                have c9b1 : decide ((wrap64 (a1 + 4)) ≤ (a0.size : Int)) = true := decide_eq_true c9
                replace H := Option.bind_eq_some_iff.mp H
                obtain ⟨t139, A100, H⟩ := H
                replace H : (if t139 > 70000 then (some ((⟨#[]⟩ : ByteArray), 0, 22)) else (if (wrap64 ((wrap64 ((a0.size : Int) - a1)) - 8)) < t139 then (some ((⟨#[]⟩ : ByteArray), 0, 20)) else (if 0 ≤ (wrap64 (a1 + 8)) then (if (wrap64 (a1 + 8)) ≤ (wrap64 ((wrap64 (a1 + 8)) + t139)) then (if (wrap64 ((wrap64 (a1 + 8)) + t139)) ≤ (a0.size : Int) then (if 0 ≤ (wrap64 (a1 + 4)) then (if (wrap64 (a1 + 4)) ≤ (wrap64 (a1 + 8)) then (if (wrap64 (a1 + 8)) ≤ (a0.size : Int) then ((rialtoref02_number.f kj2 (a0.extract ((wrap64 (a1 + 4)) : Int).toNat ((wrap64 (a1 + 8)) : Int).toNat)).bind fun t140 => (if (a0.extract (a1 : Int).toNat ((wrap64 (a1 + 4)) : Int).toNat).size + (a0.extract ((wrap64 (a1 + 8)) : Int).toNat ((wrap64 ((wrap64 (a1 + 8)) + t139)) : Int).toNat).size ≤ 9223372036854775807 then ((rialtoref02_Sum.f kj2 ((a0.extract (a1 : Int).toNat ((wrap64 (a1 + 4)) : Int).toNat) ++ (a0.extract ((wrap64 (a1 + 8)) : Int).toNat ((wrap64 ((wrap64 (a1 + 8)) + t139)) : Int).toNat))).bind fun t141 => (if ((t140) % 4294967296) = t141 then (some (a0.extract ((wrap64 (a1 + 8)) : Int).toNat ((wrap64 ((wrap64 (a1 + 8)) + t139)) : Int).toNat, wrap64 ((wrap64 (a1 + 8)) + t139), 0)) else (some ((⟨#[]⟩ : ByteArray), 0, 21)))) else (none))) else (none)) else (none)) else (none)) else (none)) else (none)) else (none)))) = some (r1, r2, r3) := H
                have A10 := Aside0.mk A100
                clear A100
                by_cases c11 : t139 > 70000
                · rw [if_pos c11] at H
                  have c11b0 : decide (70000 < t139) = true := decide_eq_true c11
                  clear c11
                  simp only [Option.some.injEq, Prod.mk.injEq] at H
                  obtain ⟨rfl, rfl, rfl⟩ := H
                  go_wp2_with (first | (go_at_call 79; (with_reducible refine (rialtoref02_number.calls kj2 (a0.extract (a1 : Int).toNat ((wrap64 (a1 + 4)) : Int).toNat) t139 _ A10.out).mono ?_); rintro e w' ⟨rfl, ⟨nd, rfl⟩⟩; (try first | exact ⟨rfl, _, World.drewN_drewN _ _ _⟩ | exact ⟨rfl, _, Eq.trans (World.drewN_drewN _ _ _) (congrArg (World.drewN _) (Nat.add_assoc _ _ _))⟩)))
                  repeat (go_quiet (first | (go_at_call 79; (with_reducible refine (rialtoref02_number.calls kj2 (a0.extract (a1 : Int).toNat ((wrap64 (a1 + 4)) : Int).toNat) t139 _ A10.out).mono ?_); rintro e w' ⟨rfl, ⟨nd, rfl⟩⟩; (try first | exact ⟨rfl, _, World.drewN_drewN _ _ _⟩ | exact ⟨rfl, _, Eq.trans (World.drewN_drewN _ _ _) (congrArg (World.drewN _) (Nat.add_assoc _ _ _))⟩))); try go_wp2_with (first | (go_at_call 79; (with_reducible refine (rialtoref02_number.calls kj2 (a0.extract (a1 : Int).toNat ((wrap64 (a1 + 4)) : Int).toNat) t139 _ A10.out).mono ?_); rintro e w' ⟨rfl, ⟨nd, rfl⟩⟩; (try first | exact ⟨rfl, _, World.drewN_drewN _ _ _⟩ | exact ⟨rfl, _, Eq.trans (World.drewN_drewN _ _ _) (congrArg (World.drewN _) (Nat.add_assoc _ _ _))⟩))))
                  go_ret3
                  exact ⟨by first | rfl | (simp; done) | (simp [*]; done), by repeat (first | exact Drawn0.refl _ | apply Drawn0.step)⟩
                · rw [if_neg c11] at H
                  have c11b0 : decide (70000 < t139) = false := decide_eq_false c11
                  clear c11
                  by_cases c12 : (wrap64 ((wrap64 ((a0.size : Int) - a1)) - 8)) < t139
                  · rw [if_pos c12] at H
                    have c12b0 : decide ((wrap64 ((wrap64 ((a0.size : Int) - a1)) - 8)) < t139) = true := decide_eq_true c12
                    clear c12
                    simp only [Option.some.injEq, Prod.mk.injEq] at H
                    obtain ⟨rfl, rfl, rfl⟩ := H
                    go_wp2_with (first | (go_at_call 79; (with_reducible refine (rialtoref02_number.calls kj2 (a0.extract (a1 : Int).toNat ((wrap64 (a1 + 4)) : Int).toNat) t139 _ A10.out).mono ?_); rintro e w' ⟨rfl, ⟨nd, rfl⟩⟩; (try first | exact ⟨rfl, _, World.drewN_drewN _ _ _⟩ | exact ⟨rfl, _, Eq.trans (World.drewN_drewN _ _ _) (congrArg (World.drewN _) (Nat.add_assoc _ _ _))⟩)))
                    repeat (go_quiet (first | (go_at_call 79; (with_reducible refine (rialtoref02_number.calls kj2 (a0.extract (a1 : Int).toNat ((wrap64 (a1 + 4)) : Int).toNat) t139 _ A10.out).mono ?_); rintro e w' ⟨rfl, ⟨nd, rfl⟩⟩; (try first | exact ⟨rfl, _, World.drewN_drewN _ _ _⟩ | exact ⟨rfl, _, Eq.trans (World.drewN_drewN _ _ _) (congrArg (World.drewN _) (Nat.add_assoc _ _ _))⟩))); try go_wp2_with (first | (go_at_call 79; (with_reducible refine (rialtoref02_number.calls kj2 (a0.extract (a1 : Int).toNat ((wrap64 (a1 + 4)) : Int).toNat) t139 _ A10.out).mono ?_); rintro e w' ⟨rfl, ⟨nd, rfl⟩⟩; (try first | exact ⟨rfl, _, World.drewN_drewN _ _ _⟩ | exact ⟨rfl, _, Eq.trans (World.drewN_drewN _ _ _) (congrArg (World.drewN _) (Nat.add_assoc _ _ _))⟩))))
                    go_ret3
                    exact ⟨by first | rfl | (simp; done) | (simp [*]; done), by repeat (first | exact Drawn0.refl _ | apply Drawn0.step)⟩
                  · rw [if_neg c12] at H
                    have c12b0 : decide ((wrap64 ((wrap64 ((a0.size : Int) - a1)) - 8)) < t139) = false := decide_eq_false c12
                    clear c12
                    obtain ⟨ji13, hji13⟩ : ∃ j_ : Int, (wrap64 (a1 + 8)) = j_ := ⟨_, rfl⟩
                    replace H : (if 0 ≤ (ji13) then (if (ji13) ≤ (wrap64 ((ji13) + t139)) then (if (wrap64 ((ji13) + t139)) ≤ (a0.size : Int) then (if 0 ≤ (wrap64 (a1 + 4)) then (if (wrap64 (a1 + 4)) ≤ (ji13) then (if (ji13) ≤ (a0.size : Int) then ((rialtoref02_number.f kj2 (a0.extract ((wrap64 (a1 + 4)) : Int).toNat ((ji13) : Int).toNat)).bind fun t140 => (if (a0.extract (a1 : Int).toNat ((wrap64 (a1 + 4)) : Int).toNat).size + (a0.extract ((ji13) : Int).toNat ((wrap64 ((ji13) + t139)) : Int).toNat).size ≤ 9223372036854775807 then ((rialtoref02_Sum.f kj2 ((a0.extract (a1 : Int).toNat ((wrap64 (a1 + 4)) : Int).toNat) ++ (a0.extract ((ji13) : Int).toNat ((wrap64 ((ji13) + t139)) : Int).toNat))).bind fun t141 => (if ((t140) % 4294967296) = t141 then (some (a0.extract ((ji13) : Int).toNat ((wrap64 ((ji13) + t139)) : Int).toNat, wrap64 ((ji13) + t139), 0)) else (some ((⟨#[]⟩ : ByteArray), 0, 21)))) else (none))) else (none)) else (none)) else (none)) else (none)) else (none)) else (none)) = some (r1, r2, r3) := by first | (rw [hji13] at H; exact H) | (simp only [hji13] at H ⊢; exact H)
                    (try rw [hji13] at A10)
                    have hji13w : (IntKind.i64.wrap (a1 + 8)) = ji13 := (i64_w _).trans hji13
                    by_cases c14 : 0 ≤ (ji13)
                    · rw [if_pos c14] at H
                      have c14b0 := eq_true c14
                      have c14b1 : decide (0 ≤ (ji13)) = true := decide_eq_true c14
                      clear c14
                      by_cases c15 : (ji13) ≤ (wrap64 ((ji13) + t139))
                      · rw [if_pos c15] at H
                        have c15b0 := eq_true c15
                        have c15b1 : decide ((ji13) ≤ (wrap64 ((ji13) + t139))) = true := decide_eq_true c15
                        by_cases c16 : (wrap64 ((ji13) + t139)) ≤ (a0.size : Int)
                        · rw [if_pos c16] at H
                          have c16b0 := eq_true c16
                          have c16b1 : decide ((wrap64 ((ji13) + t139)) ≤ (a0.size : Int)) = true := decide_eq_true c16
                          obtain ⟨ji17, hji17⟩ : ∃ j_ : Int, (wrap64 (a1 + 4)) = j_ := ⟨_, rfl⟩
                          replace H : (if 0 ≤ (ji17) then (if (ji17) ≤ (ji13) then (if (ji13) ≤ (a0.size : Int) then ((rialtoref02_number.f kj2 (a0.extract ((ji17) : Int).toNat ((ji13) : Int).toNat)).bind fun t140 => (if (a0.extract (a1 : Int).toNat ((ji17) : Int).toNat).size + (a0.extract ((ji13) : Int).toNat ((wrap64 ((ji13) + t139)) : Int).toNat).size ≤ 9223372036854775807 then ((rialtoref02_Sum.f kj2 ((a0.extract (a1 : Int).toNat ((ji17) : Int).toNat) ++ (a0.extract ((ji13) : Int).toNat ((wrap64 ((ji13) + t139)) : Int).toNat))).bind fun t141 => (if ((t140) % 4294967296) = t141 then (some (a0.extract ((ji13) : Int).toNat ((wrap64 ((ji13) + t139)) : Int).toNat, wrap64 ((ji13) + t139), 0)) else (some ((⟨#[]⟩ : ByteArray), 0, 21)))) else (none))) else (none)) else (none)) else (none)) = some (r1, r2, r3) := by first | (rw [hji17] at H; exact H) | (simp only [hji17] at H ⊢; exact H)
                          (try rw [hji17] at c8b0)
                          (try rw [hji17] at c8b1)
                          (try rw [hji17] at c8)
                          (try rw [hji17] at c9b0)
                          (try rw [hji17] at c9b1)
                          (try rw [hji17] at c9)
                          (try rw [hji17] at A10)
                          have hji17w : (IntKind.i64.wrap (a1 + 4)) = ji17 := (i64_w _).trans hji17
                          by_cases c18 : 0 ≤ (ji17)
                          · rw [if_pos c18] at H
                            have c18b0 := eq_true c18
                            have c18b1 : decide (0 ≤ (ji17)) = true := decide_eq_true c18
                            clear c18
                            by_cases c19 : (ji17) ≤ (ji13)
                            · rw [if_pos c19] at H
                              have c19b0 := eq_true c19
                              have c19b1 : decide ((ji17) ≤ (ji13)) = true := decide_eq_true c19
                              clear c19
                              by_cases c20 : (ji13) ≤ (a0.size : Int)
                              · rw [if_pos c20] at H
                                have c20b0 := eq_true c20
                                have c20b1 : decide ((ji13) ≤ (a0.size : Int)) = true := decide_eq_true c20
                                clear c20
                                replace H := Option.bind_eq_some_iff.mp H
                                obtain ⟨t140, A210, H⟩ := H
                                replace H : (if (a0.extract (a1 : Int).toNat ((ji17) : Int).toNat).size + (a0.extract ((ji13) : Int).toNat ((wrap64 ((ji13) + t139)) : Int).toNat).size ≤ 9223372036854775807 then ((rialtoref02_Sum.f kj2 ((a0.extract (a1 : Int).toNat ((ji17) : Int).toNat) ++ (a0.extract ((ji13) : Int).toNat ((wrap64 ((ji13) + t139)) : Int).toNat))).bind fun t141 => (if ((t140) % 4294967296) = t141 then (some (a0.extract ((ji13) : Int).toNat ((wrap64 ((ji13) + t139)) : Int).toNat, wrap64 ((ji13) + t139), 0)) else (some ((⟨#[]⟩ : ByteArray), 0, 21)))) else (none)) = some (r1, r2, r3) := H
                                have A21 := Aside0.mk A210
                                clear A210
                                have c22b0 := eq_true (of_decide_eq_true (by first | (with_reducible assumption) | assumption) : 0 ≤ a1)
                                have c23b0 := eq_true (of_decide_eq_true (by first | (with_reducible assumption) | assumption) : a1 ≤ (ji17))
                                have c24b0 := eq_true (of_decide_eq_true (by first | (with_reducible assumption) | assumption) : (ji17) ≤ (a0.size : Int))
                                by_cases c25 : (a0.extract (a1 : Int).toNat ((ji17) : Int).toNat).size + (a0.extract ((ji13) : Int).toNat ((wrap64 ((ji13) + t139)) : Int).toNat).size ≤ 9223372036854775807
                                · rw [if_pos c25] at H
                                  have c25b0 := eq_true c25
                                  have c25b1 : decide ((a0.extract (a1 : Int).toNat ((ji17) : Int).toNat).size + (a0.extract ((ji13) : Int).toNat ((wrap64 ((ji13) + t139)) : Int).toNat).size ≤ 9223372036854775807) = true := decide_eq_true c25
                                  try have c25b2 : (9223372036854775807 < (a0.extract (a1 : Int).toNat ((ji17) : Int).toNat).size + (a0.extract ((ji13) : Int).toNat ((wrap64 ((ji13) + t139)) : Int).toNat).size) = False := eq_false (Nat.not_lt.2 c25)
                                  replace H := Option.bind_eq_some_iff.mp H
                                  obtain ⟨t141, A260, H⟩ := H
                                  replace H : (if ((t140) % 4294967296) = t141 then (some (a0.extract ((ji13) : Int).toNat ((wrap64 ((ji13) + t139)) : Int).toNat, wrap64 ((ji13) + t139), 0)) else (some ((⟨#[]⟩ : ByteArray), 0, 21))) = some (r1, r2, r3) := H
                                  have A26 := Aside0.mk A260
                                  clear A260
                                  by_cases c27 : ((t140) % 4294967296) = t141
                                  · rw [if_pos c27] at H
                                    have c27b0 : (((t140) % 4294967296) == t141) = true := beq_iff_eq.mpr c27
                                    have c27b1 : (((t140) % 4294967296) != t141) = false := bne_eq_false_iff_eq.mpr c27
                                    clear c27
                                    simp only [Option.some.injEq, Prod.mk.injEq] at H
                                    obtain ⟨rfl, rfl, rfl⟩ := H
                                    go_wp2_with (first | (go_at_call 79; (with_reducible refine (rialtoref02_number.calls kj2 (a0.extract (a1 : Int).toNat ((ji17) : Int).toNat) t139 _ A10.out).mono ?_); rintro e w' ⟨rfl, ⟨nd, rfl⟩⟩; (try first | exact ⟨rfl, _, World.drewN_drewN _ _ _⟩ | exact ⟨rfl, _, Eq.trans (World.drewN_drewN _ _ _) (congrArg (World.drewN _) (Nat.add_assoc _ _ _))⟩)) | (go_at_call 79; (with_reducible refine (rialtoref02_number.calls kj2 (a0.extract ((ji17) : Int).toNat ((ji13) : Int).toNat) t140 _ A21.out).mono ?_); rintro e w' ⟨rfl, ⟨nd, rfl⟩⟩; (try first | exact ⟨rfl, _, World.drewN_drewN _ _ _⟩ | exact ⟨rfl, _, Eq.trans (World.drewN_drewN _ _ _) (congrArg (World.drewN _) (Nat.add_assoc _ _ _))⟩)) | (go_at_call 40; (with_reducible refine (rialtoref02_Sum.calls kj2 ((a0.extract (a1 : Int).toNat ((ji17) : Int).toNat) ++ (a0.extract ((ji13) : Int).toNat ((wrap64 ((ji13) + t139)) : Int).toNat)) t141 _ A26.out).mono ?_); rintro e w' ⟨rfl, ⟨nd, rfl⟩⟩; (try first | exact ⟨rfl, _, World.drewN_drewN _ _ _⟩ | exact ⟨rfl, _, Eq.trans (World.drewN_drewN _ _ _) (congrArg (World.drewN _) (Nat.add_assoc _ _ _))⟩)))
                                    repeat (go_quiet (first | (go_at_call 79; (with_reducible refine (rialtoref02_number.calls kj2 (a0.extract (a1 : Int).toNat ((ji17) : Int).toNat) t139 _ A10.out).mono ?_); rintro e w' ⟨rfl, ⟨nd, rfl⟩⟩; (try first | exact ⟨rfl, _, World.drewN_drewN _ _ _⟩ | exact ⟨rfl, _, Eq.trans (World.drewN_drewN _ _ _) (congrArg (World.drewN _) (Nat.add_assoc _ _ _))⟩)) | (go_at_call 79; (with_reducible refine (rialtoref02_number.calls kj2 (a0.extract ((ji17) : Int).toNat ((ji13) : Int).toNat) t140 _ A21.out).mono ?_); rintro e w' ⟨rfl, ⟨nd, rfl⟩⟩; (try first | exact ⟨rfl, _, World.drewN_drewN _ _ _⟩ | exact ⟨rfl, _, Eq.trans (World.drewN_drewN _ _ _) (congrArg (World.drewN _) (Nat.add_assoc _ _ _))⟩)) | (go_at_call 40; (with_reducible refine (rialtoref02_Sum.calls kj2 ((a0.extract (a1 : Int).toNat ((ji17) : Int).toNat) ++ (a0.extract ((ji13) : Int).toNat ((wrap64 ((ji13) + t139)) : Int).toNat)) t141 _ A26.out).mono ?_); rintro e w' ⟨rfl, ⟨nd, rfl⟩⟩; (try first | exact ⟨rfl, _, World.drewN_drewN _ _ _⟩ | exact ⟨rfl, _, Eq.trans (World.drewN_drewN _ _ _) (congrArg (World.drewN _) (Nat.add_assoc _ _ _))⟩))); try go_wp2_with (first | (go_at_call 79; (with_reducible refine (rialtoref02_number.calls kj2 (a0.extract (a1 : Int).toNat ((ji17) : Int).toNat) t139 _ A10.out).mono ?_); rintro e w' ⟨rfl, ⟨nd, rfl⟩⟩; (try first | exact ⟨rfl, _, World.drewN_drewN _ _ _⟩ | exact ⟨rfl, _, Eq.trans (World.drewN_drewN _ _ _) (congrArg (World.drewN _) (Nat.add_assoc _ _ _))⟩)) | (go_at_call 79; (with_reducible refine (rialtoref02_number.calls kj2 (a0.extract ((ji17) : Int).toNat ((ji13) : Int).toNat) t140 _ A21.out).mono ?_); rintro e w' ⟨rfl, ⟨nd, rfl⟩⟩; (try first | exact ⟨rfl, _, World.drewN_drewN _ _ _⟩ | exact ⟨rfl, _, Eq.trans (World.drewN_drewN _ _ _) (congrArg (World.drewN _) (Nat.add_assoc _ _ _))⟩)) | (go_at_call 40; (with_reducible refine (rialtoref02_Sum.calls kj2 ((a0.extract (a1 : Int).toNat ((ji17) : Int).toNat) ++ (a0.extract ((ji13) : Int).toNat ((wrap64 ((ji13) + t139)) : Int).toNat)) t141 _ A26.out).mono ?_); rintro e w' ⟨rfl, ⟨nd, rfl⟩⟩; (try first | exact ⟨rfl, _, World.drewN_drewN _ _ _⟩ | exact ⟨rfl, _, Eq.trans (World.drewN_drewN _ _ _) (congrArg (World.drewN _) (Nat.add_assoc _ _ _))⟩))))
                                    go_ret3
                                    exact ⟨by first | rfl | (simp; done) | (simp only [← hji13, ← hji17] <;> (first | rfl | simp)) | (simp [*]; done), by repeat (first | exact Drawn0.refl _ | apply Drawn0.step)⟩
                                  · rw [if_neg c27] at H
                                    have c27b0 : (((t140) % 4294967296) == t141) = false := beq_eq_false_iff_ne.mpr c27
                                    have c27b1 : (((t140) % 4294967296) != t141) = true := bne_iff_ne.mpr c27
                                    simp only [Option.some.injEq, Prod.mk.injEq] at H
                                    obtain ⟨rfl, rfl, rfl⟩ := H
                                    go_wp2_with (first | (go_at_call 79; (with_reducible refine (rialtoref02_number.calls kj2 (a0.extract (a1 : Int).toNat ((ji17) : Int).toNat) t139 _ A10.out).mono ?_); rintro e w' ⟨rfl, ⟨nd, rfl⟩⟩; (try first | exact ⟨rfl, _, World.drewN_drewN _ _ _⟩ | exact ⟨rfl, _, Eq.trans (World.drewN_drewN _ _ _) (congrArg (World.drewN _) (Nat.add_assoc _ _ _))⟩)) | (go_at_call 79; (with_reducible refine (rialtoref02_number.calls kj2 (a0.extract ((ji17) : Int).toNat ((ji13) : Int).toNat) t140 _ A21.out).mono ?_); rintro e w' ⟨rfl, ⟨nd, rfl⟩⟩; (try first | exact ⟨rfl, _, World.drewN_drewN _ _ _⟩ | exact ⟨rfl, _, Eq.trans (World.drewN_drewN _ _ _) (congrArg (World.drewN _) (Nat.add_assoc _ _ _))⟩)) | (go_at_call 40; (with_reducible refine (rialtoref02_Sum.calls kj2 ((a0.extract (a1 : Int).toNat ((ji17) : Int).toNat) ++ (a0.extract ((ji13) : Int).toNat ((wrap64 ((ji13) + t139)) : Int).toNat)) t141 _ A26.out).mono ?_); rintro e w' ⟨rfl, ⟨nd, rfl⟩⟩; (try first | exact ⟨rfl, _, World.drewN_drewN _ _ _⟩ | exact ⟨rfl, _, Eq.trans (World.drewN_drewN _ _ _) (congrArg (World.drewN _) (Nat.add_assoc _ _ _))⟩)))
                                    repeat (go_quiet (first | (go_at_call 79; (with_reducible refine (rialtoref02_number.calls kj2 (a0.extract (a1 : Int).toNat ((ji17) : Int).toNat) t139 _ A10.out).mono ?_); rintro e w' ⟨rfl, ⟨nd, rfl⟩⟩; (try first | exact ⟨rfl, _, World.drewN_drewN _ _ _⟩ | exact ⟨rfl, _, Eq.trans (World.drewN_drewN _ _ _) (congrArg (World.drewN _) (Nat.add_assoc _ _ _))⟩)) | (go_at_call 79; (with_reducible refine (rialtoref02_number.calls kj2 (a0.extract ((ji17) : Int).toNat ((ji13) : Int).toNat) t140 _ A21.out).mono ?_); rintro e w' ⟨rfl, ⟨nd, rfl⟩⟩; (try first | exact ⟨rfl, _, World.drewN_drewN _ _ _⟩ | exact ⟨rfl, _, Eq.trans (World.drewN_drewN _ _ _) (congrArg (World.drewN _) (Nat.add_assoc _ _ _))⟩)) | (go_at_call 40; (with_reducible refine (rialtoref02_Sum.calls kj2 ((a0.extract (a1 : Int).toNat ((ji17) : Int).toNat) ++ (a0.extract ((ji13) : Int).toNat ((wrap64 ((ji13) + t139)) : Int).toNat)) t141 _ A26.out).mono ?_); rintro e w' ⟨rfl, ⟨nd, rfl⟩⟩; (try first | exact ⟨rfl, _, World.drewN_drewN _ _ _⟩ | exact ⟨rfl, _, Eq.trans (World.drewN_drewN _ _ _) (congrArg (World.drewN _) (Nat.add_assoc _ _ _))⟩))); try go_wp2_with (first | (go_at_call 79; (with_reducible refine (rialtoref02_number.calls kj2 (a0.extract (a1 : Int).toNat ((ji17) : Int).toNat) t139 _ A10.out).mono ?_); rintro e w' ⟨rfl, ⟨nd, rfl⟩⟩; (try first | exact ⟨rfl, _, World.drewN_drewN _ _ _⟩ | exact ⟨rfl, _, Eq.trans (World.drewN_drewN _ _ _) (congrArg (World.drewN _) (Nat.add_assoc _ _ _))⟩)) | (go_at_call 79; (with_reducible refine (rialtoref02_number.calls kj2 (a0.extract ((ji17) : Int).toNat ((ji13) : Int).toNat) t140 _ A21.out).mono ?_); rintro e w' ⟨rfl, ⟨nd, rfl⟩⟩; (try first | exact ⟨rfl, _, World.drewN_drewN _ _ _⟩ | exact ⟨rfl, _, Eq.trans (World.drewN_drewN _ _ _) (congrArg (World.drewN _) (Nat.add_assoc _ _ _))⟩)) | (go_at_call 40; (with_reducible refine (rialtoref02_Sum.calls kj2 ((a0.extract (a1 : Int).toNat ((ji17) : Int).toNat) ++ (a0.extract ((ji13) : Int).toNat ((wrap64 ((ji13) + t139)) : Int).toNat)) t141 _ A26.out).mono ?_); rintro e w' ⟨rfl, ⟨nd, rfl⟩⟩; (try first | exact ⟨rfl, _, World.drewN_drewN _ _ _⟩ | exact ⟨rfl, _, Eq.trans (World.drewN_drewN _ _ _) (congrArg (World.drewN _) (Nat.add_assoc _ _ _))⟩))))
                                    go_ret3
                                    exact ⟨by first | rfl | (simp; done) | (simp only [← hji13, ← hji17] <;> (first | rfl | simp)) | (simp [*]; done), by repeat (first | exact Drawn0.refl _ | apply Drawn0.step)⟩
                                · rw [if_neg c25] at H
                                  exact absurd H (by simp)
                              · rw [if_neg c20] at H
                                exact absurd H (by simp)
                            · rw [if_neg c19] at H
                              exact absurd H (by simp)
                          · rw [if_neg c18] at H
                            exact absurd H (by simp)
                        · rw [if_neg c16] at H
                          exact absurd H (by simp)
                      · rw [if_neg c15] at H
                        exact absurd H (by simp)
                    · rw [if_neg c14] at H
                      exact absurd H (by simp)
              · rw [if_neg c9] at H
                exact absurd H (by simp)
            · rw [if_neg c8] at H
              exact absurd H (by simp)
          · rw [if_neg c7] at H
            exact absurd H (by simp)

/-! ### rialtoref02_Frames: function 44 -/
def rialtoref02_Frames.l0 : Nat → ByteArray → List ByteArray → Int → Option (List ByteArray × Int)
  | 0, _, _, _ => none
  | k + 1, x0, x4, x5 => (rialtoref02_Unframe.f k x0 x5).bind fun bt142 => (if bt142.2.2 = 0 then (if x4.length < 8796093022208 then (rialtoref02_Frames.l0 k x0 (x4 ++ [bt142.1]) bt142.2.1) else (none)) else (some (x4, x5)))
def rialtoref02_Frames.f (k : Nat) (a0 : ByteArray) : Option (List ByteArray × Int) := rialtoref02_Frames.l0 k a0 ([] : List ByteArray) 0
theorem rialtoref02_Frames.mono_l : ∀ k, (∀ y0 y1 y2, LeO (rialtoref02_Frames.l0 k y0 y1 y2) (rialtoref02_Frames.l0 (k + 1) y0 y1 y2))
  | 0 => fun _ _ _ r h => by simp [rialtoref02_Frames.l0] at h
  | k + 1 => by
    have ih0 := rialtoref02_Frames.mono_l k
    · intro y0 y1 y2
      unfold rialtoref02_Frames.l0
      repeat' first
      | (with_reducible exact ih0 _ _ _)
      | (with_reducible exact rialtoref02_Unframe.mono _ _ _)
      | (with_reducible exact LeO.refl _)
      | (with_reducible exact LeO.none _)
      | (with_reducible refine LeO.ite ?_ ?_)
      | (with_reducible refine LeO.bind ?_ (fun _ => ?_))
      | exact ih0 _ _ _
      | exact rialtoref02_Unframe.mono _ _ _
      | exact LeO.none _
      | refine LeO.ite ?_ ?_
      | refine LeO.bind ?_ (fun _ => ?_)
theorem rialtoref02_Frames.mono : ∀ a0 k, LeO (rialtoref02_Frames.f k a0) (rialtoref02_Frames.f (k + 1) a0) := by
  intro a0 k
  have ih0 := rialtoref02_Frames.mono_l k
  unfold rialtoref02_Frames.f
  repeat' first
      | (with_reducible exact ih0 _ _ _)
      | (with_reducible exact rialtoref02_Unframe.mono _ _ _)
      | (with_reducible exact LeO.refl _)
      | (with_reducible exact LeO.none _)
      | (with_reducible refine LeO.ite ?_ ?_)
      | (with_reducible refine LeO.bind ?_ (fun _ => ?_))
      | exact ih0 _ _ _
      | exact rialtoref02_Unframe.mono _ _ _
      | exact LeO.none _
      | refine LeO.ite ?_ ?_
      | refine LeO.bind ?_ (fun _ => ?_)
set_option maxHeartbeats 8000000 in
set_option maxRecDepth 100000 in
theorem rialtoref02_Frames.calls (k : Nat) (a0 : ByteArray) (r1 : List ByteArray) (r2 : Int) (w : World) (h : rialtoref02_Frames.f k a0 = some (r1, r2)) :
    Calls Try.prog 44 #[.string a0] w fun e w' => ∃ v0_ : Value, e = .returned (.tuple #[v0_, .int .i64 r2]) ∧ Kd.R Kd.string 9 w' w.heap.size (fun _ => True) v0_ r1 ∧ Below w.heap.size w w' := by
  have HB := Aside0.mk (Below.refl w.heap.size w)
  have H : (rialtoref02_Frames.l0 k a0 ([] : List ByteArray) 0) = some (r1, r2) := h
  clear h
  have H' := Aside0.mk H
  clear H
  go_enter Try.func44, Try.ntmps44
  go_wp2
  go_loopg [4, 5] k (fun kq v4 v5 w' => ∃ (x4_1 : List ByteArray) (x5_1 : Int), v5 = .int .i64 x5_1 ∧ Aside0 (rialtoref02_Frames.l0 kq a0 x4_1 x5_1 = some (r1, r2)) ∧ Aside0 (kq ≤ k) ∧ Aside0 (Kd.R Kd.string 9 w' w.heap.size (fun _ => True) v4 x4_1) ∧ Aside0 (Below w.heap.size w w'))
  case atStart => exact ⟨(([] : List ByteArray)), (0), (by first | rfl | (simp; done) | (simp [*]; done)), H', ⟨Nat.le_refl _⟩, ⟨by first | exact Kd.R_nil _ _ _ _ _ | exact Kd.N_nil _ _ _ _ _ | exact Kd.V_nil _ _ _ _ _ | exact Kd.Q_nil _ _ _ _ _ | exact Kd.S_nil _ _ _ _ _⟩, ⟨by repeat (first | (with_reducible first | exact HB.out | apply below_alloc | apply pw_below_drewN | apply below_drew1) | exact HB.out)⟩⟩
  case round =>
    clear H'
    obtain ⟨x4_1, x5_1, rfl, HA, HK1, HO_4, HB⟩ := hrel
    cases gk with
    | zero => exact absurd HA.out (by simp [rialtoref02_Frames.l0])
    | succ k1 =>
      have H := HA.out
      clear HA
      simp only [rialtoref02_Frames.l0] at H
      replace H := Option.bind_eq_some_iff.mp H
      obtain ⟨⟨t142, t143, t144⟩, A20, H⟩ := H
      replace H : (if t144 = 0 then (if x4_1.length < 8796093022208 then (rialtoref02_Frames.l0 k1 a0 (x4_1 ++ [t142]) t143) else (none)) else (some (x4_1, x5_1))) = some (r1, r2) := H
      have A2 := Aside0.mk A20
      clear A20
      by_cases c3 : t144 = 0
      · rw [if_pos c3] at H
        have c3b0 : (t144 == 0) = true := beq_iff_eq.mpr c3
        have c3b1 : (t144 != 0) = false := bne_eq_false_iff_eq.mpr c3
        clear c3
        by_cases c4 : x4_1.length < 8796093022208
        · rw [if_pos c4] at H
          have LMc4 := Aside0.mk c4
          clear c4
          obtain ⟨y145, hy145⟩ : ∃ y_ : List ByteArray, y_ = (x4_1 ++ [t142]) := ⟨_, rfl⟩
          replace H : (rialtoref02_Frames.l0 k1 a0 y145 t143) = some (r1, r2) := by first | (rw [hy145]; with_reducible exact H) | (have H2_ := (Option.bind_some _ _).symm.trans H; rw [hy145]; with_reducible exact H2_) | (have H2_ := (Option.bind_some _ _).symm.trans H; with_reducible exact H2_) | with_reducible exact H | (rw [hy145]; exact H) | exact H
          have Ny145 := Aside0.mk hy145
          clear hy145
          have H' := Aside0.mk H
          clear H
          go_wp2_with (first | ((with_reducible refine gate_callee (f := 43) rfl ?_); refine goesL_ (some 12) rfl rfl Try.func43 (by kernel_rfl) rfl #[.string a0, .int .i64 x5_1] rfl (by (try simp only [List.map_toArray, List.map_cons, List.map_nil]); first | done | rfl | (simp only [List.length_drop, List.length_take]; rfl)) ?_; (with_reducible refine (rialtoref02_Unframe.calls k1 a0 x5_1 t142 t143 t144 _ A2.out).mono ?_); rintro e w' ⟨rfl, ⟨nd, rfl⟩⟩; refine ⟨_, rfl, ?_⟩) | ((with_reducible refine gate_builtin (b := .append) (xs := #[.tmp 20, .tmp 22]) rfl ?_); at_builtin; refine Kd.R_append Kd.string (w0 := w) w.heap.size rfl (.tmp 20) (.tmp 22) 26 9 (.string ⟨#[]⟩) 16 rfl Try.underlying26 info9 rfl (by decide) (by omega) u4 x4_1 t142 [.string t142] (fun _ => True) (fun _ => False) rfl rfl ?aP (fun _ hk => hk.elim) ?aF ?aO ?aB ?aS ?aL ?_; (case aP => exact rfl); (case aB => exact (by repeat (first | (with_reducible first | exact HB.out | apply below_alloc | apply pw_below_drewN | apply below_drew1) | exact HB.out))); (case aF => exact (fun _ _ => trivial)); (case aO => exact (by (with_reducible repeat (first | apply Kd.R_alloc | apply Kd.R_drewN | apply Kd.R_drew)); exact HO_4.out)); (case aS => exact (below_size (by repeat (first | (with_reducible first | exact HB.out | apply below_alloc | apply pw_below_drewN | apply below_drew1) | exact HB.out)))); (case aL => have := LMc4.out; omega); intro v146 w5 ho hb hg hat; rw [← Ny145.out] at ho; have n0_ := Aside0.mk (hb); have n1_ := Aside0.mk (ho); clear HB; clear HO_4; have HB := n0_; have HO147 := n1_; clear n0_ n1_; clear ho hb hg hat))
          go_roundg k1
          case measure => have := HK1.out; omega
          case rel => exact ⟨(y145), (t143), (by first | rfl | (simp; done) | (simp [*]; done)), H', ⟨by have := HK1.out; omega⟩, ⟨by (with_reducible repeat (first | apply Kd.R_alloc | apply Kd.R_drewN | apply Kd.R_drew)); exact HO147.out⟩, ⟨by repeat (first | (with_reducible first | exact HB.out | apply below_alloc | apply pw_below_drewN | apply below_drew1) | exact HB.out)⟩⟩
        · rw [if_neg c4] at H
          exact absurd H (by simp)
      · rw [if_neg c3] at H
        have c3b0 : (t144 == 0) = false := beq_eq_false_iff_ne.mpr c3
        have c3b1 : (t144 != 0) = true := bne_iff_ne.mpr c3
        simp only [Option.some.injEq, Prod.mk.injEq] at H
        obtain ⟨rfl, rfl⟩ := H
        go_wp2_with (first | ((with_reducible refine gate_callee (f := 43) rfl ?_); refine goesL_ (some 12) rfl rfl Try.func43 (by kernel_rfl) rfl #[.string a0, .int .i64 x5_1] rfl (by (try simp only [List.map_toArray, List.map_cons, List.map_nil]); first | done | rfl | (simp only [List.length_drop, List.length_take]; rfl)) ?_; (with_reducible refine (rialtoref02_Unframe.calls k1 a0 x5_1 t142 t143 t144 _ A2.out).mono ?_); rintro e w' ⟨rfl, ⟨nd, rfl⟩⟩; refine ⟨_, rfl, ?_⟩))
        go_ret2
        exact ⟨_, by first | rfl | (simp [errW_none, errW_some] <;> rfl) | (simp [*, errW_none, errW_some] <;> rfl), by (with_reducible repeat (first | apply Kd.R_alloc | apply Kd.R_drewN | apply Kd.R_drew)); exact HO_4.out, by repeat (first | (with_reducible first | exact HB.out | apply below_alloc | apply pw_below_drewN | apply below_drew1) | exact HB.out)⟩

end Go.Proofs.Ytaddblicjlohcaa.Sl
