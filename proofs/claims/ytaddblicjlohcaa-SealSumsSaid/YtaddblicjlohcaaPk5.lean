/- Functions of the given program as Lean functions, each with a proof that a call of it comes to what its Lean function says. Written by a program (wip/tools/myprint.py over the kit's print). No conditions. -/
import Derived.Test.YtaddblicjlohcaaPk0
import Derived.Test.YtaddblicjlohcaaPk4
namespace Go.Proofs.Ytaddblicjlohcaa.Pk
open Go.RowKit Go.Proofs.YtaddblicjlohcaaW.PrintWords Go.Proofs.YtaddblicjlohcaaW.PrintLast Go.Proofs.YtaddblicjlohcaaW.PrintMore
attribute [local go_sem] max2_int min2_int max_two min_two max_three min_three max_four min_four   -- for this text's walks alone
set_option linter.unusedVariables false
set_option linter.unusedSimpArgs false

/-! ### pack_TakeText: function 32 -/
def pack_TakeText.f (k : Nat) (a0 : ByteArray) (a1 : Int) : Option (ByteArray × Int × Int) := (pack_counted.f k a0 a1 60000).bind fun bt169 => (if bt169.2.2 = 0 then (if bt169.1 > (wrap64 ((a0.size : Int) - bt169.2.1)) then (some ((⟨#[]⟩ : ByteArray), 0, 10)) else (if 0 ≤ bt169.2.1 then (if bt169.2.1 ≤ (wrap64 (bt169.2.1 + bt169.1)) then (if (wrap64 (bt169.2.1 + bt169.1)) ≤ (a0.size : Int) then (some (a0.extract (bt169.2.1 : Int).toNat ((wrap64 (bt169.2.1 + bt169.1)) : Int).toNat, wrap64 (bt169.2.1 + bt169.1), 0)) else (none)) else (none)) else (none))) else (some ((⟨#[]⟩ : ByteArray), 0, bt169.2.2)))
theorem pack_TakeText.mono : ∀ a0 a1 k, LeO (pack_TakeText.f k a0 a1) (pack_TakeText.f (k + 1) a0 a1) := by
  intro a0 a1 k
  unfold pack_TakeText.f
  repeat' first
      | (with_reducible exact pack_counted.mono _ _ _ _)
      | (with_reducible exact LeO.refl _)
      | (with_reducible exact LeO.none _)
      | (with_reducible refine LeO.ite ?_ ?_)
      | (with_reducible refine LeO.bind ?_ (fun _ => ?_))
      | exact pack_counted.mono _ _ _ _
      | exact LeO.none _
      | refine LeO.ite ?_ ?_
      | refine LeO.bind ?_ (fun _ => ?_)
set_option maxHeartbeats 8000000 in
set_option maxRecDepth 100000 in
theorem pack_TakeText.calls (k : Nat) (a0 : ByteArray) (a1 : Int) (r1 : ByteArray) (r2 : Int) (r3 : Int) (w : World) (h : pack_TakeText.f k a0 a1 = some (r1, r2, r3)) :
    Calls Try.prog 32 #[.string a0, .int .i64 a1] w fun e w' => e = .returned (.tuple #[.string r1, .int .i64 r2, .int .i64 r3]) ∧ Drawn0 w w' := by
  have H : ((pack_counted.f k a0 a1 60000).bind fun bt169 => (if bt169.2.2 = 0 then (if bt169.1 > (wrap64 ((a0.size : Int) - bt169.2.1)) then (some ((⟨#[]⟩ : ByteArray), 0, 10)) else (if 0 ≤ bt169.2.1 then (if bt169.2.1 ≤ (wrap64 (bt169.2.1 + bt169.1)) then (if (wrap64 (bt169.2.1 + bt169.1)) ≤ (a0.size : Int) then (some (a0.extract (bt169.2.1 : Int).toNat ((wrap64 (bt169.2.1 + bt169.1)) : Int).toNat, wrap64 (bt169.2.1 + bt169.1), 0)) else (none)) else (none)) else (none))) else (some ((⟨#[]⟩ : ByteArray), 0, bt169.2.2)))) = some (r1, r2, r3) := h
  clear h
  replace H := Option.bind_eq_some_iff.mp H
  obtain ⟨⟨t169, t170, t171⟩, A30, H⟩ := H
  replace H : (if t171 = 0 then (if t169 > (wrap64 ((a0.size : Int) - t170)) then (some ((⟨#[]⟩ : ByteArray), 0, 10)) else (if 0 ≤ t170 then (if t170 ≤ (wrap64 (t170 + t169)) then (if (wrap64 (t170 + t169)) ≤ (a0.size : Int) then (some (a0.extract (t170 : Int).toNat ((wrap64 (t170 + t169)) : Int).toNat, wrap64 (t170 + t169), 0)) else (none)) else (none)) else (none))) else (some ((⟨#[]⟩ : ByteArray), 0, t171))) = some (r1, r2, r3) := H
  have A3 := Aside0.mk A30
  clear A30
  by_cases c4 : t171 = 0
  · rw [if_pos c4] at H
    have c4b0 : (t171 == 0) = true := beq_iff_eq.mpr c4
    have c4b1 : (t171 != 0) = false := bne_eq_false_iff_eq.mpr c4
    clear c4
    by_cases c5 : t169 > (wrap64 ((a0.size : Int) - t170))
    · rw [if_pos c5] at H
      have c5b0 : decide ((wrap64 ((a0.size : Int) - t170)) < t169) = true := decide_eq_true c5
      clear c5
      simp only [Option.some.injEq, Prod.mk.injEq] at H
      obtain ⟨rfl, rfl, rfl⟩ := H
      go_enter Try.func32, Try.ntmps32
      go_wp2_with (first | ((with_reducible refine gate_callee (f := 73) rfl ?_); refine goesL_ (some 13) rfl rfl Try.func73 (by kernel_rfl) rfl #[.string a0, .int .i64 a1, .int .u64 60000] rfl (by (try simp only [List.map_toArray, List.map_cons, List.map_nil]); first | done | rfl | (simp only [List.length_drop, List.length_take]; rfl)) ?_; (with_reducible refine (pack_counted.calls k a0 a1 60000 t169 t170 t171 _ A3.out).mono ?_); rintro e w' ⟨rfl, ⟨nd, rfl⟩⟩; refine ⟨_, rfl, ?_⟩))
      go_ret3
      exact ⟨by first | rfl | (simp; done) | (simp [*]; done), by repeat (first | exact Drawn0.refl _ | apply Drawn0.step)⟩
    · rw [if_neg c5] at H
      have c5b0 : decide ((wrap64 ((a0.size : Int) - t170)) < t169) = false := decide_eq_false c5
      clear c5
      by_cases c6 : 0 ≤ t170
      · rw [if_pos c6] at H
        have c6b0 := eq_true c6
        have c6b1 : decide (0 ≤ t170) = true := decide_eq_true c6
        clear c6
        by_cases c7 : t170 ≤ (wrap64 (t170 + t169))
        · rw [if_pos c7] at H
          have c7b0 := eq_true c7
          have c7b1 : decide (t170 ≤ (wrap64 (t170 + t169))) = true := decide_eq_true c7
          by_cases c8 : (wrap64 (t170 + t169)) ≤ (a0.size : Int)
          · rw [if_pos c8] at H
            have c8b0 := eq_true c8
            have c8b1 : decide ((wrap64 (t170 + t169)) ≤ (a0.size : Int)) = true := decide_eq_true c8
            simp only [Option.some.injEq, Prod.mk.injEq] at H
            obtain ⟨rfl, rfl, rfl⟩ := H
            go_enter Try.func32, Try.ntmps32
            go_wp2_with (first | ((with_reducible refine gate_callee (f := 73) rfl ?_); refine goesL_ (some 13) rfl rfl Try.func73 (by kernel_rfl) rfl #[.string a0, .int .i64 a1, .int .u64 60000] rfl (by (try simp only [List.map_toArray, List.map_cons, List.map_nil]); first | done | rfl | (simp only [List.length_drop, List.length_take]; rfl)) ?_; (with_reducible refine (pack_counted.calls k a0 a1 60000 t169 t170 t171 _ A3.out).mono ?_); rintro e w' ⟨rfl, ⟨nd, rfl⟩⟩; refine ⟨_, rfl, ?_⟩))
            go_ret3
            exact ⟨by first | rfl | (simp; done) | (simp [*]; done), by repeat (first | exact Drawn0.refl _ | apply Drawn0.step)⟩
          · rw [if_neg c8] at H
            exact absurd H (by simp)
        · rw [if_neg c7] at H
          exact absurd H (by simp)
      · rw [if_neg c6] at H
        exact absurd H (by simp)
  · rw [if_neg c4] at H
    have c4b0 : (t171 == 0) = false := beq_eq_false_iff_ne.mpr c4
    have c4b1 : (t171 != 0) = true := bne_iff_ne.mpr c4
    simp only [Option.some.injEq, Prod.mk.injEq] at H
    obtain ⟨rfl, rfl, rfl⟩ := H
    go_enter Try.func32, Try.ntmps32
    go_wp2_with (first | ((with_reducible refine gate_callee (f := 73) rfl ?_); refine goesL_ (some 13) rfl rfl Try.func73 (by kernel_rfl) rfl #[.string a0, .int .i64 a1, .int .u64 60000] rfl (by (try simp only [List.map_toArray, List.map_cons, List.map_nil]); first | done | rfl | (simp only [List.length_drop, List.length_take]; rfl)) ?_; (with_reducible refine (pack_counted.calls k a0 a1 60000 t169 t170 t171 _ A3.out).mono ?_); rintro e w' ⟨rfl, ⟨nd, rfl⟩⟩; refine ⟨_, rfl, ?_⟩))
    go_ret3
    exact ⟨by first | rfl | (simp; done) | (simp [*]; done), by repeat (first | exact Drawn0.refl _ | apply Drawn0.step)⟩

/-! ### rialtoref01_TakeText: function 33 -/
def rialtoref01_TakeText.f (k : Nat) (a0 : ByteArray) (a1 : Int) : Option (ByteArray × Int × Int) := (rialtoref01_TakeUint.f k a0 a1).bind fun bt172 => (if bt172.2.2 = 0 then (if bt172.1 > 60000 then (some ((⟨#[]⟩ : ByteArray), 0, 11)) else (if (wrap64 (bt172.1)) > (wrap64 ((a0.size : Int) - bt172.2.1)) then (some ((⟨#[]⟩ : ByteArray), 0, 10)) else (if 0 ≤ bt172.2.1 then (if bt172.2.1 ≤ (wrap64 (bt172.2.1 + (wrap64 (bt172.1)))) then (if (wrap64 (bt172.2.1 + (wrap64 (bt172.1)))) ≤ (a0.size : Int) then (some (a0.extract (bt172.2.1 : Int).toNat ((wrap64 (bt172.2.1 + (wrap64 (bt172.1)))) : Int).toNat, wrap64 (bt172.2.1 + (wrap64 (bt172.1))), 0)) else (none)) else (none)) else (none)))) else (some ((⟨#[]⟩ : ByteArray), 0, bt172.2.2)))
theorem rialtoref01_TakeText.mono : ∀ a0 a1 k, LeO (rialtoref01_TakeText.f k a0 a1) (rialtoref01_TakeText.f (k + 1) a0 a1) := by
  intro a0 a1 k
  unfold rialtoref01_TakeText.f
  repeat' first
      | (with_reducible exact rialtoref01_TakeUint.mono _ _ _)
      | (with_reducible exact LeO.refl _)
      | (with_reducible exact LeO.none _)
      | (with_reducible refine LeO.ite ?_ ?_)
      | (with_reducible refine LeO.bind ?_ (fun _ => ?_))
      | exact rialtoref01_TakeUint.mono _ _ _
      | exact LeO.none _
      | refine LeO.ite ?_ ?_
      | refine LeO.bind ?_ (fun _ => ?_)
set_option maxHeartbeats 8000000 in
set_option maxRecDepth 100000 in
theorem rialtoref01_TakeText.calls (k : Nat) (a0 : ByteArray) (a1 : Int) (r1 : ByteArray) (r2 : Int) (r3 : Int) (w : World) (h : rialtoref01_TakeText.f k a0 a1 = some (r1, r2, r3)) :
    Calls Try.prog 33 #[.string a0, .int .i64 a1] w fun e w' => e = .returned (.tuple #[.string r1, .int .i64 r2, .int .i64 r3]) ∧ Drawn0 w w' := by
  have H : ((rialtoref01_TakeUint.f k a0 a1).bind fun bt172 => (if bt172.2.2 = 0 then (if bt172.1 > 60000 then (some ((⟨#[]⟩ : ByteArray), 0, 11)) else (if (wrap64 (bt172.1)) > (wrap64 ((a0.size : Int) - bt172.2.1)) then (some ((⟨#[]⟩ : ByteArray), 0, 10)) else (if 0 ≤ bt172.2.1 then (if bt172.2.1 ≤ (wrap64 (bt172.2.1 + (wrap64 (bt172.1)))) then (if (wrap64 (bt172.2.1 + (wrap64 (bt172.1)))) ≤ (a0.size : Int) then (some (a0.extract (bt172.2.1 : Int).toNat ((wrap64 (bt172.2.1 + (wrap64 (bt172.1)))) : Int).toNat, wrap64 (bt172.2.1 + (wrap64 (bt172.1))), 0)) else (none)) else (none)) else (none)))) else (some ((⟨#[]⟩ : ByteArray), 0, bt172.2.2)))) = some (r1, r2, r3) := h
  clear h
  replace H := Option.bind_eq_some_iff.mp H
  obtain ⟨⟨t172, t173, t174⟩, A30, H⟩ := H
  replace H : (if t174 = 0 then (if t172 > 60000 then (some ((⟨#[]⟩ : ByteArray), 0, 11)) else (if (wrap64 (t172)) > (wrap64 ((a0.size : Int) - t173)) then (some ((⟨#[]⟩ : ByteArray), 0, 10)) else (if 0 ≤ t173 then (if t173 ≤ (wrap64 (t173 + (wrap64 (t172)))) then (if (wrap64 (t173 + (wrap64 (t172)))) ≤ (a0.size : Int) then (some (a0.extract (t173 : Int).toNat ((wrap64 (t173 + (wrap64 (t172)))) : Int).toNat, wrap64 (t173 + (wrap64 (t172))), 0)) else (none)) else (none)) else (none)))) else (some ((⟨#[]⟩ : ByteArray), 0, t174))) = some (r1, r2, r3) := H
  have A3 := Aside0.mk A30
  clear A30
  by_cases c4 : t174 = 0
  · rw [if_pos c4] at H
    have c4b0 : (t174 == 0) = true := beq_iff_eq.mpr c4
    have c4b1 : (t174 != 0) = false := bne_eq_false_iff_eq.mpr c4
    clear c4
    by_cases c5 : t172 > 60000
    · rw [if_pos c5] at H
      have c5b0 : decide (60000 < t172) = true := decide_eq_true c5
      clear c5
      simp only [Option.some.injEq, Prod.mk.injEq] at H
      obtain ⟨rfl, rfl, rfl⟩ := H
      go_enter Try.func33, Try.ntmps33
      go_wp2_with (first | ((with_reducible refine gate_callee (f := 29) rfl ?_); refine goesL_ (some 13) rfl rfl Try.func29 (by kernel_rfl) rfl #[.string a0, .int .i64 a1] rfl (by (try simp only [List.map_toArray, List.map_cons, List.map_nil]); first | done | rfl | (simp only [List.length_drop, List.length_take]; rfl)) ?_; (with_reducible refine (rialtoref01_TakeUint.calls k a0 a1 t172 t173 t174 _ A3.out).mono ?_); rintro e w' ⟨rfl, ⟨nd, rfl⟩⟩; refine ⟨_, rfl, ?_⟩))
      go_ret3
      exact ⟨by first | rfl | (simp; done) | (simp [*]; done), by repeat (first | exact Drawn0.refl _ | apply Drawn0.step)⟩
    · rw [if_neg c5] at H
      have c5b0 : decide (60000 < t172) = false := decide_eq_false c5
      clear c5
      by_cases c6 : (wrap64 (t172)) > (wrap64 ((a0.size : Int) - t173))
      · rw [if_pos c6] at H
        have c6b0 : decide ((wrap64 ((a0.size : Int) - t173)) < (wrap64 (t172))) = true := decide_eq_true c6
        clear c6
        simp only [Option.some.injEq, Prod.mk.injEq] at H
        obtain ⟨rfl, rfl, rfl⟩ := H
        go_enter Try.func33, Try.ntmps33
        go_wp2_with (first | ((with_reducible refine gate_callee (f := 29) rfl ?_); refine goesL_ (some 13) rfl rfl Try.func29 (by kernel_rfl) rfl #[.string a0, .int .i64 a1] rfl (by (try simp only [List.map_toArray, List.map_cons, List.map_nil]); first | done | rfl | (simp only [List.length_drop, List.length_take]; rfl)) ?_; (with_reducible refine (rialtoref01_TakeUint.calls k a0 a1 t172 t173 t174 _ A3.out).mono ?_); rintro e w' ⟨rfl, ⟨nd, rfl⟩⟩; refine ⟨_, rfl, ?_⟩))
        go_ret3
        exact ⟨by first | rfl | (simp; done) | (simp [*]; done), by repeat (first | exact Drawn0.refl _ | apply Drawn0.step)⟩
      · rw [if_neg c6] at H
        have c6b0 : decide ((wrap64 ((a0.size : Int) - t173)) < (wrap64 (t172))) = false := decide_eq_false c6
        clear c6
        by_cases c7 : 0 ≤ t173
        · rw [if_pos c7] at H
          have c7b0 := eq_true c7
          have c7b1 : decide (0 ≤ t173) = true := decide_eq_true c7
          clear c7
          by_cases c8 : t173 ≤ (wrap64 (t173 + (wrap64 (t172))))
          · rw [if_pos c8] at H
            have c8b0 := eq_true c8
            have c8b1 : decide (t173 ≤ (wrap64 (t173 + (wrap64 (t172))))) = true := decide_eq_true c8
            by_cases c9 : (wrap64 (t173 + (wrap64 (t172)))) ≤ (a0.size : Int)
            · rw [if_pos c9] at H
              have c9b0 := eq_true c9
              have c9b1 : decide ((wrap64 (t173 + (wrap64 (t172)))) ≤ (a0.size : Int)) = true := decide_eq_true c9
              simp only [Option.some.injEq, Prod.mk.injEq] at H
              obtain ⟨rfl, rfl, rfl⟩ := H
              go_enter Try.func33, Try.ntmps33
              go_wp2_with (first | ((with_reducible refine gate_callee (f := 29) rfl ?_); refine goesL_ (some 13) rfl rfl Try.func29 (by kernel_rfl) rfl #[.string a0, .int .i64 a1] rfl (by (try simp only [List.map_toArray, List.map_cons, List.map_nil]); first | done | rfl | (simp only [List.length_drop, List.length_take]; rfl)) ?_; (with_reducible refine (rialtoref01_TakeUint.calls k a0 a1 t172 t173 t174 _ A3.out).mono ?_); rintro e w' ⟨rfl, ⟨nd, rfl⟩⟩; refine ⟨_, rfl, ?_⟩))
              go_ret3
              exact ⟨by first | rfl | (simp; done) | (simp [*]; done), by repeat (first | exact Drawn0.refl _ | apply Drawn0.step)⟩
            · rw [if_neg c9] at H
              exact absurd H (by simp)
          · rw [if_neg c8] at H
            exact absurd H (by simp)
        · rw [if_neg c7] at H
          exact absurd H (by simp)
  · rw [if_neg c4] at H
    have c4b0 : (t174 == 0) = false := beq_eq_false_iff_ne.mpr c4
    have c4b1 : (t174 != 0) = true := bne_iff_ne.mpr c4
    simp only [Option.some.injEq, Prod.mk.injEq] at H
    obtain ⟨rfl, rfl, rfl⟩ := H
    go_enter Try.func33, Try.ntmps33
    go_wp2_with (first | ((with_reducible refine gate_callee (f := 29) rfl ?_); refine goesL_ (some 13) rfl rfl Try.func29 (by kernel_rfl) rfl #[.string a0, .int .i64 a1] rfl (by (try simp only [List.map_toArray, List.map_cons, List.map_nil]); first | done | rfl | (simp only [List.length_drop, List.length_take]; rfl)) ?_; (with_reducible refine (rialtoref01_TakeUint.calls k a0 a1 t172 t173 t174 _ A3.out).mono ?_); rintro e w' ⟨rfl, ⟨nd, rfl⟩⟩; refine ⟨_, rfl, ?_⟩))
    go_ret3
    exact ⟨by first | rfl | (simp; done) | (simp [*]; done), by repeat (first | exact Drawn0.refl _ | apply Drawn0.step)⟩

/-! ### rialtoref01_TakeList: function 34 -/
def rialtoref01_TakeList.l0 : Nat → ByteArray → Int → Int → List ByteArray → Int → Option (List ByteArray × Int × Int)
  | 0, _, _, _, _, _ => none
  | k + 1, x0, x7, x8, x10, x11 => if x11 < (wrap64 (x7)) then ((rialtoref01_TakeText.f k x0 x8).bind fun bt178 => (if bt178.2.2 = 0 then (if x10.length < 8796093022208 then (rialtoref01_TakeList.l0 k x0 x7 bt178.2.1 (x10 ++ [bt178.1]) (wrap64 (x11 + 1))) else (none)) else (some (([] : List ByteArray), 0, bt178.2.2)))) else (some (x10, x8, 0))
def rialtoref01_TakeList.f (k : Nat) (a0 : ByteArray) (a1 : Int) : Option (List ByteArray × Int × Int) := (rialtoref01_TakeUint.f k a0 a1).bind fun bt175 => (if bt175.2.2 = 0 then (if bt175.1 > 4000 then (some (([] : List ByteArray), 0, 11)) else (rialtoref01_TakeList.l0 k a0 bt175.1 bt175.2.1 ([] : List ByteArray) 0)) else (some (([] : List ByteArray), 0, bt175.2.2)))
theorem rialtoref01_TakeList.mono_l : ∀ k, (∀ y0 y1 y2 y3 y4, LeO (rialtoref01_TakeList.l0 k y0 y1 y2 y3 y4) (rialtoref01_TakeList.l0 (k + 1) y0 y1 y2 y3 y4))
  | 0 => fun _ _ _ _ _ r h => by simp [rialtoref01_TakeList.l0] at h
  | k + 1 => by
    have ih0 := rialtoref01_TakeList.mono_l k
    · intro y0 y1 y2 y3 y4
      unfold rialtoref01_TakeList.l0
      repeat' first
      | (with_reducible exact ih0 _ _ _ _ _)
      | (with_reducible exact rialtoref01_TakeText.mono _ _ _)
      | (with_reducible exact rialtoref01_TakeUint.mono _ _ _)
      | (with_reducible exact LeO.refl _)
      | (with_reducible exact LeO.none _)
      | (with_reducible refine LeO.ite ?_ ?_)
      | (with_reducible refine LeO.bind ?_ (fun _ => ?_))
      | exact ih0 _ _ _ _ _
      | exact rialtoref01_TakeText.mono _ _ _
      | exact rialtoref01_TakeUint.mono _ _ _
      | exact LeO.none _
      | refine LeO.ite ?_ ?_
      | refine LeO.bind ?_ (fun _ => ?_)
theorem rialtoref01_TakeList.mono : ∀ a0 a1 k, LeO (rialtoref01_TakeList.f k a0 a1) (rialtoref01_TakeList.f (k + 1) a0 a1) := by
  intro a0 a1 k
  have ih0 := rialtoref01_TakeList.mono_l k
  unfold rialtoref01_TakeList.f
  repeat' first
      | (with_reducible exact ih0 _ _ _ _ _)
      | (with_reducible exact rialtoref01_TakeText.mono _ _ _)
      | (with_reducible exact rialtoref01_TakeUint.mono _ _ _)
      | (with_reducible exact LeO.refl _)
      | (with_reducible exact LeO.none _)
      | (with_reducible refine LeO.ite ?_ ?_)
      | (with_reducible refine LeO.bind ?_ (fun _ => ?_))
      | exact ih0 _ _ _ _ _
      | exact rialtoref01_TakeText.mono _ _ _
      | exact rialtoref01_TakeUint.mono _ _ _
      | exact LeO.none _
      | refine LeO.ite ?_ ?_
      | refine LeO.bind ?_ (fun _ => ?_)
set_option maxHeartbeats 8000000 in
set_option maxRecDepth 100000 in
theorem rialtoref01_TakeList.calls (k : Nat) (a0 : ByteArray) (a1 : Int) (r1 : List ByteArray) (r2 : Int) (r3 : Int) (w : World) (h : rialtoref01_TakeList.f k a0 a1 = some (r1, r2, r3)) :
    Calls Try.prog 34 #[.string a0, .int .i64 a1] w fun e w' => ∃ v0_ : Value, e = .returned (.tuple #[v0_, .int .i64 r2, .int .i64 r3]) ∧ Kd.R Kd.string 9 w' w.heap.size (fun _ => True) v0_ r1 ∧ Below w.heap.size w w' := by
  have HB := Aside0.mk (Below.refl w.heap.size w)
  have H : ((rialtoref01_TakeUint.f k a0 a1).bind fun bt175 => (if bt175.2.2 = 0 then (if bt175.1 > 4000 then (some (([] : List ByteArray), 0, 11)) else (rialtoref01_TakeList.l0 k a0 bt175.1 bt175.2.1 ([] : List ByteArray) 0)) else (some (([] : List ByteArray), 0, bt175.2.2)))) = some (r1, r2, r3) := h
  clear h
  replace H := Option.bind_eq_some_iff.mp H
  obtain ⟨⟨t175, t176, t177⟩, A30, H⟩ := H
  replace H : (if t177 = 0 then (if t175 > 4000 then (some (([] : List ByteArray), 0, 11)) else (rialtoref01_TakeList.l0 k a0 t175 t176 ([] : List ByteArray) 0)) else (some (([] : List ByteArray), 0, t177))) = some (r1, r2, r3) := H
  have A3 := Aside0.mk A30
  clear A30
  by_cases c4 : t177 = 0
  · rw [if_pos c4] at H
    have c4b0 : (t177 == 0) = true := beq_iff_eq.mpr c4
    have c4b1 : (t177 != 0) = false := bne_eq_false_iff_eq.mpr c4
    clear c4
    by_cases c5 : t175 > 4000
    · rw [if_pos c5] at H
      have c5b0 : decide (4000 < t175) = true := decide_eq_true c5
      clear c5
      simp only [Option.some.injEq, Prod.mk.injEq] at H
      obtain ⟨rfl, rfl, rfl⟩ := H
      go_enter Try.func34, Try.ntmps34
      go_wp2_with (first | ((with_reducible refine gate_callee (f := 29) rfl ?_); refine goesL_ (some 18) rfl rfl Try.func29 (by kernel_rfl) rfl #[.string a0, .int .i64 a1] rfl (by (try simp only [List.map_toArray, List.map_cons, List.map_nil]); first | done | rfl | (simp only [List.length_drop, List.length_take]; rfl)) ?_; (with_reducible refine (rialtoref01_TakeUint.calls k a0 a1 t175 t176 t177 _ A3.out).mono ?_); rintro e w' ⟨rfl, ⟨nd, rfl⟩⟩; refine ⟨_, rfl, ?_⟩))
      go_ret3
      exact ⟨_, by first | rfl | (simp [errW_none, errW_some] <;> rfl) | (simp [*, errW_none, errW_some] <;> rfl), by first | exact Kd.R_nil _ _ _ _ _ | exact Kd.N_nil _ _ _ _ _ | exact Kd.V_nil _ _ _ _ _ | exact Kd.Q_nil _ _ _ _ _ | exact Kd.S_nil _ _ _ _ _, by repeat (first | (with_reducible first | exact HB.out | apply below_alloc | apply pw_below_drewN | apply below_drew1) | exact HB.out)⟩
    · rw [if_neg c5] at H
      have c5b0 : decide (4000 < t175) = false := decide_eq_false c5
      clear c5
      have H' := Aside0.mk H
      clear H
      go_enter Try.func34, Try.ntmps34
      go_wp2_with (first | ((with_reducible refine gate_callee (f := 29) rfl ?_); refine goesL_ (some 18) rfl rfl Try.func29 (by kernel_rfl) rfl #[.string a0, .int .i64 a1] rfl (by (try simp only [List.map_toArray, List.map_cons, List.map_nil]); first | done | rfl | (simp only [List.length_drop, List.length_take]; rfl)) ?_; (with_reducible refine (rialtoref01_TakeUint.calls k a0 a1 t175 t176 t177 _ A3.out).mono ?_); rintro e w' ⟨rfl, ⟨nd, rfl⟩⟩; refine ⟨_, rfl, ?_⟩))
      go_loopg [8, 10, 11] k (fun kq v8 v10 v11 w' => ∃ (x8_1 : Int) (x10_1 : List ByteArray) (x11_1 : Int), v8 = .int .i64 x8_1 ∧ v11 = .int .i64 x11_1 ∧ Aside0 (rialtoref01_TakeList.l0 kq a0 t175 x8_1 x10_1 x11_1 = some (r1, r2, r3)) ∧ Aside0 (kq ≤ k) ∧ Aside0 (Kd.R Kd.string 9 w' w.heap.size (fun _ => True) v10 x10_1) ∧ Aside0 (Below w.heap.size w w'))
      case atStart => exact ⟨(t176), (([] : List ByteArray)), (0), (by first | rfl | (simp; done) | (simp [*]; done)), (by first | rfl | (simp; done) | (simp [*]; done)), H', ⟨Nat.le_refl _⟩, ⟨by first | exact Kd.R_nil _ _ _ _ _ | exact Kd.N_nil _ _ _ _ _ | exact Kd.V_nil _ _ _ _ _ | exact Kd.Q_nil _ _ _ _ _ | exact Kd.S_nil _ _ _ _ _⟩, ⟨by repeat (first | (with_reducible first | exact HB.out | apply below_alloc | apply pw_below_drewN | apply below_drew1) | exact HB.out)⟩⟩
      case round =>
        clear H'
        try clear c2
        try clear p2
        try clear c3
        try clear c4
        try clear c4b0
        try clear c4b1
        try clear c5
        try clear c5b0
        obtain ⟨x8_1, x10_1, x11_1, rfl, rfl, HA, HK1, HO_10, HB⟩ := hrel
        cases gk with
        | zero => exact absurd HA.out (by simp [rialtoref01_TakeList.l0])
        | succ k1 =>
          have H := HA.out
          clear HA
          simp only [rialtoref01_TakeList.l0] at H
          by_cases c6 : x11_1 < (wrap64 (t175))
          · rw [if_pos c6] at H
            have c6b0 : decide (x11_1 < (wrap64 (t175))) = true := decide_eq_true c6
            clear c6
            replace H := Option.bind_eq_some_iff.mp H
            obtain ⟨⟨t178, t179, t180⟩, A70, H⟩ := H
            replace H : (if t180 = 0 then (if x10_1.length < 8796093022208 then (rialtoref01_TakeList.l0 k1 a0 t175 t179 (x10_1 ++ [t178]) (wrap64 (x11_1 + 1))) else (none)) else (some (([] : List ByteArray), 0, t180))) = some (r1, r2, r3) := H
            have A7 := Aside0.mk A70
            clear A70
            by_cases c8 : t180 = 0
            · rw [if_pos c8] at H
              have c8b0 : (t180 == 0) = true := beq_iff_eq.mpr c8
              have c8b1 : (t180 != 0) = false := bne_eq_false_iff_eq.mpr c8
              clear c8
              by_cases c9 : x10_1.length < 8796093022208
              · rw [if_pos c9] at H
                have LMc9 := Aside0.mk c9
                clear c9
                obtain ⟨y181, hy181⟩ : ∃ y_ : List ByteArray, y_ = (x10_1 ++ [t178]) := ⟨_, rfl⟩
                replace H : (rialtoref01_TakeList.l0 k1 a0 t175 t179 y181 (wrap64 (x11_1 + 1))) = some (r1, r2, r3) := by first | (rw [hy181]; with_reducible exact H) | (have H2_ := (Option.bind_some _ _).symm.trans H; rw [hy181]; with_reducible exact H2_) | (have H2_ := (Option.bind_some _ _).symm.trans H; with_reducible exact H2_) | with_reducible exact H | (rw [hy181]; exact H) | exact H
                have Ny181 := Aside0.mk hy181
                clear hy181
                have H' := Aside0.mk H
                clear H
                go_wp2_with (first | ((with_reducible refine gate_callee (f := 33) rfl ?_); refine goesL_ (some 36) rfl rfl Try.func33 (by kernel_rfl) rfl #[.string a0, .int .i64 x8_1] rfl (by (try simp only [List.map_toArray, List.map_cons, List.map_nil]); first | done | rfl | (simp only [List.length_drop, List.length_take]; rfl)) ?_; (with_reducible refine (rialtoref01_TakeText.calls k1 a0 x8_1 t178 t179 t180 _ A7.out).mono ?_); rintro e w' ⟨rfl, ⟨nd, rfl⟩⟩; refine ⟨_, rfl, ?_⟩) | ((with_reducible refine gate_builtin (b := .append) (xs := #[.tmp 43, .tmp 45]) rfl ?_); at_builtin; refine Kd.R_append Kd.string (w0 := w) w.heap.size rfl (.tmp 43) (.tmp 45) 26 9 (.string ⟨#[]⟩) 16 rfl Try.underlying26 info9 rfl (by decide) (by omega) u10 x10_1 t178 [.string t178] (fun _ => True) (fun _ => False) rfl rfl ?aP (fun _ hk => hk.elim) ?aF ?aO ?aB ?aS ?aL ?_; (case aP => exact rfl); (case aB => exact (by repeat (first | (with_reducible first | exact HB.out | apply below_alloc | apply pw_below_drewN | apply below_drew1) | exact HB.out))); (case aF => exact (fun _ _ => trivial)); (case aO => exact (by (with_reducible repeat (first | apply Kd.R_alloc | apply Kd.R_drewN | apply Kd.R_drew)); exact HO_10.out)); (case aS => exact (below_size (by repeat (first | (with_reducible first | exact HB.out | apply below_alloc | apply pw_below_drewN | apply below_drew1) | exact HB.out)))); (case aL => have := LMc9.out; omega); intro v182 w10 ho hb hg hat; rw [← Ny181.out] at ho; have n0_ := Aside0.mk (hb); have n1_ := Aside0.mk (ho); clear HB; clear HO_10; have HB := n0_; have HO183 := n1_; clear n0_ n1_; clear ho hb hg hat))
                go_roundg k1
                case measure => have := HK1.out; omega
                case rel => exact ⟨(t179), (y181), (wrap64 (x11_1 + 1)), (by first | rfl | (simp; done) | (simp [*]; done)), (by first | rfl | (simp; done) | (simp [*]; done)), H', ⟨by have := HK1.out; omega⟩, ⟨by (with_reducible repeat (first | apply Kd.R_alloc | apply Kd.R_drewN | apply Kd.R_drew)); exact HO183.out⟩, ⟨by repeat (first | (with_reducible first | exact HB.out | apply below_alloc | apply pw_below_drewN | apply below_drew1) | exact HB.out)⟩⟩
              · rw [if_neg c9] at H
                exact absurd H (by simp)
            · rw [if_neg c8] at H
              have c8b0 : (t180 == 0) = false := beq_eq_false_iff_ne.mpr c8
              have c8b1 : (t180 != 0) = true := bne_iff_ne.mpr c8
              simp only [Option.some.injEq, Prod.mk.injEq] at H
              obtain ⟨rfl, rfl, rfl⟩ := H
              go_wp2_with (first | ((with_reducible refine gate_callee (f := 33) rfl ?_); refine goesL_ (some 36) rfl rfl Try.func33 (by kernel_rfl) rfl #[.string a0, .int .i64 x8_1] rfl (by (try simp only [List.map_toArray, List.map_cons, List.map_nil]); first | done | rfl | (simp only [List.length_drop, List.length_take]; rfl)) ?_; (with_reducible refine (rialtoref01_TakeText.calls k1 a0 x8_1 t178 t179 t180 _ A7.out).mono ?_); rintro e w' ⟨rfl, ⟨nd, rfl⟩⟩; refine ⟨_, rfl, ?_⟩))
              go_ret3
              exact ⟨_, by first | rfl | (simp [errW_none, errW_some] <;> rfl) | (simp [*, errW_none, errW_some] <;> rfl), by first | exact Kd.R_nil _ _ _ _ _ | exact Kd.N_nil _ _ _ _ _ | exact Kd.V_nil _ _ _ _ _ | exact Kd.Q_nil _ _ _ _ _ | exact Kd.S_nil _ _ _ _ _, by repeat (first | (with_reducible first | exact HB.out | apply below_alloc | apply pw_below_drewN | apply below_drew1) | exact HB.out)⟩
          · rw [if_neg c6] at H
            have c6b0 : decide (x11_1 < (wrap64 (t175))) = false := decide_eq_false c6
            clear c6
            simp only [Option.some.injEq, Prod.mk.injEq] at H
            obtain ⟨rfl, rfl, rfl⟩ := H
            go_wp2
            go_ret3
            exact ⟨_, by first | rfl | (simp [errW_none, errW_some] <;> rfl) | (simp [*, errW_none, errW_some] <;> rfl), by (with_reducible repeat (first | apply Kd.R_alloc | apply Kd.R_drewN | apply Kd.R_drew)); exact HO_10.out, by repeat (first | (with_reducible first | exact HB.out | apply below_alloc | apply pw_below_drewN | apply below_drew1) | exact HB.out)⟩
  · rw [if_neg c4] at H
    have c4b0 : (t177 == 0) = false := beq_eq_false_iff_ne.mpr c4
    have c4b1 : (t177 != 0) = true := bne_iff_ne.mpr c4
    simp only [Option.some.injEq, Prod.mk.injEq] at H
    obtain ⟨rfl, rfl, rfl⟩ := H
    go_enter Try.func34, Try.ntmps34
    go_wp2_with (first | ((with_reducible refine gate_callee (f := 29) rfl ?_); refine goesL_ (some 18) rfl rfl Try.func29 (by kernel_rfl) rfl #[.string a0, .int .i64 a1] rfl (by (try simp only [List.map_toArray, List.map_cons, List.map_nil]); first | done | rfl | (simp only [List.length_drop, List.length_take]; rfl)) ?_; (with_reducible refine (rialtoref01_TakeUint.calls k a0 a1 t175 t176 t177 _ A3.out).mono ?_); rintro e w' ⟨rfl, ⟨nd, rfl⟩⟩; refine ⟨_, rfl, ?_⟩))
    go_ret3
    exact ⟨_, by first | rfl | (simp [errW_none, errW_some] <;> rfl) | (simp [*, errW_none, errW_some] <;> rfl), by first | exact Kd.R_nil _ _ _ _ _ | exact Kd.N_nil _ _ _ _ _ | exact Kd.V_nil _ _ _ _ _ | exact Kd.Q_nil _ _ _ _ _ | exact Kd.S_nil _ _ _ _ _, by repeat (first | (with_reducible first | exact HB.out | apply below_alloc | apply pw_below_drewN | apply below_drew1) | exact HB.out)⟩

end Go.Proofs.Ytaddblicjlohcaa.Pk
