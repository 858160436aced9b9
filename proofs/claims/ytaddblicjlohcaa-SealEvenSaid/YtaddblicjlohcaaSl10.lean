/- Functions of the given program as Lean functions, each with a proof that a call of it comes to what its Lean function says. Written by a program (wip/tools/myprint.py over the kit's print). No conditions. -/
import Derived.Test.YtaddblicjlohcaaSl0
import Derived.Test.YtaddblicjlohcaaSl6
namespace Go.Proofs.Ytaddblicjlohcaa.Sl
open Go.RowKit Go.Proofs.YtaddblicjlohcaaW.PrintWords Go.Proofs.YtaddblicjlohcaaW.PrintLast Go.Proofs.YtaddblicjlohcaaW.PrintMore
attribute [local go_sem] max2_int min2_int max_two min_two max_three min_three max_four min_four   -- for this text's walks alone
set_option linter.unusedVariables false
set_option linter.unusedSimpArgs false

/-! ### seal_Frames: function 45 -/
-- GIVEN BY HAND
def seal_Frames.l0 : Nat → ByteArray → List ByteArray → Int → Option (List ByteArray × Int)
  | 0, _, _, _ => none
  | k + 1, s, out, a => (seal_Unframe.f s a).bind fun r => (if r.2.2 = 0 then (if out.length < 8796093022208 then seal_Frames.l0 k s (out ++ [r.1]) r.2.1 else none) else some (out, a))
def seal_Frames.f (k : Nat) (a0 : ByteArray) : Option (List ByteArray × Int) := seal_Frames.l0 k a0 [] 0
theorem seal_Frames.mono_l : ∀ k y0 y1 y2, LeO (seal_Frames.l0 k y0 y1 y2) (seal_Frames.l0 (k + 1) y0 y1 y2)
  | 0 => fun _ _ _ r h => by simp [seal_Frames.l0] at h
  | k + 1 => by
    intro y0 y1 y2
    unfold seal_Frames.l0
    exact LeO.bind (LeO.refl _) fun r => LeO.ite (LeO.ite (seal_Frames.mono_l k _ _ _) (LeO.refl _)) (LeO.refl _)
theorem seal_Frames.mono : ∀ a0 k, LeO (seal_Frames.f k a0) (seal_Frames.f (k + 1) a0) := fun a0 k => seal_Frames.mono_l k _ _ _
theorem frames_row {w1 w2 : World} {g base : Nat} {v : Value} {xs : List ByteArray} (ho : Seal.Obj' w1 g) (hk : KeepBut w1 w2 g none) (hR : Kd.R Kd.string 9 w1 base (fun _ => True) v xs) : Kd.R Kd.string 9 w2 base (fun _ => True) v xs := by
  obtain ⟨cs, hb, _⟩ := ho
  exact Kd.R_mono (Kd.R_keep (Kd.R_types hR hb (by decide)) hk (fun _ hk => hk.2)) (fun _ _ => trivial)
theorem frames_obj {w1 w2 : World} {g base : Nat} {v : Value} {xs : List ByteArray} (ho : Seal.Obj' w1 g) (hR : Kd.R Kd.string 9 w1 base (fun _ => True) v xs) (hg : w1.grownBy w2 v.ownBlock) : Seal.Obj' w2 g := by
  obtain ⟨cs, hb, hf⟩ := ho
  exact ⟨cs, blk_grown hb hg (Kd.R_ne hR hb (by decide)), hf⟩
set_option maxHeartbeats 1000000 in
set_option maxRecDepth 100000 in
theorem seal_Frames.calls (k : Nat) (a0 : ByteArray) (r1 : List ByteArray) (r2 : Int) (w : World) (h : seal_Frames.f k a0 = some (r1, r2)) :
    Calls Try.prog 45 #[.string a0] w fun e w' => ∃ v0_ : Value, e = .returned (.tuple #[v0_, .int .i64 r2]) ∧ Kd.R Kd.string 9 w' w.heap.size (fun _ => True) v0_ r1 ∧ Below w.heap.size w w' := by
  have H' := Aside0.mk (show seal_Frames.l0 k a0 [] 0 = some (r1, r2) from h)
  have HO := Aside0.mk (Seal.obj_new w)
  clear h
  go_enter Try.func45, Try.ntmps45
  go_wp2
  go_loopg [5, 6, 7, 8, 9, 10] k (fun kq v5 v6 _v7 _v8 _v9 _v10 w' => ∃ (xs : List ByteArray) (a : Int), v6 = .int .i64 a ∧ Aside0 (seal_Frames.l0 kq a0 xs a = some (r1, r2)) ∧ Aside0 (kq ≤ k) ∧ Aside0 (Seal.Obj' w' w.heap.size) ∧ Aside0 (Kd.R Kd.string 9 w' w.heap.size (fun _ => True) v5 xs) ∧ Aside0 (Below w.heap.size w w'))
  case atStart => exact ⟨[], 0, rfl, H', ⟨Nat.le_refl _⟩, HO, ⟨Kd.R_nil _ _ _ _ _⟩, ⟨below_alloc (Below.refl _ _) _⟩⟩
  case round =>
    clear H' HO
    obtain ⟨xs, a, rfl, HA, HK, HO, HR, HB⟩ := hrel
    cases gk with
    | zero => exact absurd HA.out (by simp [seal_Frames.l0])
    | succ k1 =>
      have H := HA.out
      clear HA
      simp only [seal_Frames.l0] at H
      obtain ⟨⟨t, nx, e1⟩, A1, H⟩ := Option.bind_eq_some_iff.mp H
      replace H : (if e1 = 0 then (if xs.length < 8796093022208 then seal_Frames.l0 k1 a0 (xs ++ [t]) nx else none) else some (xs, a)) = some (r1, r2) := H
      unfold seal_Unframe.f at A1
      by_cases cs : a0.size ≤ 4611686018427387904
      · rw [if_pos cs] at A1
        have HT := Aside0.mk A1
        have HS := Aside0.mk cs
        clear A1 cs
        obtain ⟨A5, c5, rfl⟩ := Kd.R_slice HR.out
        by_cases c3 : e1 = 0
        · subst c3
          rw [if_pos rfl] at H
          by_cases c4 : xs.length < 8796093022208
          · rw [if_pos c4] at H
            have HL := Aside0.mk c4
            clear c4
            have H' := Aside0.mk H
            clear H
            go_wp2_with (first | (go_at_call 78; refine (take_any w.heap.size a a0 t nx 0 _ HO.out HS.out HT.out).mono ?_; rintro e w1 ⟨rfl, ho, hk, hl⟩; have HO1 := Aside0.mk ho; have HR1 := Aside0.mk (frames_row HO.out hk HR.out); have HB1 := Aside0.mk (HB.out.trans hl); clear ho hk hl) | ((with_reducible refine gate_builtin (b := .append) (xs := #[.tmp 21, .tmp 23]) rfl ?_); at_builtin; refine Kd.R_append Kd.string (w0 := w) w.heap.size rfl (.tmp 21) (.tmp 23) 26 9 (.string ⟨#[]⟩) 16 rfl Try.underlying26 info9 rfl (by decide) (by omega) (.slice A5 xs.length c5) xs t [.string t] (fun _ => True) (fun _ => False) rfl rfl ?aP (fun _ hk => hk.elim) ?aF ?aO ?aB ?aS ?aL ?_; (case aP => exact rfl); (case aL => have := HL.out; omega); (case aF => exact (fun _ _ => trivial)); (case aO => exact HR1.out); (case aB => exact HB1.out); (case aS => exact below_size HB1.out); intro v1 w2 ho hb hg hat; have HR2 := Aside0.mk ho; have HB2 := Aside0.mk hb; have HO2 := Aside0.mk (frames_obj HO1.out HR1.out hg); clear ho hb hg hat))
            go_roundg k1
            case measure => have := HK.out; omega
            case rel => exact ⟨xs ++ [t], nx, rfl, H', ⟨by have := HK.out; omega⟩, HO2, HR2, HB2⟩
          · rw [if_neg c4] at H
            exact absurd H (by simp)
        · rw [if_neg c3] at H
          have c3a : (e1 == 0) = false := by simpa using c3
          have c3b : (e1 != 0) = true := by simpa using c3
          clear c3
          simp only [Option.some.injEq, Prod.mk.injEq] at H
          obtain ⟨rfl, rfl⟩ := H
          go_wp2_with (go_at_call 78; refine (take_any w.heap.size a a0 t nx e1 _ HO.out HS.out HT.out).mono ?_; rintro e w1 ⟨rfl, ho, hk, hl⟩; have HR1 := Aside0.mk (frames_row HO.out hk HR.out); have HB1 := Aside0.mk (HB.out.trans hl); clear ho hk hl)
          go_ret2
          exact ⟨_, rfl, HR1.out, HB1.out⟩
      · rw [if_neg cs] at A1
        cases A1

end Go.Proofs.Ytaddblicjlohcaa.Sl
