/- Functions of the given program as Lean functions, each with a proof that a call of it comes to what its Lean function says. Written by a program (wip/tools/myprint.py over the kit's print). No conditions. -/
import Derived.Test.YtaddblicjlohcaaPk0
import Derived.Test.YtaddblicjlohcaaPk2
namespace Go.Proofs.Ytaddblicjlohcaa.Pk
open Go.RowKit Go.Proofs.YtaddblicjlohcaaW.PrintWords Go.Proofs.YtaddblicjlohcaaW.PrintLast Go.Proofs.YtaddblicjlohcaaW.PrintMore
attribute [local go_sem] max2_int min2_int max_two min_two max_three min_three max_four min_four   -- for this text's walks alone
set_option linter.unusedVariables false
set_option linter.unusedSimpArgs false

/-! ### rialtoref01_List: function 23 -/
-- GIVEN BY HAND
def rialtoref01_List.l0 : Nat → List Int → List ByteArray → Int → Option (ByteArray × Int)
  | 0, _, _, _ => none
  | k + 1, out, l, i => if i < (l.length : Int) then (if 0 ≤ i then ((rialtoref01_Text.f k (rdOf ByteArray.empty l i)).bind fun r => (if r.2 = 0 then (if out.length + r.1.size < 140737488355328 then rialtoref01_List.l0 k (out ++ bytesOf r.1) l (wrap64 (i + 1)) else none) else some (⟨#[]⟩, r.2))) else none) else some (strOfNums out, 0)
def rialtoref01_List.f (k : Nat) (l0 : List ByteArray) : Option (ByteArray × Int) := if (l0.length : Int) > 4000 then some (⟨#[]⟩, 2) else ((rialtoref01_Uint.f k (l0.length : Int)).bind fun t => (if t.size < 140737488355328 then rialtoref01_List.l0 k (bytesOf t) l0 0 else none))
theorem rialtoref01_List.mono_l : ∀ k y0 y1 y2, LeO (rialtoref01_List.l0 k y0 y1 y2) (rialtoref01_List.l0 (k + 1) y0 y1 y2)
  | 0 => fun _ _ _ r h => by simp [rialtoref01_List.l0] at h
  | k + 1 => by
    intro y0 y1 y2
    unfold rialtoref01_List.l0
    refine LeO.ite (LeO.ite (LeO.bind (rialtoref01_Text.mono _ _) fun r => LeO.ite (LeO.ite (rialtoref01_List.mono_l k _ _ _) (LeO.refl _)) (LeO.refl _)) (LeO.refl _)) (LeO.refl _)
theorem rialtoref01_List.mono : ∀ a0 k, LeO (rialtoref01_List.f k a0) (rialtoref01_List.f (k + 1) a0) := fun a0 k =>
  LeO.ite (LeO.refl _) (LeO.bind (rialtoref01_Uint.mono _ _) fun r => LeO.ite (rialtoref01_List.mono_l _ _ _ _) (LeO.refl _))
set_option maxHeartbeats 400000 in
set_option maxRecDepth 100000 in
theorem rialtoref01_List.calls (k : Nat) (A0 : Option Addr) (c0 : Nat) (l0 : List ByteArray) (r1 : ByteArray) (r2 : Int) (w : World) (hr0 : Kd.C Kd.string w A0 l0.length l0) (hc0 : l0.length ≤ c0) (h : rialtoref01_List.f k l0 = some (r1, r2)) :
    Calls Try.prog 23 #[.slice A0 l0.length c0] w fun e w' => e = .returned (.tuple #[.string r1, .int .i64 r2]) ∧ Below w.heap.size w w' := by
  have HR0 := Aside0.mk hr0
  clear hr0 hc0
  unfold rialtoref01_List.f at h
  by_cases c2 : (l0.length : Int) > 4000
  · rw [if_pos c2] at h
    have c2b0 : decide (4000 < (l0.length : Int)) = true := decide_eq_true c2
    have c2b1 : decide (4000 < l0.length) = true := decide_eq_true (by omega)
    clear c2
    simp only [Option.some.injEq, Prod.mk.injEq] at h
    obtain ⟨rfl, rfl⟩ := h
    go_enter Try.func23, Try.ntmps23
    go_wp2
    go_ret2
    exact ⟨rfl, Below.refl _ _⟩
  · rw [if_neg c2] at h
    have c2b0 : decide (4000 < (l0.length : Int)) = false := decide_eq_false c2
    have c2b1 : decide (4000 < l0.length) = false := decide_eq_false (by omega)
    have hle : l0.length ≤ 4000 := by omega
    clear c2
    obtain ⟨t, A1, H⟩ := Option.bind_eq_some_iff.mp h
    clear h
    have A := Aside0.mk A1
    clear A1
    by_cases c3 : t.size < 140737488355328
    · rw [if_pos c3] at H
      have HL := Aside0.mk c3
      clear c3
      have H' := Aside0.mk H
      clear H
      have kb := fun W => print_bytes (P := Try.prog) 9 50 5 Try.underlying9 Try.underlying50 Try.underlying5 t W
      go_enter Try.func23, Try.ntmps23
      go_wp2_with (go_at_call 24; refine (rialtoref01_Uint.calls k (l0.length : Int) t _ A.out).mono ?_; rintro e' w1 ⟨rfl, hb⟩; have HB := Aside0.mk hb; clear hb)
      go_loopg [4, 5, 6, 7] k (fun kq v4 v5 _v6 _v7 w' => ∃ (x : List Int) (i : Int), v5 = .int .i64 i ∧ Aside0 (rialtoref01_List.l0 kq x l0 i = some (r1, r2)) ∧ Aside0 (kq ≤ k) ∧ Aside0 (Rows8.OwnB w' w.heap.size 5 v4 (nums .u8 x)) ∧ Aside0 (Below w.heap.size w w'))
      case atStart =>
        refine ⟨bytesOf t, 0, rfl, H', ⟨Nat.le_refl _⟩, ⟨?_⟩, ⟨bytes_below HB.out HB.out.size 5 t⟩⟩
        rw [← Rows8.strCells_nums]
        exact Rows8.own_bytesWorld w1 w.heap.size 5 t HB.out.size (by have := HL.out; simp only [maxLen]; omega)
      case round =>
        clear H' kb
        obtain ⟨x, i, rfl, HA, HK, HO, HB⟩ := hrel
        cases gk with
        | zero => exact absurd HA.out (by simp [rialtoref01_List.l0])
        | succ k1 =>
          have H := HA.out
          clear HA
          simp only [rialtoref01_List.l0] at H
          by_cases c1 : i < (l0.length : Int)
          · rw [if_pos c1] at H
            by_cases c0 : 0 ≤ i
            · rw [if_pos c0] at H
              obtain ⟨ad, rfl, hx⟩ := Kd.at_string HR0.out i c0 c1
              replace hx := (HB.out.cell (World.block_lt_of_cell? w _ hx)).trans hx
              have c1b : decide (i < (l0.length : Int)) = true := decide_eq_true c1
              have c1c := eq_true c1
              have c0c := eq_true c0
              clear c1 c0
              obtain ⟨⟨t1, e1⟩, A2, H⟩ := Option.bind_eq_some_iff.mp H
              replace H : (if e1 = 0 then (if x.length + t1.size < 140737488355328 then rialtoref01_List.l0 k1 (x ++ bytesOf t1) l0 (wrap64 (i + 1)) else none) else some (⟨#[]⟩, e1)) = some (r1, r2) := H
              have HT := Aside0.mk A2
              clear A2
              obtain ⟨g, cap, rfl⟩ := HO.out.form
              by_cases c3 : e1 = 0
              · subst c3
                rw [if_pos rfl] at H
                by_cases c4 : x.length + t1.size < 140737488355328
                · rw [if_pos c4] at H
                  have HL4 := Aside0.mk c4
                  clear c4
                  have H' := Aside0.mk H
                  clear H
                  go_wp2_with (first | (go_at_call 21; refine (rialtoref01_Text.calls k1 (rdOf ByteArray.empty l0 i) t1 0 _ HT.out).mono ?_; rintro e' w2 ⟨rfl, hb⟩; have HB2 := Aside0.mk (below_step HB.out hb); have HO2 := Aside0.mk (HO.out.kept hb); clear hb) | ((with_reducible refine gate_builtin (b := .append) (xs := #[.tmp 33, .tmp 34]) rfl ?_); at_builtin; refine Rows8.append_str_B (w0 := w) w.heap.size rfl (.tmp 33) (.tmp 34) 50 9 rfl 5 Try.underlying50 Try.underlying9 info5 (.slice (some ⟨g, 0, none⟩) (nums .u8 x).length cap) (nums .u8 x) rfl t1 rfl HO2.out HB2.out (by rw [nums_length]; have := HL4.out; omega) HB2.out.size ?_; intro v' w' ho hb; rw [Rows8.strCells_nums, ← nums_append] at ho; have HO3 := Aside0.mk ho; have HB3 := Aside0.mk hb; clear ho hb))
                  go_roundg k1
                  case measure => have := HK.out; omega
                  case rel => exact ⟨x ++ bytesOf t1, wrap64 (i + 1), rfl, H', ⟨by have := HK.out; omega⟩, HO3, HB3⟩
                · rw [if_neg c4] at H
                  exact absurd H (by simp)
              · rw [if_neg c3] at H
                have c3a : (e1 == 0) = false := by simpa using c3
                have c3b : (e1 != 0) = true := by simpa using c3
                clear c3
                simp only [Option.some.injEq, Prod.mk.injEq] at H
                obtain ⟨rfl, rfl⟩ := H
                go_wp2_with (go_at_call 21; refine (rialtoref01_Text.calls k1 (rdOf ByteArray.empty l0 i) t1 e1 _ HT.out).mono ?_; rintro e' w2 ⟨rfl, hb⟩; have HB2 := Aside0.mk (below_step HB.out hb); clear hb)
                go_ret2
                exact ⟨rfl, HB2.out⟩
            · rw [if_neg c0] at H
              exact absurd H (by simp)
          · rw [if_neg c1] at H
            have c1b : decide (i < (l0.length : Int)) = false := decide_eq_false c1
            clear c1
            simp only [Option.some.injEq, Prod.mk.injEq] at H
            obtain ⟨rfl, rfl⟩ := H
            obtain ⟨g, cap, hv⟩ := HO.out.form
            have kc := Rows8.own_string_B (P := Try.prog) (src := 50) (dst := 9) (e := 5) Try.underlying50 Try.underlying5 Try.underlying9 HO.out
            subst hv
            go_wp2
            go_ret2
            exact ⟨rfl, HB.out⟩
    · rw [if_neg c3] at H
      exact absurd H (by simp)

end Go.Proofs.Ytaddblicjlohcaa.Pk
