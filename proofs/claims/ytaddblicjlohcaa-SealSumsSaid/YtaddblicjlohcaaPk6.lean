/- Functions of the given program as Lean functions, each with a proof that a call of it comes to what its Lean function says. Written by a program (wip/tools/myprint.py over the kit's print). No conditions. -/
import Derived.Test.YtaddblicjlohcaaPk0
import Derived.Test.YtaddblicjlohcaaPk4
import Derived.Test.YtaddblicjlohcaaPk5
namespace Go.Proofs.Ytaddblicjlohcaa.Pk
open Go.RowKit Go.Proofs.YtaddblicjlohcaaW.PrintWords Go.Proofs.YtaddblicjlohcaaW.PrintLast Go.Proofs.YtaddblicjlohcaaW.PrintMore
attribute [local go_sem] max2_int min2_int max_two min_two max_three min_three max_four min_four   -- for this text's walks alone
set_option linter.unusedVariables false
set_option linter.unusedSimpArgs false

/-! ### pack_TakeList: function 35 -/
-- GIVEN BY HAND
def pack_TakeList.l0 : Nat → ByteArray → Int → Int → List ByteArray → Int → Option (List ByteArray × Int × Int)
  | 0, _, _, _, _, _ => none
  | k + 1, s, n, next, out, i => if i < n then (pack_TakeText.f k s next).bind fun r => (if out.length < 8796093022208 then (if r.2.2 = 0 then pack_TakeList.l0 k s n r.2.1 (out ++ [r.1]) (wrap64 (i + 1)) else some ([], 0, r.2.2)) else none) else some (out, next, 0)
def pack_TakeList.f (k : Nat) (a0 : ByteArray) (a1 : Int) : Option (List ByteArray × Int × Int) := (pack_counted.f k a0 a1 4000).bind fun r => (if r.2.2 = 0 then pack_TakeList.l0 k a0 r.1 r.2.1 [] 0 else some ([], 0, r.2.2))
theorem pack_TakeList.mono_l : ∀ k y0 y1 y2 y3 y4, LeO (pack_TakeList.l0 k y0 y1 y2 y3 y4) (pack_TakeList.l0 (k + 1) y0 y1 y2 y3 y4)
  | 0 => fun _ _ _ _ _ r h => by simp [pack_TakeList.l0] at h
  | k + 1 => by
    intro y0 y1 y2 y3 y4
    unfold pack_TakeList.l0
    refine LeO.ite (LeO.bind (pack_TakeText.mono _ _ _) fun r => LeO.ite (LeO.ite (pack_TakeList.mono_l k _ _ _ _ _) (LeO.refl _)) (LeO.refl _)) (LeO.refl _)
theorem pack_TakeList.mono : ∀ a0 a1 k, LeO (pack_TakeList.f k a0 a1) (pack_TakeList.f (k + 1) a0 a1) := fun a0 a1 k =>
  LeO.bind (pack_counted.mono _ _ _ _) fun r => LeO.ite (pack_TakeList.mono_l _ _ _ _ _ _) (LeO.refl _)
set_option maxHeartbeats 400000 in
set_option maxRecDepth 100000 in
theorem pack_TakeList_one (k : Nat) (gs gn go : Nat) (s t : ByteArray) (next nx e : Int) (v : Value) (xs : List ByteArray) (w0 w : World)
    (hs : w.heap[gs]? = some (.cells #[.string s] 9 (0, 0)))
    (hn : w.heap[gn]? = some (.cells #[.int .i64 next] 3 (0, 0)))
    (ho : w.heap[go]? = some (.cells #[v] 26 (0, 0)))
    (hR : Kd.R Kd.string 9 w w0.heap.size (fun k => k ≠ gs) v xs)
    (hz : w0.heap.size ≤ gn ∧ w0.heap.size ≤ go) (hB : Below w0.heap.size w0 w) (hgs : gs < w0.heap.size + 1)
    (hl : xs.length < 8796093022208) (h : pack_TakeText.f k s next = some (t, nx, e)) :
    Calls Try.prog 74 #[.pointer (some ⟨gs, 0, none⟩), .pointer (some ⟨gn, 0, none⟩), .pointer (some ⟨go, 0, none⟩)] w fun en w' =>
      en = .returned (.int .i64 e) ∧ ∃ v' : Value, w'.heap[gs]? = some (.cells #[.string s] 9 (0, 0)) ∧ w'.heap[gn]? = some (.cells #[.int .i64 nx] 3 (0, 0)) ∧
        w'.heap[go]? = some (.cells #[v'] 26 (0, 0)) ∧ Kd.R Kd.string 9 w' w0.heap.size (fun k => k ≠ gs) v' (xs ++ [t]) ∧ Below w0.heap.size w0 w' := by
  have HS := Aside0.mk hs
  have HN := Aside0.mk hn
  have HO := Aside0.mk ho
  have HR := Aside0.mk hR
  have HB := Aside0.mk hB
  have HL := Aside0.mk hl
  have A := Aside0.mk h
  have HZ := Aside0.mk hz
  have HG := Aside0.mk hgs
  obtain ⟨A0, c0, rfl⟩ := Kd.R_slice hR
  have k1 : w.cell? ⟨gs, 0, none⟩ = some (.string s) := by rw [blk_cell hs]; rfl
  have k2 : w.cell? ⟨gn, 0, none⟩ = some (.int .i64 next) := by rw [blk_cell hn]; rfl
  have k3 : w.cell? ⟨go, 0, none⟩ = some (.slice A0 xs.length c0) := by rw [blk_cell ho]; rfl
  have k4 : w.frozen? ⟨gn, 0, none⟩ = false := blk_frozen hn _
  have k5 : w.frozen? ⟨go, 0, none⟩ = false := blk_frozen ho _
  have E1 := Aside0.mk (blk_ne hn ho (by decide))
  have k6 : ¬ go = gn := fun h => E1.out h.symm
  have k7 : ¬ gn = go := fun h => E1.out h
  have E2 := Aside0.mk (Kd.R_ne hR hn (by decide))
  have E3 := Aside0.mk (Kd.R_ne hR ho (by decide))
  have E4 := Aside0.mk (show some gs ≠ (Value.slice A0 xs.length c0).ownBlock from fun e => hR.1 gs e.symm rfl)
  have E5 := Aside0.mk (blk_ne hs hn (by decide))
  have E6 := Aside0.mk (blk_ne hs ho (by decide))
  clear hs hn ho hR hB hl h hz
  go_enter Try.func74, Try.ntmps74
  go_wp2_with (first | (go_at_call 32; refine (pack_TakeText.calls k s next t nx e _ A.out).mono ?_; rintro e' w' ⟨rfl, ⟨nd, rfl⟩⟩) | ((with_reducible refine gate_builtin (b := .append) (xs := #[.tmp 12, .tmp 14]) rfl ?_); at_builtin; go_loud (refine Kd.R_append Kd.string (w0 := w0) w0.heap.size rfl (.tmp 12) (.tmp 14) 26 9 (.string ⟨#[]⟩) 16 rfl Try.underlying26 info9 rfl (by decide) (by omega) (.slice A0 xs.length c0) xs t [.string t] (fun k => k ≠ gs) (fun _ => False) rfl ?aX ?aP (fun _ hk => hk.elim) ?aF ?aO ?aB ?aS ?aL ?_); (case aP => exact rfl); (case aX => simp [Act.eval]); (case aL => have := HL.out; omega); (case aF => intro k hk; have := blk_lt HS.out; simp at hk; omega); (case aO => exact Kd.R_set (w := w.drewN nd) (Kd.R_drewN HR.out nd) (blk_drewN HN.out nd) (by decide) 0 _); (case aB => exact ((pw_below_drewN HB.out nd).setCell HZ.out.1 _)); (case aS => have := HB.out.size; simpa using this); intro v1 w1 ho hb hg hat; obtain ⟨A1, c1, rfl⟩ := Kd.R_slice ho; have Ho := Aside0.mk ho; have Hb := Aside0.mk hb; have Hg := Aside0.mk hg; have HO1 := Aside0.mk (blk_grown (blk_far (blk_drewN HO.out nd) (p := ⟨gn, 0, none⟩) k6 (.int .i64 nx)) hg E3.out); have HN1 := Aside0.mk (show w1.heap[gn]? = some (.cells #[.int .i64 nx] 3 (0, 0)) from blk_grown (blk_set (blk_drewN HN.out nd) 0 (.int .i64 nx)) hg E2.out); have HS1 := Aside0.mk (blk_grown (blk_far (blk_drewN HS.out nd) (p := ⟨gn, 0, none⟩) E5.out (.int .i64 nx)) hg E4.out); have k9 : w1.cell? ⟨go, 0, none⟩ = some (.slice A0 xs.length c0) := (by rw [blk_cell HO1.out]; rfl); have k10 : w1.frozen? ⟨go, 0, none⟩ = false := blk_frozen HO1.out _; clear ho hb hg hat))
  go_ret
  exact ⟨rfl, _, blk_far HS1.out (p := ⟨go, 0, none⟩) E6.out _, blk_far HN1.out (p := ⟨go, 0, none⟩) k7 _, blk_set HO1.out 0 _, Kd.R_set (by have h2 := Ho.out; rw [List.length_append] at h2; exact h2) HO1.out (by decide) 0 _, Hb.out.setCell HZ.out.2 _⟩

set_option maxHeartbeats 400000 in
set_option maxRecDepth 100000 in
theorem pack_TakeList.calls (k : Nat) (a0 : ByteArray) (a1 : Int) (r1 : List ByteArray) (r2 : Int) (r3 : Int) (w : World) (h : pack_TakeList.f k a0 a1 = some (r1, r2, r3)) :
    Calls Try.prog 35 #[.string a0, .int .i64 a1] w fun e w' => ∃ v0_ : Value, e = .returned (.tuple #[v0_, .int .i64 r2, .int .i64 r3]) ∧ Kd.R Kd.string 9 w' w.heap.size (fun _ => True) v0_ r1 ∧ Below w.heap.size w w' := by
  unfold pack_TakeList.f at h
  obtain ⟨⟨n, nx, e0⟩, A0, H⟩ := Option.bind_eq_some_iff.mp h
  replace H : (if e0 = 0 then pack_TakeList.l0 k a0 n nx [] 0 else some ([], 0, e0)) = some (r1, r2, r3) := H
  have A := Aside0.mk A0
  clear A0 h
  by_cases c : e0 = 0
  · subst c
    rw [if_pos rfl] at H
    have H' := Aside0.mk H
    clear H
    go_enter Try.func35, Try.ntmps35
    go_wp2_with (go_at_call 73; refine (pack_counted.calls k a0 a1 4000 n nx 0 _ A.out).mono ?_; rintro e' w' ⟨rfl, ⟨nd, rfl⟩⟩)
    go_loopg [12, 25] k (fun kq _v12 v25 w' => ∃ (i next : Int) (xs : List ByteArray) (v : Value), v25 = .int .i64 i ∧ Aside0 (pack_TakeList.l0 kq a0 n next xs i = some (r1, r2, r3)) ∧ Aside0 (kq ≤ k) ∧ Aside0 (w'.heap[w.heap.size]? = some (.cells #[.string a0] 9 (0, 0))) ∧ Aside0 (w'.heap[w.heap.size + 1]? = some (.cells #[.int .i64 next] 3 (0, 0))) ∧ Aside0 (w'.heap[w.heap.size + 2]? = some (.cells #[v] 26 (0, 0))) ∧ Aside0 (Kd.R Kd.string 9 w' w.heap.size (fun k => k ≠ w.heap.size) v xs) ∧ Aside0 (Below w.heap.size w w'))
    case atStart =>
      have hz : ((w.alloc (Obj.cells #[Value.string a0] 9 (0, 0))).drewN nd).heap.size = w.heap.size + 1 := World.size_alloc _ _
      have hz2 : (((w.alloc (Obj.cells #[Value.string a0] 9 (0, 0))).drewN nd).alloc (Obj.cells #[Value.int IntKind.i64 nx] 3 (0, 0))).heap.size = w.heap.size + 2 := (World.size_alloc _ _).trans (by rw [hz])
      refine ⟨0, nx, [], .slice none 0 0, rfl, H', ⟨Nat.le_refl _⟩, ⟨?_⟩, ⟨?_⟩, ⟨?_⟩, ⟨Kd.R_nil _ _ _ _ _⟩, ⟨?_⟩⟩
      · exact blk_alloc (blk_alloc (blk_drewN (blk_new _ _) nd) _) _
      · have := blk_new ((w.alloc (Obj.cells #[Value.string a0] 9 (0, 0))).drewN nd) (Obj.cells #[Value.int IntKind.i64 nx] 3 (0, 0)); rw [hz] at this; exact blk_alloc this _
      · have := blk_new (((w.alloc (Obj.cells #[Value.string a0] 9 (0, 0))).drewN nd).alloc (Obj.cells #[Value.int IntKind.i64 nx] 3 (0, 0))) (Obj.cells #[Value.slice none 0 0] 26 (0, 0)); rw [hz2] at this; exact this
      · exact below_alloc (below_alloc (pw_below_drewN (below_alloc (Below.refl _ _) _) nd) _) _
    case round =>
      clear H'
      obtain ⟨i, next, xs, v, rfl, HA, HK, HS, HN, HO, HR, HB⟩ := hrel
      cases gk with
      | zero => exact absurd HA.out (by simp [pack_TakeList.l0])
      | succ k1 =>
        have H := HA.out
        clear HA
        simp only [pack_TakeList.l0] at H
        by_cases c1 : i < n
        · rw [if_pos c1] at H
          have c1b : decide (i < n) = true := decide_eq_true c1
          clear c1
          obtain ⟨⟨t, nx1, e1⟩, A1, H⟩ := Option.bind_eq_some_iff.mp H
          replace H : (if xs.length < 8796093022208 then (if e1 = 0 then pack_TakeList.l0 k1 a0 n nx1 (xs ++ [t]) (wrap64 (i + 1)) else some ([], 0, e1)) else none) = some (r1, r2, r3) := H
          have HT := Aside0.mk A1
          clear A1
          by_cases c2 : xs.length < 8796093022208
          · rw [if_pos c2] at H
            have HL := Aside0.mk c2
            clear c2
            have HZ := Aside0.mk HB.out.size
            by_cases c3 : e1 = 0
            · subst c3
              rw [if_pos rfl] at H
              have H' := Aside0.mk H
              clear H
              go_wp2_with (go_at_call 74; refine (pack_TakeList_one k1 w.heap.size (w.heap.size + 1) (w.heap.size + 2) a0 t next nx1 0 v xs w _ HS.out HN.out HO.out HR.out ⟨by omega, by omega⟩ HB.out (by omega) HL.out HT.out).mono ?_; rintro e' w' ⟨rfl, v', hs1, hn1, ho1, hr1, hb1⟩; have HS1 := Aside0.mk hs1; have HN1 := Aside0.mk hn1; have HO1 := Aside0.mk ho1; have HR1 := Aside0.mk hr1; have HB1 := Aside0.mk hb1; clear hs1 hn1 ho1 hr1 hb1)
              go_roundg k1
              case measure => have := HK.out; omega
              case rel => exact ⟨wrap64 (i + 1), nx1, xs ++ [t], v', rfl, H', ⟨by have := HK.out; omega⟩, HS1, HN1, HO1, HR1, HB1⟩
            · rw [if_neg c3] at H
              have c3a : (e1 == 0) = false := by simpa using c3
              have c3b : (e1 != 0) = true := by simpa using c3
              clear c3
              simp only [Option.some.injEq, Prod.mk.injEq] at H
              obtain ⟨rfl, rfl, rfl⟩ := H
              go_wp2_with (go_at_call 74; refine (pack_TakeList_one k1 w.heap.size (w.heap.size + 1) (w.heap.size + 2) a0 t next nx1 e1 v xs w _ HS.out HN.out HO.out HR.out ⟨by omega, by omega⟩ HB.out (by omega) HL.out HT.out).mono ?_; rintro e' w' ⟨rfl, v', hs1, hn1, ho1, hr1, hb1⟩; have HB1 := Aside0.mk hb1; clear hs1 hn1 ho1 hr1 hb1)
              go_ret3
              exact ⟨_, rfl, Kd.R_nil _ _ _ _ _, HB1.out⟩
          · rw [if_neg c2] at H
            exact absurd H (by simp)
        · rw [if_neg c1] at H
          have c1b : decide (i < n) = false := decide_eq_false c1
          clear c1
          simp only [Option.some.injEq, Prod.mk.injEq] at H
          obtain ⟨rfl, rfl, rfl⟩ := H
          obtain ⟨A2, c2, rfl⟩ := Kd.R_slice HR.out
          have q1 : wr.cell? ⟨w.heap.size + 2, 0, none⟩ = some (.slice A2 xs.length c2) := by rw [blk_cell HO.out]; rfl
          have q2 : wr.cell? ⟨w.heap.size + 1, 0, none⟩ = some (.int .i64 next) := by rw [blk_cell HN.out]; rfl
          have q3 : wr.cell? ⟨w.heap.size + 1 + 1, 0, none⟩ = some (.slice A2 xs.length c2) := q1
          go_wp2
          go_quiet (fail)
          go_wp2
          go_ret3
          exact ⟨_, rfl, Kd.R_drewN (Kd.R_mono HR.out (fun _ _ => trivial)) _, pw_below_drewN HB.out _⟩
  · rw [if_neg c] at H
    have c0 : (e0 == 0) = false := by simpa using c
    have c1 : (e0 != 0) = true := by simpa using c
    simp only [Option.some.injEq, Prod.mk.injEq] at H
    obtain ⟨rfl, rfl, rfl⟩ := H
    clear c
    go_enter Try.func35, Try.ntmps35
    go_wp2_with (go_at_call 73; refine (pack_counted.calls k a0 a1 4000 n nx e0 _ A.out).mono ?_; rintro e' w' ⟨rfl, ⟨nd, rfl⟩⟩)
    go_ret3
    exact ⟨_, rfl, Kd.R_nil _ _ _ _ _, below_alloc (pw_below_drewN (below_alloc (Below.refl _ _) _) nd) _⟩

end Go.Proofs.Ytaddblicjlohcaa.Pk
