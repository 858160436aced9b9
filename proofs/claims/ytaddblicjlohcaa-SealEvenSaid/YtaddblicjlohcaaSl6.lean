/- Functions of the given program as Lean functions, each with a proof that a call of it comes to what its Lean function says. Written by a program (wip/tools/myprint.py over the kit's print). No conditions. -/
import Derived.Test.YtaddblicjlohcaaSl0
import Derived.Test.YtaddblicjlohcaaSl2
import Derived.Test.YtaddblicjlohcaaSl5
import Derived.Test.YtaddblicjlohcaaC5
import Derived.RegionTactic
import Derived.Deep.RegionWith
import Derived.WalkSpells
namespace Go.Proofs.Ytaddblicjlohcaa.Sl
open Go.RowKit Go.Proofs.YtaddblicjlohcaaW.PrintWords Go.Proofs.YtaddblicjlohcaaW.PrintLast Go.Proofs.YtaddblicjlohcaaW.PrintMore
attribute [local go_sem] max2_int min2_int max_two min_two max_three min_three max_four min_four   -- for this text's walks alone
set_option linter.unusedVariables false
set_option linter.unusedSimpArgs false

/-! ### seal_Unframe: function 42 -/
-- GIVEN BY HAND
-- IMPORT Derived.Test.YtaddblicjlohcaaC5
-- IMPORT Derived.RegionTactic
-- IMPORT Derived.Deep.RegionWith
-- IMPORT Derived.WalkSpells
theorem num_range {s : ByteArray} {n : Int} (h : seal_number.f s = some n) : 0 ≤ n ∧ n < 4294967296 := by
  unfold seal_number.f at h
  split at h
  · split at h
    · split at h
      · split at h
        · injection h with h
          rw [← h]
          unfold Go.bits
          rw [IntKind.wrap_u32]
          omega
        · cases h
      · cases h
    · cases h
  · cases h
def headOf (s : ByteArray) (p : Nat) : ByteArray := s.extract p (p + 8)
def restOf (s : ByteArray) (p : Nat) : ByteArray := s.extract (p + 8) s.size
def takeAt (s : ByteArray) (p : Nat) : Option (ByteArray × Int × Int) :=
  if (s.size : Int) - p < 8 then some (⟨#[]⟩, 0, 20) else (seal_number.f (headOf s p)).bind fun n => if n > 70000 then some (⟨#[]⟩, 0, 22) else if (s.size : Int) - (p + 8) < n then some (⟨#[]⟩, 0, 20) else
    (seal_number.f ((headOf s p).extract 4 (headOf s p).size)).bind fun q => if q = sum2 ((headOf s p).extract 0 4) ((restOf s p).extract 0 n.toNat) then some ((restOf s p).extract 0 n.toNat, (p : Int) + 8 + n, 0) else some (⟨#[]⟩, 0, 21)
def takeF (s : ByteArray) (a : Int) : Option (ByteArray × Int × Int) := if a < 0 then some (⟨#[]⟩, 0, 1) else if a > s.size then some (⟨#[]⟩, 0, 1) else takeAt s a.toNat
theorem obj_drewN {w : World} {g : Nat} (h : Seal.Obj' w g) (k : Nat) : Seal.Obj' (w.drewN k) g := h
theorem two_at_drewN (w : World) (a b : ByteArray) (k : Nat) : ∀ i (h : i < [a, b].length), ((w.alloc (.cells #[.string a, .string b] 9 (0, 0))).drewN k).cell? ((⟨w.heap.size, 0, none⟩ : Addr).add i) = some (.string [a, b][i]) := two_at w a b
set_option maxHeartbeats 600000 in
set_option maxRecDepth 100000 in
theorem take_sum (g p : Nat) (s : ByteArray) (n q : Int) (w : World) (ho : Seal.Obj' w g) (hs : s.size ≤ 4611686018427387904) (hp : p + 8 ≤ s.size)
    (hn : seal_number.f (headOf s p) = some n) (hn2 : n ≤ 70000) (hn3 : (p : Int) + 8 + n ≤ s.size) (hq : seal_number.f ((headOf s p).extract 4 (headOf s p).size) = some q) (he : q = sum2 ((headOf s p).extract 0 4) ((restOf s p).extract 0 n.toNat)) :
    Calls Try.prog 78 #[.pointer (some ⟨g, 0, none⟩), .string s, .int .i64 (p : Int)] w fun e w' => e = .returned (.tuple #[.string ((restOf s p).extract 0 n.toNat), .int .i64 ((p : Int) + 8 + n), .int .i64 0]) ∧ Seal.Obj' w' g ∧ KeepBut w w' g none ∧ Below g w w' := by
  have hz1 : ((s.extract p (p + 8)).extract 0 4).size ≤ 140737488355328 := by rw [ByteArray.size_extract, ByteArray.size_extract]; omega
  have hz2 : ((s.extract (p + 8) s.size).extract 0 n.toNat).size ≤ 140737488355328 := by rw [ByteArray.size_extract]; omega
  have HS5 := Aside0.mk (show ∀ t ∈ [(s.extract p (p + 8)).extract 0 4, (s.extract (p + 8) s.size).extract 0 n.toNat], t.size ≤ 140737488355328 by
    intro t ht
    rcases List.mem_cons.1 ht with h | h
    · rw [h]; exact hz1
    · rcases List.mem_cons.1 h with h | h
      · rw [h]; exact hz2
      · cases h)
  clear hz1 hz2
  have n0 := (num_range hn).1
  have n1 := (num_range hn).2
  have HN := Aside0.mk (show seal_number.f (s.extract p (p + 8)) = some n from hn)
  have hsz8 : (s.extract p (p + 8)).size = 8 := by rw [ByteArray.size_extract]; omega
  have HQ := Aside0.mk (show seal_number.f ((s.extract p (p + 8)).extract 4 8) = some q by rw [← hq]; unfold headOf; rw [hsz8])
  have HG := Aside0.mk (Seal.obj_lt ho)
  have hne : (q != ((Crc.sumL (Seal.cat [(s.extract p (p + 8)).extract 0 4, (s.extract (p + 8) s.size).extract 0 n.toNat])).toNat : Int)) = false := bne_eq_false_iff_eq.mpr he
  have HO := Aside0.mk ho
  clear hn hq he ho
  go_enter Try.func78, Try.ntmps78
  go_wp2_with fail
  go_quiet (fail)
  go_wp2_with (go_at_call 102; ((with_reducible refine (seal_number.calls (s.extract p (p + 8)) n _ HN.out).mono ?_); rintro e w1 ⟨rfl, ⟨nd, rfl⟩⟩))
  go_region_with (first | (go_at_call 102; (refine (seal_number.calls ((s.extract p (p + 8)).extract 4 8) q _ HQ.out).mono ?_); rintro e w2 ⟨rfl, ⟨nd2, rfl⟩⟩) | (go_at_call 76; refine (Seal.sum_any g ⟨w.heap.size, 0, none⟩ 2 [(s.extract p (p + 8)).extract 0 4, (s.extract (p + 8) s.size).extract 0 n.toNat] _ ?s1 ?s2 ?s3 ?s4 ?s5).mono ?_; (case s1 => repeat (first | exact HO.out | apply Seal.obj_alloc | apply obj_drewN)); (case s2 => have := HG.out; show w.heap.size ≠ g; omega); (case s3 => simp); (case s4 => first | exact two_at (w.drewN _) _ _ | exact two_at_drewN (w.drewN _) _ _ _); (case s5 => exact HS5.out); rintro e w3 ⟨rfl, ho3, hk3, hl3⟩; have HO3 := Aside0.mk ho3; have HK3 := Aside0.mk (Seal.keep_trans (KeepBut.of_below (w := w) (by repeat (first | exact Below.refl _ _ | apply below_alloc | apply pw_below_drewN)) g none) hk3); have HL3 := Aside0.mk ((Below.mono (w := w) (B := w.heap.size) (by repeat (first | exact Below.refl _ _ | apply below_alloc | apply pw_below_drewN)) (Nat.le_of_lt HG.out)).trans hl3); clear ho3 hk3 hl3))
  all_goals
    go_wp2
    go_ret3
    exact ⟨rfl, HO3.out, HK3.out, HL3.out⟩
set_option maxHeartbeats 600000 in
set_option maxRecDepth 100000 in
theorem take_bad (g p : Nat) (s : ByteArray) (n q : Int) (w : World) (ho : Seal.Obj' w g) (hs : s.size ≤ 4611686018427387904) (hp : p + 8 ≤ s.size)
    (hn : seal_number.f (headOf s p) = some n) (hn2 : n ≤ 70000) (hn3 : (p : Int) + 8 + n ≤ s.size) (hq : seal_number.f ((headOf s p).extract 4 (headOf s p).size) = some q) (he : ¬ q = sum2 ((headOf s p).extract 0 4) ((restOf s p).extract 0 n.toNat)) :
    Calls Try.prog 78 #[.pointer (some ⟨g, 0, none⟩), .string s, .int .i64 (p : Int)] w fun e w' => e = .returned (.tuple #[.string ⟨#[]⟩, .int .i64 0, .int .i64 21]) ∧ Seal.Obj' w' g ∧ KeepBut w w' g none ∧ Below g w w' := by
  have hz1 : ((s.extract p (p + 8)).extract 0 4).size ≤ 140737488355328 := by rw [ByteArray.size_extract, ByteArray.size_extract]; omega
  have hz2 : ((s.extract (p + 8) s.size).extract 0 n.toNat).size ≤ 140737488355328 := by rw [ByteArray.size_extract]; omega
  have HS5 := Aside0.mk (show ∀ t ∈ [(s.extract p (p + 8)).extract 0 4, (s.extract (p + 8) s.size).extract 0 n.toNat], t.size ≤ 140737488355328 by
    intro t ht
    rcases List.mem_cons.1 ht with h | h
    · rw [h]; exact hz1
    · rcases List.mem_cons.1 h with h | h
      · rw [h]; exact hz2
      · cases h)
  clear hz1 hz2
  have n0 := (num_range hn).1
  have n1 := (num_range hn).2
  have HN := Aside0.mk (show seal_number.f (s.extract p (p + 8)) = some n from hn)
  have hsz8 : (s.extract p (p + 8)).size = 8 := by rw [ByteArray.size_extract]; omega
  have HQ := Aside0.mk (show seal_number.f ((s.extract p (p + 8)).extract 4 8) = some q by rw [← hq]; unfold headOf; rw [hsz8])
  have HG := Aside0.mk (Seal.obj_lt ho)
  have hne : (q != ((Crc.sumL (Seal.cat [(s.extract p (p + 8)).extract 0 4, (s.extract (p + 8) s.size).extract 0 n.toNat])).toNat : Int)) = true := bne_iff_ne.mpr he
  have HO := Aside0.mk ho
  clear hn hq he ho
  go_enter Try.func78, Try.ntmps78
  go_wp2_with fail
  go_quiet (fail)
  go_wp2_with (go_at_call 102; ((with_reducible refine (seal_number.calls (s.extract p (p + 8)) n _ HN.out).mono ?_); rintro e w1 ⟨rfl, ⟨nd, rfl⟩⟩))
  go_region_with (first | (go_at_call 102; (refine (seal_number.calls ((s.extract p (p + 8)).extract 4 8) q _ HQ.out).mono ?_); rintro e w2 ⟨rfl, ⟨nd2, rfl⟩⟩) | (go_at_call 76; refine (Seal.sum_any g ⟨w.heap.size, 0, none⟩ 2 [(s.extract p (p + 8)).extract 0 4, (s.extract (p + 8) s.size).extract 0 n.toNat] _ ?s1 ?s2 ?s3 ?s4 ?s5).mono ?_; (case s1 => repeat (first | exact HO.out | apply Seal.obj_alloc | apply obj_drewN)); (case s2 => have := HG.out; show w.heap.size ≠ g; omega); (case s3 => simp); (case s4 => first | exact two_at (w.drewN _) _ _ | exact two_at_drewN (w.drewN _) _ _ _); (case s5 => exact HS5.out); rintro e w3 ⟨rfl, ho3, hk3, hl3⟩; have HO3 := Aside0.mk ho3; have HK3 := Aside0.mk (Seal.keep_trans (KeepBut.of_below (w := w) (by repeat (first | exact Below.refl _ _ | apply below_alloc | apply pw_below_drewN)) g none) hk3); have HL3 := Aside0.mk ((Below.mono (w := w) (B := w.heap.size) (by repeat (first | exact Below.refl _ _ | apply below_alloc | apply pw_below_drewN)) (Nat.le_of_lt HG.out)).trans hl3); clear ho3 hk3 hl3))
  all_goals
    go_wp2
    go_ret3
    exact ⟨rfl, HO3.out, HK3.out, HL3.out⟩
set_option maxHeartbeats 400000 in
set_option maxRecDepth 100000 in
theorem take_long (g p : Nat) (s : ByteArray) (n : Int) (w : World) (ho : Seal.Obj' w g) (hs : s.size ≤ 4611686018427387904) (hp : p + 8 ≤ s.size) (hn : seal_number.f (headOf s p) = some n) (hn2 : 70000 < n) :
    Calls Try.prog 78 #[.pointer (some ⟨g, 0, none⟩), .string s, .int .i64 (p : Int)] w fun e w' => e = .returned (.tuple #[.string ⟨#[]⟩, .int .i64 0, .int .i64 22]) ∧ Seal.Obj' w' g ∧ KeepBut w w' g none ∧ Below g w w' := by
  have n0 := (num_range hn).1
  have n1 := (num_range hn).2
  have HN := Aside0.mk (show seal_number.f (s.extract p (p + 8)) = some n from hn)
  have HO := Aside0.mk ho
  clear hn ho
  go_enter Try.func78, Try.ntmps78
  go_wp2_with fail
  go_quiet (fail)
  go_wp2_with (go_at_call 102; ((with_reducible refine (seal_number.calls (s.extract p (p + 8)) n _ HN.out).mono ?_); rintro e w1 ⟨rfl, ⟨nd, rfl⟩⟩))
  go_ret3
  exact ⟨rfl, HO.out, KeepBut.refl _ _ _, pw_below_drewN (Below.refl _ _) _⟩
set_option maxHeartbeats 400000 in
set_option maxRecDepth 100000 in
theorem take_cut2 (g p : Nat) (s : ByteArray) (n : Int) (w : World) (ho : Seal.Obj' w g) (hs : s.size ≤ 4611686018427387904) (hp : p + 8 ≤ s.size) (hn : seal_number.f (headOf s p) = some n) (hn2 : n ≤ 70000) (hn3 : (s.size : Int) < (p : Int) + 8 + n) :
    Calls Try.prog 78 #[.pointer (some ⟨g, 0, none⟩), .string s, .int .i64 (p : Int)] w fun e w' => e = .returned (.tuple #[.string ⟨#[]⟩, .int .i64 0, .int .i64 20]) ∧ Seal.Obj' w' g ∧ KeepBut w w' g none ∧ Below g w w' := by
  have n0 := (num_range hn).1
  have n1 := (num_range hn).2
  have HN := Aside0.mk (show seal_number.f (s.extract p (p + 8)) = some n from hn)
  have HO := Aside0.mk ho
  clear hn ho
  go_enter Try.func78, Try.ntmps78
  go_wp2_with fail
  go_quiet (fail)
  go_wp2_with (go_at_call 102; ((with_reducible refine (seal_number.calls (s.extract p (p + 8)) n _ HN.out).mono ?_); rintro e w1 ⟨rfl, ⟨nd, rfl⟩⟩))
  go_ret3
  exact ⟨rfl, HO.out, KeepBut.refl _ _ _, pw_below_drewN (Below.refl _ _) _⟩
set_option maxHeartbeats 400000 in
set_option maxRecDepth 100000 in
theorem take_cut1 (g p : Nat) (s : ByteArray) (w : World) (ho : Seal.Obj' w g) (hs : s.size ≤ 4611686018427387904) (hp : s.size < p + 8) (hp2 : p ≤ s.size) :
    Calls Try.prog 78 #[.pointer (some ⟨g, 0, none⟩), .string s, .int .i64 (p : Int)] w fun e w' => e = .returned (.tuple #[.string ⟨#[]⟩, .int .i64 0, .int .i64 20]) ∧ Seal.Obj' w' g ∧ KeepBut w w' g none ∧ Below g w w' := by
  have HO := Aside0.mk ho
  clear ho
  go_enter Try.func78, Try.ntmps78
  go_wp2
  go_ret3
  exact ⟨rfl, HO.out, KeepBut.refl _ _ _, Below.refl _ _⟩
set_option maxHeartbeats 400000 in
set_option maxRecDepth 100000 in
theorem take_arg (g : Nat) (a : Int) (s : ByteArray) (w : World) (ho : Seal.Obj' w g) (hs : s.size ≤ 4611686018427387904) (ha : a < 0 ∨ a > s.size) :
    Calls Try.prog 78 #[.pointer (some ⟨g, 0, none⟩), .string s, .int .i64 a] w fun e w' => e = .returned (.tuple #[.string ⟨#[]⟩, .int .i64 0, .int .i64 1]) ∧ Seal.Obj' w' g ∧ KeepBut w w' g none ∧ Below g w w' := by
  have HO := Aside0.mk ho
  clear ho
  rcases ha with ha | ha
  · have c0 : decide (a < 0) = true := decide_eq_true ha
    clear ha
    go_enter Try.func78, Try.ntmps78
    go_wp2
    go_ret3
    exact ⟨rfl, HO.out, KeepBut.refl _ _ _, Below.refl _ _⟩
  · have c0 : decide (a < 0) = false := decide_eq_false (by omega)
    have c1 : decide ((s.size : Int) < a) = true := decide_eq_true ha
    clear ha
    go_enter Try.func78, Try.ntmps78
    go_wp2
    go_ret3
    exact ⟨rfl, HO.out, KeepBut.refl _ _ _, Below.refl _ _⟩
theorem take_any (g : Nat) (a : Int) (s : ByteArray) (r1 : ByteArray) (r2 r3 : Int) (w : World) (ho : Seal.Obj' w g) (hs : s.size ≤ 4611686018427387904) (h : takeF s a = some (r1, r2, r3)) :
    Calls Try.prog 78 #[.pointer (some ⟨g, 0, none⟩), .string s, .int .i64 a] w fun e w' => e = .returned (.tuple #[.string r1, .int .i64 r2, .int .i64 r3]) ∧ Seal.Obj' w' g ∧ KeepBut w w' g none ∧ Below g w w' := by
  unfold takeF at h
  by_cases c1 : a < 0
  · rw [if_pos c1] at h
    simp only [Option.some.injEq, Prod.mk.injEq] at h
    obtain ⟨rfl, rfl, rfl⟩ := h
    exact take_arg g a s w ho hs (.inl c1)
  · rw [if_neg c1] at h
    by_cases c2 : a > s.size
    · rw [if_pos c2] at h
      simp only [Option.some.injEq, Prod.mk.injEq] at h
      obtain ⟨rfl, rfl, rfl⟩ := h
      exact take_arg g a s w ho hs (.inr c2)
    · rw [if_neg c2] at h
      obtain ⟨p, rfl⟩ := Int.eq_ofNat_of_zero_le (by omega : 0 ≤ a)
      rw [Int.toNat_natCast] at h
      unfold takeAt at h
      by_cases c3 : (s.size : Int) - p < 8
      · rw [if_pos c3] at h
        simp only [Option.some.injEq, Prod.mk.injEq] at h
        obtain ⟨rfl, rfl, rfl⟩ := h
        exact take_cut1 g p s w ho hs (by omega) (by omega)
      · rw [if_neg c3] at h
        obtain ⟨n, hn, h⟩ := Option.bind_eq_some_iff.mp h
        have n0 := (num_range hn).1
        by_cases c4 : n > 70000
        · rw [if_pos c4] at h
          simp only [Option.some.injEq, Prod.mk.injEq] at h
          obtain ⟨rfl, rfl, rfl⟩ := h
          exact take_long g p s n w ho hs (by omega) hn c4
        · rw [if_neg c4] at h
          by_cases c5 : (s.size : Int) - (p + 8) < n
          · rw [if_pos c5] at h
            simp only [Option.some.injEq, Prod.mk.injEq] at h
            obtain ⟨rfl, rfl, rfl⟩ := h
            exact take_cut2 g p s n w ho hs (by omega) hn (by omega) (by omega)
          · rw [if_neg c5] at h
            obtain ⟨q, hq, h⟩ := Option.bind_eq_some_iff.mp h
            by_cases c6 : q = sum2 ((headOf s p).extract 0 4) ((restOf s p).extract 0 n.toNat)
            · rw [if_pos c6] at h
              simp only [Option.some.injEq, Prod.mk.injEq] at h
              obtain ⟨rfl, rfl, rfl⟩ := h
              exact take_sum g p s n q w ho hs (by omega) hn (by omega) (by omega) hq c6
            · rw [if_neg c6] at h
              simp only [Option.some.injEq, Prod.mk.injEq] at h
              obtain ⟨rfl, rfl, rfl⟩ := h
              exact take_bad g p s n q w ho hs (by omega) hn (by omega) (by omega) hq c6
def seal_Unframe.f (a0 : ByteArray) (a1 : Int) : Option (ByteArray × Int × Int) := if a0.size ≤ 4611686018427387904 then takeF a0 a1 else none
set_option maxHeartbeats 400000 in
set_option maxRecDepth 100000 in
theorem seal_Unframe.calls (a0 : ByteArray) (a1 : Int) (r1 : ByteArray) (r2 : Int) (r3 : Int) (w : World) (h : seal_Unframe.f a0 a1 = some (r1, r2, r3)) :
    Calls Try.prog 42 #[.string a0, .int .i64 a1] w fun e w' => e = .returned (.tuple #[.string r1, .int .i64 r2, .int .i64 r3]) ∧ Below w.heap.size w w' := by
  unfold seal_Unframe.f at h
  by_cases c : a0.size ≤ 4611686018427387904
  · rw [if_pos c] at h
    have H := Aside0.mk h
    have HC := Aside0.mk c
    have HO := Aside0.mk (Seal.obj_new w)
    clear h c
    go_enter Try.func42, Try.ntmps42
    go_wp2_with (go_at_call 78; refine (take_any w.heap.size a1 a0 r1 r2 r3 _ HO.out HC.out H.out).mono ?_; rintro e w1 ⟨rfl, ho, hk, hl⟩; have HL := Aside0.mk ((below_alloc (Below.refl w.heap.size w) _).trans hl); clear ho hk hl)
    go_ret3
    exact ⟨rfl, HL.out⟩
  · rw [if_neg c] at h
    cases h

end Go.Proofs.Ytaddblicjlohcaa.Sl
