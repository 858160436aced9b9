/- Functions of the given program as Lean functions, each with a proof that a call of it comes to what its Lean function says. Written by a program (wip/tools/myprint.py over the kit's print). No conditions. -/
import Derived.Test.YtaddblicjlohcaaSl0
namespace Go.Proofs.Ytaddblicjlohcaa.Sl
open Go.RowKit Go.Proofs.YtaddblicjlohcaaW.PrintWords Go.Proofs.YtaddblicjlohcaaW.PrintLast Go.Proofs.YtaddblicjlohcaaW.PrintMore
attribute [local go_sem] max2_int min2_int max_two min_two max_three min_three max_four min_four   -- for this text's walks alone
set_option linter.unusedVariables false
set_option linter.unusedSimpArgs false

/-! ### seal_four: function 75 -/
def seal_four.f (a0 : Int) : Option (ByteArray) := some (strOfNums (([(a0 / 16777216) % 256, (a0 / 65536) % 256, (a0 / 256) % 256, (a0) % 256] : List Int)))
set_option maxHeartbeats 8000000 in
set_option maxRecDepth 100000 in
theorem seal_four.calls (a0 : Int) (r : ByteArray) (w : World) (h : seal_four.f a0 = some r) :
    Calls Try.prog 75 #[.int .u32 a0] w fun e w' => e = .returned (.string r) ∧ Below w.heap.size w w' := by
  have HB := Aside0.mk (Below.refl w.heap.size w)
  have H : (some (strOfNums (([(a0 / 16777216) % 256, (a0 / 65536) % 256, (a0 / 256) % 256, (a0) % 256] : List Int)))) = some r := h
  clear h
  obtain ⟨y101, hy101⟩ : ∃ y_ : List Int, y_ = (([(a0 / 16777216) % 256, (a0 / 65536) % 256, (a0 / 256) % 256, (a0) % 256] : List Int)) := ⟨_, rfl⟩
  replace H : (some (strOfNums y101)) = some r := by first | (rw [hy101]; with_reducible exact H) | (have H2_ := (Option.bind_some _ _).symm.trans H; rw [hy101]; with_reducible exact H2_) | (have H2_ := (Option.bind_some _ _).symm.trans H; with_reducible exact H2_) | with_reducible exact H | (rw [hy101]; exact H) | exact H
  have Ny101 := Aside0.mk hy101
  clear hy101
  obtain rfl := Option.some.inj H
  go_enter Try.func75, Try.ntmps75
  go_wp2_with (first | ((with_reducible refine gate_dst (N := 14) rfl ?_); refine Kd.R_lit (Kd.int .u8) _ 5 ?hg (N := 14) ?hd (xs := ([(a0 / 16777216) % 256, (a0 / 65536) % 256, (a0 / 256) % 256, (a0) % 256] : List Int)) (inner := [.int .u8 ((a0 / 16777216) % 256), .int .u8 ((a0 / 65536) % 256), .int .u8 ((a0 / 256) % 256), .int .u8 ((a0) % 256)]) (ok := fun _ => True) (okp := fun _ => True) ?hr ?hp (fun _ hk => hk) trivial (Below.refl _ _) (Nat.le_refl _) (by simp) ?_; (case hd => rfl); (case hg => rfl); (case hr => first | (go_simp; done) | (go_simp; rfl)); (case hp => exact (Reps.one (show Kd.M (Kd.int .u8) _ _ _ ((a0 / 16777216) % 256) [.int .u8 ((a0 / 16777216) % 256)] from rfl) (Reps.one (show Kd.M (Kd.int .u8) _ _ _ ((a0 / 65536) % 256) [.int .u8 ((a0 / 65536) % 256)] from rfl) (Reps.one (show Kd.M (Kd.int .u8) _ _ _ ((a0 / 256) % 256) [.int .u8 ((a0 / 256) % 256)] from rfl) (Reps.one (show Kd.M (Kd.int .u8) _ _ _ ((a0) % 256) [.int .u8 ((a0) % 256)] from rfl) (Reps.none _ _)))))); intro v102 w2 ho3 hb hg_ hnew_; clear hg_ hnew_; (first | rw [← Ny101.out] at ho3 | (simp only [Int.reduceToNat] at ho3; rw [← Ny101.out] at ho3)); have n0_ := Aside0.mk (Kd.R_lower ho3 (below_size (by repeat (first | (with_reducible first | exact HB.out | apply below_alloc | apply pw_below_drewN | apply below_drew1) | exact HB.out)))); have n1_ := Aside0.mk (below_step (by repeat (first | (with_reducible first | exact HB.out | apply below_alloc | apply pw_below_drewN | apply below_drew1) | exact HB.out)) hb); clear HB; have HO103 := n0_; have HB := n1_; clear n0_ n1_; clear hb ho3; have hcv4 := own_string (P := Try.prog) Try.underlying50 Try.underlying5 Try.underlying9 (Kd.own_of_R HO103.out)))
  go_ret
  exact ⟨by first | rfl | (simp [errW_none, errW_some] <;> rfl) | (simp [*, errW_none, errW_some] <;> rfl), by repeat (first | (with_reducible first | exact HB.out | apply below_alloc | apply pw_below_drewN | apply below_drew1) | exact HB.out)⟩

-- NOT PRINTED: function 115 (atomic_LoadUint32)

-- NOT PRINTED: function 110 (atomic_Bool_Load)

-- NOT PRINTED: function 124 (race_Disable)

-- NOT PRINTED: function 125 (atomic_CompareAndSwapInt32)

-- NOT PRINTED: function 126 (race_Enable)

-- NOT PRINTED: function 127 (race_Acquire)

-- NOT PRINTED: function 130 (atomic_AddInt32)

-- NOT PRINTED: function 132 (sync_runtime_canSpin)

-- NOT PRINTED: function 133 (sync_runtime_doSpin)

-- NOT PRINTED: function 134 (sync_throw)

-- NOT PRINTED: function 135 (sync_runtime_nanotime)

-- NOT PRINTED: function 136 (sync_runtime_SemacquireMutex)

-- NOT PRINTED: function 128 (sync_Mutex_lockSlow)

-- NOT PRINTED: function 120 (sync_Mutex_Lock_120)

-- NOT PRINTED: function 116 (sync_Mutex_Lock_116)

-- NOT PRINTED: function 129 (race_ReleaseMerge)

-- NOT PRINTED: function 137 (sync_fatal)

-- NOT PRINTED: function 138 (sync_runtime_Semrelease)

-- NOT PRINTED: function 131 (sync_Mutex_unlockSlow)

-- NOT PRINTED: function 121 (sync_Mutex_Unlock_121)

-- NOT PRINTED: function 117 (sync_Mutex_Unlock_117)

-- NOT PRINTED: function 122 (atomic_StoreUint32)

/-! ### atomic_b32: function 123 -/
def atomic_b32.f (a0 : Bool) : Option (Int) := if a0 = true then (some 1) else (some 0)
set_option maxHeartbeats 8000000 in
set_option maxRecDepth 100000 in
theorem atomic_b32.calls (a0 : Bool) (r : Int) (w : World) (h : atomic_b32.f a0 = some r) :
    Calls Try.prog 123 #[.bool a0] w fun e w' => e = .returned (.int .u32 r) ∧ Drawn0 w w' := by
  have H : (if a0 = true then (some 1) else (some 0)) = some r := h
  clear h
  by_cases c2 : a0 = true
  · subst c2
    have H1 : (some 1) = some r := by rw [if_pos rfl] at H; exact H
    clear H
    have H := H1
    clear H1
    obtain rfl := Option.some.inj H
    go_enter Try.func123, Try.ntmps123
    go_wp2
    go_ret
    exact ⟨by first | rfl | (simp; done) | (simp [*]; done), by repeat (first | exact Drawn0.refl _ | apply Drawn0.step)⟩
  · replace c2 := Bool.eq_false_iff.mpr c2
    subst c2
    have H1 : (some 0) = some r := by rw [if_neg (show ¬ (false = true) by decide)] at H; exact H
    clear H
    have H := H1
    clear H1
    obtain rfl := Option.some.inj H
    go_enter Try.func123, Try.ntmps123
    go_wp2
    go_ret
    exact ⟨by first | rfl | (simp; done) | (simp [*]; done), by repeat (first | exact Drawn0.refl _ | apply Drawn0.step)⟩

-- NOT PRINTED: function 118 (atomic_Bool_Store)

-- NOT PRINTED: function 111 (sync_Once_doSlow)

-- NOT PRINTED: function 100 (sync_Once_Do)

-- NOT PRINTED: function 101 (seal_sums_fill)

-- NOT PRINTED: function 76 (seal_sums_sum)

end Go.Proofs.Ytaddblicjlohcaa.Sl
