/- Functions of the given program as Lean functions, each with a proof that a call of it comes to what its Lean function says. Written by a program (wip/tools/myprint.py over the kit's print). No conditions. -/
import Derived.Test.YtaddblicjlohcaaSl0
import Derived.Test.YtaddblicjlohcaaSl7
import Derived.Test.YtaddblicjlohcaaB3
import Derived.RegionTactic
import Derived.BigRegion
import Derived.WalkSpells
namespace Go.Proofs.Ytaddblicjlohcaa.Sl
open Go.RowKit Go.Proofs.YtaddblicjlohcaaW.PrintWords Go.Proofs.YtaddblicjlohcaaW.PrintLast Go.Proofs.YtaddblicjlohcaaW.PrintMore
attribute [local go_sem] max2_int min2_int max_two min_two max_three min_three max_four min_four   -- for this text's walks alone
set_option linter.unusedVariables false
set_option linter.unusedSimpArgs false

/-! ### rialtolaw02_turned: function 41 -/
-- GIVEN BY HAND
-- IMPORT Derived.Test.YtaddblicjlohcaaB3
-- IMPORT Derived.RegionTactic
-- IMPORT Derived.BigRegion
-- IMPORT Derived.WalkSpells
/-- A bit of bytes, turned. -/
def flip (bs : List Int) (bit : Nat) : List Int := bs.set (bit / 8) (Go.bits .xor .u8 (bs.getD (bit / 8) 0) ((2 ^ (bit % 8) : Nat) : Int))
def turnL : Nat → List Int → Nat → Nat → Bool → List Int × Bool
  | 0, bs, _, _, any => (bs, any)
  | j + 1, bs, bit, p, any => if p % 2 = 1 ∧ bit < 8 * bs.length then turnL j (flip bs bit) (bit + 1) (p / 2) true else turnL j bs (bit + 1) (p / 2) any
theorem pow_small : ∀ R : Nat, R < 8 → (2 : Int) ^ R % 256 = ((2 ^ R : Nat) : Int) := by decide
theorem flip_len (bs : List Int) (bit : Nat) : (flip bs bit).length = bs.length := by simp [flip]
def rialtolaw02_turned.f (a0 : ByteArray) (a1 a2 : Int) : Option (ByteArray × Bool) := if a0.size = 0 then some (a0, false) else if a0.size ≤ 1000000 ∧ 0 ≤ a2 ∧ a2 < 4294967296 then (rialtolaw02_pick.f a1 (8 * (a0.size : Int))).bind fun b => if 0 ≤ b ∧ b < 8 * (a0.size : Int) then some (strOfNums (turnL 32 (bytesOf a0) b.toNat a2.toNat false).1, (turnL 32 (bytesOf a0) b.toNat a2.toNat false).2) else none else none
set_option maxHeartbeats 600000 in
set_option maxRecDepth 100000 in
theorem rialtolaw02_turned.calls (a0 : ByteArray) (a1 a2 : Int) (r1 : ByteArray) (r2 : Bool) (w : World) (h : rialtolaw02_turned.f a0 a1 a2 = some (r1, r2)) :
    Calls Try.prog 41 #[.string a0, .int .i64 a1, .int .u32 a2] w fun e w' => e = .returned (.tuple #[.string r1, .bool r2]) ∧ Below w.heap.size w w' := by
  unfold rialtolaw02_turned.f at h
  have kb := fun W => print_bytes (P := Try.prog) 9 50 5 Try.underlying9 Try.underlying50 Try.underlying5 a0 W
  by_cases c : a0.size = 0
  · rw [if_pos c] at h
    have c0 : ((a0.size : Int) == 0) = true := beq_iff_eq.mpr (by omega)
    have HB := Aside0.mk (bytes_below (Below.refl w.heap.size w) (Nat.le_refl _) 5 a0)
    clear c
    simp only [Option.some.injEq, Prod.mk.injEq] at h
    obtain ⟨rfl, rfl⟩ := h
    go_enter Try.func41, Try.ntmps41
    go_wp2
    go_ret2
    exact ⟨rfl, HB.out⟩
  · rw [if_neg c] at h
    by_cases c2 : a0.size ≤ 1000000 ∧ 0 ≤ a2 ∧ a2 < 4294967296
    · rw [if_pos c2] at h
      obtain ⟨b, hb, h⟩ := Option.bind_eq_some_iff.mp h
      by_cases c3 : 0 ≤ b ∧ b < 8 * (a0.size : Int)
      · rw [if_pos c3] at h
        obtain ⟨p, rfl⟩ := Int.eq_ofNat_of_zero_le c3.1
        obtain ⟨pat, rfl⟩ := Int.eq_ofNat_of_zero_le c2.2.1
        rw [Int.toNat_natCast, Int.toNat_natCast] at h
        simp only [Option.some.injEq, Prod.mk.injEq] at h
        have HR := Aside0.mk h
        have HP := Aside0.mk hb
        have c0 : ((a0.size : Int) == 0) = false := beq_eq_false_iff_ne.mpr (by omega)
        have hsz : a0.size ≤ 1000000 := c2.1
        have hp8 : p < 8 * a0.size := by omega
        have hpat : pat < 4294967296 := by omega
        have HO := Aside0.mk (show Rows8.OwnB (Lib.bytesWorld w 5 a0) w.heap.size 5 (.slice (some ⟨w.heap.size, 0, none⟩) a0.size (grownCap w a0.size 0 5)) (nums .u8 (bytesOf a0)) by
          rw [← Rows8.strCells_nums]; exact Rows8.own_bytesWorld w w.heap.size 5 a0 (Nat.le_refl _) (by simp only [maxLen]; omega))
        have HB := Aside0.mk (bytes_below (Below.refl w.heap.size w) (Nat.le_refl _) 5 a0)
        clear h hb c c2 c3
        go_enter Try.func41, Try.ntmps41
        go_wp2_with (go_at_call 47; refine (rialtolaw02_pick.calls a1 (8 * (a0.size : Int)) p _ HP.out).mono ?_; rintro e w1 ⟨rfl, ⟨nd, rfl⟩⟩)
        go_loopw [2, 9, 10, 11] (fun v2 v9 v10 _v11 w' => ∃ (j : Nat) (bs : List Int) (pq : Nat) (any : Bool), j ≤ 32 ∧ v10 = .int .i64 (j : Int) ∧ v2 = .int .u32 (pq : Int) ∧ v9 = .bool any ∧ pq < 4294967296 ∧ Aside0 (bs.length = a0.size) ∧ Aside0 (turnL (32 - j) bs (p + j) pq any = turnL 32 (bytesOf a0) p pat false) ∧ Aside0 (Rows8.OwnB w' w.heap.size 5 (.slice (some ⟨w.heap.size, 0, none⟩) a0.size (grownCap w a0.size 0 5)) (nums .u8 bs)) ∧ Aside0 (Below w.heap.size w w')) (fun _ _ v10 _ _ => 32 - (intOf v10).toNat)
        case atStart => exact ⟨0, bytesOf a0, pat, false, by omega, rfl, rfl, rfl, hpat, ⟨bytesOf_length a0⟩, ⟨rfl⟩, HO, ⟨pw_below_drewN HB.out _⟩⟩
        case round =>
          clear HO HB kb hpat
          obtain ⟨j, bs, pq, any, hj, rfl, rfl, rfl, hpq, HL, HT, HO, HB⟩ := hrel
          by_cases cj : j < 32
          · by_cases ct : pq % 2 = 1 ∧ p + j < 8 * a0.size
            · have HT2 := Aside0.mk (show turnL (32 - (j + 1)) (flip bs (p + j)) (p + (j + 1)) (pq / 2) true = turnL 32 (bytesOf a0) p pat false by
                rw [← HT.out, show 32 - j = (32 - (j + 1)) + 1 from by omega, turnL, if_pos ⟨ct.1, by rw [HL.out]; exact ct.2⟩]; rfl)
              have t1 : (pq : Int) % 2 = 1 := by omega
              have t2 : (p : Int) + (j : Int) < 8 * (a0.size : Int) := by omega
              have t2b : decide ((p : Int) + (j : Int) < 8 * (a0.size : Int)) = true := decide_eq_true t2
              obtain ⟨q1, q2⟩ := HO.out.cell ((p + j) / 8) (by rw [HL.out]; omega)
              clear ct
              obtain ⟨I, hI⟩ : ∃ I, I = (p + j) / 8 := ⟨_, rfl⟩
              obtain ⟨R, hR⟩ : ∃ R, R = (p + j) % 8 := ⟨_, rfl⟩
              have e1 : ((p : Int) + (j : Int)) / 8 = (I : Int) := by omega
              have e2 : ((p : Int) + (j : Int)) % 8 = (R : Int) := by omega
              have hI2 : I < a0.size := by omega
              have hR8 : R < 8 := by omega
              have HI := Aside0.mk hI
              have HRR := Aside0.mk hR
              rw [← hI] at q1 q2
              clear hI hR
              go_wp2
              go_region
              go_wp2
              go_roundw
              case rel =>
                refine ⟨j + 1, flip bs (p + j), pq / 2, true, by omega, by go_num, rfl, rfl, by omega, ⟨(flip_len _ _).trans HL.out⟩, HT2, ⟨?_⟩, ⟨below_drew (HB.out.setCell (Nat.le_refl _) _)⟩⟩
                have h := HO.out.set_ I (Go.bits .xor .u8 (bs[I]?.getD 0) (2 ^ R % 256))
                have hf : flip bs (p + j) = bs.set I (Go.bits .xor .u8 (bs[I]?.getD 0) (2 ^ R % 256)) := by
                  unfold flip
                  rw [← HI.out, ← HRR.out]
                  have : (2 : Int) ^ R % 256 = ((2 ^ R : Nat) : Int) := pow_small R hR8
                  rw [this, List.getD_eq_getElem?_getD]
                rw [hf]
                exact h
              case measure => simp [intOf]; omega
            · have HT2 := Aside0.mk (show turnL (32 - (j + 1)) bs (p + (j + 1)) (pq / 2) any = turnL 32 (bytesOf a0) p pat false by
                rw [← HT.out, show 32 - j = (32 - (j + 1)) + 1 from by omega, turnL, if_neg (by rw [HL.out]; exact ct)]; rfl)
              by_cases c1 : pq % 2 = 1
              · have t1 : (pq : Int) % 2 = 1 := by omega
                have t2b : decide ((p : Int) + (j : Int) < 8 * (a0.size : Int)) = false := decide_eq_false (by omega)
                clear ct c1
                go_wp2
                go_roundw
                case rel => exact ⟨j + 1, bs, pq / 2, any, by omega, by go_num, rfl, rfl, by omega, HL, HT2, HO, HB⟩
                case measure => simp [intOf]; omega
              · have t1 : (pq : Int) % 2 = 0 := by omega
                clear ct c1
                go_wp2
                go_roundw
                case rel => exact ⟨j + 1, bs, pq / 2, any, by omega, by go_num, rfl, rfl, by omega, HL, HT2, HO, HB⟩
                case measure => simp [intOf]; omega
          · obtain rfl : j = 32 := by omega
            have kc := Rows8.own_string_B (P := Try.prog) (src := 50) (dst := 9) (e := 5) Try.underlying50 Try.underlying5 Try.underlying9 HO.out
            have hr1 := HR.out.1
            have hr2 := HR.out.2
            rw [← HT.out] at hr1 hr2
            have H1 := Aside0.mk (show strOfNums bs = r1 from hr1)
            have H2 := Aside0.mk (show any = r2 from hr2)
            clear hr1 hr2
            go_wp2
            go_ret2
            exact ⟨by rw [← H1.out, ← H2.out]; rfl, HB.out⟩
      · rw [if_neg c3] at h
        cases h
    · rw [if_neg c2] at h
      cases h

end Go.Proofs.Ytaddblicjlohcaa.Sl
