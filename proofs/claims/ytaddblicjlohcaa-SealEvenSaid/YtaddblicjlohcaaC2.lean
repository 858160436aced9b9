/- seal's table: what the filling leaves in memory. Conditions: the object lies in a block of its own. -/
import Derived.Test.YtaddblicjlohcaaProg
import Derived.Test.YtaddblicjlohcaaWMore
import Derived.Test.YtaddblicjlohcaaD1
import Derived.WalkKit
import Derived.KernelRfl
import Derived.RowKit3
import Derived.Deep.LoopGhost
import Derived.Deep.QuietTactic
import Derived.BigQuiet
import Derived.Outline
namespace Go.Proofs.Ytaddblicjlohcaa.Seal
open Go Go.RowKit Go.Proofs.YtaddblicjlohcaaW.PrintWords Go.Proofs.YtaddblicjlohcaaW.PrintMore
open Crc (stp stps tab)

theorem and1_u32 (x : BitVec 32) : Go.bits .and .u32 (x.toNat : Int) 1 = if x.getLsbD 0 then 1 else 0 := by
  have h := u32_and_nat x.toNat 1 x.isLt (by omega)
  rw [show ((1 : Nat) : Int) = 1 from rfl] at h
  rw [h, nat_mask1]
  have : x.getLsbD 0 = x.toNat.testBit 0 := rfl
  rw [this, Nat.testBit_zero]
  rcases Nat.mod_two_eq_zero_or_one x.toNat with e | e <;> simp [e]
theorem half_u32 (x : BitVec 32) : (x.toNat : Int) / (2 : Int) = ((x >>> 1).toNat : Int) := by
  rw [BitVec.toNat_ushiftRight, Nat.shiftRight_eq_div_pow]; rfl
theorem xor_u32 (x y : BitVec 32) : Go.bits .xor .u32 (x.toNat : Int) (y.toNat : Int) = ((x ^^^ y).toNat : Int) := by
  rw [u32_xor_nat _ _ x.isLt y.isLt, BitVec.toNat_xor]
theorem poly_u32 (x : BitVec 32) : Go.bits .xor .u32 (x.toNat : Int) 3988292384 = ((x ^^^ 0xedb88320#32).toNat : Int) := xor_u32 x 0xedb88320#32

/-- The table's cells, as far as they have come. -/
structure Filled (cs cur : Array Value) (i : Nat) : Prop where
  size : cur.size = 259
  head : ∀ j, j < 3 → cur[j]? = cs[j]?
  done : ∀ j, j < i → cur[3 + j]? = some (.int .u32 ((tab j).toNat : Int))
theorem Filled.step {cs cur : Array Value} {i : Nat} (h : Filled cs cur i) (hi : i < 256) : Filled cs (cur.setIfInBounds (3 + i) (.int .u32 ((tab i).toNat : Int))) (i + 1) := by
  refine ⟨by simp [h.size], fun j hj => ?_, fun j hj => ?_⟩
  · rw [Array.getElem?_setIfInBounds_ne (by omega)]; exact h.head j hj
  · by_cases e : j = i
    · subst e; rw [Array.getElem?_setIfInBounds_self_of_lt (by rw [h.size]; omega)]
    · rw [Array.getElem?_setIfInBounds_ne (by omega)]; exact h.done j (by omega)

theorem stps_succ' (k : Nat) (x : BitVec 32) : stps (k + 1) x = stp (stps k x) := Crc.stps_succ k x
set_option maxHeartbeats 1000000 in
set_option maxRecDepth 100000 in
theorem fill_any (g : Nat) (cs : Array Value) (w : World) (hb : w.heap[g]? = some (.cells cs 115 (0, 0))) (hsz : cs.size = 259) :
    Calls Try.prog 101 #[.pointer (some ⟨g, 0, none⟩)] w fun e w' => e = .returned (.tuple #[]) ∧ (∃ cur, w'.heap[g]? = some (.cells cur 115 (0, 0)) ∧ Filled cs cur 256) ∧ KeepBut w w' g none ∧ Below g w w' := by
  have HB := Aside0.mk hb
  have HS := Aside0.mk hsz
  clear hb hsz
  go_enter Try.func101, Try.ntmps101
  go_wp2
  go_loopw [2, 3, 4, 5] (fun _v2 _v3 _v4 v5 w' => ∃ (i : Nat) (cur : Array Value), i ≤ 256 ∧ v5 = .int .i64 (i : Int) ∧ Aside0 (w'.heap[g]? = some (.cells cur 115 (0, 0))) ∧ Aside0 (Filled cs cur i) ∧ Aside0 (KeepBut w w' g none) ∧ Aside0 (Below g w w')) (fun _ _ _ v5 _ => 256 - (intOf v5).toNat)
  case atStart => exact ⟨0, cs, by omega, rfl, HB, ⟨⟨HS.out, fun _ _ => rfl, fun j hj => by omega⟩⟩, ⟨KeepBut.refl _ _ _⟩, ⟨Below.refl _ _⟩⟩
  case round =>
    obtain ⟨i, cur, hi, rfl, HB1, HF, HK, HL⟩ := hrel
    by_cases c : i < 256
    · have hw32 : IntKind.u32.wrap (i : Int) = (i : Int) := by rw [IntKind.wrap_u32]; omega
      go_wp2
      obtain ⟨wo, rfl⟩ : ∃ wo : World, wo = wr := ⟨_, rfl⟩
      go_loop [3, 4, 10] (fun v3 _v4 v10 => ∃ k : Nat, k ≤ 8 ∧ v10 = .int .i64 (k : Int) ∧ v3 = .int .u32 ((stps k (BitVec.ofNat 32 i)).toNat : Int)) (fun _ _ v10 => 8 - (intOf v10).toNat)
      case atStart =>
        refine ⟨0, by omega, rfl, ?_⟩
        have : (BitVec.ofNat 32 i).toNat = i := by rw [BitVec.toNat_ofNat]; omega
        show Value.int .u32 _ = Value.int .u32 ((BitVec.ofNat 32 i).toNat : Int)
        rw [this]
      case round =>
        obtain ⟨k, hk, rfl, rfl⟩ := hrel
        by_cases c2 : k < 8
        · have hstep := stps_succ' k (BitVec.ofNat 32 i)
          generalize stps k (BitVec.ofNat 32 i) = x at hstep ⊢
          have HX := Aside0.mk hstep
          clear hstep
          have h2 := half_u32 x
          have h1 := and1_u32 x
          have h3 := poly_u32 (x >>> 1)
          obtain ⟨y, hy⟩ : ∃ y, y = x >>> 1 := ⟨_, rfl⟩
          obtain ⟨z, hz⟩ : ∃ z, z = y ^^^ 0xedb88320#32 := ⟨_, rfl⟩
          rw [← hy] at h2 h3
          rw [← hz] at h3
          cases hb : x.getLsbD 0 with
          | false =>
            rw [hb] at h1
            simp only [Bool.false_eq_true, if_false] at h1
            have HY := Aside0.mk (show stp x = y by unfold stp; rw [hb, hy]; rfl)
            clear hb hy hz h3
            go_wp2
            go_round
            case rel => exact ⟨k + 1, by omega, by go_num, by rw [HX.out, HY.out]⟩
            case measure => simp [intOf]; omega
          | true =>
            rw [hb] at h1
            simp only [if_true] at h1
            have HY := Aside0.mk (show stp x = z by unfold stp; rw [hb, hz, hy]; rfl)
            clear hb hy hz
            go_wp2
            go_round
            case rel => exact ⟨k + 1, by omega, by go_num, by rw [HX.out, HY.out]⟩
            case measure => simp [intOf]; omega
        · obtain rfl : k = 8 := by omega
          have q1 := blk_frozen HB1.out (3 + i)
          obtain ⟨v, hv⟩ : ∃ v, cur[3 + i]? = some v := ⟨_, Array.getElem?_eq_getElem (by rw [HF.out.size]; omega)⟩
          have q2 : wo.cell? ⟨g, 3 + i, none⟩ = some v := by rw [blk_cell HB1.out]; exact hv
          clear hv
          go_wp2
          go_roundw
          case rel => exact ⟨i + 1, _, by omega, by go_num, ⟨blk_set HB1.out (3 + i) _⟩, ⟨HF.out.step c⟩, ⟨HK.out.set_ _ _⟩, ⟨HL.out.setCell (Nat.le_refl _) _⟩⟩
          case measure => simp [intOf]; omega
    · obtain rfl : i = 256 := by omega
      go_wp2
      go_end0
      exact ⟨rfl, ⟨cur, HB1.out, HF.out⟩, HK.out, HL.out⟩
end Go.Proofs.Ytaddblicjlohcaa.Seal
