/- seal's sum over texts: what the method answers, and what it leaves of its object. Conditions: the object lies in a block of its own, the texts elsewhere. -/
import Derived.Test.YtaddblicjlohcaaC3
namespace Go.Proofs.Ytaddblicjlohcaa.Seal
open Go Go.RowKit Go.Proofs.YtaddblicjlohcaaW.PrintWords Go.Proofs.YtaddblicjlohcaaW.PrintMore
open Crc (stp stps tab byte1 bytesL sumL wide)

/-- The object at some time. -/
def Obj' (w : World) (g : Nat) : Prop := ∃ cs, w.heap[g]? = some (.cells cs 115 (0, 0)) ∧ (Fresh cs ∨ Ready cs)
def Rdy (w : World) (g : Nat) : Prop := ∃ cs, w.heap[g]? = some (.cells cs 115 (0, 0)) ∧ Ready cs
theorem do_any (g : Nat) (w : World) (h : Obj' w g) :
    Calls Try.prog 100 #[.pointer (some ⟨g, 0, none⟩), .func (.func 101) #[.pointer (some ⟨g, 0, none⟩)] #[]] w fun e w' => e = .returned (.tuple #[]) ∧ Rdy w' g ∧ KeepBut w w' g none ∧ Below g w w' := by
  obtain ⟨cs, hb, hf | hf⟩ := h
  · exact do_first g cs w hb hf
  · refine (do_done g cs _ w hb hf).mono ?_
    rintro e w' ⟨rfl, rfl⟩
    exact ⟨rfl, ⟨cs, hb, hf⟩, KeepBut.refl _ _ _, Below.refl _ _⟩

/-- The bytes of texts, one behind the other. -/
def cat : List ByteArray → List Int
  | [] => []
  | s :: l => bytesOf s ++ cat l
theorem cat_take (l : List ByteArray) (i : Nat) (h : i < l.length) : cat (l.take (i + 1)) = cat (l.take i) ++ bytesOf l[i] := by
  induction l generalizing i with
  | nil => simp at h
  | cons s l ih =>
    cases i with
    | zero => simp [cat]
    | succ i => simp only [List.take_succ_cons, cat, List.getElem_cons_succ, List.append_assoc]; rw [ih i (by simpa using h)]

theorem cell_keep {w w1 : World} {g : Nat} (hk : KeepBut w w1 g none) {a : Addr} {v : Value} (h : w.cell? a = some v) (hne : a.block ≠ g) : w1.cell? a = some v := by
  have hb := hk.2 a.block (World.block_lt_of_cell? w a h) hne (by simp)
  simpa [World.cell?, hb] using h

/-- The register behind i texts; behind j bytes of a text more. -/
def acc (l : List ByteArray) (i : Nat) : BitVec 32 := bytesL (BitVec.allOnes 32) (cat (l.take i))
def acc2 (R : BitVec 32) (s : ByteArray) (j : Nat) : BitVec 32 := bytesL R ((bytesOf s).take j)
theorem acc_step (l : List ByteArray) (i : Nat) (h : i < l.length) : acc l (i + 1) = acc2 (acc l i) l[i] l[i].size := by
  unfold acc acc2
  rw [cat_take l i h, Crc.bytesL_append, ← bytesOf_length, List.take_length]
theorem acc2_step (R : BitVec 32) (s : ByteArray) (j : Nat) (h : j < s.size) : acc2 R s (j + 1) = byte1 (acc2 R s j) (s[j]'h).toNat := by
  unfold acc2
  have hl : j < (bytesOf s).length := by rw [bytesOf_length]; exact h
  rw [List.take_succ_eq_append_getElem hl, Crc.bytesL_append]
  simp only [bytesL]
  congr 1
  simp [bytesOf]
  rfl
set_option maxRecDepth 100000 in
set_option maxHeartbeats 1600000 in
theorem sum_any (g : Nat) (ad : Addr) (c : Nat) (l : List ByteArray) (w : World) (ho : Obj' w g) (hne : ad.block ≠ g) (hl : l.length ≤ 1000)
    (hc : ∀ i (h : i < l.length), w.cell? (ad.add i) = some (.string l[i])) (hs : ∀ s ∈ l, s.size ≤ 140737488355328) :
    Calls Try.prog 76 #[.pointer (some ⟨g, 0, none⟩), .slice (some ad) l.length c] w fun e w' => e = .returned (.int .u32 ((sumL (cat l)).toNat : Int)) ∧ Obj' w' g ∧ KeepBut w w' g none ∧ Below g w w' := by
  have HO := Aside0.mk ho
  have HC := Aside0.mk hc
  have HS := Aside0.mk hs
  have HN := Aside0.mk hne
  have hmf : ∀ (fn : Fn) (first cap : Array Value) (w : World), (Instr.makeFunc fn first cap).run Try.prog w = .ok (.func fn first cap) w := fun _ _ _ _ => rfl
  clear ho hc hs hne
  go_enter Try.func76, Try.ntmps76
  go_wp2
  go_loopw [5, 7, 8, 11, 16, 17] (fun v5 _v7 _v8 v11 _v16 _v17 w' => ∃ i : Nat, i ≤ l.length ∧ v11 = .int .i64 (i : Int) ∧ v5 = .int .u32 ((acc l i).toNat : Int) ∧ Aside0 (Obj' w' g) ∧ Aside0 (KeepBut w w' g none) ∧ Aside0 (Below g w w')) (fun _ _ _ v11 _ _ _ => l.length - (intOf v11).toNat)
  case atStart => exact ⟨0, by omega, rfl, rfl, HO, ⟨KeepBut.refl _ _ _⟩, ⟨Below.refl _ _⟩⟩
  case round =>
    obtain ⟨i, hi, rfl, rfl, HO1, HK1, HL1⟩ := hrel
    by_cases ci : i < l.length
    · have hcell := cell_keep HK1.out (HC.out i ci) (by rw [show (ad.add i).block = ad.block from by unfold Addr.add; split <;> rfl]; exact HN.out)
      have hsz := HS.out l[i] (List.getElem_mem ci)
      have HACC := Aside0.mk (acc_step l i ci)
      obtain ⟨s, hsx⟩ : ∃ s, s = l[i] := ⟨_, rfl⟩
      rw [← hsx] at hcell hsz HACC
      clear hsx
      generalize acc l i = R at *
      go_wp2
      obtain ⟨wo, rfl⟩ : ∃ wo : World, wo = wr := ⟨_, rfl⟩
      go_loopw [5, 8, 17] (fun v5 _v8 v17 w' => ∃ j : Nat, j ≤ s.size ∧ v17 = .int .i64 (j : Int) ∧ v5 = .int .u32 ((acc2 R s j).toNat : Int) ∧ Aside0 (Obj' w' g) ∧ Aside0 (KeepBut w w' g none) ∧ Aside0 (Below g w w')) (fun _ _ v17 _ => s.size - (intOf v17).toNat)
      case atStart => exact ⟨0, by omega, rfl, rfl, HO1, HK1, HL1⟩
      case round =>
        clear hcell HO1 HK1 HL1
        obtain ⟨j, hj, rfl, rfl, HO2, HK2, HL2⟩ := hrel
        by_cases cj : j < s.size
        · have HACC2 := Aside0.mk (acc2_step R s j cj)
          generalize acc2 R s j = X at *
          go_wp2_with (go_at_call 100; refine (do_any g _ HO2.out).mono ?_; rintro e w3 ⟨rfl, ho3, hk3, hl3⟩; have HO3 := Aside0.mk ho3; have HK3 := Aside0.mk (keep_trans HK2.out hk3); have HL3 := Aside0.mk (HL2.out.trans hl3); clear ho3 hk3 hl3)
          obtain ⟨b, hbx⟩ : ∃ b, b = (s[j]'cj).toNat := ⟨_, rfl⟩
          have hb256 : b < 256 := by rw [hbx]; exact (s[j]'cj).toNat_lt
          obtain ⟨m, hm⟩ : ∃ m, m = X.toNat % 256 := ⟨_, rfl⟩
          have hm256 : m < 256 := by omega
          obtain ⟨n, hn⟩ : ∃ n, n = m ^^^ b := ⟨_, rfl⟩
          have hn256 : n < 256 := by rw [hn]; exact Nat.xor_lt_two_pow (n := 8) hm256 hb256
          obtain ⟨y, hy⟩ : ∃ y, y = X >>> 8 := ⟨_, rfl⟩
          obtain ⟨T, hT⟩ : ∃ T, T = tab n := ⟨_, rfl⟩
          obtain ⟨Z, hZ⟩ : ∃ Z, Z = T ^^^ y := ⟨_, rfl⟩
          have HZ := Aside0.mk (show acc2 R s (j + 1) = Z by rw [HACC2.out, ← hbx, Crc.byte1_tab X b hb256, hZ, hT, hn, hm, hy])
          have e1 : (X.toNat : Int) % (256 : Int) = (m : Int) := by rw [hm]; rfl
          have e2 : Go.bits .xor .u8 (m : Int) (b : Int) = (n : Int) := by rw [hn]; exact u8_xor_nat m b hm256 hb256
          have e3 : (X.toNat : Int) / (256 : Int) = (y.toNat : Int) := by rw [hy, BitVec.toNat_ushiftRight, Nat.shiftRight_eq_div_pow]; rfl
          have e4 : Go.bits .xor .u32 (T.toNat : Int) (y.toNat : Int) = (Z.toNat : Int) := by rw [hZ]; exact xor_u32 T y
          obtain ⟨cs3, hb3, hr3⟩ := HO3.out
          have q1 : w3.cell? ⟨g, 3 + n, none⟩ = some (.int .u32 (T.toNat : Int)) := by rw [blk_cell hb3, hr3.tab n hn256, hT]
          have e5 : ((s[j]'cj).toNat : Int) = (b : Int) := by rw [hbx]
          have HO4 := Aside0.mk (show Obj' w3 g from ⟨cs3, hb3, .inr hr3⟩)
          have q2 : (n : Int) < 256 := by omega
          clear hb3 hr3 hZ hT hy hn hm hbx
          go_quiet (fail)
          go_wp2
          go_roundw
          case rel => exact ⟨j + 1, by omega, by go_num, by rw [HZ.out], ⟨HO4.out⟩, ⟨HK3.out⟩, ⟨pw_below_drewN HL3.out _⟩⟩
          case measure => simp [intOf]; omega
        · obtain rfl : j = s.size := by omega
          go_wp2
          go_roundw
          case rel => exact ⟨i + 1, by omega, by go_num, by rw [HACC.out], HO2, HK2, HL2⟩
          case measure => simp [intOf]; omega
    · obtain rfl : i = l.length := by omega
      have e6 : Go.bits .xor .u32 IntKind.u32.max ((acc l l.length).toNat : Int) = ((sumL (cat l)).toNat : Int) := by
        have h1 := xor_u32 (BitVec.allOnes 32) (acc l l.length)
        rw [BitVec.xor_comm, BitVec.xor_allOnes] at h1
        have h2 : acc l l.length = bytesL (BitVec.allOnes 32) (cat l) := by unfold acc; rw [List.take_length]
        have h3 : sumL (cat l) = ~~~ (acc l l.length) := by rw [h2]; rfl
        rw [h3, ← h1]; rfl
      generalize acc l l.length = R at *
      obtain ⟨Z, hZ⟩ : ∃ Z, Z = sumL (cat l) := ⟨_, rfl⟩
      rw [← hZ] at e6
      have HZ := Aside0.mk hZ
      clear hZ
      go_wp2
      go_ret
      exact ⟨by rw [← HZ.out]; rfl, HO1.out, HK1.out, HL1.out⟩
end Go.Proofs.Ytaddblicjlohcaa.Seal
