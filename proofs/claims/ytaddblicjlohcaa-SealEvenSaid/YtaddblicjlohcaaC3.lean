/- seal's table made once: sync.Once's Do over an object that nobody holds. Conditions: the object lies in a block of its own, its lock is free. -/
import Derived.Test.YtaddblicjlohcaaC1
import Derived.Test.YtaddblicjlohcaaC2
namespace Go.Proofs.Ytaddblicjlohcaa.Seal
open Go Go.RowKit Go.Proofs.YtaddblicjlohcaaW.PrintWords Go.Proofs.YtaddblicjlohcaaW.PrintMore
open Crc (stp stps tab)

/-- The object ahead of the first use. -/
structure Fresh (cs : Array Value) : Prop where
  size : cs.size = 259
  done : cs[0]? = some (.int .u32 0)
  lock : cs[1]? = some (.int .i32 0)
/-- The object behind it. -/
structure Ready (cs : Array Value) : Prop where
  size : cs.size = 259
  done : cs[0]? = some (.int .u32 1)
  tab : ∀ j, j < 256 → cs[3 + j]? = some (.int .u32 ((tab j).toNat : Int))

theorem keep_drew {w w1 : World} {g : Nat} (h : KeepBut w w1 g none) : KeepBut w w1.drew g none := h
theorem keep_trans {w w1 w2 : World} {g : Nat} (h : KeepBut w w1 g none) (k : KeepBut w1 w2 g none) : KeepBut w w2 g none := h.trans k (.inl rfl)

set_option maxRecDepth 100000 in
set_option maxHeartbeats 1600000 in
theorem slow_any (g : Nat) (cs : Array Value) (w : World) (hb : w.heap[g]? = some (.cells cs 115 (0, 0))) (hf : Fresh cs) :
    Calls Try.prog 111 #[.pointer (some ⟨g, 0, none⟩), .func (.func 101) #[.pointer (some ⟨g, 0, none⟩)] #[]] w fun e w' =>
      e = .returned (.tuple #[]) ∧ (∃ cur, w'.heap[g]? = some (.cells cur 115 (0, 0)) ∧ Ready cur) ∧ KeepBut w w' g none ∧ Below g w w' := by
  have HB := Aside0.mk hb
  have HF := Aside0.mk hf
  have b1 : (w.setCell ⟨g, 1, none⟩ (.int .i32 1)).heap[g]? = some (.cells (cs.setIfInBounds 1 (.int .i32 1)) 115 (0, 0)) := blk_set hb 1 _
  have HB1 := Aside0.mk b1
  have s1 : (cs.setIfInBounds 1 (.int .i32 1)).size = 259 := by simp [hf.size]
  have HS1 := Aside0.mk s1
  have l0 : w.cell? ⟨g, 1, none⟩ = some (.int .i32 0) := by rw [blk_cell hb]; exact hf.lock
  have f0 : w.frozen? ⟨g, 1, none⟩ = false := blk_frozen hb _
  have d1 : (w.setCell ⟨g, 1, none⟩ (.int .i32 1)).cell? ⟨g, 0, none⟩ = some (.int .u32 0) := by
    rw [blk_cell b1, Array.getElem?_setIfInBounds_ne (by omega)]; exact hf.done
  have hnot : ∀ (x : Bool) (w : World), (Op.unary .not (.bool x)).run Try.prog w = .ok (.bool (!x)) w := fun _ _ => rfl
  clear hb hf b1 s1
  go_enter_defers Try.func111, Try.ntmps111
  go_wp2_with (first | (go_at_call 116; refine (Once.lock_free ⟨g, 1, none⟩ _ l0 f0).mono ?_; rintro e w' ⟨rfl, rfl⟩) | (go_at_call 110; refine (Once.bool_load ⟨g, 0, none⟩ 0 _ d1).mono ?_; rintro e w' ⟨rfl, rfl⟩) | (go_at_call 101; refine (fill_any g _ _ HB1.out HS1.out).mono ?_; rintro e w2 ⟨rfl, ⟨cur, hb2, hf2⟩, hk2, hl2⟩; have HB2 := Aside0.mk hb2; have HF2 := Aside0.mk hf2; have HK2 := Aside0.mk hk2; have HL2 := Aside0.mk hl2; clear hb2 hf2 hk2 hl2))
  have c0 := HF2.out.head 0 (by omega)
  rw [Array.getElem?_setIfInBounds_ne (by omega), HF.out.done] at c0
  have c1 := HF2.out.head 1 (by omega)
  rw [Array.getElem?_setIfInBounds_self_of_lt (by rw [HF.out.size]; omega)] at c1
  have b3 : (w2.drew.setCell ⟨g, 0, none⟩ (.int .u32 1)).heap[g]? = some (.cells (cur.setIfInBounds 0 (.int .u32 1)) 115 (0, 0)) := blk_set (blk_drew HB2.out) 0 _
  refine leaves_cons (f := 118) (args := #[.pointer (some ⟨g, 0, none⟩), .bool true]) (by simp) (by simp [go_sem]) ?_
  refine (Once.store_deferred ⟨g, 0, none⟩ (.int .u32 0) .returning _ ?_ (blk_frozen HB2.out _)).mono ?_
  · rw [blk_cell HB2.out]; exact c0
  rintro e u' w'' ⟨rfl, rfl, rfl⟩
  refine leaves_cons (f := 117) (args := #[.pointer (some ⟨g, 1, none⟩)]) (by simp [settle]) (by simp [go_sem]) ?_
  refine (Once.unlock_deferred ⟨g, 1, none⟩ _ _ ?_ (blk_frozen b3 _)).mono ?_
  · rw [blk_cell b3, Array.getElem?_setIfInBounds_ne (by omega)]; exact c1
  rintro e u' w'' ⟨rfl, rfl, rfl⟩
  have fin : (∃ cur', ((w2.drew.setCell ⟨g, 0, none⟩ (.int .u32 1)).setCell ⟨g, 1, none⟩ (.int .i32 0)).heap[g]? = some (.cells cur' 115 (0, 0)) ∧ Ready cur') ∧ KeepBut w ((w2.drew.setCell ⟨g, 0, none⟩ (.int .u32 1)).setCell ⟨g, 1, none⟩ (.int .i32 0)) g none ∧ Below g w ((w2.drew.setCell ⟨g, 0, none⟩ (.int .u32 1)).setCell ⟨g, 1, none⟩ (.int .i32 0)) := by
    refine ⟨⟨_, blk_set b3 1 _, ?_⟩, ?_, ?_⟩
    · refine ⟨by simp [HF2.out.size], ?_, fun j hj => ?_⟩
      · rw [Array.getElem?_setIfInBounds_ne (by omega), Array.getElem?_setIfInBounds_self_of_lt (by rw [HF2.out.size]; omega)]
      · rw [Array.getElem?_setIfInBounds_ne (by omega), Array.getElem?_setIfInBounds_ne (by omega)]; exact HF2.out.done j hj
    · exact ((keep_drew (keep_trans ((KeepBut.refl w g none).set_ 1 (.int .i32 1)) HK2.out)).set_ 0 _).set_ 1 _
    · exact ((below_drew (((Below.refl g w).setCell (p := ⟨g, 1, none⟩) (Nat.le_refl _) (.int .i32 1)).trans HL2.out)).setCell (p := ⟨g, 0, none⟩) (Nat.le_refl _) _).setCell (p := ⟨g, 1, none⟩) (Nat.le_refl _) _
  have FIN := Aside0.mk fin
  clear fin b3 c0 c1
  simp [Leaves, settle, results, Try.results111]
  exact FIN.out
set_option maxRecDepth 100000 in
set_option maxHeartbeats 1600000 in
/-- Do, the first time. -/
theorem do_first (g : Nat) (cs : Array Value) (w : World) (hb : w.heap[g]? = some (.cells cs 115 (0, 0))) (hf : Fresh cs) :
    Calls Try.prog 100 #[.pointer (some ⟨g, 0, none⟩), .func (.func 101) #[.pointer (some ⟨g, 0, none⟩)] #[]] w fun e w' =>
      e = .returned (.tuple #[]) ∧ (∃ cur, w'.heap[g]? = some (.cells cur 115 (0, 0)) ∧ Ready cur) ∧ KeepBut w w' g none ∧ Below g w w' := by
  have HB := Aside0.mk hb
  have HF := Aside0.mk hf
  have d0 : w.cell? ⟨g, 0, none⟩ = some (.int .u32 0) := by rw [blk_cell hb]; exact hf.done
  have hnot : ∀ (x : Bool) (w : World), (Op.unary .not (.bool x)).run Try.prog w = .ok (.bool (!x)) w := fun _ _ => rfl
  clear hb hf
  go_enter Try.func100, Try.ntmps100
  go_wp2_with (first | (go_at_call 110; refine (Once.bool_load ⟨g, 0, none⟩ 0 _ d0).mono ?_; rintro e w' ⟨rfl, rfl⟩) | (go_at_call 111; refine (slow_any g cs _ HB.out HF.out).mono ?_; rintro e w2 ⟨rfl, h2⟩; have H2 := Aside0.mk h2; clear h2))
  go_end0
  exact ⟨rfl, H2.out⟩
set_option maxRecDepth 100000 in
set_option maxHeartbeats 1600000 in
/-- Do, done already. -/
theorem do_done (g : Nat) (cs : Array Value) (fv : Value) (w : World) (hb : w.heap[g]? = some (.cells cs 115 (0, 0))) (hf : Ready cs) :
    Calls Try.prog 100 #[.pointer (some ⟨g, 0, none⟩), fv] w fun e w' => e = .returned (.tuple #[]) ∧ w = w' := by
  have d0 : w.cell? ⟨g, 0, none⟩ = some (.int .u32 1) := by rw [blk_cell hb]; exact hf.done
  have hnot : ∀ (x : Bool) (w : World), (Op.unary .not (.bool x)).run Try.prog w = .ok (.bool (!x)) w := fun _ _ => rfl
  clear hb hf
  go_enter Try.func100, Try.ntmps100
  go_wp2_with (first | (go_at_call 110; refine (Once.bool_load ⟨g, 0, none⟩ 1 _ d0).mono ?_; rintro e w' ⟨rfl, rfl⟩))
  go_end0
  exact ⟨rfl, rfl⟩
end Go.Proofs.Ytaddblicjlohcaa.Seal
