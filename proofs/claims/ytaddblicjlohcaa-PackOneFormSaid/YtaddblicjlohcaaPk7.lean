/- Functions of the given program as Lean functions, each with a proof that a call of it comes to what its Lean function says. Written by a program (wip/tools/myprint.py over the kit's print). No conditions. -/
import Derived.Test.YtaddblicjlohcaaPk0
import Derived.Test.YtaddblicjlohcaaPk1
import Derived.Test.YtaddblicjlohcaaPk4
import Derived.Test.YtaddblicjlohcaaPk5
import Derived.Test.YtaddblicjlohcaaPk6
namespace Go.Proofs.Ytaddblicjlohcaa.Pk
open Go.RowKit Go.Proofs.YtaddblicjlohcaaW.PrintWords Go.Proofs.YtaddblicjlohcaaW.PrintLast Go.Proofs.YtaddblicjlohcaaW.PrintMore
attribute [local go_sem] max2_int min2_int max_two min_two max_three min_three max_four min_four   -- for this text's walks alone
set_option linter.unusedVariables false
set_option linter.unusedSimpArgs false

/-! ### rialtolaw01_PackReads: function 5 -/
mutual
def rialtolaw01_PackReads.j0 : Nat → ByteArray → Int → Bool → Option (Bool)
  | 0, _, _, _ => none
  | k + 1, x0, x1, x119 => if x119 = true then (some false) else ((rialtoref01_TakeList.f k x0 x1).bind fun bt203 => (rialtolaw01_PackReads.l0 k x0 x1 bt203.1 bt203.2.1 bt203.2.2 0))
def rialtolaw01_PackReads.l0 : Nat → ByteArray → Int → List ByteArray → Int → Int → Int → Option (Bool)
  | 0, _, _, _, _, _, _ => none
  | k + 1, x0, x1, x23, x24, x25, x26 => if x26 < 2 then ((pack_TakeList.f k x0 x1).bind fun bt208 => ((rialtolaw01_same.f k bt208.1 x23).bind fun t213 => (if t213 = true then (if bt208.2.1 = x24 then (rialtolaw01_PackReads.j2 k x0 x1 x23 x24 x25 x26 bt208.1 (bt208.2.2 != x25)) else (rialtolaw01_PackReads.j2 k x0 x1 x23 x24 x25 x26 bt208.1 true)) else (rialtolaw01_PackReads.j2 k x0 x1 x23 x24 x25 x26 bt208.1 true)))) else (some true)
def rialtolaw01_PackReads.j2 : Nat → ByteArray → Int → List ByteArray → Int → Int → Int → List ByteArray → Bool → Option (Bool)
  | 0, _, _, _, _, _, _, _, _ => none
  | k + 1, x0, x1, x23, x24, x25, x26, x27, x151 => if x151 = true then (some false) else (rialtolaw01_PackReads.l1 k x0 x1 x23 x24 x25 x26 x27 0)
def rialtolaw01_PackReads.l1 : Nat → ByteArray → Int → List ByteArray → Int → Int → Int → List ByteArray → Int → Option (Bool)
  | 0, _, _, _, _, _, _, _, _ => none
  | k + 1, x0, x1, x23, x24, x25, x26, x27, x30 => if x30 < (x27.length : Int) then (if 0 ≤ x30 then (rialtolaw01_PackReads.l1 k x0 x1 x23 x24 x25 x26 (x27.set (x30 : Int).toNat (⟨#[119, 114, 105, 116, 116, 101, 110]⟩ : ByteArray)) (wrap64 (x30 + 1))) else (none)) else (rialtolaw01_PackReads.l0 k x0 x1 x23 x24 x25 (wrap64 (x26 + 1)))
end
def rialtolaw01_PackReads.f (k : Nat) (a0 : ByteArray) (a1 : Int) : Option (Bool) := (pack_TakeUint.f k a0 a1).bind fun bt184 => ((rialtoref01_TakeUint.f k a0 a1).bind fun bt187 => ((pack_TakeInt.f k a0 a1).bind fun bt190 => ((rialtoref01_TakeInt.f k a0 a1).bind fun bt193 => ((pack_TakeText.f k a0 a1).bind fun bt196 => ((rialtoref01_TakeText.f k a0 a1).bind fun bt199 => ((rialtolaw01_live.f k).bind fun t202 => (if t202 = true then (if bt184.1 = bt187.1 then (if bt184.2.1 = bt187.2.1 then (if bt184.2.2 = bt187.2.2 then (if bt190.1 = bt193.1 then (if bt190.2.1 = bt193.2.1 then (if bt190.2.2 = bt193.2.2 then (if bt196.1.toList = bt199.1.toList then (if bt196.2.1 = bt199.2.1 then (rialtolaw01_PackReads.j0 k a0 a1 (bt196.2.2 != bt199.2.2)) else (rialtolaw01_PackReads.j0 k a0 a1 true)) else (rialtolaw01_PackReads.j0 k a0 a1 true)) else (rialtolaw01_PackReads.j0 k a0 a1 true)) else (rialtolaw01_PackReads.j0 k a0 a1 true)) else (rialtolaw01_PackReads.j0 k a0 a1 true)) else (rialtolaw01_PackReads.j0 k a0 a1 true)) else (rialtolaw01_PackReads.j0 k a0 a1 true)) else (rialtolaw01_PackReads.j0 k a0 a1 true)) else (rialtolaw01_PackReads.j0 k a0 a1 true))))))))
theorem rialtolaw01_PackReads.mono_l : ∀ k, (∀ y0 y1 y2, LeO (rialtolaw01_PackReads.j0 k y0 y1 y2) (rialtolaw01_PackReads.j0 (k + 1) y0 y1 y2)) ∧ (∀ y0 y1 y2 y3 y4 y5, LeO (rialtolaw01_PackReads.l0 k y0 y1 y2 y3 y4 y5) (rialtolaw01_PackReads.l0 (k + 1) y0 y1 y2 y3 y4 y5)) ∧ (∀ y0 y1 y2 y3 y4 y5 y6 y7, LeO (rialtolaw01_PackReads.j2 k y0 y1 y2 y3 y4 y5 y6 y7) (rialtolaw01_PackReads.j2 (k + 1) y0 y1 y2 y3 y4 y5 y6 y7)) ∧ (∀ y0 y1 y2 y3 y4 y5 y6 y7, LeO (rialtolaw01_PackReads.l1 k y0 y1 y2 y3 y4 y5 y6 y7) (rialtolaw01_PackReads.l1 (k + 1) y0 y1 y2 y3 y4 y5 y6 y7))
  | 0 => ⟨fun _ _ _ r h => by simp [rialtolaw01_PackReads.j0] at h, fun _ _ _ _ _ _ r h => by simp [rialtolaw01_PackReads.l0] at h, fun _ _ _ _ _ _ _ _ r h => by simp [rialtolaw01_PackReads.j2] at h, fun _ _ _ _ _ _ _ _ r h => by simp [rialtolaw01_PackReads.l1] at h⟩
  | k + 1 => by
    obtain ⟨ih0, ih1, ih2, ih3⟩ := rialtolaw01_PackReads.mono_l k
    refine ⟨?_, ?_, ?_, ?_⟩
    · intro y0 y1 y2
      unfold rialtolaw01_PackReads.j0
      repeat' first
      | (with_reducible exact ih0 _ _ _)
      | (with_reducible exact ih1 _ _ _ _ _ _)
      | (with_reducible exact ih2 _ _ _ _ _ _ _ _)
      | (with_reducible exact ih3 _ _ _ _ _ _ _ _)
      | (with_reducible exact pack_TakeInt.mono _ _ _)
      | (with_reducible exact pack_TakeList.mono _ _ _)
      | (with_reducible exact pack_TakeText.mono _ _ _)
      | (with_reducible exact pack_TakeUint.mono _ _ _)
      | (with_reducible exact rialtolaw01_live.mono _)
      | (with_reducible exact rialtolaw01_same.mono _ _ _)
      | (with_reducible exact rialtoref01_TakeInt.mono _ _ _)
      | (with_reducible exact rialtoref01_TakeList.mono _ _ _)
      | (with_reducible exact rialtoref01_TakeText.mono _ _ _)
      | (with_reducible exact rialtoref01_TakeUint.mono _ _ _)
      | (with_reducible exact LeO.refl _)
      | (with_reducible exact LeO.none _)
      | (with_reducible refine LeO.ite ?_ ?_)
      | (with_reducible refine LeO.bind ?_ (fun _ => ?_))
      | exact ih0 _ _ _
      | exact ih1 _ _ _ _ _ _
      | exact ih2 _ _ _ _ _ _ _ _
      | exact ih3 _ _ _ _ _ _ _ _
      | exact pack_TakeInt.mono _ _ _
      | exact pack_TakeList.mono _ _ _
      | exact pack_TakeText.mono _ _ _
      | exact pack_TakeUint.mono _ _ _
      | exact rialtolaw01_live.mono _
      | exact rialtolaw01_same.mono _ _ _
      | exact rialtoref01_TakeInt.mono _ _ _
      | exact rialtoref01_TakeList.mono _ _ _
      | exact rialtoref01_TakeText.mono _ _ _
      | exact rialtoref01_TakeUint.mono _ _ _
      | exact LeO.none _
      | refine LeO.ite ?_ ?_
      | refine LeO.bind ?_ (fun _ => ?_)
    · intro y0 y1 y2 y3 y4 y5
      unfold rialtolaw01_PackReads.l0
      repeat' first
      | (with_reducible exact ih0 _ _ _)
      | (with_reducible exact ih1 _ _ _ _ _ _)
      | (with_reducible exact ih2 _ _ _ _ _ _ _ _)
      | (with_reducible exact ih3 _ _ _ _ _ _ _ _)
      | (with_reducible exact pack_TakeInt.mono _ _ _)
      | (with_reducible exact pack_TakeList.mono _ _ _)
      | (with_reducible exact pack_TakeText.mono _ _ _)
      | (with_reducible exact pack_TakeUint.mono _ _ _)
      | (with_reducible exact rialtolaw01_live.mono _)
      | (with_reducible exact rialtolaw01_same.mono _ _ _)
      | (with_reducible exact rialtoref01_TakeInt.mono _ _ _)
      | (with_reducible exact rialtoref01_TakeList.mono _ _ _)
      | (with_reducible exact rialtoref01_TakeText.mono _ _ _)
      | (with_reducible exact rialtoref01_TakeUint.mono _ _ _)
      | (with_reducible exact LeO.refl _)
      | (with_reducible exact LeO.none _)
      | (with_reducible refine LeO.ite ?_ ?_)
      | (with_reducible refine LeO.bind ?_ (fun _ => ?_))
      | exact ih0 _ _ _
      | exact ih1 _ _ _ _ _ _
      | exact ih2 _ _ _ _ _ _ _ _
      | exact ih3 _ _ _ _ _ _ _ _
      | exact pack_TakeInt.mono _ _ _
      | exact pack_TakeList.mono _ _ _
      | exact pack_TakeText.mono _ _ _
      | exact pack_TakeUint.mono _ _ _
      | exact rialtolaw01_live.mono _
      | exact rialtolaw01_same.mono _ _ _
      | exact rialtoref01_TakeInt.mono _ _ _
      | exact rialtoref01_TakeList.mono _ _ _
      | exact rialtoref01_TakeText.mono _ _ _
      | exact rialtoref01_TakeUint.mono _ _ _
      | exact LeO.none _
      | refine LeO.ite ?_ ?_
      | refine LeO.bind ?_ (fun _ => ?_)
    · intro y0 y1 y2 y3 y4 y5 y6 y7
      unfold rialtolaw01_PackReads.j2
      repeat' first
      | (with_reducible exact ih0 _ _ _)
      | (with_reducible exact ih1 _ _ _ _ _ _)
      | (with_reducible exact ih2 _ _ _ _ _ _ _ _)
      | (with_reducible exact ih3 _ _ _ _ _ _ _ _)
      | (with_reducible exact pack_TakeInt.mono _ _ _)
      | (with_reducible exact pack_TakeList.mono _ _ _)
      | (with_reducible exact pack_TakeText.mono _ _ _)
      | (with_reducible exact pack_TakeUint.mono _ _ _)
      | (with_reducible exact rialtolaw01_live.mono _)
      | (with_reducible exact rialtolaw01_same.mono _ _ _)
      | (with_reducible exact rialtoref01_TakeInt.mono _ _ _)
      | (with_reducible exact rialtoref01_TakeList.mono _ _ _)
      | (with_reducible exact rialtoref01_TakeText.mono _ _ _)
      | (with_reducible exact rialtoref01_TakeUint.mono _ _ _)
      | (with_reducible exact LeO.refl _)
      | (with_reducible exact LeO.none _)
      | (with_reducible refine LeO.ite ?_ ?_)
      | (with_reducible refine LeO.bind ?_ (fun _ => ?_))
      | exact ih0 _ _ _
      | exact ih1 _ _ _ _ _ _
      | exact ih2 _ _ _ _ _ _ _ _
      | exact ih3 _ _ _ _ _ _ _ _
      | exact pack_TakeInt.mono _ _ _
      | exact pack_TakeList.mono _ _ _
      | exact pack_TakeText.mono _ _ _
      | exact pack_TakeUint.mono _ _ _
      | exact rialtolaw01_live.mono _
      | exact rialtolaw01_same.mono _ _ _
      | exact rialtoref01_TakeInt.mono _ _ _
      | exact rialtoref01_TakeList.mono _ _ _
      | exact rialtoref01_TakeText.mono _ _ _
      | exact rialtoref01_TakeUint.mono _ _ _
      | exact LeO.none _
      | refine LeO.ite ?_ ?_
      | refine LeO.bind ?_ (fun _ => ?_)
    · intro y0 y1 y2 y3 y4 y5 y6 y7
      unfold rialtolaw01_PackReads.l1
      repeat' first
      | (with_reducible exact ih0 _ _ _)
      | (with_reducible exact ih1 _ _ _ _ _ _)
      | (with_reducible exact ih2 _ _ _ _ _ _ _ _)
      | (with_reducible exact ih3 _ _ _ _ _ _ _ _)
      | (with_reducible exact pack_TakeInt.mono _ _ _)
      | (with_reducible exact pack_TakeList.mono _ _ _)
      | (with_reducible exact pack_TakeText.mono _ _ _)
      | (with_reducible exact pack_TakeUint.mono _ _ _)
      | (with_reducible exact rialtolaw01_live.mono _)
      | (with_reducible exact rialtolaw01_same.mono _ _ _)
      | (with_reducible exact rialtoref01_TakeInt.mono _ _ _)
      | (with_reducible exact rialtoref01_TakeList.mono _ _ _)
      | (with_reducible exact rialtoref01_TakeText.mono _ _ _)
      | (with_reducible exact rialtoref01_TakeUint.mono _ _ _)
      | (with_reducible exact LeO.refl _)
      | (with_reducible exact LeO.none _)
      | (with_reducible refine LeO.ite ?_ ?_)
      | (with_reducible refine LeO.bind ?_ (fun _ => ?_))
      | exact ih0 _ _ _
      | exact ih1 _ _ _ _ _ _
      | exact ih2 _ _ _ _ _ _ _ _
      | exact ih3 _ _ _ _ _ _ _ _
      | exact pack_TakeInt.mono _ _ _
      | exact pack_TakeList.mono _ _ _
      | exact pack_TakeText.mono _ _ _
      | exact pack_TakeUint.mono _ _ _
      | exact rialtolaw01_live.mono _
      | exact rialtolaw01_same.mono _ _ _
      | exact rialtoref01_TakeInt.mono _ _ _
      | exact rialtoref01_TakeList.mono _ _ _
      | exact rialtoref01_TakeText.mono _ _ _
      | exact rialtoref01_TakeUint.mono _ _ _
      | exact LeO.none _
      | refine LeO.ite ?_ ?_
      | refine LeO.bind ?_ (fun _ => ?_)
theorem rialtolaw01_PackReads.mono : ∀ a0 a1 k, LeO (rialtolaw01_PackReads.f k a0 a1) (rialtolaw01_PackReads.f (k + 1) a0 a1) := by
  intro a0 a1 k
  obtain ⟨ih0, ih1, ih2, ih3⟩ := rialtolaw01_PackReads.mono_l k
  unfold rialtolaw01_PackReads.f
  repeat' first
      | (with_reducible exact ih0 _ _ _)
      | (with_reducible exact ih1 _ _ _ _ _ _)
      | (with_reducible exact ih2 _ _ _ _ _ _ _ _)
      | (with_reducible exact ih3 _ _ _ _ _ _ _ _)
      | (with_reducible exact pack_TakeInt.mono _ _ _)
      | (with_reducible exact pack_TakeList.mono _ _ _)
      | (with_reducible exact pack_TakeText.mono _ _ _)
      | (with_reducible exact pack_TakeUint.mono _ _ _)
      | (with_reducible exact rialtolaw01_live.mono _)
      | (with_reducible exact rialtolaw01_same.mono _ _ _)
      | (with_reducible exact rialtoref01_TakeInt.mono _ _ _)
      | (with_reducible exact rialtoref01_TakeList.mono _ _ _)
      | (with_reducible exact rialtoref01_TakeText.mono _ _ _)
      | (with_reducible exact rialtoref01_TakeUint.mono _ _ _)
      | (with_reducible exact LeO.refl _)
      | (with_reducible exact LeO.none _)
      | (with_reducible refine LeO.ite ?_ ?_)
      | (with_reducible refine LeO.bind ?_ (fun _ => ?_))
      | exact ih0 _ _ _
      | exact ih1 _ _ _ _ _ _
      | exact ih2 _ _ _ _ _ _ _ _
      | exact ih3 _ _ _ _ _ _ _ _
      | exact pack_TakeInt.mono _ _ _
      | exact pack_TakeList.mono _ _ _
      | exact pack_TakeText.mono _ _ _
      | exact pack_TakeUint.mono _ _ _
      | exact rialtolaw01_live.mono _
      | exact rialtolaw01_same.mono _ _ _
      | exact rialtoref01_TakeInt.mono _ _ _
      | exact rialtoref01_TakeList.mono _ _ _
      | exact rialtoref01_TakeText.mono _ _ _
      | exact rialtoref01_TakeUint.mono _ _ _
      | exact LeO.none _
      | refine LeO.ite ?_ ?_
      | refine LeO.bind ?_ (fun _ => ?_)
set_option maxHeartbeats 8000000 in
set_option maxRecDepth 100000 in
theorem rialtolaw01_PackReads.calls (k : Nat) (a0 : ByteArray) (a1 : Int) (r : Bool) (w : World) (h : rialtolaw01_PackReads.f k a0 a1 = some r) :
    Calls Try.prog 5 #[.string a0, .int .i64 a1] w fun e w' => e = .returned (.bool r) ∧ Below w.heap.size w w' := by
  have HB := Aside0.mk (Below.refl w.heap.size w)
  have H : ((pack_TakeUint.f k a0 a1).bind fun bt184 => ((rialtoref01_TakeUint.f k a0 a1).bind fun bt187 => ((pack_TakeInt.f k a0 a1).bind fun bt190 => ((rialtoref01_TakeInt.f k a0 a1).bind fun bt193 => ((pack_TakeText.f k a0 a1).bind fun bt196 => ((rialtoref01_TakeText.f k a0 a1).bind fun bt199 => ((rialtolaw01_live.f k).bind fun t202 => (if t202 = true then (if bt184.1 = bt187.1 then (if bt184.2.1 = bt187.2.1 then (if bt184.2.2 = bt187.2.2 then (if bt190.1 = bt193.1 then (if bt190.2.1 = bt193.2.1 then (if bt190.2.2 = bt193.2.2 then (if bt196.1.toList = bt199.1.toList then (if bt196.2.1 = bt199.2.1 then (rialtolaw01_PackReads.j0 k a0 a1 (bt196.2.2 != bt199.2.2)) else (rialtolaw01_PackReads.j0 k a0 a1 true)) else (rialtolaw01_PackReads.j0 k a0 a1 true)) else (rialtolaw01_PackReads.j0 k a0 a1 true)) else (rialtolaw01_PackReads.j0 k a0 a1 true)) else (rialtolaw01_PackReads.j0 k a0 a1 true)) else (rialtolaw01_PackReads.j0 k a0 a1 true)) else (rialtolaw01_PackReads.j0 k a0 a1 true)) else (rialtolaw01_PackReads.j0 k a0 a1 true)) else (rialtolaw01_PackReads.j0 k a0 a1 true))))))))) = some r := h
  clear h
  replace H := Option.bind_eq_some_iff.mp H
  obtain ⟨⟨t184, t185, t186⟩, A30, H⟩ := H
  replace H : ((rialtoref01_TakeUint.f k a0 a1).bind fun bt187 => ((pack_TakeInt.f k a0 a1).bind fun bt190 => ((rialtoref01_TakeInt.f k a0 a1).bind fun bt193 => ((pack_TakeText.f k a0 a1).bind fun bt196 => ((rialtoref01_TakeText.f k a0 a1).bind fun bt199 => ((rialtolaw01_live.f k).bind fun t202 => (if t202 = true then (if t184 = bt187.1 then (if t185 = bt187.2.1 then (if t186 = bt187.2.2 then (if bt190.1 = bt193.1 then (if bt190.2.1 = bt193.2.1 then (if bt190.2.2 = bt193.2.2 then (if bt196.1.toList = bt199.1.toList then (if bt196.2.1 = bt199.2.1 then (rialtolaw01_PackReads.j0 k a0 a1 (bt196.2.2 != bt199.2.2)) else (rialtolaw01_PackReads.j0 k a0 a1 true)) else (rialtolaw01_PackReads.j0 k a0 a1 true)) else (rialtolaw01_PackReads.j0 k a0 a1 true)) else (rialtolaw01_PackReads.j0 k a0 a1 true)) else (rialtolaw01_PackReads.j0 k a0 a1 true)) else (rialtolaw01_PackReads.j0 k a0 a1 true)) else (rialtolaw01_PackReads.j0 k a0 a1 true)) else (rialtolaw01_PackReads.j0 k a0 a1 true)) else (rialtolaw01_PackReads.j0 k a0 a1 true)))))))) = some r := H
  have A3 := Aside0.mk A30
  clear A30
  replace H := Option.bind_eq_some_iff.mp H
  obtain ⟨⟨t187, t188, t189⟩, A40, H⟩ := H
  replace H : ((pack_TakeInt.f k a0 a1).bind fun bt190 => ((rialtoref01_TakeInt.f k a0 a1).bind fun bt193 => ((pack_TakeText.f k a0 a1).bind fun bt196 => ((rialtoref01_TakeText.f k a0 a1).bind fun bt199 => ((rialtolaw01_live.f k).bind fun t202 => (if t202 = true then (if t184 = t187 then (if t185 = t188 then (if t186 = t189 then (if bt190.1 = bt193.1 then (if bt190.2.1 = bt193.2.1 then (if bt190.2.2 = bt193.2.2 then (if bt196.1.toList = bt199.1.toList then (if bt196.2.1 = bt199.2.1 then (rialtolaw01_PackReads.j0 k a0 a1 (bt196.2.2 != bt199.2.2)) else (rialtolaw01_PackReads.j0 k a0 a1 true)) else (rialtolaw01_PackReads.j0 k a0 a1 true)) else (rialtolaw01_PackReads.j0 k a0 a1 true)) else (rialtolaw01_PackReads.j0 k a0 a1 true)) else (rialtolaw01_PackReads.j0 k a0 a1 true)) else (rialtolaw01_PackReads.j0 k a0 a1 true)) else (rialtolaw01_PackReads.j0 k a0 a1 true)) else (rialtolaw01_PackReads.j0 k a0 a1 true)) else (rialtolaw01_PackReads.j0 k a0 a1 true))))))) = some r := H
  have A4 := Aside0.mk A40
  clear A40
  replace H := Option.bind_eq_some_iff.mp H
  obtain ⟨⟨t190, t191, t192⟩, A50, H⟩ := H
  replace H : ((rialtoref01_TakeInt.f k a0 a1).bind fun bt193 => ((pack_TakeText.f k a0 a1).bind fun bt196 => ((rialtoref01_TakeText.f k a0 a1).bind fun bt199 => ((rialtolaw01_live.f k).bind fun t202 => (if t202 = true then (if t184 = t187 then (if t185 = t188 then (if t186 = t189 then (if t190 = bt193.1 then (if t191 = bt193.2.1 then (if t192 = bt193.2.2 then (if bt196.1.toList = bt199.1.toList then (if bt196.2.1 = bt199.2.1 then (rialtolaw01_PackReads.j0 k a0 a1 (bt196.2.2 != bt199.2.2)) else (rialtolaw01_PackReads.j0 k a0 a1 true)) else (rialtolaw01_PackReads.j0 k a0 a1 true)) else (rialtolaw01_PackReads.j0 k a0 a1 true)) else (rialtolaw01_PackReads.j0 k a0 a1 true)) else (rialtolaw01_PackReads.j0 k a0 a1 true)) else (rialtolaw01_PackReads.j0 k a0 a1 true)) else (rialtolaw01_PackReads.j0 k a0 a1 true)) else (rialtolaw01_PackReads.j0 k a0 a1 true)) else (rialtolaw01_PackReads.j0 k a0 a1 true)))))) = some r := H
  have A5 := Aside0.mk A50
  clear A50
  replace H := Option.bind_eq_some_iff.mp H
  obtain ⟨⟨t193, t194, t195⟩, A60, H⟩ := H
  replace H : ((pack_TakeText.f k a0 a1).bind fun bt196 => ((rialtoref01_TakeText.f k a0 a1).bind fun bt199 => ((rialtolaw01_live.f k).bind fun t202 => (if t202 = true then (if t184 = t187 then (if t185 = t188 then (if t186 = t189 then (if t190 = t193 then (if t191 = t194 then (if t192 = t195 then (if bt196.1.toList = bt199.1.toList then (if bt196.2.1 = bt199.2.1 then (rialtolaw01_PackReads.j0 k a0 a1 (bt196.2.2 != bt199.2.2)) else (rialtolaw01_PackReads.j0 k a0 a1 true)) else (rialtolaw01_PackReads.j0 k a0 a1 true)) else (rialtolaw01_PackReads.j0 k a0 a1 true)) else (rialtolaw01_PackReads.j0 k a0 a1 true)) else (rialtolaw01_PackReads.j0 k a0 a1 true)) else (rialtolaw01_PackReads.j0 k a0 a1 true)) else (rialtolaw01_PackReads.j0 k a0 a1 true)) else (rialtolaw01_PackReads.j0 k a0 a1 true)) else (rialtolaw01_PackReads.j0 k a0 a1 true))))) = some r := H
  have A6 := Aside0.mk A60
  clear A60
  replace H := Option.bind_eq_some_iff.mp H
  obtain ⟨⟨t196, t197, t198⟩, A70, H⟩ := H
  replace H : ((rialtoref01_TakeText.f k a0 a1).bind fun bt199 => ((rialtolaw01_live.f k).bind fun t202 => (if t202 = true then (if t184 = t187 then (if t185 = t188 then (if t186 = t189 then (if t190 = t193 then (if t191 = t194 then (if t192 = t195 then (if t196.toList = bt199.1.toList then (if t197 = bt199.2.1 then (rialtolaw01_PackReads.j0 k a0 a1 (t198 != bt199.2.2)) else (rialtolaw01_PackReads.j0 k a0 a1 true)) else (rialtolaw01_PackReads.j0 k a0 a1 true)) else (rialtolaw01_PackReads.j0 k a0 a1 true)) else (rialtolaw01_PackReads.j0 k a0 a1 true)) else (rialtolaw01_PackReads.j0 k a0 a1 true)) else (rialtolaw01_PackReads.j0 k a0 a1 true)) else (rialtolaw01_PackReads.j0 k a0 a1 true)) else (rialtolaw01_PackReads.j0 k a0 a1 true)) else (rialtolaw01_PackReads.j0 k a0 a1 true)))) = some r := H
  have A7 := Aside0.mk A70
  clear A70
  replace H := Option.bind_eq_some_iff.mp H
  obtain ⟨⟨t199, t200, t201⟩, A80, H⟩ := H
  replace H : ((rialtolaw01_live.f k).bind fun t202 => (if t202 = true then (if t184 = t187 then (if t185 = t188 then (if t186 = t189 then (if t190 = t193 then (if t191 = t194 then (if t192 = t195 then (if t196.toList = t199.toList then (if t197 = t200 then (rialtolaw01_PackReads.j0 k a0 a1 (t198 != t201)) else (rialtolaw01_PackReads.j0 k a0 a1 true)) else (rialtolaw01_PackReads.j0 k a0 a1 true)) else (rialtolaw01_PackReads.j0 k a0 a1 true)) else (rialtolaw01_PackReads.j0 k a0 a1 true)) else (rialtolaw01_PackReads.j0 k a0 a1 true)) else (rialtolaw01_PackReads.j0 k a0 a1 true)) else (rialtolaw01_PackReads.j0 k a0 a1 true)) else (rialtolaw01_PackReads.j0 k a0 a1 true)) else (rialtolaw01_PackReads.j0 k a0 a1 true))) = some r := H
  have A8 := Aside0.mk A80
  clear A80
  have HC9 := Aside0.mk H
  clear H
  go_enter Try.func5, Try.ntmps5
  go_upto_region 7 with (first | ((with_reducible refine gate_callee (f := 28) rfl ?_); refine goesL_ (some 34) rfl rfl Try.func28 (by kernel_rfl) rfl #[.string a0, .int .i64 a1] rfl (by (try simp only [List.map_toArray, List.map_cons, List.map_nil]); first | done | rfl | (simp only [List.length_drop, List.length_take]; rfl)) ?_; (with_reducible refine (pack_TakeUint.calls k a0 a1 t184 t185 t186 _ A3.out).mono ?_); rintro e w' ⟨rfl, ⟨nd, rfl⟩⟩; refine ⟨_, rfl, ?_⟩) | ((with_reducible refine gate_callee (f := 29) rfl ?_); refine goesL_ (some 41) rfl rfl Try.func29 (by kernel_rfl) rfl #[.string a0, .int .i64 a1] rfl (by (try simp only [List.map_toArray, List.map_cons, List.map_nil]); first | done | rfl | (simp only [List.length_drop, List.length_take]; rfl)) ?_; (with_reducible refine (rialtoref01_TakeUint.calls k a0 a1 t187 t188 t189 _ A4.out).mono ?_); rintro e w' ⟨rfl, ⟨nd, rfl⟩⟩; refine ⟨_, rfl, ?_⟩) | ((with_reducible refine gate_callee (f := 30) rfl ?_); refine goesL_ (some 48) rfl rfl Try.func30 (by kernel_rfl) rfl #[.string a0, .int .i64 a1] rfl (by (try simp only [List.map_toArray, List.map_cons, List.map_nil]); first | done | rfl | (simp only [List.length_drop, List.length_take]; rfl)) ?_; (with_reducible refine (pack_TakeInt.calls k a0 a1 t190 t191 t192 _ A5.out).mono ?_); rintro e w' ⟨rfl, ⟨nd, rfl⟩⟩; refine ⟨_, rfl, ?_⟩) | ((with_reducible refine gate_callee (f := 31) rfl ?_); refine goesL_ (some 55) rfl rfl Try.func31 (by kernel_rfl) rfl #[.string a0, .int .i64 a1] rfl (by (try simp only [List.map_toArray, List.map_cons, List.map_nil]); first | done | rfl | (simp only [List.length_drop, List.length_take]; rfl)) ?_; (with_reducible refine (rialtoref01_TakeInt.calls k a0 a1 t193 t194 t195 _ A6.out).mono ?_); rintro e w' ⟨rfl, ⟨nd, rfl⟩⟩; refine ⟨_, rfl, ?_⟩) | ((with_reducible refine gate_callee (f := 32) rfl ?_); refine goesL_ (some 62) rfl rfl Try.func32 (by kernel_rfl) rfl #[.string a0, .int .i64 a1] rfl (by (try simp only [List.map_toArray, List.map_cons, List.map_nil]); first | done | rfl | (simp only [List.length_drop, List.length_take]; rfl)) ?_; (with_reducible refine (pack_TakeText.calls k a0 a1 t196 t197 t198 _ A7.out).mono ?_); rintro e w' ⟨rfl, ⟨nd, rfl⟩⟩; refine ⟨_, rfl, ?_⟩) | ((with_reducible refine gate_callee (f := 33) rfl ?_); refine goesL_ (some 69) rfl rfl Try.func33 (by kernel_rfl) rfl #[.string a0, .int .i64 a1] rfl (by (try simp only [List.map_toArray, List.map_cons, List.map_nil]); first | done | rfl | (simp only [List.length_drop, List.length_take]; rfl)) ?_; (with_reducible refine (rialtoref01_TakeText.calls k a0 a1 t199 t200 t201 _ A8.out).mono ?_); rintro e w' ⟨rfl, ⟨nd, rfl⟩⟩; refine ⟨_, rfl, ?_⟩))
  (try simp only [Act.put, List.setIfInBounds_toArray, List.set_cons_zero, List.set_cons_succ])
  go_cut [119] (fun v119 wc => ∃ (kq : Nat) (x119_8 : Bool), v119 = .bool x119_8 ∧ Aside0 (rialtolaw01_PackReads.j0 kq a0 a1 x119_8 = some r) ∧ Aside0 (kq ≤ k) ∧ Aside0 (Below w.heap.size w wc))
  case first =>
    have H := HC9.out
    clear HC9
    replace H := Option.bind_eq_some_iff.mp H
    obtain ⟨t202, A100, H⟩ := H
    replace H : (if t202 = true then (if t184 = t187 then (if t185 = t188 then (if t186 = t189 then (if t190 = t193 then (if t191 = t194 then (if t192 = t195 then (if t196.toList = t199.toList then (if t197 = t200 then (rialtolaw01_PackReads.j0 k a0 a1 (t198 != t201)) else (rialtolaw01_PackReads.j0 k a0 a1 true)) else (rialtolaw01_PackReads.j0 k a0 a1 true)) else (rialtolaw01_PackReads.j0 k a0 a1 true)) else (rialtolaw01_PackReads.j0 k a0 a1 true)) else (rialtolaw01_PackReads.j0 k a0 a1 true)) else (rialtolaw01_PackReads.j0 k a0 a1 true)) else (rialtolaw01_PackReads.j0 k a0 a1 true)) else (rialtolaw01_PackReads.j0 k a0 a1 true)) else (rialtolaw01_PackReads.j0 k a0 a1 true)) = some r := H
    have A10 := Aside0.mk A100
    clear A100
    by_cases c11 : t202 = true
    · subst c11
      have H1 : (if t184 = t187 then (if t185 = t188 then (if t186 = t189 then (if t190 = t193 then (if t191 = t194 then (if t192 = t195 then (if t196.toList = t199.toList then (if t197 = t200 then (rialtolaw01_PackReads.j0 k a0 a1 (t198 != t201)) else (rialtolaw01_PackReads.j0 k a0 a1 true)) else (rialtolaw01_PackReads.j0 k a0 a1 true)) else (rialtolaw01_PackReads.j0 k a0 a1 true)) else (rialtolaw01_PackReads.j0 k a0 a1 true)) else (rialtolaw01_PackReads.j0 k a0 a1 true)) else (rialtolaw01_PackReads.j0 k a0 a1 true)) else (rialtolaw01_PackReads.j0 k a0 a1 true)) else (rialtolaw01_PackReads.j0 k a0 a1 true)) = some r := by rw [if_pos rfl] at H; exact H
      clear H
      have H := H1
      clear H1
      by_cases c12 : t184 = t187
      · rw [if_pos c12] at H
        have c12b0 : (t184 == t187) = true := beq_iff_eq.mpr c12
        have c12b1 : (t184 != t187) = false := bne_eq_false_iff_eq.mpr c12
        clear c12
        (first | rw [c12b0] | (simp only [i64_w, i32_w]; rw [c12b0]) | skip)
        by_cases c13 : t185 = t188
        · rw [if_pos c13] at H
          have c13b0 : (t185 == t188) = true := beq_iff_eq.mpr c13
          have c13b1 : (t185 != t188) = false := bne_eq_false_iff_eq.mpr c13
          clear c13
          by_cases c14 : t186 = t189
          · rw [if_pos c14] at H
            have c14b0 : (t186 == t189) = true := beq_iff_eq.mpr c14
            have c14b1 : (t186 != t189) = false := bne_eq_false_iff_eq.mpr c14
            clear c14
            by_cases c15 : t190 = t193
            · rw [if_pos c15] at H
              have c15b0 : (t190 == t193) = true := beq_iff_eq.mpr c15
              have c15b1 : (t190 != t193) = false := bne_eq_false_iff_eq.mpr c15
              clear c15
              by_cases c16 : t191 = t194
              · rw [if_pos c16] at H
                have c16b0 : (t191 == t194) = true := beq_iff_eq.mpr c16
                have c16b1 : (t191 != t194) = false := bne_eq_false_iff_eq.mpr c16
                clear c16
                by_cases c17 : t192 = t195
                · rw [if_pos c17] at H
                  have c17b0 : (t192 == t195) = true := beq_iff_eq.mpr c17
                  have c17b1 : (t192 != t195) = false := bne_eq_false_iff_eq.mpr c17
                  clear c17
                  by_cases c18 : t196.toList = t199.toList
                  · rw [if_pos c18] at H
                    have c18b0 : (t196.toList == t199.toList) = true := beq_iff_eq.mpr c18
                    have c18b1 : (t196.toList != t199.toList) = false := bne_eq_false_iff_eq.mpr c18
                    clear c18
                    by_cases c19 : t197 = t200
                    · rw [if_pos c19] at H
                      have c19b0 : (t197 == t200) = true := beq_iff_eq.mpr c19
                      have c19b1 : (t197 != t200) = false := bne_eq_false_iff_eq.mpr c19
                      clear c19
                      have H' := Aside0.mk H
                      clear H
                      go_wp2_with (first | ((with_reducible refine gate_callee (f := 18) rfl ?_); refine goesL_ (some 73) rfl rfl Try.func18 (by kernel_rfl) rfl #[] rfl (by (try simp only [List.map_toArray, List.map_cons, List.map_nil]); first | done | rfl | (simp only [List.length_drop, List.length_take]; rfl)) ?_; (with_reducible refine (rialtolaw01_live.calls k  true _ A10.out).mono ?_); rintro e w20 ⟨rfl, hb⟩; refine ⟨_, rfl, ?_⟩; have n0_ := Aside0.mk (below_step (by repeat (first | (with_reducible first | exact HB.out | apply below_alloc | apply pw_below_drewN | apply below_drew1) | exact HB.out)) hb); clear HB; have HB := n0_; clear n0_; (try clear hb); (try clear hb2); (try clear hk); (try clear hi)))
                      go_meet
                      case rel => exact ⟨_, ((t198 != t201)), (by first | rfl | (simp; done) | (simp [*]; done)), H', ⟨by first | omega | exact Nat.le_refl _⟩, ⟨by repeat (first | (with_reducible first | exact HB.out | apply below_alloc | apply pw_below_drewN | apply below_drew1) | exact HB.out)⟩⟩
                    · rw [if_neg c19] at H
                      have c19b0 : (t197 == t200) = false := beq_eq_false_iff_ne.mpr c19
                      have c19b1 : (t197 != t200) = true := bne_iff_ne.mpr c19
                      have H' := Aside0.mk H
                      clear H
                      go_wp2_with (first | ((with_reducible refine gate_callee (f := 18) rfl ?_); refine goesL_ (some 73) rfl rfl Try.func18 (by kernel_rfl) rfl #[] rfl (by (try simp only [List.map_toArray, List.map_cons, List.map_nil]); first | done | rfl | (simp only [List.length_drop, List.length_take]; rfl)) ?_; (with_reducible refine (rialtolaw01_live.calls k  true _ A10.out).mono ?_); rintro e w21 ⟨rfl, hb⟩; refine ⟨_, rfl, ?_⟩; have n0_ := Aside0.mk (below_step (by repeat (first | (with_reducible first | exact HB.out | apply below_alloc | apply pw_below_drewN | apply below_drew1) | exact HB.out)) hb); clear HB; have HB := n0_; clear n0_; (try clear hb); (try clear hb2); (try clear hk); (try clear hi)))
                      go_meet
                      case rel => exact ⟨_, (true), (by first | rfl | (simp; done) | (simp [*]; done)), H', ⟨by first | omega | exact Nat.le_refl _⟩, ⟨by repeat (first | (with_reducible first | exact HB.out | apply below_alloc | apply pw_below_drewN | apply below_drew1) | exact HB.out)⟩⟩
                  · rw [if_neg c18] at H
                    have c18b0 : (t196.toList == t199.toList) = false := beq_eq_false_iff_ne.mpr c18
                    have c18b1 : (t196.toList != t199.toList) = true := bne_iff_ne.mpr c18
                    have H' := Aside0.mk H
                    clear H
                    go_wp2_with (first | ((with_reducible refine gate_callee (f := 18) rfl ?_); refine goesL_ (some 73) rfl rfl Try.func18 (by kernel_rfl) rfl #[] rfl (by (try simp only [List.map_toArray, List.map_cons, List.map_nil]); first | done | rfl | (simp only [List.length_drop, List.length_take]; rfl)) ?_; (with_reducible refine (rialtolaw01_live.calls k  true _ A10.out).mono ?_); rintro e w22 ⟨rfl, hb⟩; refine ⟨_, rfl, ?_⟩; have n0_ := Aside0.mk (below_step (by repeat (first | (with_reducible first | exact HB.out | apply below_alloc | apply pw_below_drewN | apply below_drew1) | exact HB.out)) hb); clear HB; have HB := n0_; clear n0_; (try clear hb); (try clear hb2); (try clear hk); (try clear hi)))
                    go_meet
                    case rel => exact ⟨_, (true), (by first | rfl | (simp; done) | (simp [*]; done)), H', ⟨by first | omega | exact Nat.le_refl _⟩, ⟨by repeat (first | (with_reducible first | exact HB.out | apply below_alloc | apply pw_below_drewN | apply below_drew1) | exact HB.out)⟩⟩
                · rw [if_neg c17] at H
                  have c17b0 : (t192 == t195) = false := beq_eq_false_iff_ne.mpr c17
                  have c17b1 : (t192 != t195) = true := bne_iff_ne.mpr c17
                  have H' := Aside0.mk H
                  clear H
                  go_wp2_with (first | ((with_reducible refine gate_callee (f := 18) rfl ?_); refine goesL_ (some 73) rfl rfl Try.func18 (by kernel_rfl) rfl #[] rfl (by (try simp only [List.map_toArray, List.map_cons, List.map_nil]); first | done | rfl | (simp only [List.length_drop, List.length_take]; rfl)) ?_; (with_reducible refine (rialtolaw01_live.calls k  true _ A10.out).mono ?_); rintro e w23 ⟨rfl, hb⟩; refine ⟨_, rfl, ?_⟩; have n0_ := Aside0.mk (below_step (by repeat (first | (with_reducible first | exact HB.out | apply below_alloc | apply pw_below_drewN | apply below_drew1) | exact HB.out)) hb); clear HB; have HB := n0_; clear n0_; (try clear hb); (try clear hb2); (try clear hk); (try clear hi)))
                  go_meet
                  case rel => exact ⟨_, (true), (by first | rfl | (simp; done) | (simp [*]; done)), H', ⟨by first | omega | exact Nat.le_refl _⟩, ⟨by repeat (first | (with_reducible first | exact HB.out | apply below_alloc | apply pw_below_drewN | apply below_drew1) | exact HB.out)⟩⟩
              · rw [if_neg c16] at H
                have c16b0 : (t191 == t194) = false := beq_eq_false_iff_ne.mpr c16
                have c16b1 : (t191 != t194) = true := bne_iff_ne.mpr c16
                have H' := Aside0.mk H
                clear H
                go_wp2_with (first | ((with_reducible refine gate_callee (f := 18) rfl ?_); refine goesL_ (some 73) rfl rfl Try.func18 (by kernel_rfl) rfl #[] rfl (by (try simp only [List.map_toArray, List.map_cons, List.map_nil]); first | done | rfl | (simp only [List.length_drop, List.length_take]; rfl)) ?_; (with_reducible refine (rialtolaw01_live.calls k  true _ A10.out).mono ?_); rintro e w24 ⟨rfl, hb⟩; refine ⟨_, rfl, ?_⟩; have n0_ := Aside0.mk (below_step (by repeat (first | (with_reducible first | exact HB.out | apply below_alloc | apply pw_below_drewN | apply below_drew1) | exact HB.out)) hb); clear HB; have HB := n0_; clear n0_; (try clear hb); (try clear hb2); (try clear hk); (try clear hi)))
                go_meet
                case rel => exact ⟨_, (true), (by first | rfl | (simp; done) | (simp [*]; done)), H', ⟨by first | omega | exact Nat.le_refl _⟩, ⟨by repeat (first | (with_reducible first | exact HB.out | apply below_alloc | apply pw_below_drewN | apply below_drew1) | exact HB.out)⟩⟩
            · rw [if_neg c15] at H
              have c15b0 : (t190 == t193) = false := beq_eq_false_iff_ne.mpr c15
              have c15b1 : (t190 != t193) = true := bne_iff_ne.mpr c15
              have H' := Aside0.mk H
              clear H
              go_wp2_with (first | ((with_reducible refine gate_callee (f := 18) rfl ?_); refine goesL_ (some 73) rfl rfl Try.func18 (by kernel_rfl) rfl #[] rfl (by (try simp only [List.map_toArray, List.map_cons, List.map_nil]); first | done | rfl | (simp only [List.length_drop, List.length_take]; rfl)) ?_; (with_reducible refine (rialtolaw01_live.calls k  true _ A10.out).mono ?_); rintro e w25 ⟨rfl, hb⟩; refine ⟨_, rfl, ?_⟩; have n0_ := Aside0.mk (below_step (by repeat (first | (with_reducible first | exact HB.out | apply below_alloc | apply pw_below_drewN | apply below_drew1) | exact HB.out)) hb); clear HB; have HB := n0_; clear n0_; (try clear hb); (try clear hb2); (try clear hk); (try clear hi)))
              go_meet
              case rel => exact ⟨_, (true), (by first | rfl | (simp; done) | (simp [*]; done)), H', ⟨by first | omega | exact Nat.le_refl _⟩, ⟨by repeat (first | (with_reducible first | exact HB.out | apply below_alloc | apply pw_below_drewN | apply below_drew1) | exact HB.out)⟩⟩
          · rw [if_neg c14] at H
            have c14b0 : (t186 == t189) = false := beq_eq_false_iff_ne.mpr c14
            have c14b1 : (t186 != t189) = true := bne_iff_ne.mpr c14
            have H' := Aside0.mk H
            clear H
            go_wp2_with (first | ((with_reducible refine gate_callee (f := 18) rfl ?_); refine goesL_ (some 73) rfl rfl Try.func18 (by kernel_rfl) rfl #[] rfl (by (try simp only [List.map_toArray, List.map_cons, List.map_nil]); first | done | rfl | (simp only [List.length_drop, List.length_take]; rfl)) ?_; (with_reducible refine (rialtolaw01_live.calls k  true _ A10.out).mono ?_); rintro e w26 ⟨rfl, hb⟩; refine ⟨_, rfl, ?_⟩; have n0_ := Aside0.mk (below_step (by repeat (first | (with_reducible first | exact HB.out | apply below_alloc | apply pw_below_drewN | apply below_drew1) | exact HB.out)) hb); clear HB; have HB := n0_; clear n0_; (try clear hb); (try clear hb2); (try clear hk); (try clear hi)))
            go_meet
            case rel => exact ⟨_, (true), (by first | rfl | (simp; done) | (simp [*]; done)), H', ⟨by first | omega | exact Nat.le_refl _⟩, ⟨by repeat (first | (with_reducible first | exact HB.out | apply below_alloc | apply pw_below_drewN | apply below_drew1) | exact HB.out)⟩⟩
        · rw [if_neg c13] at H
          have c13b0 : (t185 == t188) = false := beq_eq_false_iff_ne.mpr c13
          have c13b1 : (t185 != t188) = true := bne_iff_ne.mpr c13
          have H' := Aside0.mk H
          clear H
          go_wp2_with (first | ((with_reducible refine gate_callee (f := 18) rfl ?_); refine goesL_ (some 73) rfl rfl Try.func18 (by kernel_rfl) rfl #[] rfl (by (try simp only [List.map_toArray, List.map_cons, List.map_nil]); first | done | rfl | (simp only [List.length_drop, List.length_take]; rfl)) ?_; (with_reducible refine (rialtolaw01_live.calls k  true _ A10.out).mono ?_); rintro e w27 ⟨rfl, hb⟩; refine ⟨_, rfl, ?_⟩; have n0_ := Aside0.mk (below_step (by repeat (first | (with_reducible first | exact HB.out | apply below_alloc | apply pw_below_drewN | apply below_drew1) | exact HB.out)) hb); clear HB; have HB := n0_; clear n0_; (try clear hb); (try clear hb2); (try clear hk); (try clear hi)))
          go_meet
          case rel => exact ⟨_, (true), (by first | rfl | (simp; done) | (simp [*]; done)), H', ⟨by first | omega | exact Nat.le_refl _⟩, ⟨by repeat (first | (with_reducible first | exact HB.out | apply below_alloc | apply pw_below_drewN | apply below_drew1) | exact HB.out)⟩⟩
      · rw [if_neg c12] at H
        have c12b0 : (t184 == t187) = false := beq_eq_false_iff_ne.mpr c12
        have c12b1 : (t184 != t187) = true := bne_iff_ne.mpr c12
        (first | rw [c12b0] | (simp only [i64_w, i32_w]; rw [c12b0]) | skip)
        have H' := Aside0.mk H
        clear H
        go_wp2_with (first | ((with_reducible refine gate_callee (f := 18) rfl ?_); refine goesL_ (some 73) rfl rfl Try.func18 (by kernel_rfl) rfl #[] rfl (by (try simp only [List.map_toArray, List.map_cons, List.map_nil]); first | done | rfl | (simp only [List.length_drop, List.length_take]; rfl)) ?_; (with_reducible refine (rialtolaw01_live.calls k  true _ A10.out).mono ?_); rintro e w28 ⟨rfl, hb⟩; refine ⟨_, rfl, ?_⟩; have n0_ := Aside0.mk (below_step (by repeat (first | (with_reducible first | exact HB.out | apply below_alloc | apply pw_below_drewN | apply below_drew1) | exact HB.out)) hb); clear HB; have HB := n0_; clear n0_; (try clear hb); (try clear hb2); (try clear hk); (try clear hi)))
        go_meet
        case rel => exact ⟨_, (true), (by first | rfl | (simp; done) | (simp [*]; done)), H', ⟨by first | omega | exact Nat.le_refl _⟩, ⟨by repeat (first | (with_reducible first | exact HB.out | apply below_alloc | apply pw_below_drewN | apply below_drew1) | exact HB.out)⟩⟩
    · replace c11 := Bool.eq_false_iff.mpr c11
      subst c11
      have H1 : (rialtolaw01_PackReads.j0 k a0 a1 true) = some r := by rw [if_neg (show ¬ (false = true) by decide)] at H; exact H
      clear H
      have H := H1
      clear H1
      have H' := Aside0.mk H
      clear H
      go_wp2_with (first | ((with_reducible refine gate_callee (f := 18) rfl ?_); refine goesL_ (some 73) rfl rfl Try.func18 (by kernel_rfl) rfl #[] rfl (by (try simp only [List.map_toArray, List.map_cons, List.map_nil]); first | done | rfl | (simp only [List.length_drop, List.length_take]; rfl)) ?_; (with_reducible refine (rialtolaw01_live.calls k  false _ A10.out).mono ?_); rintro e w29 ⟨rfl, hb⟩; refine ⟨_, rfl, ?_⟩; have n0_ := Aside0.mk (below_step (by repeat (first | (with_reducible first | exact HB.out | apply below_alloc | apply pw_below_drewN | apply below_drew1) | exact HB.out)) hb); clear HB; have HB := n0_; clear n0_; (try clear hb); (try clear hb2); (try clear hk); (try clear hi)))
      go_meet
      case rel => exact ⟨_, (true), (by first | rfl | (simp; done) | (simp [*]; done)), H', ⟨by first | omega | exact Nat.le_refl _⟩, ⟨by repeat (first | (with_reducible first | exact HB.out | apply below_alloc | apply pw_below_drewN | apply below_drew1) | exact HB.out)⟩⟩
  case rest =>
    clear HC9
    try clear c1
    try clear c2
    try clear p2
    try clear c3
    try clear c5
    try clear c11
    try clear c12
    try clear c12b0
    try clear c12b1
    try clear c13
    try clear c13b0
    try clear c13b1
    try clear c14
    try clear c14b0
    try clear c14b1
    try clear c15
    try clear c15b0
    try clear c15b1
    try clear c16
    try clear c16b0
    try clear c16b1
    try clear c17
    try clear c17b0
    try clear c17b1
    try clear c18
    try clear c18b0
    try clear c18b1
    try clear c19
    try clear c19b0
    try clear c19b1
    try clear c28
    try clear c29
    obtain ⟨kq, x119_8, rfl, HA, HJ8, HB⟩ := hcut
    cases kq with
    | zero => exact absurd HA.out (by simp [rialtolaw01_PackReads.j0])
    | succ kj8 =>
      have H := HA.out
      clear HA
      simp only [rialtolaw01_PackReads.j0] at H
      by_cases c30 : x119_8 = true
      · subst c30
        have H1 : (some false) = some r := by rw [if_pos rfl] at H; exact H
        clear H
        have H := H1
        clear H1
        obtain rfl := Option.some.inj H
        go_wp2
        go_ret
        exact ⟨by first | rfl | (simp [errW_none, errW_some] <;> rfl) | (simp [*, errW_none, errW_some] <;> rfl), by repeat (first | (with_reducible first | exact HB.out | apply below_alloc | apply pw_below_drewN | apply below_drew1) | exact HB.out)⟩
      · replace c30 := Bool.eq_false_iff.mpr c30
        subst c30
        have H1 : ((rialtoref01_TakeList.f kj8 a0 a1).bind fun bt203 => (rialtolaw01_PackReads.l0 kj8 a0 a1 bt203.1 bt203.2.1 bt203.2.2 0)) = some r := by rw [if_neg (show ¬ (false = true) by decide)] at H; exact H
        clear H
        have H := H1
        clear H1
        replace H := Option.bind_eq_some_iff.mp H
        obtain ⟨⟨t203, t204, t205⟩, A310, H⟩ := H
        replace H : (rialtolaw01_PackReads.l0 kj8 a0 a1 t203 t204 t205 0) = some r := H
        have A31 := Aside0.mk A310
        clear A310
        have H' := Aside0.mk H
        clear H
        go_wp2_with (first | ((with_reducible refine gate_callee (f := 34) rfl ?_); refine goesL_ (some 123) rfl rfl Try.func34 (by kernel_rfl) rfl #[.string a0, .int .i64 a1] rfl (by (try simp only [List.map_toArray, List.map_cons, List.map_nil]); first | done | rfl | (simp only [List.length_drop, List.length_take]; rfl)) ?_; (with_reducible refine (rialtoref01_TakeList.calls kj8 a0 a1 t203 t204 t205 _ A31.out).mono ?_); rintro e w32 ⟨v206, rfl, ho0, hb⟩; refine ⟨_, rfl, ?_⟩; have n0_ := Aside0.mk (Kd.R_lower ho0 (below_size (by repeat (first | (with_reducible first | exact HB.out | apply below_alloc | apply pw_below_drewN | apply below_drew1) | exact HB.out)))); have n1_ := Aside0.mk (below_step (by repeat (first | (with_reducible first | exact HB.out | apply below_alloc | apply pw_below_drewN | apply below_drew1) | exact HB.out)) hb); clear HB; have HO207 := n0_; have HB := n1_; clear n0_ n1_; (try clear hb); (try clear hb2); (try clear hk); (try clear hi); (try clear ho0)))
        go_loopg [26] kj8 (fun kq v26 w' => ∃ (x23_2 : List ByteArray) (x26_2 : Int), v26 = .int .i64 x26_2 ∧ Aside0 (rialtolaw01_PackReads.l0 kq a0 a1 x23_2 t204 t205 x26_2 = some r) ∧ Aside0 (kq ≤ kj8) ∧ Aside0 (Kd.R Kd.string 9 w' w.heap.size (fun _ => True) v206 x23_2) ∧ Aside0 (Below w.heap.size w w'))
        case atStart => exact ⟨(t203), (0), (by first | rfl | (simp; done) | (simp [*]; done)), H', ⟨Nat.le_refl _⟩, ⟨by (with_reducible repeat (first | apply Kd.R_alloc | apply Kd.R_drewN | apply Kd.R_drew)); exact HO207.out⟩, ⟨by repeat (first | (with_reducible first | exact HB.out | apply below_alloc | apply pw_below_drewN | apply below_drew1) | exact HB.out)⟩⟩
        case round =>
          clear H'
          try clear c1
          try clear c2
          try clear p2
          try clear c3
          try clear c5
          try clear c11
          try clear c12
          try clear c12b0
          try clear c12b1
          try clear c13
          try clear c13b0
          try clear c13b1
          try clear c14
          try clear c14b0
          try clear c14b1
          try clear c15
          try clear c15b0
          try clear c15b1
          try clear c16
          try clear c16b0
          try clear c16b1
          try clear c17
          try clear c17b0
          try clear c17b1
          try clear c18
          try clear c18b0
          try clear c18b1
          try clear c19
          try clear c19b0
          try clear c19b1
          try clear c28
          try clear c29
          try clear c30
          try clear c31
          try clear c32
          try clear p2
          obtain ⟨x23_2, x26_2, rfl, HA, HK2, HO_23, HB⟩ := hrel
          cases gk with
          | zero => exact absurd HA.out (by simp [rialtolaw01_PackReads.l0])
          | succ k2 =>
            have H := HA.out
            clear HA
            simp only [rialtolaw01_PackReads.l0] at H
            by_cases c33 : x26_2 < 2
            · rw [if_pos c33] at H
              have c33b0 : decide (x26_2 < 2) = true := decide_eq_true c33
              clear c33
              replace H := Option.bind_eq_some_iff.mp H
              obtain ⟨⟨t208, t209, t210⟩, A340, H⟩ := H
              replace H : ((rialtolaw01_same.f k2 t208 x23_2).bind fun t213 => (if t213 = true then (if t209 = t204 then (rialtolaw01_PackReads.j2 k2 a0 a1 x23_2 t204 t205 x26_2 t208 (t210 != t205)) else (rialtolaw01_PackReads.j2 k2 a0 a1 x23_2 t204 t205 x26_2 t208 true)) else (rialtolaw01_PackReads.j2 k2 a0 a1 x23_2 t204 t205 x26_2 t208 true))) = some r := H
              have A34 := Aside0.mk A340
              clear A340
              have HC35 := Aside0.mk H
              clear H
              go_upto_region 14 with (first | ((with_reducible refine gate_callee (f := 35) rfl ?_); refine goesL_ (some 134) rfl rfl Try.func35 (by kernel_rfl) rfl #[.string a0, .int .i64 a1] rfl (by (try simp only [List.map_toArray, List.map_cons, List.map_nil]); first | done | rfl | (simp only [List.length_drop, List.length_take]; rfl)) ?_; (with_reducible refine (pack_TakeList.calls k2 a0 a1 t208 t209 t210 _ A34.out).mono ?_); rintro e w36 ⟨v211, rfl, ho0, hb⟩; refine ⟨_, rfl, ?_⟩; have n0_ := Aside0.mk (Kd.R_elder' (by (with_reducible repeat (first | apply Kd.R_alloc | apply Kd.R_drewN | apply Kd.R_drew)); exact HO_23.out) (Kd.R_base ho0) hb); have n1_ := Aside0.mk (Kd.R_lower (Kd.R_new' ho0 (Kd.R_lt (by (with_reducible repeat (first | apply Kd.R_alloc | apply Kd.R_drewN | apply Kd.R_drew)); exact HO_23.out))) (below_size (by repeat (first | (with_reducible first | exact HB.out | apply below_alloc | apply pw_below_drewN | apply below_drew1) | exact HB.out)))); have n2_ := Aside0.mk (below_step (by repeat (first | (with_reducible first | exact HB.out | apply below_alloc | apply pw_below_drewN | apply below_drew1) | exact HB.out)) hb); clear HO_23; clear HB; have HO_23 := n0_; have HO212 := n1_; have HB := n2_; clear n0_ n1_ n2_; (try clear hb); (try clear hb2); (try clear hk); (try clear hi); (try clear ho0)))
              (try simp only [Act.put, List.setIfInBounds_toArray, List.set_cons_zero, List.set_cons_succ])
              go_cut [151] (fun v151 wc => ∃ (kq : Nat) (x151_34 : Bool), v151 = .bool x151_34 ∧ Aside0 (rialtolaw01_PackReads.j2 kq a0 a1 x23_2 t204 t205 x26_2 t208 x151_34 = some r) ∧ Aside0 (kq ≤ k2) ∧ Aside0 (Kd.R Kd.string 9 wc w.heap.size (fun k_ => some k_ ≠ (v211 : Value).ownBlock) v206 x23_2) ∧ Aside0 (Kd.R Kd.string 9 wc w.heap.size (fun k_ => some k_ ≠ (v206 : Value).ownBlock) v211 t208) ∧ Aside0 (Below w.heap.size w wc))
              case first =>
                have H := HC35.out
                clear HC35
                replace H := Option.bind_eq_some_iff.mp H
                obtain ⟨t213, A370, H⟩ := H
                replace H : (if t213 = true then (if t209 = t204 then (rialtolaw01_PackReads.j2 k2 a0 a1 x23_2 t204 t205 x26_2 t208 (t210 != t205)) else (rialtolaw01_PackReads.j2 k2 a0 a1 x23_2 t204 t205 x26_2 t208 true)) else (rialtolaw01_PackReads.j2 k2 a0 a1 x23_2 t204 t205 x26_2 t208 true)) = some r := H
                have A37 := Aside0.mk A370
                clear A370
                by_cases c38 : t213 = true
                · subst c38
                  have H1 : (if t209 = t204 then (rialtolaw01_PackReads.j2 k2 a0 a1 x23_2 t204 t205 x26_2 t208 (t210 != t205)) else (rialtolaw01_PackReads.j2 k2 a0 a1 x23_2 t204 t205 x26_2 t208 true)) = some r := by rw [if_pos rfl] at H; exact H
                  clear H
                  have H := H1
                  clear H1
                  by_cases c39 : t209 = t204
                  · rw [if_pos c39] at H
                    have c39b0 : (t209 == t204) = true := beq_iff_eq.mpr c39
                    have c39b1 : (t209 != t204) = false := bne_eq_false_iff_eq.mpr c39
                    clear c39
                    (first | rw [c39b0] | (simp only [i64_w, i32_w]; rw [c39b0]) | skip)
                    have H' := Aside0.mk H
                    clear H
                    obtain ⟨Ao40, co40, eo40⟩ := Kd.R_slice HO212.out
                    subst eo40
                    obtain ⟨Ao41, co41, eo41⟩ := Kd.R_slice HO_23.out
                    subst eo41
                    go_wp2_with (first | ((with_reducible refine gate_callee (f := 27) rfl ?_); refine goesL_ (some 140) rfl rfl Try.func27 (by kernel_rfl) rfl #[.slice Ao40 t208.length co40, .slice Ao41 x23_2.length co41] rfl (by (try simp only [List.map_toArray, List.map_cons, List.map_nil]); first | done | rfl | (simp only [List.length_drop, List.length_take]; rfl)) ?_; (with_reducible refine (rialtolaw01_same.calls k2 _ _ t208 _ _ x23_2 true _ ?side1 ?side2 ?side3 ?side4 A37.out).mono ?_); (case side1 => repeat (first | exact (Kd.R_reads' HO212.out).2.2 | (with_reducible refine Kd.C_alloc ?_ _) | (with_reducible refine Kd.C_drewN ?_ _) | (with_reducible refine Kd.C_drew ?_))); (case side2 => exact (Kd.R_reads' HO212.out).2.1); (case side3 => repeat (first | exact (Kd.R_reads' HO_23.out).2.2 | (with_reducible refine Kd.C_alloc ?_ _) | (with_reducible refine Kd.C_drewN ?_ _) | (with_reducible refine Kd.C_drew ?_))); (case side4 => exact (Kd.R_reads' HO_23.out).2.1); rintro e w' ⟨rfl, ⟨nd, rfl⟩⟩; refine ⟨_, rfl, ?_⟩))
                    go_meet
                    case rel => exact ⟨_, ((t210 != t205)), (by first | rfl | (simp; done) | (simp [*]; done)), H', ⟨by have := HJ8.out; have := HK2.out; first | omega | exact Nat.le_refl _⟩, ⟨by (with_reducible repeat (first | apply Kd.R_alloc | apply Kd.R_drewN | apply Kd.R_drew)); exact Kd.R_mono HO_23.out (fun _ hk => hk.2)⟩, ⟨by (with_reducible repeat (first | apply Kd.R_alloc | apply Kd.R_drewN | apply Kd.R_drew)); exact Kd.R_mono HO212.out (fun _ hk => hk.2)⟩, ⟨by repeat (first | (with_reducible first | exact HB.out | apply below_alloc | apply pw_below_drewN | apply below_drew1) | exact HB.out)⟩⟩
                  · rw [if_neg c39] at H
                    have c39b0 : (t209 == t204) = false := beq_eq_false_iff_ne.mpr c39
                    have c39b1 : (t209 != t204) = true := bne_iff_ne.mpr c39
                    (first | rw [c39b0] | (simp only [i64_w, i32_w]; rw [c39b0]) | skip)
                    have H' := Aside0.mk H
                    clear H
                    obtain ⟨Ao42, co42, eo42⟩ := Kd.R_slice HO212.out
                    subst eo42
                    obtain ⟨Ao43, co43, eo43⟩ := Kd.R_slice HO_23.out
                    subst eo43
                    go_wp2_with (first | ((with_reducible refine gate_callee (f := 27) rfl ?_); refine goesL_ (some 140) rfl rfl Try.func27 (by kernel_rfl) rfl #[.slice Ao42 t208.length co42, .slice Ao43 x23_2.length co43] rfl (by (try simp only [List.map_toArray, List.map_cons, List.map_nil]); first | done | rfl | (simp only [List.length_drop, List.length_take]; rfl)) ?_; (with_reducible refine (rialtolaw01_same.calls k2 _ _ t208 _ _ x23_2 true _ ?side1 ?side2 ?side3 ?side4 A37.out).mono ?_); (case side1 => repeat (first | exact (Kd.R_reads' HO212.out).2.2 | (with_reducible refine Kd.C_alloc ?_ _) | (with_reducible refine Kd.C_drewN ?_ _) | (with_reducible refine Kd.C_drew ?_))); (case side2 => exact (Kd.R_reads' HO212.out).2.1); (case side3 => repeat (first | exact (Kd.R_reads' HO_23.out).2.2 | (with_reducible refine Kd.C_alloc ?_ _) | (with_reducible refine Kd.C_drewN ?_ _) | (with_reducible refine Kd.C_drew ?_))); (case side4 => exact (Kd.R_reads' HO_23.out).2.1); rintro e w' ⟨rfl, ⟨nd, rfl⟩⟩; refine ⟨_, rfl, ?_⟩))
                    go_meet
                    case rel => exact ⟨_, (true), (by first | rfl | (simp; done) | (simp [*]; done)), H', ⟨by have := HJ8.out; have := HK2.out; first | omega | exact Nat.le_refl _⟩, ⟨by (with_reducible repeat (first | apply Kd.R_alloc | apply Kd.R_drewN | apply Kd.R_drew)); exact Kd.R_mono HO_23.out (fun _ hk => hk.2)⟩, ⟨by (with_reducible repeat (first | apply Kd.R_alloc | apply Kd.R_drewN | apply Kd.R_drew)); exact Kd.R_mono HO212.out (fun _ hk => hk.2)⟩, ⟨by repeat (first | (with_reducible first | exact HB.out | apply below_alloc | apply pw_below_drewN | apply below_drew1) | exact HB.out)⟩⟩
                · replace c38 := Bool.eq_false_iff.mpr c38
                  subst c38
                  have H1 : (rialtolaw01_PackReads.j2 k2 a0 a1 x23_2 t204 t205 x26_2 t208 true) = some r := by rw [if_neg (show ¬ (false = true) by decide)] at H; exact H
                  clear H
                  have H := H1
                  clear H1
                  have H' := Aside0.mk H
                  clear H
                  obtain ⟨Ao44, co44, eo44⟩ := Kd.R_slice HO212.out
                  subst eo44
                  obtain ⟨Ao45, co45, eo45⟩ := Kd.R_slice HO_23.out
                  subst eo45
                  go_wp2_with (first | ((with_reducible refine gate_callee (f := 27) rfl ?_); refine goesL_ (some 140) rfl rfl Try.func27 (by kernel_rfl) rfl #[.slice Ao44 t208.length co44, .slice Ao45 x23_2.length co45] rfl (by (try simp only [List.map_toArray, List.map_cons, List.map_nil]); first | done | rfl | (simp only [List.length_drop, List.length_take]; rfl)) ?_; (with_reducible refine (rialtolaw01_same.calls k2 _ _ t208 _ _ x23_2 false _ ?side1 ?side2 ?side3 ?side4 A37.out).mono ?_); (case side1 => repeat (first | exact (Kd.R_reads' HO212.out).2.2 | (with_reducible refine Kd.C_alloc ?_ _) | (with_reducible refine Kd.C_drewN ?_ _) | (with_reducible refine Kd.C_drew ?_))); (case side2 => exact (Kd.R_reads' HO212.out).2.1); (case side3 => repeat (first | exact (Kd.R_reads' HO_23.out).2.2 | (with_reducible refine Kd.C_alloc ?_ _) | (with_reducible refine Kd.C_drewN ?_ _) | (with_reducible refine Kd.C_drew ?_))); (case side4 => exact (Kd.R_reads' HO_23.out).2.1); rintro e w' ⟨rfl, ⟨nd, rfl⟩⟩; refine ⟨_, rfl, ?_⟩))
                  go_meet
                  case rel => exact ⟨_, (true), (by first | rfl | (simp; done) | (simp [*]; done)), H', ⟨by have := HJ8.out; have := HK2.out; first | omega | exact Nat.le_refl _⟩, ⟨by (with_reducible repeat (first | apply Kd.R_alloc | apply Kd.R_drewN | apply Kd.R_drew)); exact Kd.R_mono HO_23.out (fun _ hk => hk.2)⟩, ⟨by (with_reducible repeat (first | apply Kd.R_alloc | apply Kd.R_drewN | apply Kd.R_drew)); exact Kd.R_mono HO212.out (fun _ hk => hk.2)⟩, ⟨by repeat (first | (with_reducible first | exact HB.out | apply below_alloc | apply pw_below_drewN | apply below_drew1) | exact HB.out)⟩⟩
              case rest =>
                clear HC35
                try clear c1
                try clear c2
                try clear p2
                try clear c3
                try clear c5
                try clear c11
                try clear c12
                try clear c12b0
                try clear c12b1
                try clear c13
                try clear c13b0
                try clear c13b1
                try clear c14
                try clear c14b0
                try clear c14b1
                try clear c15
                try clear c15b0
                try clear c15b1
                try clear c16
                try clear c16b0
                try clear c16b1
                try clear c17
                try clear c17b0
                try clear c17b1
                try clear c18
                try clear c18b0
                try clear c18b1
                try clear c19
                try clear c19b0
                try clear c19b1
                try clear c27
                try clear c28
                try clear c29
                try clear c30
                try clear c31
                try clear c32
                try clear c33
                try clear c33b0
                try clear c34
                try clear c35
                try clear c38
                try clear c39
                try clear c39b0
                try clear c39b1
                try clear p2
                obtain ⟨kq, x151_34, rfl, HA, HJ34, HO_23, HO_27, HB⟩ := hcut
                cases kq with
                | zero => exact absurd HA.out (by simp [rialtolaw01_PackReads.j2])
                | succ kj34 =>
                  have H := HA.out
                  clear HA
                  simp only [rialtolaw01_PackReads.j2] at H
                  by_cases c46 : x151_34 = true
                  · subst c46
                    have H1 : (some false) = some r := by rw [if_pos rfl] at H; exact H
                    clear H
                    have H := H1
                    clear H1
                    obtain rfl := Option.some.inj H
                    go_wp2
                    go_ret
                    exact ⟨by first | rfl | (simp [errW_none, errW_some] <;> rfl) | (simp [*, errW_none, errW_some] <;> rfl), by repeat (first | (with_reducible first | exact HB.out | apply below_alloc | apply pw_below_drewN | apply below_drew1) | exact HB.out)⟩
                  · replace c46 := Bool.eq_false_iff.mpr c46
                    subst c46
                    have H1 : (rialtolaw01_PackReads.l1 kj34 a0 a1 x23_2 t204 t205 x26_2 t208 0) = some r := by rw [if_neg (show ¬ (false = true) by decide)] at H; exact H
                    clear H
                    have H := H1
                    clear H1
                    have H' := Aside0.mk H
                    clear H
                    go_wp2
                    go_loopg [30] kj34 (fun kq v30 w' => ∃ (x27_4 : List ByteArray) (x30_4 : Int), v30 = .int .i64 x30_4 ∧ Aside0 (rialtolaw01_PackReads.l1 kq a0 a1 x23_2 t204 t205 x26_2 x27_4 x30_4 = some r) ∧ Aside0 (kq ≤ kj34) ∧ Aside0 (Kd.R Kd.string 9 w' w.heap.size (fun k_ => some k_ ≠ (v211 : Value).ownBlock) v206 x23_2) ∧ Aside0 (Kd.R Kd.string 9 w' w.heap.size (fun k_ => some k_ ≠ (v206 : Value).ownBlock) v211 x27_4) ∧ Aside0 (Below w.heap.size w w'))
                    case atStart => exact ⟨(t208), (0), (by first | rfl | (simp; done) | (simp [*]; done)), H', ⟨Nat.le_refl _⟩, ⟨by (with_reducible repeat (first | apply Kd.R_alloc | apply Kd.R_drewN | apply Kd.R_drew)); exact HO_23.out⟩, ⟨by (with_reducible repeat (first | apply Kd.R_alloc | apply Kd.R_drewN | apply Kd.R_drew)); exact HO_27.out⟩, ⟨by repeat (first | (with_reducible first | exact HB.out | apply below_alloc | apply pw_below_drewN | apply below_drew1) | exact HB.out)⟩⟩
                    case round =>
                      clear H'
                      try clear c1
                      try clear c2
                      try clear p2
                      try clear c3
                      try clear c4
                      try clear c5
                      try clear c11
                      try clear c12
                      try clear c12b0
                      try clear c12b1
                      try clear c13
                      try clear c13b0
                      try clear c13b1
                      try clear c14
                      try clear c14b0
                      try clear c14b1
                      try clear c15
                      try clear c15b0
                      try clear c15b1
                      try clear c16
                      try clear c16b0
                      try clear c16b1
                      try clear c17
                      try clear c17b0
                      try clear c17b1
                      try clear c18
                      try clear c18b0
                      try clear c18b1
                      try clear c19
                      try clear c19b0
                      try clear c19b1
                      try clear c27
                      try clear c28
                      try clear c29
                      try clear c30
                      try clear c31
                      try clear c32
                      try clear c33
                      try clear c33b0
                      try clear c34
                      try clear c35
                      try clear c38
                      try clear c39
                      try clear c39b0
                      try clear c39b1
                      try clear c46
                      try clear p2
                      obtain ⟨x27_4, x30_4, rfl, HA, HK4, HO_23, HO_27, HB⟩ := hrel
                      cases gk with
                      | zero => exact absurd HA.out (by simp [rialtolaw01_PackReads.l1])
                      | succ k4 =>
                        have H := HA.out
                        clear HA
                        simp only [rialtolaw01_PackReads.l1] at H
                        by_cases c47 : x30_4 < (x27_4.length : Int)
                        · rw [if_pos c47] at H
                          have c47b0 : decide (x30_4 < (x27_4.length : Int)) = true := decide_eq_true c47
                          clear c47
                          by_cases c48 : 0 ≤ x30_4
                          · rw [if_pos c48] at H
                            have c48b0 : decide (0 ≤ x30_4) = true := decide_eq_true c48
                            clear c48
                            obtain ⟨y214, hy214⟩ : ∃ y_ : List ByteArray, y_ = (x27_4.set (x30_4 : Int).toNat (⟨#[119, 114, 105, 116, 116, 101, 110]⟩ : ByteArray)) := ⟨_, rfl⟩
                            replace H : (rialtolaw01_PackReads.l1 k4 a0 a1 x23_2 t204 t205 x26_2 y214 (wrap64 (x30_4 + 1))) = some r := by first | (rw [hy214]; with_reducible exact H) | (have H2_ := (Option.bind_some _ _).symm.trans H; rw [hy214]; with_reducible exact H2_) | (have H2_ := (Option.bind_some _ _).symm.trans H; with_reducible exact H2_) | with_reducible exact H | (rw [hy214]; exact H) | exact H
                            have Ny214 := Aside0.mk hy214
                            clear hy214
                            have H' := Aside0.mk H
                            clear H
                            obtain ⟨Ao50, co50, eo50⟩ := Kd.R_slice HO_27.out
                            subst eo50
                            have p49 : 0 ≤ (x30_4 : Int) := of_decide_eq_true (by first | (with_reducible assumption) | assumption)
                            have q49 : (x30_4 : Int) < ((x27_4.length : Int) : Int) := of_decide_eq_true (by first | (with_reducible assumption) | assumption)
                            obtain ⟨go49, co49, eo49, gb49, gl49, cl49, HG49⟩ := Kd.R_form HO_27.out (by omega)
                            (first | cases eo49 | (injection eo49 with ea_ en_ ec_; (first | subst ea_ | (injection ea_ with ea_; subst ea_)); subst ec_; clear en_))
                            have GB49 := Aside0.mk gb49
                            have GG49 := Aside0.mk HG49
                            clear gb49 gl49 HG49
                            obtain ⟨hx49_0, hf49_0⟩ := Kd.R_celln (⟨#[]⟩ : ByteArray) HO_27.out (x30_4 : Int) p49 q49
                            replace p49 := eq_true p49
                            replace q49 := eq_true q49
                            have HP51 := Kd.R_putg HO_27.out (x30_4 : Int) (⟨#[119, 114, 105, 116, 116, 101, 110]⟩ : ByteArray)
                            go_wp2_with (first | ((with_reducible refine gate_store (t := 9) (p := 160) rfl ?_); refine store_event (t := 9) (p := 160) (v := ?vo_w52) (w1 := (wr.setCell ⟨go49, (x30_4 : Int).toNat, none⟩ (.string (⟨#[119, 114, 105, 116, 116, 101, 110]⟩ : ByteArray)))) ?hg ?ho ?hn ?hr ?_; (case ho => rfl); (case hg => rfl); (case hn => rfl); (case hr => first | (go_simp; done) | (go_simp; rfl)); intro w52 hw; have hg : wr.grownBy w52 (some go49) := (by rw [hw]; exact HP51.2); have hp_ : Kd.R Kd.string 9 w52 w.heap.size (fun k_ => some k_ ≠ (v206 : Value).ownBlock) (.slice (some ⟨go49, 0, none⟩) x27_4.length co50) y214 := (by rw [hw, Ny214.out]; exact HP51.1); clear HP51; have n0_ := Aside0.mk (Kd.R_after (v := (.slice (some ⟨go49, 0, none⟩) x27_4.length co50)) (v1 := (.slice (some ⟨go49, 0, none⟩) x27_4.length co50)) (ok := (fun _ => True)) (by (with_reducible repeat (first | apply Kd.R_alloc | apply Kd.R_drewN | apply Kd.R_drew)); exact Kd.R_mono HO_23.out (fun _ hk => ⟨trivial, hk⟩)) hg (.inl rfl)); have n1_ := Aside0.mk (hp_); have n2_ := Aside0.mk ((by rw [hw]; exact below_set (HB.out) GB49.out : Below w.heap.size w w52)); clear HO_23; clear HO_27; clear HB; have HO_23 := n0_; have HO_27 := n1_; have HB := n2_; clear n0_ n1_ n2_; clear hg hw hp_))
                            go_roundg k4
                            case measure => have := HJ8.out; have := HK2.out; have := HJ34.out; have := HK4.out; omega
                            case rel => exact ⟨(y214), (wrap64 (x30_4 + 1)), (by first | rfl | (simp; done) | (simp [*]; done)), H', ⟨by have := HJ8.out; have := HK2.out; have := HJ34.out; have := HK4.out; omega⟩, ⟨by (with_reducible repeat (first | apply Kd.R_alloc | apply Kd.R_drewN | apply Kd.R_drew)); exact Kd.R_mono HO_23.out (fun _ hk => hk.2)⟩, ⟨by (with_reducible repeat (first | apply Kd.R_alloc | apply Kd.R_drewN | apply Kd.R_drew)); exact HO_27.out⟩, ⟨by repeat (first | (with_reducible first | exact HB.out | apply below_alloc | apply pw_below_drewN | apply below_drew1) | exact HB.out)⟩⟩
                          · rw [if_neg c48] at H
                            exact absurd H (by simp)
                        · rw [if_neg c47] at H
                          have c47b0 : decide (x30_4 < (x27_4.length : Int)) = false := decide_eq_false c47
                          clear c47
                          have H' := Aside0.mk H
                          clear H
                          obtain ⟨Ao53, co53, eo53⟩ := Kd.R_slice HO_27.out
                          subst eo53
                          go_wp2
                          go_roundg k4
                          case measure => have := HJ8.out; have := HK2.out; have := HJ34.out; have := HK4.out; omega
                          case rel => exact ⟨(x23_2), (wrap64 (x26_2 + 1)), (by first | rfl | (simp; done) | (simp [*]; done)), H', ⟨by have := HJ8.out; have := HK2.out; have := HJ34.out; have := HK4.out; omega⟩, ⟨by (with_reducible repeat (first | apply Kd.R_alloc | apply Kd.R_drewN | apply Kd.R_drew)); exact Kd.R_mono HO_23.out (fun _ hk => trivial)⟩, ⟨by repeat (first | (with_reducible first | exact HB.out | apply below_alloc | apply pw_below_drewN | apply below_drew1) | exact HB.out)⟩⟩
            · rw [if_neg c33] at H
              have c33b0 : decide (x26_2 < 2) = false := decide_eq_false c33
              clear c33
              obtain rfl := Option.some.inj H
              go_wp2
              go_ret
              exact ⟨by first | rfl | (simp [errW_none, errW_some] <;> rfl) | (simp [*, errW_none, errW_some] <;> rfl), by repeat (first | (with_reducible first | exact HB.out | apply below_alloc | apply pw_below_drewN | apply below_drew1) | exact HB.out)⟩

/-- THE ONE PURE STATEMENT of rialtolaw01_PackReads: yours. -/
def rialtolaw01_PackReads.Pure : Prop := ∀ (a0 : ByteArray) (a1 : Int), a0.size ≤ 140737488351232 → (Lit.int .i64 a1).wf = true → ∃ k, rialtolaw01_PackReads.f k a0 a1 = some true
theorem rialtolaw01_PackReads.walk (P : rialtolaw01_PackReads.Pure) (a0 : ByteArray) (a1 : Int) (w : World) (w0 : a0.size ≤ 140737488351232) (w1 : (Lit.int .i64 a1).wf = true) :
    Calls Try.prog 5 #[.string a0, .int .i64 a1] w fun e w' => e = .returned (.bool true) ∧ Below w.heap.size w w' := by
  obtain ⟨k, h⟩ := P a0 a1 w0 w1
  refine (rialtolaw01_PackReads.calls k a0 a1 true w h).mono ?_
  rintro e w' ⟨rfl, hd⟩
  exact ⟨rfl, hd⟩

end Go.Proofs.Ytaddblicjlohcaa.Pk
