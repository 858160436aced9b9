/- PackBack: whatever number, signed number, list of texts and surroundings: what is written is read again; the law returns true and leaves its arguments as they were. -/
import Derived.Test.YtaddblicjlohcaaRows
import Derived.Test.YtaddblicjlohcaaPackBackWalk
import Derived.Test.YtaddblicjlohcaaPurePackWrites
import Derived.Test.YtaddblicjlohcaaB2
import Derived.WalkKit
import Derived.ProofKit
import Derived.OpenShut
import Derived.ShutString
import Derived.ChangeOld
import Derived.Below
import Derived.SizedLaws
import Derived.Test.YtaddblicjlohcaaWSized
namespace Go.Proofs.Ytaddblicjlohcaa.PackSpec
open Go.RowKit Go.Proofs.Ytaddblicjlohcaa.Pk Go.Proofs.YtaddblicjlohcaaW.PrintWords Go.Proofs.YtaddblicjlohcaaW.PrintLast Go.Proofs.YtaddblicjlohcaaW.PrintMore
theorem around_bytes (ar t : ByteArray) : from_ (ar ++ t ++ ar) (ar.size : Int) = bytesOf t ++ bytesOf ar := by
  rw [from_, bytes_append, bytes_append, List.append_assoc, Int.toNat_natCast]
  have := bytesOf_length ar
  rw [← this, List.drop_left]
theorem around_size (ar t : ByteArray) : (ar ++ t ++ ar).size = ar.size + t.size + ar.size := by rw [ByteArray.size_append, ByteArray.size_append]
theorem back_U (ar : ByteArray) (n : Nat) (h : n < 18446744073709551616) : takeU (ar ++ strOfNums (putN n) ++ ar) (ar.size : Int) = ((n : Int), (ar.size : Int) + ((strOfNums (putN n)).size : Int), 0) := by
  rcases takeU_cases (ar ++ strOfNums (putN n) ++ ar) (ar.size : Int) with ⟨e, he, h0, h1⟩ | ⟨m, c, g0, g1, h1, he, -, -, -⟩
  · rcases h1 with ⟨-, h1⟩ | ⟨-, -, h1⟩
    · rw [around_size] at h1; omega
    · rw [around_bytes, bytes_str _ (putN_range n), tk_put h] at h1; cases h1
  · rw [around_bytes, bytes_str _ (putN_range n), tk_put h] at h1
    simp only [Res.ok.injEq] at h1
    obtain ⟨rfl, rfl⟩ := h1
    rw [he, strOfNums_sz]
theorem back_L (ar : ByteArray) (l : List ByteArray) (h0 : l.length ≤ 4000) (h : ∀ s ∈ l, s.size ≤ 60000) : takeL (ar ++ strOfNums (wrL (l.map bytesOf)) ++ ar) (ar.size : Int) = (l, (ar.size : Int) + ((strOfNums (wrL (l.map bytesOf))).size : Int), 0) := by
  have h1 : ∀ t ∈ l.map bytesOf, t.length ≤ 60000 := by
    intro t ht
    obtain ⟨s, hs, rfl⟩ := List.mem_map.1 ht
    rw [bytesOf_length]; exact h s hs
  have hr : ∀ x ∈ wrL (l.map bytesOf), 0 ≤ x ∧ x < 256 := by
    have hI : ∀ ts : List (List Int), (∀ t ∈ ts, ∀ x ∈ t, 0 ≤ x ∧ x < 256) → ∀ x ∈ wrI ts, 0 ≤ x ∧ x < 256 := by
      intro ts
      induction ts with
      | nil => intro _ x hx; simp [wrI] at hx
      | cons t r ih =>
        intro ht x hx
        simp only [wrI, wrT, List.mem_append] at hx
        rcases hx with (hx | hx) | hx
        · exact putN_range _ x hx
        · exact ht t (by simp) x hx
        · exact ih (fun t' ht' => ht t' (by simp [ht'])) x hx
    intro x hx
    simp only [wrL, List.mem_append] at hx
    rcases hx with hx | hx
    · exact putN_range _ x hx
    · refine hI _ (fun t ht => ?_) x hx
      obtain ⟨s, hs, rfl⟩ := List.mem_map.1 ht
      exact bytes_range s
  unfold takeL
  rw [if_neg (by rw [around_size]; omega), around_bytes, bytes_str _ hr, tkL_put (by rw [List.length_map]; exact h0) h1, strOfNums_sz]
  simp only [outI]
  congr 1
  rw [List.map_map]
  conv => rhs; rw [← List.map_id l]
  apply List.map_congr_left
  intro s _
  exact str_bytes s
theorem back (n i : Int) (A : Option Addr) (c : Nat) (l : List ByteArray) (ar : ByteArray) (w : World) (hr : Kd.C Kd.string w A l.length l) (hc : l.length ≤ c) (hn : (Lit.int .u64 n).wf = true) (hi : (Lit.int .i64 i).wf = true)
    (hl : l.length * 16 ≤ 140737488351232) (ha : ar.size ≤ 140737488351232) :
    Calls Try.prog 6 #[.int .u64 n, .int .i64 i, .slice A l.length c, .string ar] w fun e w' => e = .returned (.bool true) ∧ Below w.heap.size w w' := by
  obtain ⟨m, rfl, hm⟩ := nat_of_u64 hn
  have hz := int_of_i64 hi
  have hzl := zag_lt i hz.1 hz.2
  have l1 := putN_len10 hm
  have l2 := putN_len10 hzl
  have s1 := around_size ar (strOfNums (putN m))
  have s2 := around_size ar (strOfNums (putN (zag i)))
  rw [strOfNums_sz] at s1 s2
  obtain ⟨K1, e1⟩ := uint_ev m hm
  obtain ⟨K2, e2⟩ := takeU_ev (ar ++ strOfNums (putN m) ++ ar) ar.size (by omega)
  rw [back_U ar m hm] at e2
  obtain ⟨K3, e3⟩ := int_ev i hz.1 hz.2
  obtain ⟨K4, e4⟩ := takeI_ev (ar ++ strOfNums (putN (zag i)) ++ ar) ar.size (by omega)
  have ht : takeI (ar ++ strOfNums (putN (zag i)) ++ ar) ar.size = (i, (ar.size : Int) + ((strOfNums (putN (zag i))).size : Int), 0) := by
    unfold takeI
    rw [back_U ar (zag i) hzl]
    simp only
    rw [if_pos trivial, Int.toNat_natCast, zig_zag]
  rw [ht] at e4
  obtain ⟨K5, e5⟩ := list_ev l (by omega)
  obtain ⟨K6, e6⟩ := live_ev
  by_cases hbad : l.length > 4000 ∨ ∃ s ∈ l, s.size > 60000
  · unfold writeL at e5
    rw [if_pos hbad] at e5
    exact back_err (K1 + K2 + K3 + K4 + K5 + K6) m i A c l ar _ _ w hr hc (by rw [strOfNums_sz]; omega) (by rw [strOfNums_sz]; omega) (e1 _ (by omega)) (e2 _ (by omega)) (e3 _ (by omega)) (e4 _ (by omega)) (e5 _ (by omega)) (e6 _ (by omega))
  · unfold writeL at e5
    rw [if_neg hbad] at e5
    have h0 : l.length ≤ 4000 := Nat.le_of_not_lt fun h => hbad (.inl h)
    have h1 : ∀ s ∈ l, s.size ≤ 60000 := fun s hs => Nat.le_of_not_lt fun h => hbad (.inr ⟨s, hs, h⟩)
    have l3 : (wrL (l.map bytesOf)).length ≤ 10 + 60010 * l.length := by
      have h10 := putN_len10 (n := l.length) (by omega)
      have := wrI_len (l.map bytesOf) (fun t ht => by
        obtain ⟨s, hs, rfl⟩ := List.mem_map.1 ht
        rw [bytesOf_length]; exact h1 s hs)
      rw [List.length_map] at this
      simp only [wrL, List.length_append, List.length_map]
      omega
    have s3 := around_size ar (strOfNums (wrL (l.map bytesOf)))
    rw [strOfNums_sz] at s3
    obtain ⟨K7, e7⟩ := takeL_ev (ar ++ strOfNums (wrL (l.map bytesOf)) ++ ar) ar.size (by omega)
    rw [back_L ar l h0 h1] at e7
    obtain ⟨K8, e8⟩ := same_ev l (by omega)
    exact back_ok (K1 + K2 + K3 + K4 + K5 + K6 + K7 + K8) m i A c l ar _ _ _ w hr hc (by rw [strOfNums_sz]; omega) (by rw [strOfNums_sz]; omega) (by rw [strOfNums_sz]; omega) (e1 _ (by omega)) (e2 _ (by omega)) (e3 _ (by omega)) (e4 _ (by omega)) (e5 _ (by omega)) (e7 _ (by omega)) (e8 _ (by omega)) (e6 _ (by omega))
end Go.Proofs.Ytaddblicjlohcaa.PackSpec
namespace Go.Proofs.Ytaddblicjlohcaa.packBack
open Go.ChangeShapes Go.WideShapes Go.ChangeAt Go.RowKit
open Go.ChangeMaps (open_string shut_string)
set_option linter.unusedVariables false
theorem own : ownKnob Try.prog.godebug = none := by kernel_rfl
theorem laidOut : laidOutB Try.prog = true := by kernel_rfl
set_option maxRecDepth 100000 in
theorem lifted (os : Os) (started : os.Started) (H : Type) (enc : TypeId × Value → H) :
    ReturnsInHanded {} Try.checked os 6 .any (Rows.packBackSpec.pre6 enc Try.prog Try.f6 Rows.packBackRow.domain false) (Rows.packBackSpec.post enc Try.prog Try.f6 false true false false) := by
  refine returnsInHanded_of_change_sized (C := Try.checked) own started (by kernel_rfl) Try.func6
    (ChangeSpec.witness6 (enc := enc) (C := Try.checked) false ⟨#[], #[.int .u64 0, .int .i64 0, .slice none 0 0, .string ByteArray.empty], []⟩ 8 (by kernel_rfl) (by kernel_rfl) (by kernel_rfl) (by kernel_rfl)) ?_
  intro W base args ds gs before hval0 hW hcnd hsz0 _
  have hsz : (DataW.weightsEach Try.prog (Try.f6.params.toList ++ Rows.packBackSpec.plain.varTypes Try.prog) (ds ++ gs)).all (· ≤ reachBytes) = true := hsz0
  have hval : ∀ (j : Nat) t v, Try.f6.params[j]? = some t → args[j]? = some v → Value.okWide Try.prog W .any base t v := hval0
  have hW' := hW
  obtain ⟨p, q, hA0, hV, rfl, hfz, hnd⟩ := hW
  have hA : DataW.TrodAll enc Try.prog W 0 (fun _ => true) true Try.f6.params.toList args.toList ds p := hA0
  rw [Try.params6] at hA hval hsz
  obtain ⟨v0, vs0, d0, ds0, p0, q0, hargs, rfl, rfl, h0, r0⟩ := trodAll_cons hA
  obtain ⟨v1, vs1, d1, ds1, p1, q1, rfl, rfl, rfl, h1, r1⟩ := trodAll_cons r0
  obtain ⟨v2, vs2, d2, ds2, p2, q2, rfl, rfl, rfl, h2, r2⟩ := trodAll_cons r1
  obtain ⟨v3, vs3, d3, ds3, p3, q3, rfl, rfl, rfl, h3, r3⟩ := trodAll_cons r2
  obtain ⟨rfl, rfl, rfl⟩ := trodAll_nil r3
  obtain rfl : args = #[v0, v1, v2, v3] := by cases args; simp_all
  obtain ⟨rfl, rfl⟩ := trodVars_none hV
  obtain ⟨a0, rfl, rfl, rfl, w0⟩ := open_int Try.underlying22 (hval 0 22 v0 rfl rfl) h0
  obtain ⟨a1, rfl, rfl, rfl, w1⟩ := open_int Try.underlying2 (hval 1 2 v1 rfl rfl) h1
  obtain ⟨a2, len2, cap2, rfl⟩ := okWide_slice Try.underlying26 (hval 2 26 v2 rfl rfl)
  have k2 := h2
  have lt2 : ∀ x ∈ p2, x.block < W.heap.size := by obtain ⟨m, hm⟩ := k2; exact DataW.trod_lt m _ _ _ hm
  obtain ⟨l2, rfl, hr2, hc2, y2, z2⟩ := Args.open_strs hsz (j := 2) (t := 26) rfl rfl Try.underlying26 Try.underlying9 (by kernel_rfl) (by kernel_rfl) h2
  obtain ⟨a3, rfl, rfl, rfl, y3⟩ := open_string Try.underlying9 (hval 3 9 v3 rfl rfl) h3
  have w3 : a3.size ≤ 140737488351232 := by
    have z := sized_string hsz (j := 3) (t := 9) rfl rfl
    rw [Array.length_toList] at z
    exact z
  clear hA0 hval0 hsz0 hsz
  refine (PackSpec.back a0 a1 a2 cap2 l2 a3 W hr2 hc2 w0 w1 y2 w3).mono fun e W' ⟨he, bel⟩ => ?_
  subst he
  exact ⟨_, rfl, _, _, _, [], _, [], hW', trodAll_mk1 (shut_bool Try.underlying4 _), (trodAll_cons_mk (shut_int Try.underlying22 w0) (trodAll_cons_mk (shut_int Try.underlying2 w1) (trodAll_cons_mk (Below.trod laidOut (by kernel_rfl) (of_decide_eq_true (by kernel_rfl)) k2 bel lt2) (trodAll_cons_mk (shut_string Try.underlying9 y3) trodAll_mk0)))), rfl, bel.frame _, fun h => by cases h⟩
theorem over : Rows.packBackRow.holds Try.pinned (OpenSpec.ofChange Rows.packBackSpec) :=
  OpenClaim.holds_of_wide 6 Try.f6 rfl rfl rfl rfl rfl rfl rfl ⟨rfl, rfl, rfl, rfl, rfl⟩ rfl rfl rfl rfl rfl (by kernel_rfl) Try.func6 (by kernel_rfl)
    (of_decide_eq_true (by kernel_rfl)) (by unfold Func.isWrapper; first | (rw [if_pos (by decide +kernel)]; kernel_rfl) | (rw [if_neg (by decide +kernel)]; exact ⟨rfl, rfl⟩))
    (fun os started H enc _ => lifted os started H enc)
theorem proved : Rows.PackBackSaid := over
#print axioms proved
end Go.Proofs.Ytaddblicjlohcaa.packBack
namespace Go.Proofs.Ytaddblicjlohcaa
/-- The row, under a short name, for the claim. -/
theorem packBack_holds : Rows.PackBackSaid := packBack.proved
end Go.Proofs.Ytaddblicjlohcaa
