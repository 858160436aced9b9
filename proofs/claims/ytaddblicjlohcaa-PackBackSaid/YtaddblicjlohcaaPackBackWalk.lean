/- PackBack's walk: where the readers give back what was written, the law returns true and leaves memory as it was. Conditions: what the called functions come to. -/
import Derived.Test.YtaddblicjlohcaaPk0
import Derived.Test.YtaddblicjlohcaaPk4
import Derived.Test.YtaddblicjlohcaaPk6
namespace Go.Proofs.Ytaddblicjlohcaa.Pk
open Go.RowKit Go.Proofs.YtaddblicjlohcaaW.PrintWords Go.Proofs.YtaddblicjlohcaaW.PrintLast Go.Proofs.YtaddblicjlohcaaW.PrintMore
set_option linter.unusedVariables false
set_option linter.unusedSimpArgs false
set_option maxHeartbeats 1000000 in
set_option maxRecDepth 100000 in
theorem back_err (k : Nat) (n i : Int) (A : Option Addr) (c : Nat) (l : List ByteArray) (ar ta tb : ByteArray) (w : World) (hr : Kd.C Kd.string w A l.length l) (hc : l.length ≤ c)
    (b1 : ar.size + ta.size + ar.size ≤ 4611686018427387904) (b2 : ar.size + tb.size + ar.size ≤ 4611686018427387904)
    (h1 : pack_Uint.f k n = some ta) (h2 : pack_TakeUint.f k (ar ++ ta ++ ar) ar.size = some (n, (ar.size : Int) + (ta.size : Int), 0))
    (h3 : pack_Int.f k i = some tb) (h4 : pack_TakeInt.f k (ar ++ tb ++ ar) ar.size = some (i, (ar.size : Int) + (tb.size : Int), 0))
    (h5 : pack_List.f k l = some (⟨#[]⟩, 2)) (h6 : rialtolaw01_live.f k = some true) :
    Calls Try.prog 6 #[.int .u64 n, .int .i64 i, .slice A l.length c, .string ar] w fun e w' => e = .returned (.bool true) ∧ Below w.heap.size w w' := by
  have HR := Aside0.mk hr
  have HC := Aside0.mk hc
  have H1 := Aside0.mk h1
  have H2 := Aside0.mk h2
  have H3 := Aside0.mk h3
  have H4 := Aside0.mk h4
  have H5 := Aside0.mk h5
  have H6 := Aside0.mk h6
  clear hr hc h1 h2 h3 h4 h5 h6
  have HB := Aside0.mk (Below.refl w.heap.size w)
  go_enter Try.func6, Try.ntmps6
  go_wp2_with (first | (go_at_call 19; refine (pack_Uint.calls k n ta _ H1.out).mono ?_; rintro e' w1 ⟨rfl, hb⟩; have HB1 := Aside0.mk (below_step HB.out hb); clear hb) | (go_at_call 28; refine (pack_TakeUint.calls k (ar ++ ta ++ ar) ar.size n ((ar.size : Int) + (ta.size : Int)) 0 _ H2.out).mono ?_; rintro e' w2 ⟨rfl, ⟨nd, rfl⟩⟩) | (go_at_call 25; refine (pack_Int.calls k i tb _ H3.out).mono ?_; rintro e' w3 ⟨rfl, hb⟩; have HB3 := Aside0.mk (below_step (pw_below_drewN HB1.out nd) hb); clear hb) | (go_at_call 30; refine (pack_TakeInt.calls k (ar ++ tb ++ ar) ar.size i ((ar.size : Int) + (tb.size : Int)) 0 _ H4.out).mono ?_; rintro e' w4 ⟨rfl, ⟨nd2, rfl⟩⟩) | (go_at_call 22; refine (pack_List.calls k A c l ⟨#[]⟩ 2 _ (Kd.C_below HR.out (pw_below_drewN HB3.out nd2)) HC.out H5.out).mono ?_; rintro e' w5 ⟨rfl, hb⟩; have HB5 := Aside0.mk (below_step (pw_below_drewN HB3.out nd2) hb); clear hb) | (go_at_call 18; refine (rialtolaw01_live.calls k true _ H6.out).mono ?_; rintro e' w6 ⟨rfl, hb⟩; have HB6 := Aside0.mk (below_step HB5.out hb); clear hb))
  go_ret
  exact ⟨rfl, HB6.out⟩
set_option maxHeartbeats 1000000 in
set_option maxRecDepth 100000 in
theorem back_ok (k : Nat) (n i : Int) (A : Option Addr) (c : Nat) (l : List ByteArray) (ar ta tb tc : ByteArray) (w : World) (hr : Kd.C Kd.string w A l.length l) (hc : l.length ≤ c)
    (b1 : ar.size + ta.size + ar.size ≤ 4611686018427387904) (b3 : ar.size + tc.size + ar.size ≤ 4611686018427387904) (b2 : ar.size + tb.size + ar.size ≤ 4611686018427387904)
    (h1 : pack_Uint.f k n = some ta) (h2 : pack_TakeUint.f k (ar ++ ta ++ ar) ar.size = some (n, (ar.size : Int) + (ta.size : Int), 0))
    (h3 : pack_Int.f k i = some tb) (h4 : pack_TakeInt.f k (ar ++ tb ++ ar) ar.size = some (i, (ar.size : Int) + (tb.size : Int), 0))
    (h5 : pack_List.f k l = some (tc, 0)) (h7 : pack_TakeList.f k (ar ++ tc ++ ar) ar.size = some (l, (ar.size : Int) + (tc.size : Int), 0)) (h8 : rialtolaw01_same.f k l l = some true) (h6 : rialtolaw01_live.f k = some true) :
    Calls Try.prog 6 #[.int .u64 n, .int .i64 i, .slice A l.length c, .string ar] w fun e w' => e = .returned (.bool true) ∧ Below w.heap.size w w' := by
  have HR := Aside0.mk hr
  have HC := Aside0.mk hc
  have H1 := Aside0.mk h1
  have H2 := Aside0.mk h2
  have H3 := Aside0.mk h3
  have H4 := Aside0.mk h4
  have H5 := Aside0.mk h5
  have H6 := Aside0.mk h6
  have H7 := Aside0.mk h7
  have H8 := Aside0.mk h8
  clear hr hc h1 h2 h3 h4 h5 h6 h7 h8
  have HB := Aside0.mk (Below.refl w.heap.size w)
  go_enter Try.func6, Try.ntmps6
  go_wp2_with (first | (go_at_call 19; refine (pack_Uint.calls k n ta _ H1.out).mono ?_; rintro e' w1 ⟨rfl, hb⟩; have HB1 := Aside0.mk (below_step HB.out hb); clear hb) | (go_at_call 28; refine (pack_TakeUint.calls k (ar ++ ta ++ ar) ar.size n ((ar.size : Int) + (ta.size : Int)) 0 _ H2.out).mono ?_; rintro e' w2 ⟨rfl, ⟨nd, rfl⟩⟩) | (go_at_call 25; refine (pack_Int.calls k i tb _ H3.out).mono ?_; rintro e' w3 ⟨rfl, hb⟩; have HB3 := Aside0.mk (below_step (pw_below_drewN HB1.out nd) hb); clear hb) | (go_at_call 30; refine (pack_TakeInt.calls k (ar ++ tb ++ ar) ar.size i ((ar.size : Int) + (tb.size : Int)) 0 _ H4.out).mono ?_; rintro e' w4 ⟨rfl, ⟨nd2, rfl⟩⟩) | (go_at_call 22; refine (pack_List.calls k A c l tc 0 _ (Kd.C_below HR.out (pw_below_drewN HB3.out nd2)) HC.out H5.out).mono ?_; rintro e' w5 ⟨rfl, hb⟩; have HB5 := Aside0.mk (below_step (pw_below_drewN HB3.out nd2) hb); clear hb) | (go_at_call 35; refine (pack_TakeList.calls k (ar ++ tc ++ ar) ar.size l ((ar.size : Int) + (tc.size : Int)) 0 _ H7.out).mono ?_; rintro e' w7 ⟨v7, rfl, ho, hb⟩; obtain ⟨A7, c7, rfl, hc7, hC7⟩ := Kd.R_reads ho; have HB7 := Aside0.mk (below_step HB5.out hb); have HC7 := Aside0.mk hc7; have HR7 := Aside0.mk hC7; clear hb ho hc7 hC7) | (go_at_call 18; refine (rialtolaw01_live.calls k true _ H6.out).mono ?_; rintro e' w6 ⟨rfl, hb⟩; have HB6 := Aside0.mk (below_step HB7.out hb); have HR6 := Aside0.mk (Kd.C_below HR7.out hb); clear hb) | (go_at_call 27; refine (rialtolaw01_same.calls k A7 c7 l A c l true _ HR6.out HC7.out (Kd.C_below HR.out HB6.out) HC.out H8.out).mono ?_; rintro e' w8 ⟨rfl, ⟨nd8, rfl⟩⟩))
  go_ret
  exact ⟨rfl, pw_below_drewN HB6.out _⟩
end Go.Proofs.Ytaddblicjlohcaa.Pk
