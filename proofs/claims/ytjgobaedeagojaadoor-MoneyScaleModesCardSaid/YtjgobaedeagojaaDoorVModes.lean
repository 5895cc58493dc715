/- The walk of MoneyScaleModes. -/
import Derived.Test.YtjgobaedeagojaaDoorOk
namespace Go.Proofs.YtjgobaedeagojaaDoor
open Go.RowKit
set_option linter.unusedVariables false

theorem tmod_bd (x : Int) : -1000000 < x.tmod 1000000 ∧ x.tmod 1000000 < 1000000 := by
  have h1 := Int.emod_nonneg x (show (1000000 : Int) ≠ 0 by omega)
  have h2 := Int.emod_lt_of_pos x (show (0 : Int) < 1000000 by omega)
  rw [Int.tmod_eq_emod]
  split <;> omega
/-- four products, and what they are to each other -/
theorem modes_share (a n d m : Int) (ha : -1000000 < a ∧ a < 1000000) (hn : 0 ≤ n ∧ n < 1000000) (hd : 1 ≤ d ∧ d ≤ 1000000) (hm : 0 ≤ m ∧ m ≤ 3) :
    ∃ x y z : Int, (∀ W, Calls Tryd.prog 10 #[.int .i64 a, .int .i64 n, .int .i64 d, .int .i64 0] W (ScRet W x 0)) ∧ (∀ W, Calls Tryd.prog 10 #[.int .i64 a, .int .i64 n, .int .i64 d, .int .i64 1] W (ScRet W y 0)) ∧
      (∀ W, Calls Tryd.prog 10 #[.int .i64 a, .int .i64 n, .int .i64 d, .int .i64 m] W (ScRet W z 0)) ∧ (∀ W, Calls Tryd.prog 10 #[.int .i64 (-a), .int .i64 n, .int .i64 d, .int .i64 m] W (ScRet W (-z) 0)) ∧
      (x - y ≤ 1 ∧ y - x ≤ 1) ∧ (z = x ∨ z = y) ∧ (-1000000000001 ≤ x ∧ x ≤ 1000000000001) ∧ (-1000000000001 ≤ z ∧ z ≤ 1000000000001) := by
  obtain ⟨e0, e1, e2, e3, e4, e5, e6, e7, e8⟩ := modes ha hn hd hm
  refine ⟨scV a n d 0, scV a n d 1, scV a n d m, fun W => ?_, fun W => ?_, fun W => ?_, fun W => ?_, e5, e6, e7, e8⟩
  · have := scale_any a n d 0 (by omega) W; rwa [e0] at this
  · have := scale_any a n d 1 (by omega) W; rwa [e1] at this
  · have := scale_any a n d m (by omega) W; rwa [e2] at this
  · have := scale_any (-a) n d m (by omega) W; rwa [e3, e4] at this
set_option maxRecDepth 100000 in
set_option maxHeartbeats 2000000 in
theorem walkMoneyScaleModes (a n d m : Int) (w : World) (h0 : -9223372036854775808 ≤ a ∧ a ≤ 9223372036854775807) (h1 : -9223372036854775808 ≤ n ∧ n ≤ 9223372036854775807) (h2 : -9223372036854775808 ≤ d ∧ d ≤ 9223372036854775807) (h3 : -9223372036854775808 ≤ m ∧ m ≤ 9223372036854775807) (hL : laidMetH Tryd.prog Rows.moneyScaleModesRow.laid w) :
    Calls Tryd.prog 5 #[.int .i64 a, .int .i64 n, .int .i64 d, .int .i64 m] w fun e w' => e = .returned (.bool true) ∧ Below w.heap.size w w' := by
  have HG := Lib.hid (given_of_laid hL (by kernel_rfl) (by kernel_rfl) (by kernel_rfl) (by kernel_rfl))
  have HAW := Lib.hid (fun W h => awake_any W h)
  clear hL
  have HA1 := Lib.hid (fun W => amount_any a W)
  generalize amF a = a1 at *
  have hb1 := tmod_bd a1
  have hb2 := tmod_bd n
  have hb3 := tmod_bd d
  have hm := mode_bd m
  generalize ha2 : a1.tmod 1000000 = a2 at *
  generalize hn2 : n.tmod 1000000 = n2 at *
  generalize hd2 : d.tmod 1000000 = d2 at *
  generalize hm2 : bits .and .i64 m 3 = m2 at *
  obtain ⟨n3, hn3⟩ : ∃ n3, max n2 (-n2) = n3 := ⟨_, rfl⟩
  obtain ⟨d3, hd3⟩ : ∃ d3, max d2 (-d2) = d3 := ⟨_, rfl⟩
  have hn3b : 0 ≤ n3 ∧ n3 < 1000000 := by omega
  have hd3b : 0 ≤ d3 ∧ d3 ≤ 999999 := by omega
  obtain ⟨x, y, z, s1, s2, s3, s4, k1, k2, k3, k4⟩ := modes_share a2 n3 (1 + d3) m2 hb1 hn3b (by omega) hm
  have HS1 := Lib.hid s1
  have HS2 := Lib.hid s2
  have HS3 := Lib.hid s3
  have HS4 := Lib.hid s4
  obtain ⟨mx, hmx⟩ : ∃ mx, max (x - y) (y - x) = mx := ⟨_, rfl⟩
  have hmxb : mx ≤ 1 := by omega
  have HK2 := Lib.hid k2
  clear s1 s2 s3 s4 k1 k2 h1 h2 h3 h0 hm
  unfold ScRet at HS1 HS2 HS3 HS4
  have F1 : True := trivial
  have F2 : True := trivial
  have F3 : True := trivial
  have hyb : -1000000000002 ≤ y ∧ y ≤ 1000000000002 := by omega
  rcases HK2.out with rfl | rfl
  all_goals
    clear HK2
    go_enter Tryd.func5, Tryd.ntmps5
    go_wp2_with (first
      | (go_at_call 9; (refine (HA1.out _).mono ?_; rintro e W1 ⟨rfl, rfl⟩))
      | (go_at_call 10; clear F1; refine (HS1.out _).mono ?_; rintro e W1 ⟨rfl, hb1⟩; have HB1 := Lib.hid hb1; have HG1 := Lib.hid (HG.out.below hb1); clear hb1)
      | (go_at_call 10; clear F2; refine (HS2.out _).mono ?_; rintro e W2 ⟨rfl, hb2⟩; have HB2 := Lib.hid (HB1.out.trans (hb2.mono HB1.out.size)); have HG2 := Lib.hid (HG1.out.below hb2); clear hb2)
      | (go_at_call 10; clear F3; refine (HS3.out _).mono ?_; rintro e W3 ⟨rfl, hb3⟩; have HB3 := Lib.hid (HB2.out.trans (hb3.mono HB2.out.size)); have HG3 := Lib.hid (HG2.out.below hb3); clear hb3)
      | (go_at_call 10; refine (HS4.out _).mono ?_; rintro e W4 ⟨rfl, hb4⟩; have HB4 := Lib.hid (HB3.out.trans (hb4.mono HB3.out.size)); have HG4 := Lib.hid (HG3.out.below hb4); clear hb4)
      | (go_at_call 12; refine (HAW.out _ HG4.out).mono ?_; rintro e W5 ⟨rfl, hb5⟩; have HB5 := Lib.hid (HB4.out.trans (hb5.mono HB4.out.size)); clear hb5))
    all_goals go_ret
    all_goals exact ⟨rfl, HB5.out⟩
end Go.Proofs.YtjgobaedeagojaaDoor
