/- The walks of MoneyScale and MoneyPart. -/
import Derived.Test.YtjgobaedeagojaaDoorOk
namespace Go.Proofs.YtjgobaedeagojaaDoor
open Go.RowKit
set_option linter.unusedVariables false

theorem sc_share (a n d m : Int) (ha : -9223372036854775808 ≤ a ∧ a ≤ 9223372036854775807) : ∃ v e : Int, (∀ W, Calls Tryd.prog 10 #[.int .i64 a, .int .i64 n, .int .i64 d, .int .i64 m] W (ScRet W v e)) ∧ ∀ W, Calls Tryd.prog 11 #[.int .i64 a, .int .i64 n, .int .i64 d, .int .i64 m] W (ScRet W v e) :=
  ⟨_, _, fun W => scale_any a n d m ha W, fun W => refScale_any a n d m ha W⟩
theorem pt_share (a r m : Int) (ha : -9223372036854775808 ≤ a ∧ a ≤ 9223372036854775807) : ∃ v e : Int, (∀ W, Calls Tryd.prog 13 #[.int .i64 a, .int .i64 r, .int .i64 m] W (ScRet W v e)) ∧ ∀ W, Calls Tryd.prog 14 #[.int .i64 a, .int .i64 r, .int .i64 m] W (ScRet W v e) :=
  ⟨_, _, fun W => part_any a r m ha W, fun W => refPart_any a r m ha W⟩
set_option maxHeartbeats 1000000 in
theorem walkMoneyScale (a n d m : Int) (raw : Bool) (w : World) (h0 : -9223372036854775808 ≤ a ∧ a ≤ 9223372036854775807) (h1 : -9223372036854775808 ≤ n ∧ n ≤ 9223372036854775807) (h2 : -9223372036854775808 ≤ d ∧ d ≤ 9223372036854775807) (h3 : -9223372036854775808 ≤ m ∧ m ≤ 9223372036854775807) (hL : laidMetH Tryd.prog Rows.moneyScaleRow.laid w) :
    Calls Tryd.prog 3 #[.int .i64 a, .int .i64 n, .int .i64 d, .int .i64 m, .bool raw] w fun e w' => e = .returned (.bool true) ∧ Below w.heap.size w w' := by
  have HG := Lib.hid (given_of_laid hL (by kernel_rfl) (by kernel_rfl) (by kernel_rfl) (by kernel_rfl))
  have HAW := Lib.hid (fun W h => awake_any W h)
  clear hL
  cases raw
  · have HA1 := Lib.hid (fun W => amount_any a W)
    have HA2 := Lib.hid (fun W => amount_any n W)
    have HA3 := Lib.hid (fun W => amount_any d W)
    have hb1 := amF_bd a
    have hb2 := amF_bd n
    have hb3 := amF_bd d
    generalize amF a = a1 at *
    generalize amF n = n1 at *
    generalize amF d = d1 at *
    have HSH := Lib.hid (sc_share a1 (max n1 (-n1)) (max 1 (max d1 (-d1))) (bits .and .i64 m 3) (by omega))
    obtain ⟨v, e, hs1, hs2⟩ := HSH.out
    have HS1 := Lib.hid hs1
    have HS2 := Lib.hid hs2
    clear hs1 hs2 HSH h1 h2 h3 h0
    unfold ScRet at HS1 HS2
    go_enter Tryd.func3, Tryd.ntmps3
    go_wp2_with (first
      | (go_at_call 9; first | (refine (HA1.out _).mono ?_; rintro e W1 ⟨rfl, rfl⟩) | (refine (HA2.out _).mono ?_; rintro e W1 ⟨rfl, rfl⟩) | (refine (HA3.out _).mono ?_; rintro e W1 ⟨rfl, rfl⟩))
      | (go_at_call 10; refine (HS1.out _).mono ?_; rintro e W1 ⟨rfl, hb1⟩; have HB1 := Lib.hid hb1; have HG1 := Lib.hid (HG.out.below hb1); clear hb1)
      | (go_at_call 11; refine (HS2.out _).mono ?_; rintro e W2 ⟨rfl, hb2⟩; have HB2 := Lib.hid (HB1.out.trans (hb2.mono HB1.out.size)); have HG2 := Lib.hid (HG1.out.below hb2); clear hb2)
      | (go_at_call 12; refine (HAW.out _ HG2.out).mono ?_; rintro e W3 ⟨rfl, hb3⟩; have HB3 := Lib.hid (HB2.out.trans (hb3.mono HB2.out.size)); clear hb3))
    go_ret
    exact ⟨rfl, HB3.out⟩
  · have HSH := Lib.hid (sc_share a n d m h0)
    obtain ⟨v, e, hs1, hs2⟩ := HSH.out
    have HS1 := Lib.hid hs1
    have HS2 := Lib.hid hs2
    clear hs1 hs2 HSH h1 h2 h3 h0
    unfold ScRet at HS1 HS2
    go_enter Tryd.func3, Tryd.ntmps3
    go_wp2_with (first
      | (go_at_call 10; refine (HS1.out _).mono ?_; rintro e W1 ⟨rfl, hb1⟩; have HB1 := Lib.hid hb1; have HG1 := Lib.hid (HG.out.below hb1); clear hb1)
      | (go_at_call 11; refine (HS2.out _).mono ?_; rintro e W2 ⟨rfl, hb2⟩; have HB2 := Lib.hid (HB1.out.trans (hb2.mono HB1.out.size)); have HG2 := Lib.hid (HG1.out.below hb2); clear hb2)
      | (go_at_call 12; refine (HAW.out _ HG2.out).mono ?_; rintro e W3 ⟨rfl, hb3⟩; have HB3 := Lib.hid (HB2.out.trans (hb3.mono HB2.out.size)); clear hb3))
    go_ret
    exact ⟨rfl, HB3.out⟩
set_option maxHeartbeats 1000000 in
theorem walkMoneyPart (a n m : Int) (raw : Bool) (w : World) (h0 : -9223372036854775808 ≤ a ∧ a ≤ 9223372036854775807) (h1 : -9223372036854775808 ≤ n ∧ n ≤ 9223372036854775807) (h3 : -9223372036854775808 ≤ m ∧ m ≤ 9223372036854775807) (hL : laidMetH Tryd.prog Rows.moneyPartRow.laid w) :
    Calls Tryd.prog 4 #[.int .i64 a, .int .i64 n, .int .i64 m, .bool raw] w fun e w' => e = .returned (.bool true) ∧ Below w.heap.size w w' := by
  have HG := Lib.hid (given_of_laid hL (by kernel_rfl) (by kernel_rfl) (by kernel_rfl) (by kernel_rfl))
  have HAW := Lib.hid (fun W h => awake_any W h)
  clear hL
  cases raw
  · have HA1 := Lib.hid (fun W => amount_any a W)
    have hb1 := amF_bd a
    generalize amF a = a1 at *
    have hb2 : -10000001 < n.tmod 10000001 ∧ n.tmod 10000001 < 10000001 := by
      have h1 := Int.emod_nonneg n (show (10000001 : Int) ≠ 0 by omega)
      have h2 := Int.emod_lt_of_pos n (show (0 : Int) < 10000001 by omega)
      rw [Int.tmod_eq_emod]
      split <;> omega
    generalize hn1 : n.tmod 10000001 = n1 at *
    have HSH := Lib.hid (pt_share a1 (max n1 (-n1)) (bits .and .i64 m 3) (by omega))
    obtain ⟨v, e, hs1, hs2⟩ := HSH.out
    have HS1 := Lib.hid hs1
    have HS2 := Lib.hid hs2
    clear hs1 hs2 HSH h1 h3 h0
    unfold ScRet at HS1 HS2
    go_enter Tryd.func4, Tryd.ntmps4
    go_wp2_with (first
      | (go_at_call 9; (refine (HA1.out _).mono ?_; rintro e W1 ⟨rfl, rfl⟩))
      | (go_at_call 13; refine (HS1.out _).mono ?_; rintro e W1 ⟨rfl, hb1⟩; have HB1 := Lib.hid hb1; have HG1 := Lib.hid (HG.out.below hb1); clear hb1)
      | (go_at_call 14; refine (HS2.out _).mono ?_; rintro e W2 ⟨rfl, hb2⟩; have HB2 := Lib.hid (HB1.out.trans (hb2.mono HB1.out.size)); have HG2 := Lib.hid (HG1.out.below hb2); clear hb2)
      | (go_at_call 12; refine (HAW.out _ HG2.out).mono ?_; rintro e W3 ⟨rfl, hb3⟩; have HB3 := Lib.hid (HB2.out.trans (hb3.mono HB2.out.size)); clear hb3))
    go_ret
    exact ⟨rfl, HB3.out⟩
  · have HSH := Lib.hid (pt_share a n m h0)
    obtain ⟨v, e, hs1, hs2⟩ := HSH.out
    have HS1 := Lib.hid hs1
    have HS2 := Lib.hid hs2
    clear hs1 hs2 HSH h1 h3 h0
    unfold ScRet at HS1 HS2
    go_enter Tryd.func4, Tryd.ntmps4
    go_wp2_with (first
      | (go_at_call 13; refine (HS1.out _).mono ?_; rintro e W1 ⟨rfl, hb1⟩; have HB1 := Lib.hid hb1; have HG1 := Lib.hid (HG.out.below hb1); clear hb1)
      | (go_at_call 14; refine (HS2.out _).mono ?_; rintro e W2 ⟨rfl, hb2⟩; have HB2 := Lib.hid (HB1.out.trans (hb2.mono HB1.out.size)); have HG2 := Lib.hid (HG1.out.below hb2); clear hb2)
      | (go_at_call 12; refine (HAW.out _ HG2.out).mono ?_; rintro e W3 ⟨rfl, hb3⟩; have HB3 := Lib.hid (HB2.out.trans (hb3.mono HB2.out.size)); clear hb3))
    go_ret
    exact ⟨rfl, HB3.out⟩
end Go.Proofs.YtjgobaedeagojaaDoor
