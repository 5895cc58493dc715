/- The walk of MoneyFormat. -/
import Derived.Test.YtjgobaedeagojaaDoorOk
namespace Go.Proofs.YtjgobaedeagojaaDoor
open Go.RowKit
set_option linter.unusedVariables false

set_option maxHeartbeats 2000000 in
theorem walkMoneyFormat (n : Int) (raw : Bool) (w : World) (h0 : -9223372036854775808 ≤ n ∧ n ≤ 9223372036854775807) (hL : laidMetH Tryd.prog Rows.moneyFormatRow.laid w) :
    Calls Tryd.prog 6 #[.int .i64 n, .bool raw] w fun e w' => e = .returned (.bool true) ∧ Below w.heap.size w w' := by
  have HG := Lib.hid (given_of_laid hL (by kernel_rfl) (by kernel_rfl) (by kernel_rfl) (by kernel_rfl))
  have HAW := Lib.hid (fun W h => awake_any W h)
  clear hL
  cases raw
  · have HA1 := Lib.hid (fun W => amount_any n W)
    have hb := amt_iff.2 (amF_bd n)
    have hbd := amF_bd n
    generalize amF n = n1 at *
    have HF := Lib.hid (fun W (h : Given W) => format_any n1 W h.tab)
    have HR := Lib.hid (fun W => refFormat_any n1 (by omega) W)
    have hl := fmt_ne hb
    have HP := Lib.hid (fun W (h : Given W) => parse_any (fmtF n1) (by omega) W h.tab h.err)
    unfold ScRet at HP
    rw [(pa_good hb).1, (pa_good hb).2] at HP
    have t1 : (fmtF n1).isEmpty = false := by
      cases hq : fmtF n1 with
      | nil => rw [hq] at hl; simp at hl
      | cons _ _ => rfl
    have t2 : (fmtF n1 == []) = false := by
      cases hq : fmtF n1 with
      | nil => rw [hq] at hl; simp at hl
      | cons _ _ => rfl
    generalize fmtF n1 = s at *
    clear h0 hb
    go_enter Tryd.func6, Tryd.ntmps6
    go_wp2_with (first
      | (go_at_call 9; refine (HA1.out _).mono ?_; rintro e W1 ⟨rfl, rfl⟩)
      | (go_at_call 15; refine (HF.out _ HG.out).mono ?_; rintro e W1 ⟨rfl, hb1⟩; have HB1 := Lib.hid hb1; have HG1 := Lib.hid (HG.out.below hb1); clear hb1)
      | (go_at_call 16; refine (HR.out _).mono ?_; rintro e W2 ⟨rfl, hb2⟩; have HB2 := Lib.hid (HB1.out.trans (hb2.mono HB1.out.size)); have HG2 := Lib.hid (HG1.out.below hb2); clear hb2)
      | (go_at_call 17; refine (HP.out _ HG2.out).mono ?_; rintro e W3 ⟨rfl, hb3⟩; have HB3 := Lib.hid (HB2.out.trans (hb3.mono HB2.out.size)); have HG3 := Lib.hid (HG2.out.below hb3); clear hb3)
      | (go_at_call 12; refine (HAW.out _ HG3.out).mono ?_; rintro e W4 ⟨rfl, hb4⟩; have HB4 := Lib.hid (HB3.out.trans (hb4.mono HB3.out.size)); clear hb4))
    go_ret
    exact ⟨rfl, HB4.out⟩
  · cases hb : amtB n
    · have HF := Lib.hid (fun W (h : Given W) => format_any n W h.tab)
      have HR := Lib.hid (fun W => refFormat_any n (by omega) W)
      have HP := Lib.hid (fun W (h : Given W) => parse_any [] (by decide) W h.tab h.err)
      unfold ScRet at HP
      have q : paV [] = 0 ∧ paE [] = 4 := pa_short (.inl (by simp))
      rw [q.1, q.2] at HP
      rw [fmt_nil hb] at HF HR
      clear q
      clear h0 hb
      go_enter Tryd.func6, Tryd.ntmps6
      go_wp2_with (first
        | (go_at_call 15; refine (HF.out _ HG.out).mono ?_; rintro e W1 ⟨rfl, hb1⟩; have HB1 := Lib.hid hb1; have HG1 := Lib.hid (HG.out.below hb1); clear hb1)
        | (go_at_call 16; refine (HR.out _).mono ?_; rintro e W2 ⟨rfl, hb2⟩; have HB2 := Lib.hid (HB1.out.trans (hb2.mono HB1.out.size)); have HG2 := Lib.hid (HG1.out.below hb2); clear hb2)
        | (go_at_call 17; refine (HP.out _ HG2.out).mono ?_; rintro e W3 ⟨rfl, hb3⟩; have HB3 := Lib.hid (HB2.out.trans (hb3.mono HB2.out.size)); have HG3 := Lib.hid (HG2.out.below hb3); clear hb3)
        | (go_at_call 12; refine (HAW.out _ HG3.out).mono ?_; rintro e W4 ⟨rfl, hb4⟩; have HB4 := Lib.hid (HB3.out.trans (hb4.mono HB3.out.size)); clear hb4))
      go_ret
      exact ⟨rfl, HB4.out⟩
    · have hbd := amt_iff.1 hb
      have HF := Lib.hid (fun W (h : Given W) => format_any n W h.tab)
      have HR := Lib.hid (fun W => refFormat_any n (by omega) W)
      have hl := fmt_ne hb
      have HP := Lib.hid (fun W (h : Given W) => parse_any (fmtF n) (by omega) W h.tab h.err)
      unfold ScRet at HP
      rw [(pa_good hb).1, (pa_good hb).2] at HP
      have t1 : (fmtF n).isEmpty = false := by
        cases hq : fmtF n with
        | nil => rw [hq] at hl; simp at hl
        | cons _ _ => rfl
      have t2 : (fmtF n == []) = false := by
        cases hq : fmtF n with
        | nil => rw [hq] at hl; simp at hl
        | cons _ _ => rfl
      generalize fmtF n = s at *
      clear h0 hb
      go_enter Tryd.func6, Tryd.ntmps6
      go_wp2_with (first
        | (go_at_call 15; refine (HF.out _ HG.out).mono ?_; rintro e W1 ⟨rfl, hb1⟩; have HB1 := Lib.hid hb1; have HG1 := Lib.hid (HG.out.below hb1); clear hb1)
        | (go_at_call 16; refine (HR.out _).mono ?_; rintro e W2 ⟨rfl, hb2⟩; have HB2 := Lib.hid (HB1.out.trans (hb2.mono HB1.out.size)); have HG2 := Lib.hid (HG1.out.below hb2); clear hb2)
        | (go_at_call 17; refine (HP.out _ HG2.out).mono ?_; rintro e W3 ⟨rfl, hb3⟩; have HB3 := Lib.hid (HB2.out.trans (hb3.mono HB2.out.size)); have HG3 := Lib.hid (HG2.out.below hb3); clear hb3)
        | (go_at_call 12; refine (HAW.out _ HG3.out).mono ?_; rintro e W4 ⟨rfl, hb4⟩; have HB4 := Lib.hid (HB3.out.trans (hb4.mono HB3.out.size)); clear hb4))
      go_ret
      exact ⟨rfl, HB4.out⟩
end Go.Proofs.YtjgobaedeagojaaDoor
