/- The contract of Correct, whole. -/
import Derived.Test.YtefphkefgfoklaaHh
namespace Go.Proofs.Ytefphkefgfoklaa
open Go.RowKit
set_option linter.unusedVariables false

set_option maxRecDepth 100000 in
set_option maxHeartbeats 2000000 in
theorem correct_any (A : Option Addr) (c : Nat) (l : List En) (day cause : Int) (At : Option Addr) (ct : Nat) (t : List Tg) (w : World) (h : SlE w A l) (ht : Rd w At (tgsCs t)) (htl : t.length ≤ 1000000000) :
    Calls Try.prog 18 #[.slice A l.length c, .int .i64 day, .int .i64 cause, .slice At t.length ct] w (CorRet l day cause t w) := by
  by_cases hv : ledF l = 0
  · by_cases hc : chkF day cause t = 0
    · exact correct_main A c l day cause At ct t w h ht htl hv hc
    · have HRD := Lib.hid (read_any A c l w h.rd h.len)
      have HCK := Lib.hid (fun (W : World) (hb : Below w.heap.size w W) => check_any day cause At ct t W (ht.below hb) htl)
      have HV := Lib.hid hv
      have HE := Lib.hid (corE_chk (cause := cause) (day := day) hv hc)
      have HC := Lib.hid hc
      generalize hm : chkF day cause t = m at HE hc HCK HC
      have hm1 : (m == 0) = false := by simpa using hc
      clear h ht hv hc hm
      go_enter Try.func18, Try.ntmps18
      go_wp2_with (first
        | (go_at_call 29; refine HRD.out.mono ?_; rintro e w1 ⟨pa, he, hb1, hacc⟩; rw [HV.out] at he; subst he; have HB1 := Lib.hid hb1; clear hb1 hacc)
        | (go_at_call 31; refine (HCK.out _ HB1.out).mono ?_; rintro e w2 ⟨rfl, hb2⟩; have HB2 := Lib.hid (HB1.out.trans (hb2.mono HB1.out.size)); clear hb2))
      go_ret2
      exact cor_bad HE.out HC.out HB2.out
  · have HRD := Lib.hid (read_any A c l w h.rd h.len)
    have HE := Lib.hid (corE_led (cause := cause) (day := day) (t := t) hv)
    have HC := Lib.hid hv
    unfold ReadRet at HRD
    generalize hm : ledF l = m at HE hv HC HRD
    have hm1 : (m == 0) = false := by simpa using hv
    clear h ht hv hm
    go_enter Try.func18, Try.ntmps18
    go_wp2_with (go_at_call 29; refine HRD.out.mono ?_; rintro e w1 ⟨pa, rfl, hb1, hacc⟩; have HB1 := Lib.hid hb1; clear hb1 hacc)
    go_ret2
    exact cor_bad HE.out HC.out HB1.out
end Go.Proofs.Ytefphkefgfoklaa
