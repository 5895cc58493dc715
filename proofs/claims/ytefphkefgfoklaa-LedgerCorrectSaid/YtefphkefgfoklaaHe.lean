/- The contract of checkTargets. -/
import Derived.Test.YtefphkefgfoklaaHd
import Derived.LoopN
import Derived.IntWalk
namespace Go.Proofs.Ytefphkefgfoklaa
open Go.RowKit
set_option linter.unusedVariables false

set_option maxRecDepth 100000 in
set_option maxHeartbeats 8000000 in
theorem check_any (day cause : Int) (A : Option Addr) (c : Nat) (t : List Tg) (w : World) (h : Rd w A (tgsCs t)) (hl : t.length ≤ 1000000000) :
    Calls Try.prog 31 #[.int .i64 day, .int .i64 cause, .slice A t.length c] w (IsRet w.heap.size (chkF day cause t) w) := by
  have HS := Lib.hid h
  clear h
  by_cases hd : 0 ≤ day ∧ day ≤ 36524
  · obtain ⟨d0, d1⟩ := hd
    by_cases hc : 0 ≤ cause ∧ cause ≤ 1000000000
    · obtain ⟨c0, c1⟩ := hc
      by_cases h256 : 256 < t.length
      · have e : Hid (chkF day cause t = 8) := Lib.hid (by unfold chkF; rw [if_pos ⟨⟨d0, d1⟩, c0, c1⟩, if_pos h256])
        generalize t.length = n at *
        go_enter Try.func31, Try.ntmps31
        go_wp2_with (first
          | (go_at_call 44; refine (day_yes _ _ (by assumption) (by assumption)).mono ?_; rintro e w' ⟨rfl, rfl⟩)
          | (go_at_call 45; refine (cause_yes _ _ (by assumption) (by assumption)).mono ?_; rintro e w' ⟨rfl, rfl⟩))
        go_ret
        exact ⟨by rw [e.out]; rfl, Below.refl _ _⟩
      · have HC := Lib.hid (show chkF day cause t = if t.all tgB = true then (if ascB t = true then 0 else 9) else 2 by unfold chkF; rw [if_pos ⟨⟨d0, d1⟩, c0, c1⟩, if_neg h256])
        go_enter Try.func31, Try.ntmps31
        go_wp2_with (first
          | (go_at_call 44; refine (day_yes _ _ (by assumption) (by assumption)).mono ?_; rintro e w' ⟨rfl, rfl⟩)
          | (go_at_call 45; refine (cause_yes _ _ (by assumption) (by assumption)).mono ?_; rintro e w' ⟨rfl, rfl⟩))
        go_loopg [25] t.length (fun m i wr => ChkRel t w m i wr)
        case atStart => exact ⟨0, by omega, rfl, by simp, Below.refl _ _⟩
        case round =>
          obtain ⟨k, hk, rfl, hall, hb⟩ := hrel
          have HK := Lib.hid hk
          have hk2 : k ≤ t.length := by omega
          have HALL := Lib.hid hall
          have HB := Lib.hid hb
          have hBr := hb.size
          clear hk hall hb
          by_cases hlt : k < t.length
          · have hx : t[k]? = some (t[k]?.getD default) := by rw [List.getElem?_eq_getElem hlt]; rfl
            have HST := Lib.hid (all_step hlt HALL.out)
            have HBAD := Lib.hid (fun h0 => (HC.out.trans (if_neg (all_bad hlt h0))))
            obtain ⟨b, off, rfl, e0, e1, e2, e3, e4⟩ := (HS.out.below HB.out).tg hx
            have hbl := block_lt_of_cell e0
            have htc := tg_cases (t[k]?.getD default)
            generalize t[k]?.getD default = g at *
            clear hx
            obtain ⟨gl, ⟨ow, se, pa, re⟩⟩ := g
            simp only at *
            have B1 := Lib.hid (((Below.refl wr.heap.size wr).alloc (Nat.le_refl _) (.cells #[.int .i64 gl, .int .i64 ow, .int .i64 se, .int .i64 pa, .int .i64 re] 37)))
            have B2 := Lib.hid (((Below.refl wr.heap.size wr).alloc (Nat.le_refl _) (.cells #[.int .i64 gl, .int .i64 ow, .int .i64 se, .int .i64 pa, .int .i64 re] 37)).alloc (by simp) (.cells #[.int .i64 ow, .int .i64 se, .int .i64 pa, .int .i64 re] 3))
            rcases htc with ⟨ht, ⟨l0, l1⟩, ⟨o0, o1⟩, ⟨s0, s1⟩, ⟨p0, p1⟩, r0, r1⟩ | ⟨ht, hbad⟩
            · have HST := Lib.hid (HST.out ht)
              clear ht HBAD
              go_wp2_with (go_at_call 46; refine (lot_yes _ _ (by assumption) (by assumption)).mono ?_; rintro e w' ⟨rfl, rfl⟩)
              refine wp_loop_rounds 5 ?_
              rw [rounds_succ]; go_wp2
              rw [rounds_succ]; go_wp2
              rw [rounds_succ]; go_wp2
              rw [rounds_succ]; go_wp2
              rw [rounds_succ]; go_wp2
              go_roundg (t.length - (k + 1))
              case measure => have := HK.out; omega
              case rel => exact ⟨k + 1, by have := HK.out; omega, by go_num, HST.out, HB.out.trans (B2.out.mono hBr)⟩
            · have HBAD := Lib.hid (HBAD.out ht)
              clear ht HST
              rcases hbad with hl | ⟨⟨l0, l1⟩, hbad⟩
              · go_wp2_with (go_at_call 46; refine (lot_no _ _ hl).mono ?_; rintro e w' ⟨rfl, rfl⟩)
                go_ret
                exact ⟨by rw [HBAD.out]; rfl, HB.out.trans (B1.out.mono hBr)⟩
              rcases hbad with (h1 | h1) | ⟨⟨o0, o1⟩, (h1 | h1) | ⟨⟨s0, s1⟩, (h1 | h1) | ⟨⟨p0, p1⟩, h1 | h1⟩⟩⟩
              · go_wp2_with (go_at_call 46; refine (lot_yes _ _ (by assumption) (by assumption)).mono ?_; rintro e w' ⟨rfl, rfl⟩)
                refine wp_loop_rounds 5 ?_
                rw [rounds_succ]; go_wp2
                go_ret
                exact ⟨by rw [HBAD.out]; rfl, HB.out.trans (B2.out.mono hBr)⟩
              · go_wp2_with (go_at_call 46; refine (lot_yes _ _ (by assumption) (by assumption)).mono ?_; rintro e w' ⟨rfl, rfl⟩)
                refine wp_loop_rounds 5 ?_
                rw [rounds_succ]; go_wp2
                go_ret
                exact ⟨by rw [HBAD.out]; rfl, HB.out.trans (B2.out.mono hBr)⟩
              · go_wp2_with (go_at_call 46; refine (lot_yes _ _ (by assumption) (by assumption)).mono ?_; rintro e w' ⟨rfl, rfl⟩)
                refine wp_loop_rounds 5 ?_
                rw [rounds_succ]; go_wp2
                rw [rounds_succ]; go_wp2
                go_ret
                exact ⟨by rw [HBAD.out]; rfl, HB.out.trans (B2.out.mono hBr)⟩
              · go_wp2_with (go_at_call 46; refine (lot_yes _ _ (by assumption) (by assumption)).mono ?_; rintro e w' ⟨rfl, rfl⟩)
                refine wp_loop_rounds 5 ?_
                rw [rounds_succ]; go_wp2
                rw [rounds_succ]; go_wp2
                go_ret
                exact ⟨by rw [HBAD.out]; rfl, HB.out.trans (B2.out.mono hBr)⟩
              · go_wp2_with (go_at_call 46; refine (lot_yes _ _ (by assumption) (by assumption)).mono ?_; rintro e w' ⟨rfl, rfl⟩)
                refine wp_loop_rounds 5 ?_
                rw [rounds_succ]; go_wp2
                rw [rounds_succ]; go_wp2
                rw [rounds_succ]; go_wp2
                go_ret
                exact ⟨by rw [HBAD.out]; rfl, HB.out.trans (B2.out.mono hBr)⟩
              · go_wp2_with (go_at_call 46; refine (lot_yes _ _ (by assumption) (by assumption)).mono ?_; rintro e w' ⟨rfl, rfl⟩)
                refine wp_loop_rounds 5 ?_
                rw [rounds_succ]; go_wp2
                rw [rounds_succ]; go_wp2
                rw [rounds_succ]; go_wp2
                go_ret
                exact ⟨by rw [HBAD.out]; rfl, HB.out.trans (B2.out.mono hBr)⟩
              · go_wp2_with (go_at_call 46; refine (lot_yes _ _ (by assumption) (by assumption)).mono ?_; rintro e w' ⟨rfl, rfl⟩)
                refine wp_loop_rounds 5 ?_
                rw [rounds_succ]; go_wp2
                rw [rounds_succ]; go_wp2
                rw [rounds_succ]; go_wp2
                rw [rounds_succ]; go_wp2
                go_ret
                exact ⟨by rw [HBAD.out]; rfl, HB.out.trans (B2.out.mono hBr)⟩
              · go_wp2_with (go_at_call 46; refine (lot_yes _ _ (by assumption) (by assumption)).mono ?_; rintro e w' ⟨rfl, rfl⟩)
                refine wp_loop_rounds 5 ?_
                rw [rounds_succ]; go_wp2
                rw [rounds_succ]; go_wp2
                rw [rounds_succ]; go_wp2
                rw [rounds_succ]; go_wp2
                go_ret
                exact ⟨by rw [HBAD.out]; rfl, HB.out.trans (B2.out.mono hBr)⟩
          · have ht : t.take k = t := List.take_of_length_le (by omega)
            have hall := HALL.out
            rw [ht] at hall
            have HC2 := Lib.hid (HC.out.trans (if_pos (List.all_eq_true.2 hall)))
            clear ht hall HALL HC
            have hl256 : t.length ≤ 256 := by omega
            go_wp2_with fail
            go_loopg [11] t.length (fun m i wr => OrdRel t w m i wr)
            case atStart => exact ⟨1, by omega, by omega, rfl, rfl, HB.out⟩
            case round =>
              obtain ⟨j, hj1, hj, rfl, hup, hb⟩ := hrel
              have HJ := Lib.hid hj
              have HUP := Lib.hid hup
              have HB2 := Lib.hid hb
              have hBr2 := hb.size
              clear hj hup hb
              by_cases hjl : j < t.length
              · have hx0 : t[j - 1]? = some (t[j - 1]?.getD default) := by rw [List.getElem?_eq_getElem (by omega)]; rfl
                have hx1 : t[j]? = some (t[j]?.getD default) := by rw [List.getElem?_eq_getElem hjl]; rfl
                have H1 := Lib.hid (fun h => ascUp_step HUP.out hj1 h)
                have H2 := Lib.hid (fun (h : ¬ (t[j - 1]?.getD default).lot < (t[j]?.getD default).lot) => ascUp_bad (t := t) (n := t.length) hj1 hjl h)
                obtain ⟨b, off, rfl, e0, _⟩ := (HS.out.below HB2.out).tg hx0
                obtain ⟨b', off', hbb, f0, _⟩ := (HS.out.below HB2.out).tg hx1
                injection hbb with hbb
                injection hbb with i1 i2 _
                subst i1; subst i2
                have hbl := block_lt_of_cell e0
                generalize t[j - 1]?.getD default = g0 at *
                generalize t[j]?.getD default = g1 at *
                clear hx0 hx1
                obtain ⟨q, rfl⟩ : ∃ q : Nat, j = q + 1 := ⟨j - 1, by omega⟩
                simp only [Nat.add_sub_cancel] at e0
                have s1 : IntKind.i64.wrap (((q + 1 : Nat) : Int) - 1) = (q : Int) := by rw [show (((q + 1 : Nat) : Int) - 1) = q by omega]; exact IntWalk.i64_in _ (by omega)
                have s2 : (q : Int) < t.length := by omega
                have s3 : ((q + 1 : Nat) : Int) < t.length := by omega
                by_cases hlt2 : g0.lot < g1.lot
                · have HE := Lib.hid (H1.out hlt2)
                  have y1 : decide (g1.lot ≤ g0.lot) = false := by simpa using hlt2
                  clear H1 H2 hlt2
                  go_wp2_with fail
                  go_quiet (fail)
                  go_wp2_with fail
                  go_roundg (t.length - (q + 1))
                  case measure => have := HJ.out; omega
                  case rel => exact ⟨q + 1 + 1, by omega, by have := HJ.out; omega, by go_num, HE.out, drewN_below HB2.out _⟩
                · have HE := Lib.hid (H2.out hlt2)
                  have y1 : decide (g1.lot ≤ g0.lot) = true := by simpa using hlt2
                  clear H1 H2 hlt2
                  go_wp2_with fail
                  go_quiet (fail)
                  go_wp2_with fail
                  go_ret
                  exact ⟨by rw [HC2.out]; rw [if_neg (by unfold ascB; simp [HE.out])]; rfl, drewN_below HB2.out _⟩
              · have hup : ascB t = true := by
                  unfold ascB
                  have := HUP.out
                  by_cases he : j = t.length
                  · rw [← he]; exact this
                  · have hj2 := HJ.out
                    have he2 : j = t.length + 1 := by omega
                    rw [he2] at this
                    unfold ascUp at this
                    rw [Bool.and_eq_true] at this
                    exact this.1
                have HE := Lib.hid (HC2.out.trans (if_pos hup))
                clear hup
                go_wp2_with fail
                go_ret
                exact ⟨by rw [HE.out]; rfl, HB2.out⟩
    · have e : Hid (chkF day cause t = 2) := Lib.hid (by unfold chkF; rw [if_neg (fun h => hc h.2)])
      have hc' : cause < 0 ∨ 1000000000 < cause := by omega
      clear hc
      generalize t.length = n at *
      go_enter Try.func31, Try.ntmps31
      go_wp2_with (first
        | (go_at_call 44; refine (day_yes _ _ (by assumption) (by assumption)).mono ?_; rintro e w' ⟨rfl, rfl⟩)
        | (go_at_call 45; refine (cause_no _ _ hc').mono ?_; rintro e w' ⟨rfl, rfl⟩))
      go_ret
      exact ⟨by rw [e.out]; rfl, Below.refl _ _⟩
  · have e : Hid (chkF day cause t = 2) := Lib.hid (by unfold chkF; rw [if_neg (fun h => hd h.1)])
    have hd' : day < 0 ∨ 36524 < day := by omega
    clear hd
    generalize t.length = n at *
    go_enter Try.func31, Try.ntmps31
    go_wp2_with (go_at_call 44; refine (day_no _ _ hd').mono ?_; rintro e w' ⟨rfl, rfl⟩)
    go_ret
    exact ⟨by rw [e.out]; rfl, Below.refl _ _⟩
end Go.Proofs.Ytefphkefgfoklaa
