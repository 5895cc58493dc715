/- The law LedgerCorrect: for every input the call returns true, and each argument reads afterwards as it read before. -/
import Derived.Test.YtefphkefgfoklaaIa
import Derived.Test.YtefphkefgfoklaaRows
import Derived.Test.YtefphkefgfoklaaFrame
import Derived.WalkKit
import Derived.ProofKit
import Derived.OpenShut
import Derived.Deep.DeepHandedRow
import Derived.SevenTiedAt
namespace Go.Proofs.Ytefphkefgfoklaa
open Go.Joins Go.ChangeShapes Go.WideShapes Go.RowKit Go.Deep
set_option linter.unusedVariables false

def toTg : List Int → Tg
  | [a, b, c, d, e] => ⟨a, ⟨b, c, d, e⟩⟩
  | _ => default
theorem toTg_cs {zs : List Int} (h : zs.length = 5) : tgCs (toTg zs) = ints zs := by
  match zs, h with
  | [a, b, c, d, e], _ => rfl
theorem tgs_rows : ∀ (rows : List (List Int)), (∀ zs ∈ rows, zs.length = 5) → tgsCs (rows.map toTg) = rows.flatMap ints
  | [], _ => rfl
  | r :: rs, h => by
    have ih := tgs_rows rs (fun zs hz => h zs (by simp [hz]))
    have h0 := toTg_cs (h r (by simp))
    unfold tgsCs at *
    simp only [List.map_cons, List.flatMap_cons, ih, h0]
theorem baFields : ∃ fs : Array Field, Try.prog.underlying 37 = some (.struct fs) ∧ oneCellFields Try.prog fs = true ∧ fs.size = 5 ∧ Try.prog.cellsOf 37 = 5 ∧ fs.toList.map (·.type) = List.replicate 5 3 :=
  ⟨_, Try.underlying37, by kernel_rfl, by kernel_rfl, by kernel_rfl, by kernel_rfl⟩
section
variable {H : Type} {enc : TypeId × Value → H} {w : World} {r : Reach} {b0 : Nat} {v : Value} {d : DataW H} {p : List MemPlace}
set_option maxRecDepth 100000 in
/-- a slice of balances that came in -/
theorem open_bas (hv : Value.okWide Try.prog w r b0 41 v) (h : DataW.Trod enc Try.prog w 0 (fun _ => true) true 41 v d p) (hz : (DataW.weights Try.prog 41 d).all (· ≤ reachBytes) = true) :
    ∃ A c, ∃ t : List Tg, v = .slice A t.length c ∧ t.length ≤ c ∧ c ≤ maxLen ∧ t.length ≤ 5000000000000 ∧ True ∧ Rd w A (tgsCs t) := by
  obtain ⟨fs, hs, hone, hsz, hC, hall⟩ := baFields
  obtain ⟨A, c, rows, rfl, h1, h2, h3, h4, h5⟩ := open_flat Try.underlying41 hs hone (hC.trans hsz.symm) (fields_int hall) hv h hz
  have hby : Try.prog.bytesOf 37 = 40 := by kernel_rfl
  rw [hby] at h3
  refine ⟨A, c, rows.map toTg, by simp, by simpa using h1, h2, by simp; omega, trivial, ?_⟩
  rw [tgs_rows rows (fun zs hzs => (h4 zs hzs).1.trans hsz)]
  exact h5
end
theorem corE_len {l : List En} {day cause : Int} {t : List Tg} (h : corE l day cause t = 0) : (corF l day cause t).length ≤ 2000 := by
  unfold corE at h
  by_cases h1 : ledF l ≠ 0
  · rw [if_pos h1] at h; exact absurd h h1
  rw [if_neg h1] at h
  by_cases h2 : chkF day cause t ≠ 0
  · rw [if_pos h2] at h; exact absurd h h2
  rw [if_neg h2] at h
  by_cases h3 : bigB (allF l t (lotsF l t)) = true
  · rw [if_pos h3] at h; cases h
  rw [if_neg h3] at h
  by_cases h4 : 2000 < l.length + (allF l t (lotsF l t)).length
  · rw [if_pos h4] at h; cases h
  · unfold corF; rw [puts_len]; omega
def resC (l : List En) (day cause : Int) (t : List Tg) : List En := if corE l day cause t = 0 then corF l day cause t else []
theorem CorRet.res {l : List En} {day cause : Int} {t : List Tg} {w w' : World} {e : Ending} (h : CorRet l day cause t w e w') : ∃ A c, e = .returned (.tuple #[.slice A (resC l day cause t).length c, .int .i64 (corE l day cause t)]) ∧ Below w.heap.size w w' ∧ SlE w' A (resC l day cause t) := by
  obtain ⟨v, h1, h2, h3, h4⟩ := h
  unfold resC
  by_cases hz : corE l day cause t = 0
  · rw [if_pos hz]
    obtain ⟨A, c, rfl, hr, _⟩ := h4 hz
    exact ⟨A, c, h1, h2, hr, by have := corE_len hz; omega⟩
  · rw [if_neg hz]
    have := h3 hz
    subst this
    exact ⟨none, 0, h1, h2, Rd.nil _ _, by simp⟩
/-- a ledger and targets, to be read -/
structure LT (w : World) (v u : Value) (L : List En) (t : List Tg) : Prop where
  led : ∃ A c, v = .slice A L.length c ∧ Rd w A (ensCs L) ∧ L.length ≤ c ∧ c ≤ 9223372036854775807
  tgs : ∃ A c, u = .slice A t.length c ∧ Rd w A (tgsCs t)
  ll : L.length ≤ 5000000000000
  tl : t.length ≤ 5000000000000
namespace ledgerCorrect
set_option maxRecDepth 100000 in
set_option maxHeartbeats 2000000 in
theorem law (A Am Ar At : Option Addr) (c cm cr ct : Nat) (l m : List Int) (R : List En) (T : List Tg) (day cause wild : Int) (w : World) (h : SlI w A c l) (hm : SlI w Am cm m) (hr : Rd w Ar (ensCs R)) (hrc : R.length ≤ cr) (hrm : cr ≤ maxLen) (hrl : R.length ≤ 5000000000000) (ht : Rd w At (tgsCs T)) (htl : T.length ≤ 5000000000000)
    (hday : -9223372036854775808 ≤ day ∧ day ≤ 9223372036854775807) (hcause : -9223372036854775808 ≤ cause ∧ cause ≤ 9223372036854775807) :
    Calls Try.prog 5 #[.slice A l.length c, .slice Am m.length cm, .slice Ar R.length cr, .slice At T.length ct, .int .i64 day, .int .i64 cause, .int .i64 wild] w fun e w' => e = .returned (.bool true) ∧ Below w.heap.size w w' := by
  have HLG := Lib.hid (ledger_any A c l w h)
  have HTG := Lib.hid (fun W (hb : Below w.heap.size w W) => targets_any Am cm m W (hm.below hb))
  have HWD := Lib.hid (fun W => within_any day 90 W (by omega) (by omega))
  have HWC := Lib.hid (fun W => within_any cause 90 W (by omega) (by omega))
  have HDB := Lib.hid (And.intro (Int.emod_nonneg day (by omega : (90 : Int) ≠ 0)) (Int.emod_lt_of_pos day (by omega : (0 : Int) < 90)))
  have HCB := Lib.hid (And.intro (Int.emod_nonneg cause (by omega : (90 : Int) ≠ 0)) (Int.emod_lt_of_pos cause (by omega : (0 : Int) < 90)))
  have HR := Lib.hid hr
  have HT := Lib.hid ht
  have HRC := Lib.hid (And.intro hrc (And.intro (show cr ≤ 9223372036854775807 by unfold maxLen at hrm; omega) (And.intro hrl htl)))
  have HDAY := Lib.hid (And.intro hday hcause)
  have HAW := Lib.hid (fun W => awake_any W)
  clear h hm hr ht hrc hrm hrl htl hday hcause
  go_enter Try.func5, Try.ntmps5
  go_wp2_with fail
  refine HLG.out.mono ?_
  rintro e w1 ⟨v, L0, rfl, hE, hv, hL, hb⟩
  obtain ⟨A1, c1, rfl, hr1, hlc, hcm, _⟩ := hE
  have HB1 := Lib.hid hb
  have S1 := Lib.hid (show LT w1 (.slice A1 L0.length c1) (.slice At T.length ct) L0 T from ⟨⟨A1, c1, rfl, hr1, hlc, by unfold maxLen at hcm; omega⟩, ⟨At, ct, rfl, HT.out.below hb⟩, by omega, HRC.out.2.2.2⟩)
  have S2 := Lib.hid (show LT w1 (.slice Ar R.length cr) (.slice At T.length ct) R T from ⟨⟨Ar, cr, rfl, HR.out.below hb, HRC.out.1, HRC.out.2.1⟩, ⟨At, ct, rfl, HT.out.below hb⟩, HRC.out.2.2.1, HRC.out.2.2.2⟩)
  clear hr1 hlc hcm hb hv HLG
  go_upto_if 26 with (fail)
  go_cut [15] (fun s15 wx => (∃ L, LT w1 s15 (.slice At T.length ct) L T) ∧ w1 = wx)
  case first =>
    rcases hcb : (bits BinOp.and IntKind.i64 wild 1 == 1) with _ | _
    · go_wp2_with fail
      go_meet
      exact ⟨⟨L0, S1.out⟩, rfl⟩
    · go_wp2_with fail
      go_meet
      exact ⟨⟨R, S2.out⟩, rfl⟩
  case rest =>
    obtain ⟨⟨L, hS⟩, rfl⟩ := hcut
    obtain ⟨A2, c2, rfl, hr2, hlc2, hcm2⟩ := hS.led
    have HS := Lib.hid hS
    have HCC := Lib.hid (And.intro hlc2 hcm2)
    have hll := hS.ll
    clear hS S1 S2 hr2 hlc2 hcm2
    go_upto_if 30 with (fail)
    go_cut [4, 5, 16] (fun s4 s5 s16 wx => ∃ (d ca : Int) (t : List Tg), (s4 = .int .i64 d ∧ s5 = .int .i64 ca) ∧ LT wx (.slice A2 L.length c2) s16 L t ∧ ((-9223372036854775808 ≤ d ∧ d ≤ 9223372036854775807) ∧ (-9223372036854775808 ≤ ca ∧ ca ≤ 9223372036854775807)) ∧ Below w1.heap.size w1 wx)
    case first =>
      rcases hcb : (bits BinOp.and IntKind.i64 wild 2 == 0) with _ | _
      · go_wp2_with fail
        go_meet
        exact ⟨day, cause, T, ⟨rfl, rfl⟩, HS.out, HDAY.out, Below.refl _ _⟩
      · go_wp2_with fail
        refine (HTG.out w1 HB1.out).mono ?_
        rintro e w2 ⟨A3, c3, t, rfl, hr3, hmt, _, hb2⟩
        have HB2 := Lib.hid hb2
        have HS3 := Lib.hid (show LT w2 (.slice A2 L.length c2) (.slice A3 t.length c3) L t from by
          obtain ⟨A', c', e, q1, q2⟩ := HS.out.led
          exact ⟨⟨A', c', e, q1.below hb2, q2⟩, ⟨A3, c3, rfl, hr3⟩, HS.out.ll, by have := hmt.len; omega⟩)
        clear hr3 hmt hb2
        go_wp2_with fail
        refine (HWD.out w2).mono ?_
        rintro e w' ⟨rfl, rfl⟩
        go_wp2_with fail
        refine (HWC.out w2).mono ?_
        rintro e w' ⟨rfl, rfl⟩
        go_wp2_with fail
        go_meet
        exact ⟨_, _, t, ⟨rfl, rfl⟩, HS3.out, ⟨by have := HDB.out; omega, by have := HCB.out; omega⟩, HB2.out⟩
    case rest =>
      obtain ⟨wd, rfl⟩ : ∃ x, x = wc := ⟨_, rfl⟩
      obtain ⟨d, ca, t, ⟨rfl, rfl⟩, hS, ⟨hd, hca⟩, hb⟩ := hcut
      obtain ⟨A3, c3, rfl, hr3⟩ := hS.tgs
      obtain ⟨A', c', he, hr2, _, _⟩ := hS.led
      injection he with he _ he2
      subst he; subst he2
      have HR2 := Lib.hid hr2
      have HT3 := Lib.hid hr3
      have HDC := Lib.hid (And.intro hd hca)
      have HB2 := Lib.hid (HB1.out.trans (hb.mono HB1.out.size))
      have htl := hS.tl
      clear hS hr2 hr3 hd hca hb HWD HWC HTG
      by_cases hsz : L.length ≤ 60 ∧ t.length ≤ 300
      · obtain ⟨h60, h300⟩ := hsz
        have HC1 := Lib.hid ((correct_any A2 c2 L d ca A3 c3 t wd ⟨HR2.out, by omega⟩ HT3.out (by omega)).mono fun e w' ha => ha.res)
        have HC2 := Lib.hid (fun W (hb : Below wd.heap.size wd W) => (refCorrect_any A2 c2 L d ca A3 c3 t W ⟨HR2.out.below hb, by omega⟩ HCC.out.1 HCC.out.2 h60 (HT3.out.below hb) h300 HDC.out.1 HDC.out.2).mono fun e w' ha => ha.res)
        have hq1 : ¬ (60 : Int) < L.length := by omega
        have hq2 : ¬ (300 : Int) < t.length := by omega
        generalize resC L d ca t = K at HC1 HC2
        generalize corE L d ca t = er at HC1 HC2
        go_wp2_with fail
        refine HC1.out.mono ?_
        rintro e w3 ⟨A4, c4, rfl, hb3, hs3⟩
        have HB3 := Lib.hid hb3
        have HS3 := Lib.hid hs3
        clear hb3 hs3
        go_wp2_with fail
        refine (HC2.out w3 HB3.out).mono ?_
        rintro e w4 ⟨A5, c5, rfl, hb4, hs4⟩
        have HB4 := Lib.hid (HB3.out.trans (hb4.mono HB3.out.size))
        have HSM := Lib.hid (sameLedger_any A4 A5 c4 c5 K w4 (HS3.out.below hb4) hs4)
        clear hb4 hs4
        go_wp2_with fail
        refine HSM.out.mono ?_
        rintro e w5 ⟨rfl, hq5⟩
        have HB5 := Lib.hid (HB4.out.trans (hq5.below _))
        clear hq5
        go_wp2_with fail
        refine (HAW.out w5).mono ?_
        rintro e w6 ⟨rfl, hb6⟩
        have HB6 := Lib.hid (HB2.out.trans ((HB5.out.trans (hb6.mono HB5.out.size)).mono HB2.out.size))
        clear hb6
        go_wp2_with fail
        go_ret
        exact ⟨rfl, HB6.out⟩
      · by_cases h60 : L.length ≤ 60
        · have h300 : (300 : Int) < t.length := by omega
          have hq1 : ¬ (60 : Int) < L.length := by omega
          clear hsz
          go_wp2_with fail
          refine (HAW.out wd).mono ?_
          rintro e w6 ⟨rfl, hb6⟩
          have HB6 := Lib.hid (HB2.out.trans (hb6.mono HB2.out.size))
          clear hb6
          go_wp2_with fail
          go_ret
          exact ⟨rfl, HB6.out⟩
        · have hq1 : (60 : Int) < L.length := by omega
          clear hsz h60
          go_wp2_with fail
          refine (HAW.out wd).mono ?_
          rintro e w6 ⟨rfl, hb6⟩
          have HB6 := Lib.hid (HB2.out.trans (hb6.mono HB2.out.size))
          clear hb6
          go_wp2_with fail
          go_ret
          exact ⟨rfl, HB6.out⟩
theorem walkLedgerCorrect (A : Option Addr) (c : Nat) (l : List Int) (Am : Option Addr) (cm : Nat) (m : List Int) (Ar : Option Addr) (cr : Nat) (R : List En) (At : Option Addr) (ct : Nat) (T : List Tg) (day cause wild : Int) (w : World) (h : SlI w A c l) (hm : SlI w Am cm m)
    (hrc : R.length ≤ cr) (hrm : cr ≤ maxLen) (hrl : R.length ≤ 5000000000000) (hre : ∀ x ∈ R, EBd x) (hr : Rd w Ar (ensCs R)) (htc : T.length ≤ ct) (htm : ct ≤ maxLen) (htl : T.length ≤ 5000000000000) (_ : True) (ht : Rd w At (tgsCs T))
    (hday : -9223372036854775808 ≤ day ∧ day ≤ 9223372036854775807) (hcause : -9223372036854775808 ≤ cause ∧ cause ≤ 9223372036854775807) (hwild : -9223372036854775808 ≤ wild ∧ wild ≤ 9223372036854775807) :
    Calls Try.prog 5 #[.slice A l.length c, .slice Am m.length cm, .slice Ar R.length cr, .slice At T.length ct, .int .i64 day, .int .i64 cause, .int .i64 wild] w fun e w' => e = .returned (.bool true) ∧ Below w.heap.size w w' :=
  law A Am Ar At c cm cr ct l m R T day cause wild w h hm hr hrc hrm hrl ht htl hday hcause
end ledgerCorrect
end Go.Proofs.Ytefphkefgfoklaa
namespace Go.Proofs.Ytefphkefgfoklaa.ledgerCorrect
open Go.ChangeShapes Go.WideShapes Go.ChangeAt Go.RowKit
set_option linter.unusedVariables false

theorem own : ownKnob Try.prog.godebug = none := by kernel_rfl
theorem laidOut : laidOutB Try.prog = true := by kernel_rfl

set_option maxRecDepth 100000 in
theorem contract (H : Type) (enc : TypeId × Value → H) (W : World) (base : Nat) (args : Array Value) (ds gs : List (DataW H)) (before : List MemPlace)
    (hval : ∀ (j : Nat) t v, Try.f5.params[j]? = some t → args[j]? = some v → Value.okWide Try.prog W .any base t v)
    (hW : DataW.Whole enc Try.prog Try.f5.params.toList Rows.ledgerCorrectSpec.vars false W args.toList ds gs before)
    (hsz : (DataW.weightsEach Try.prog (Try.f5.params.toList ++ (OpenSpec.ofChange Rows.ledgerCorrectSpec).bare.plain.varTypes Try.prog) (ds ++ gs)).all (· ≤ reachBytes) = true) :
    Calls Try.prog 5 args W fun e W' => ∃ v, e = .returned v ∧ Rows.ledgerCorrectSpec.post enc Try.prog Try.f5 false true false false W args v W' := by
  have hW' := hW
  obtain ⟨p, q, hA0, hV, rfl, hfz, hnd⟩ := hW
  have hA : DataW.TrodAll enc Try.prog W 0 (fun _ => true) true Try.f5.params.toList args.toList ds p := hA0
  rw [Try.params5] at hA hval hsz
  obtain ⟨v0, vs0, d0, ds0, p0, q0, hargs, rfl, rfl, h0, r0⟩ := trodAll_cons hA
  obtain ⟨v1, vs1, d1, ds1, p1, q1, rfl, rfl, rfl, h1, r1⟩ := trodAll_cons r0
  obtain ⟨v2, vs2, d2, ds2, p2, q2, rfl, rfl, rfl, h2, r2⟩ := trodAll_cons r1
  obtain ⟨v3, vs3, d3, ds3, p3, q3, rfl, rfl, rfl, h3, r3⟩ := trodAll_cons r2
  obtain ⟨v4, vs4, d4, ds4, p4, q4, rfl, rfl, rfl, h4, r4⟩ := trodAll_cons r3
  obtain ⟨v5, vs5, d5, ds5, p5, q5, rfl, rfl, rfl, h5, r5⟩ := trodAll_cons r4
  obtain ⟨v6, vs6, d6, ds6, p6, q6, rfl, rfl, rfl, h6, r6⟩ := trodAll_cons r5
  obtain ⟨rfl, rfl, rfl⟩ := trodAll_nil r6
  obtain rfl : args = #[v0, v1, v2, v3, v4, v5, v6] := by cases args; simp_all
  obtain ⟨rfl, rfl⟩ := trodVars_none hV
  have hsz2 : (DataW.weightsEach Try.prog [22, 22, 23, 41, 3, 3, 3] [d0, d1, d2, d3, d4, d5, d6]).all (· ≤ reachBytes) = true := hsz
  have s0 : (DataW.weights Try.prog 22 d0).all (· ≤ reachBytes) = true := by
    have h := hsz2
    simp only [DataW.weightsEach, List.all_append, Bool.and_eq_true] at h
    exact h.1
  obtain ⟨A0, c0, l0, rfl, y0⟩ := open_slI Try.underlying22 Try.underlying3 (by kernel_rfl) (by kernel_rfl) (hval 0 22 v0 rfl rfl) h0 s0
  have s1 : (DataW.weights Try.prog 22 d1).all (· ≤ reachBytes) = true := by
    have h := hsz2
    simp only [DataW.weightsEach, List.all_append, Bool.and_eq_true] at h
    exact h.2.1
  obtain ⟨A1, c1, l1, rfl, y1⟩ := open_slI Try.underlying22 Try.underlying3 (by kernel_rfl) (by kernel_rfl) (hval 1 22 v1 rfl rfl) h1 s1
  have s2 : (DataW.weights Try.prog 23 d2).all (· ≤ reachBytes) = true := by
    have h := hsz2
    simp only [DataW.weightsEach, List.all_append, Bool.and_eq_true] at h
    exact h.2.2.1
  obtain ⟨A2, c2, l2, rfl, y2a, y2b, y2c, y2d, y2e⟩ := open_ens (hval 2 23 v2 rfl rfl) h2 s2
  have s3 : (DataW.weights Try.prog 41 d3).all (· ≤ reachBytes) = true := by
    have h := hsz2
    simp only [DataW.weightsEach, List.all_append, Bool.and_eq_true] at h
    exact h.2.2.2.1
  obtain ⟨A3, c3, l3, rfl, y3a, y3b, y3c, y3d, y3e⟩ := open_bas (hval 3 41 v3 rfl rfl) h3 s3
  obtain ⟨a4, rfl, rfl, rfl, w4⟩ := open_int Try.underlying3 (hval 4 3 v4 rfl rfl) h4
  obtain ⟨a5, rfl, rfl, rfl, w5⟩ := open_int Try.underlying3 (hval 5 3 v5 rfl rfl) h5
  obtain ⟨a6, rfl, rfl, rfl, w6⟩ := open_int Try.underlying3 (hval 6 3 v6 rfl rfl) h6
  refine (walkLedgerCorrect A0 c0 l0 A1 c1 l1 A2 c2 l2 A3 c3 l3 a4 a5 a6 W y0 y1 y2a y2b y2c y2d y2e y3a y3b y3c y3d y3e (wf_bd w4) (wf_bd w5) (wf_bd w6)).mono fun e W' ⟨he, bel⟩ => ?_
  subst he
  exact ⟨_, rfl, law_post laidOut (by kernel_rfl) rfl 4 rfl Try.underlying4 hW' (fun _ h => by subst h; exact ⟨rfl, rfl, rfl⟩) bel⟩

noncomputable def laidWorld (os : Os) : World := World.holding Try.prog os ⟨#[], #[], []⟩
theorem laid_met (os : Os) : laidMet Try.prog Rows.ledgerCorrectRow.laid ((laidWorld os).forCall (fun _ _ => 0) ⟨#[], #[.slice none 0 0, .slice none 0 0, .slice none 0 0, .slice none 0 0, .int .i64 0, .int .i64 0, .int .i64 0], []⟩).memory :=
  laidMet_of_run' 8 (by kernel_rfl) (by kernel_rfl)
theorem reads (os : Os) {H : Type} (enc : TypeId × Value → H) : ∃ places, DataW.whole enc Try.prog ((laidWorld os).forCall (fun _ _ => 0) ⟨#[], #[.slice none 0 0, .slice none 0 0, .slice none 0 0, .slice none 0 0, .int .i64 0, .int .i64 0, .int .i64 0], []⟩).memory Try.f5.params.toList Rows.ledgerCorrectSpec.vars false #[.slice none 0 0, .slice none 0 0, .slice none 0 0, .slice none 0 0, .int .i64 0, .int .i64 0, .int .i64 0].toList 8 = some ([.nil, .nil, .nil, .nil, .lit (.int .i64 0), .lit (.int .i64 0), .lit (.int .i64 0)], [], places) :=
  ⟨[], by kernel_rfl⟩

set_option maxRecDepth 100000 in
theorem lifted (os : Os) (started : os.Started) (H : Type) (enc : TypeId × Value → H) (F : Stop.Interp) :
    ReturnsInHanded {} Try.checked os 5 .any ((OpenSpec.ofChange Rows.ledgerCorrectSpec).preRow enc Try.prog Try.f5 Rows.ledgerCorrectRow.domain false Rows.ledgerCorrectRow.laid) (((OpenSpec.ofChange Rows.ledgerCorrectSpec).at F).post enc Try.prog Try.f5 false true false false) := by
  obtain ⟨places, hx⟩ := reads os enc
  refine returnsInHanded_of_row (C := Try.checked) (s := OpenSpec.ofChange Rows.ledgerCorrectSpec) own started (by kernel_rfl) Try.func5
    (witness_row_at (enc := enc) (C := Try.checked) false (laidWorld os) #[.slice none 0 0, .slice none 0 0, .slice none 0 0, .slice none 0 0, .int .i64 0, .int .i64 0, .int .i64 0] rfl (by kernel_rfl) (by kernel_rfl) (by kernel_rfl)
      (OpenSpec.preRow_of_cond 8 hx (by kernel_rfl) (fun k hk => by cases hk) (by kernel_rfl) (laid_met os))) ?_
  intro W base args ds gs before hval hW _ _ hsz hL _ _
  exact contract H enc W base args ds gs before hval hW hsz

theorem said : Rows.LedgerCorrectSaid :=
  OpenClaim.holds_of_cond 5 Try.f5 rfl rfl rfl rfl rfl rfl rfl ⟨rfl, rfl, rfl, rfl, rfl⟩ rfl rfl rfl rfl rfl (by kernel_rfl) Try.func5 (by kernel_rfl)
    (of_decide_eq_true (by kernel_rfl)) (by unfold Func.isWrapper; first | (rw [if_pos (by decide +kernel)]; kernel_rfl) | (rw [if_neg (by decide +kernel)]; exact ⟨rfl, rfl⟩))
    (fun os started H enc _ F => by rw [OpenClaim.pre_eq_preRow]; exact lifted os started H enc F)
#print axioms said
end Go.Proofs.Ytefphkefgfoklaa.ledgerCorrect
