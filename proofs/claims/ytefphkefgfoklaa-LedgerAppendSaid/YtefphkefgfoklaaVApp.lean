/- The law LedgerAppend: the walk. -/
import Derived.Test.YtefphkefgfoklaaHp
import Derived.Deep.CutBlock
namespace Go.Proofs.Ytefphkefgfoklaa
open Go.RowKit
set_option linter.unusedVariables false

theorem wd_below {w wd : World} {g : Nat} {v : Value} {y : En} {L : List En} (h : SA w wd g v y L) : Below w.heap.size w wd := h.bel
namespace ledgerAppend
set_option maxRecDepth 100000 in
set_option maxHeartbeats 2000000 in
theorem law (A Am Ar : Option Addr) (c cm cr : Nat) (l m : List Int) (R : List En) (x : En) (wild : Int) (w : World) (h : SlI w A c l) (hm : SlI w Am cm m) (hr : Rd w Ar (ensCs R)) (hrc : R.length ≤ cr) (hrm : cr ≤ maxLen) (hrl : R.length ≤ 5000000000000) :
    Calls Try.prog 6 #[.slice A l.length c, .slice Am m.length cm, .slice Ar R.length cr, enV x, .int .i64 wild] w fun e w' => e = .returned (.bool true) ∧ Below w.heap.size w w' := by
  have q0 := (Below.refl w.heap.size w).alloc (Nat.le_refl _) (.cells #[.int .i64 x.num, .int .i64 x.day, .int .i64 x.kind, .int .i64 x.lot, .int .i64 x.amt, .int .i64 x.cause] 26)
  have g0 := heap_alloc_new w (.cells #[.int .i64 x.num, .int .i64 x.day, .int .i64 x.kind, .int .i64 x.lot, .int .i64 x.amt, .int .i64 x.cause] 26)
  have z0 : (w.alloc (.cells #[.int .i64 x.num, .int .i64 x.day, .int .i64 x.kind, .int .i64 x.lot, .int .i64 x.amt, .int .i64 x.cause] 26)).heap.size = w.heap.size + 1 := by simp
  have r0 := ((RdN.of_rd hr).below q0)
  unfold enV
  generalize hW : w.alloc (.cells #[.int .i64 x.num, .int .i64 x.day, .int .i64 x.kind, .int .i64 x.lot, .int .i64 x.amt, .int .i64 x.cause] 26) = W0 at q0 g0 z0 r0
  have HLG := Lib.hid (ledger_any A c l W0 (h.below q0))
  have HQ0 := Lib.hid q0
  have HG0 := Lib.hid g0
  have HZ0 := Lib.hid z0
  have HR0 := Lib.hid r0
  have HM := Lib.hid hm
  have HRC := Lib.hid (And.intro hrc (And.intro hrm hrl))
  have HML := Lib.hid hm.lt
  have HAW := Lib.hid (fun W => awake_any W)
  clear h hm hr hrc hrm hrl q0 g0 z0 r0
  go_enter Try.func6, Try.ntmps6
  go_wp2_with fail
  refine HLG.out.mono ?_
  rintro e w1 ⟨v, L, rfl, hE, hv, hL, hb⟩
  obtain ⟨Av, cv, rfl, hrd, hlc, hcm⟩ := hE.rdn (g := w.heap.size) (by have := HZ0.out; omega)
  have S1 := Lib.hid (SA.mk0 (y := x) hrd hlc hcm (by omega) ((hb.block _ (by have := HZ0.out; omega)).trans HG0.out) (HQ0.out.trans (hb.mono HQ0.out.size)) (Nat.le_refl _))
  have S2 := Lib.hid (SA.mk0 (y := x) (HR0.out.below hb) HRC.out.1 HRC.out.2.1 HRC.out.2.2 ((hb.block _ (by have := HZ0.out; omega)).trans HG0.out) (HQ0.out.trans (hb.mono HQ0.out.size)) (Nat.le_refl _))
  clear hE hv hL hb hrd hlc hcm HLG HR0 HG0 HQ0 HZ0 hW
  go_upto_if 20 with (fail)
  go_cut [11] (fun s11 wx => ∃ L, SA w wx w.heap.size s11 x L)
  case first =>
    rcases hcb : (bits BinOp.and IntKind.i64 wild 1 == 1) with _ | _
    · go_wp2_with fail
      go_meet
      exact ⟨L, S1.out⟩
    · go_wp2_with fail
      go_meet
      exact ⟨R, S2.out⟩
  case rest =>
    obtain ⟨wd, rfl⟩ : ∃ x, x = wc := ⟨_, rfl⟩
    obtain ⟨L, hS⟩ := hcut
    obtain ⟨A1, c1, rfl, hs1, hlc1, hcm1⟩ := hS.ens
    have HS := Lib.hid hS
    have HC1 := Lib.hid (And.intro hlc1 hcm1)
    have hll := hS.len
    clear hS hs1 hlc1 hcm1 S1 S2
    go_upto_if 24 with (fail)
    go_cut [] (fun wx => ∃ y, SA w wx w.heap.size (.slice A1 L.length c1) y L)
    case first =>
      rcases hcb : (bits BinOp.and IntKind.i64 wild 2 == 0) with _ | _
      · go_wp2_with fail
        go_meet
        exact ⟨x, HS.out⟩
      · have HE := Lib.hid (srcEntry_any wd.heap.size Am cm m 0 L.length _ (src_new HM.out (wd_below HS.out) (by have := HML.out; omega)) (by omega) (by omega))
        have hq := (Below.refl wd.heap.size wd).alloc (Nat.le_refl _) (.cells #[.slice Am m.length cm, .int .i64 0] 30)
        have HQ := Lib.hid hq
        clear hq
        go_wp2_with fail
        refine HE.out.mono ?_
        rintro e w2 ⟨z, i2, rfl, hmd, hS2, hT2, hF2⟩
        have S2 := HS.out.below (HQ.out.trans (hT2.below (Nat.le_refl _) HQ.out.size))
        obtain ⟨⟨k0, k1, k2, k3, k4, k5⟩, f0, f1, f2, f3, f4, f5⟩ := S2.cells
        have S3 := S2.put z
        unfold put6 at S3
        have HMD := Lib.hid hmd.1
        have hgl := S2.lt
        clear HE hmd hS2 hT2 hF2
        unfold enV
        have S2 := Lib.hid S2
        have S3 := Lib.hid S3
        clear HQ
        go_upto_if 33 with (fail)
        have S4 := S3.out
        generalize ((((((w2.setCell ⟨w.heap.size, 0, none⟩ (.int .i64 z.num)).setCell ⟨w.heap.size, 1, none⟩ (.int .i64 z.day)).setCell ⟨w.heap.size, 2, none⟩ (.int .i64 z.kind)).setCell ⟨w.heap.size, 3, none⟩ (.int .i64 z.lot)).setCell ⟨w.heap.size, 4, none⟩ (.int .i64 z.amt)).setCell ⟨w.heap.size, 5, none⟩ (.int .i64 z.cause)) = W3 at S4 ⊢
        clear S2 S3 k0 k1 k2 k3 k4 k5 f0 f1 f2 f3 f4 f5 hgl
        have hgl := S4.lt
        have k0 := S4.cells.1.1
        have f0 := S4.cells.2.1
        rw [HMD.out] at k0
        have S5 := Lib.hid (S4.set 0 (.int .i64 ((L.length : Int) + 1 + 1)) (z := { z with num := (L.length : Int) + 1 + 1 }) rfl)
        have S4 := Lib.hid S4
        rcases hcc : (bits BinOp.and IntKind.i64 wild 4 == 4) with _ | _
        · go_wp2_with fail
          go_meet
          exact ⟨z, S4.out⟩
        · go_wp2_with fail
          go_meet
          exact ⟨_, S5.out⟩
    case rest =>
      obtain ⟨we, rfl⟩ : ∃ x, x = wc := ⟨_, rfl⟩
      obtain ⟨y, hS⟩ := hcut
      by_cases h60 : L.length ≤ 60
      · obtain ⟨A', c', he, hsl, _, _⟩ := hS.sl (by omega)
        injection he with he _ he2
        subst he; subst he2
        have HAP := Lib.hid ((append_any A1 c1 L y we hsl).mono fun e w' (ha : AppRet L y we e w') => ha.x.res (by omega))
        have HRA := Lib.hid (fun (W : World) (hb : Below we.heap.size we W) => (refAppend_any A1 c1 L y W (hsl.below hb) HC1.out.1 HC1.out.2).mono fun e w' (ha : AppX L y W e w') => ha.res (by omega))
        have HVA := Lib.hid (fun (W : World) (hb : Below we.heap.size we W) => validate_any A1 c1 L W (hsl.below hb))
        have HRL := Lib.hid (fun (W : World) (hb : Below we.heap.size we W) => refLedger_any A1 c1 L W (hsl.below hb) HC1.out.1 HC1.out.2)
        obtain ⟨⟨k0, k1, k2, k3, k4, k5⟩, f0, f1, f2, f3, f4, f5⟩ := hS.cells
        have HSS := Lib.hid hS
        clear hS hsl
        generalize resF L y = K at HAP HRA
        generalize ledF (L ++ [y]) = er at HAP HRA
        generalize ledF L = el at HVA HRL
        unfold enV at *
        go_wp2_with fail
        refine HAP.out.mono ?_
        rintro e w3 ⟨A3, c3, rfl, hb3, hs3⟩
        obtain ⟨⟨m0, m1, m2, m3, m4, m5⟩, g0, g1, g2, g3, g4, g5⟩ := (HSS.out.below hb3).cells
        have HB3 := Lib.hid hb3
        have H3 := Lib.hid hs3
        clear hb3 hs3 k0 k1 k2 k3 k4 k5 f0 f1 f2 f3 f4 f5 HAP
        go_wp2_with fail
        refine (HRA.out w3 HB3.out).mono ?_
        rintro e w4 ⟨A4, c4, rfl, hb4, hs4⟩
        have HB4 := Lib.hid (HB3.out.trans (hb4.mono HB3.out.size))
        have H4 := Lib.hid hs4
        have H3 := Lib.hid (H3.out.below hb4)
        clear hb4 hs4 m0 m1 m2 m3 m4 m5 g0 g1 g2 g3 g4 g5 HRA
        go_wp2_with fail
        refine (HVA.out w4 HB4.out).mono ?_
        rintro e w5 ⟨rfl, hb5⟩
        have HB5 := Lib.hid (HB4.out.trans (hb5.mono HB4.out.size))
        have H4 := Lib.hid (H4.out.below hb5)
        have H3 := Lib.hid (H3.out.below hb5)
        clear hb5
        go_wp2_with fail
        refine (HRL.out w5 HB5.out).mono ?_
        rintro e w6 ⟨rfl, hb6⟩
        have HB6 := Lib.hid (HB5.out.trans (hb6.mono HB5.out.size))
        have HSM := Lib.hid (sameLedger_any A3 A4 c3 c4 K w6 (H3.out.below hb6) (H4.out.below hb6))
        clear hb6 H3 H4
        go_wp2_with fail
        refine HSM.out.mono ?_
        rintro e w7 ⟨rfl, hq7⟩
        have HB7 := Lib.hid (HB6.out.trans (hq7.below _))
        clear hq7
        go_wp2_with fail
        refine (HAW.out w7).mono ?_
        rintro e w8 ⟨rfl, hb8⟩
        have HB8 := Lib.hid (HB7.out.trans (hb8.mono HB7.out.size))
        go_wp2_with fail
        go_ret
        exact ⟨rfl, (HSS.out.below HB8.out).bel⟩
      · have HSS := Lib.hid hS
        clear hS
        go_wp2_with fail
        refine (HAW.out we).mono ?_
        rintro e w8 ⟨rfl, hb8⟩
        have HB8 := Lib.hid (HSS.out.below hb8).bel
        go_wp2_with fail
        go_ret
        exact ⟨rfl, HB8.out⟩
theorem walkLedgerAppend (A : Option Addr) (c : Nat) (l : List Int) (Am : Option Addr) (cm : Nat) (m : List Int) (Ar : Option Addr) (cr : Nat) (R : List En) (x : En) (wild : Int) (w : World) (h : SlI w A c l) (hm : SlI w Am cm m)
    (hrc : R.length ≤ cr) (hrm : cr ≤ maxLen) (hrl : R.length ≤ 5000000000000) (hre : ∀ x ∈ R, EBd x) (hr : Rd w Ar (ensCs R)) (hx : EBd x) (hw : -9223372036854775808 ≤ wild ∧ wild ≤ 9223372036854775807) :
    Calls Try.prog 6 #[.slice A l.length c, .slice Am m.length cm, .slice Ar R.length cr, enV x, .int .i64 wild] w fun e w' => e = .returned (.bool true) ∧ Below w.heap.size w w' :=
  law A Am Ar c cm cr l m R x wild w h hm hr hrc hrm hrl
end ledgerAppend
end Go.Proofs.Ytefphkefgfoklaa
