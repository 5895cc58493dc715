/- The law LedgerFold: the walk. -/
import Derived.Test.YtefphkefgfoklaaHr
namespace Go.Proofs.Ytefphkefgfoklaa
open Go.RowKit
set_option linter.unusedVariables false

namespace ledgerFold
set_option maxRecDepth 100000 in
set_option maxHeartbeats 2000000 in
theorem law (A Am : Option Addr) (c cm : Nat) (l m : List Int) (w : World) (h : SlI w A c l) (hm : SlI w Am cm m) :
    Calls Try.prog 3 #[.slice A l.length c, .slice Am m.length cm] w fun e w' => e = .returned (.bool true) ∧ Below w.heap.size w w' := by
  have HLG := Lib.hid (ledger_any A c l w h)
  have HM := Lib.hid hm
  have HML := Lib.hid hm.lt
  have HAW := Lib.hid (fun W => awake_any W)
  clear h hm
  go_enter Try.func3, Try.ntmps3
  go_wp2_with fail
  refine HLG.out.mono ?_
  rintro e w1 ⟨v, L, rfl, hE, hv, hL, hb⟩
  have HE := Lib.hid hE
  obtain ⟨A1, c1, rfl, _, hlc, hcm, _⟩ := hE
  have HC := Lib.hid (And.intro hlc (show c1 ≤ 9223372036854775807 by unfold maxLen at hcm; omega))
  have HV := Lib.hid hv
  have HB := Lib.hid hb
  have HEN := Lib.hid (srcEntry_any w1.heap.size Am cm m 0 L.length _ (src_new HM.out hb (by have := HML.out; omega)) (by omega) (by omega))
  have HQ := Lib.hid ((Below.refl w1.heap.size w1).alloc (Nat.le_refl _) (.cells #[.slice Am m.length cm, .int .i64 0] 30))
  clear hv hb hlc hcm HLG
  go_wp2_with fail
  refine HEN.out.mono ?_
  rintro e w2 ⟨x, i2, rfl, hmd, hS2, hT2, hF2⟩
  have hb2 := HQ.out.trans (hT2.below (Nat.le_refl _) HQ.out.size)
  have S3 := SA.start (x := x) HE.out (by omega) HB.out hb2 rfl
  have HMR := Lib.hid (made_range hmd)
  clear HEN hmd hS2 hT2 hF2 HQ
  have HAP := Lib.hid ((append_any A1 c1 L x _ (S3.slA (by omega))).mono fun e w' ha => ha.x)
  have HSS := Lib.hid S3
  clear S3 hb2
  unfold enV at *
  go_wp2_with fail
  refine HAP.out.mono ?_
  rintro e w4 ⟨v4, rfl, hb4, hbad, hgood⟩
  have S4 := HSS.out.below hb4
  clear HAP HSS hb4
  generalize w2.heap.size = g at S4 hgood ⊢
  by_cases hz : ledF (L ++ [x]) = 0
  · rw [hz]
    have HZ := Lib.hid hz
    obtain ⟨A4, c4, rfl, hr4, hlc4, hcm4, _⟩ := hgood hz
    have HY := Lib.hid (show SlE w4 A4 (L ++ [x]) from ⟨hr4, by simp; omega⟩)
    have HX := Lib.hid (show SlE w4 A4 L from SlE.front ⟨hr4, by simp; omega⟩)
    have HL4 := Lib.hid (S4.slA (by omega))
    have HC4 := Lib.hid (And.intro hlc4 hcm4)
    obtain ⟨⟨k0, k1, k2, k3, k4, k5⟩, f0, f1, f2, f3, f4, f5⟩ := S4.cells
    obtain ⟨b4, o4, rfl, e0, e1, e2, e3, e4, e5⟩ := hr4.en (k := L.length) (x := x) (by simp)
    have hcut := fun W => headE_run W (some ⟨b4, o4, none⟩) (L.length + 1) c4 L.length (by simp at hlc4; omega)
    have HS4 := Lib.hid S4
    have hlen : ((L ++ [x]).length : Nat) = L.length + 1 := by simp
    have hlen2 : (((L.length + 1 : Nat) : Int) != (L.length : Int) + 1) = false := by simp
    have HSM := Lib.hid (fun W (hq : Quiet w4 W) => sameLedger_any (some ⟨b4, o4, none⟩) A1 c4 c1 L W (HX.out.below (hq.below _)) (HL4.out.below (hq.below _)))
    clear hz hgood hbad hr4 hlc4 hcm4 S4
    rw [hlen]
    clear hlen
    have HSTEP := Lib.hid (bal_step HZ.out)
    have HEF := Lib.hid (eff_small HZ.out)
    have HREV := Lib.hid (rev_of HZ.out hL)
    have HPL := Lib.hid (eff_plain (x := L) (e := x))
    have HR9 := Lib.hid (show x.kind = 9 → 1 ≤ x.amt ∧ x.amt ≤ (L.length : Int) from fun h9 => by obtain ⟨kk, hk, hk2, _⟩ := HREV.out h9; omega)
    have HLOT := Lib.hid (show 1 ≤ x.lot ∧ x.lot ≤ 1000000 from (range_iff.1 HMR.out).2.2.1)
    go_wp2_with fail
    go_quiet ((go_at_call 13; exact quietQ (HSM.out _ ⟨_, rfl⟩)))
    go_wp2_with fail
    go_quiet (fail)
    generalize hxa : x.amt = xa at *
    have HXA := Lib.hid hxa
    clear hxa
    go_upto_if 64 with (fail)
    go_cut [9, 10] (fun s9 s10 wx => (s9 = .int .i64 (effK L x) ∧ s10 = .int .i64 (effA L x)) ∧ Below w4.heap.size w4 wx)
    case first =>
      by_cases h9 : x.kind = 9
      · have h9' : (x.kind == 9) = true := by simpa using h9
        obtain ⟨kk, hkk, hkl, z, hz, ek, ea, za0, za1⟩ := HREV.out h9
        have hzz := HL4.out.rd.en hz
        obtain ⟨b1, o1, rfl, y0, y1, y2, y3, y4, y5⟩ := hzz
        obtain rfl : xa = (kk : Int) + 1 := hkk
        have HEK := Lib.hid ek
        have HEA := Lib.hid ea
        clear hz ek ea h9
        obtain ⟨zn, zd, zk, zl, za, zc⟩ := z
        simp only at y0 y1 y2 y3 y4 y5 za0 za1
        have hq := (Quiet.refl w4).drewN 0
        go_wp2_with fail
        go_quiet (fail)
        go_wp2_with fail
        go_meet
        exact ⟨⟨by rw [HEK.out], by rw [HEA.out]⟩, (by first | exact drewN_below (Below.refl _ _) _ | exact drewN_below (drewN_below (Below.refl _ _) _) _ | exact drewN_below (drewN_below (drewN_below (Below.refl _ _) _) _) _)⟩
      · have h9' : (x.kind == 9) = false := by simpa using h9
        have HE9 := Lib.hid (HPL.out h9)
        clear h9
        go_wp2_with fail
        go_meet
        exact ⟨⟨by rw [HE9.out.1], by rw [HE9.out.2]⟩, (by first | exact drewN_below (Below.refl _ _) _ | exact drewN_below (drewN_below (Below.refl _ _) _) _ | exact drewN_below (drewN_below (drewN_below (Below.refl _ _) _) _) _)⟩
    case rest =>
      obtain ⟨wa, rfl⟩ : ∃ x, x = wc := ⟨_, rfl⟩
      obtain ⟨⟨rfl, rfl⟩, hba⟩ := hcut
      have HBA := Lib.hid hba
      have HBX : Hid (∀ lot : Int, 1 ≤ lot → lot ≤ 5 → ∀ W, Below w4.heap.size w4 W → Calls Try.prog 14 #[.slice A1 L.length c1, .int .i64 lot] W fun e w' => e = .returned (baV lot (balF L lot)) ∧ Below W.heap.size W w') := Lib.hid fun lot h1 h5 W hb => by
        have := balanceOf_any A1 c1 L lot W (HL4.out.below hb) (by omega) (by omega)
        unfold bofF at this
        rw [if_pos HV.out] at this
        exact this
      have HBY0 : Hid (∀ lot : Int, 1 ≤ lot → lot ≤ 5 → ∀ W, Below w4.heap.size w4 W → Calls Try.prog 14 #[.slice (some ⟨b4, o4, none⟩) (L.length + 1) c4, .int .i64 lot] W fun e w' => e = .returned (baV lot (balF (L ++ [x]) lot)) ∧ Below W.heap.size W w') := Lib.hid fun lot h1 h5 W hb => by
        have := balanceOf_any (some ⟨b4, o4, none⟩) c4 (L ++ [x]) lot W (HY.out.below hb) (by omega) (by omega)
        unfold bofF at this
        rw [if_pos HZ.out] at this
        simpa using this
      have HWI := Lib.hid (fun lot => bal_small HV.out (by omega) lot)
      clear hba e0 e1 e2 e3 e4 e5 k0 k1 k2 k4 k5 f0 f1 f2 f3 f4 f5 hcut hlen2 HREV HPL HR9
      have hgl := HS4.out.lt
      generalize effK L x = ek at *
      generalize effA L x = ea at *
      obtain ⟨ea0, ea1⟩ := HEF.out
      go_wp2_with fail
      go_loopg [11] 5 (fun gg i wr => ∃ lot : Int, 1 ≤ lot ∧ lot + gg = 6 ∧ i = .int .i64 lot ∧ Below w4.heap.size w4 wr)
      case atStart => exact ⟨1, by omega, by omega, rfl, HBA.out⟩
      case round =>
        obtain ⟨lot, hl1, hlg, rfl, hbr⟩ := hrel
        have HBR := Lib.hid hbr
        have HG := Lib.hid hlg
        have hl6 : lot ≤ 6 := by omega
        have k3r := (HS4.out.below hbr).cells.1.2.2.2.1
        clear hbr hlg k3
        by_cases hl5 : lot ≤ 5
        · have HBL := Lib.hid (HBX.out lot hl1 hl5)
          have HBY := Lib.hid (HBY0.out lot hl1 hl5)
          have HST := Lib.hid (HSTEP.out lot)
          have HWL := HWI.out lot
          generalize balF (L ++ [x]) lot = T at HBY HST
          generalize balF L lot = B at HBL HST HWL
          obtain ⟨t0, t1, t2, t3⟩ := T
          obtain ⟨bo, bs, bp, br⟩ := B
          have HWL := Lib.hid HWL
          unfold baV at HBL HBY
          simp only at HBL HBY
          go_wp2_with fail
          refine (HBL.out wr HBR.out).mono ?_
          rintro e w7 ⟨rfl, hb7⟩
          have HB7 := Lib.hid (HBR.out.trans (hb7.mono HBR.out.size))
          have k3 := (HS4.out.below HB7.out).cells.1.2.2.2.1
          have hq7 := (Below.refl w7.heap.size w7).alloc (Nat.le_refl _) (.cells #[.int .i64 lot, .int .i64 bo, .int .i64 bs, .int .i64 bp, .int .i64 br] 37)
          have hg7 := heap_alloc_new w7 (.cells #[.int .i64 lot, .int .i64 bo, .int .i64 bs, .int .i64 bp, .int .i64 br] 37)
          have HQ7 := Lib.hid hq7
          have HG7 := Lib.hid hg7
          have hgw := (HS4.out.below HB7.out).lt
          clear hb7 hq7 hg7 k3r
          go_upto_if 96 with (fail)
          generalize hV : w7.alloc (.cells #[.int .i64 lot, .int .i64 bo, .int .i64 bs, .int .i64 bp, .int .i64 br] 37) = w8 at HQ7 HG7 ⊢
          clear hV
          generalize hgb : w7.heap.size = gb at HQ7 HG7 ⊢
          have HGB := Lib.hid hgb
          clear hgb
          have HB8 := Lib.hid (show Below w4.heap.size w4 w8 from HB7.out.trans (HQ7.out.mono (by rw [← HGB.out]; exact HB7.out.size)))
          have hgb8 := (Array.getElem?_eq_some_iff.1 HG7.out).1
          clear k3
          go_cut [] (fun wx => wx.heap[gb]? = some (.cells #[.int .i64 lot, .int .i64 t0, .int .i64 t1, .int .i64 t2, .int .i64 t3] 37 (0, 0)) ∧ Below w4.heap.size w4 wx)
          case first =>
            have hst := HST.out
            by_cases hx : x.lot = lot
            · rw [if_pos hx] at hst
              have hd : (lot == x.lot) = true := by simpa using hx.symm
              have HBAF := refAfter_any lot ⟨bo, bs, bp, br⟩ ek ea w8 HWL.out (by omega)
              rw [← hst] at HBAF
              unfold baV at HBAF
              simp only at HBAF
              have HBAF := Lib.hid HBAF
              obtain ⟨⟨m0, m1, m2, m3, m4⟩, n0, n1, n2, n3, n4⟩ := row5 HG7.out
              clear hst hx
              go_wp2_with fail
              refine HBAF.out.mono ?_
              rintro e w9 ⟨rfl, hb9⟩
              have hr9 := (hb9.block gb hgb8).trans HG7.out
              have HB9 := Lib.hid (HB8.out.trans (hb9.mono HB8.out.size))
              have HR9 := Lib.hid hr9
              clear m0 m1 m2 m3 m4 n0 n1 n2 n3 n4
              obtain ⟨⟨m0, m1, m2, m3, m4⟩, n0, n1, n2, n3, n4⟩ := row5 hr9
              have hgb9 := (Array.getElem?_eq_some_iff.1 hr9).1
              clear hb9 hr9
              go_wp2_with fail
              go_meet
              exact ⟨put5_row w9 gb _ _ _ _ _ _ _ _ _ _ _ HR9.out, put5_below w4 HB9.out (by rw [← HGB.out]; exact HB7.out.size) _ _ _ _ _⟩
            · rw [if_neg hx] at hst
              have hd : (lot == x.lot) = false := by simpa using fun h => hx h.symm
              obtain ⟨h0, h1, h2, h3⟩ := Ba.mk.inj hst
              clear hst hx
              go_wp2_with fail
              go_meet
              exact ⟨by rw [h0, h1, h2, h3]; exact HG7.out, HB8.out⟩
          case rest =>
            obtain ⟨wd, rfl⟩ : ∃ x, x = wc := ⟨_, rfl⟩
            obtain ⟨hrow, hbd⟩ := hcut
            have HBD := Lib.hid hbd
            have hgb := (Array.getElem?_eq_some_iff.1 hrow).1
            have HROW := Lib.hid hrow
            clear hbd
            go_wp2_with fail
            refine wp_region_x 5 (by kernel_rfl) (fun W => W.heap[gb]? = some (.cells #[.int .i64 lot, .int .i64 t0, .int .i64 t1, .int .i64 t2, .int .i64 t3] 37 (0, 0))) ?_
            refine wpAnyX_take (i := 0) (v := .slice (some ⟨b4, o4, none⟩) (L.length + 1) c4) rfl (by kernel_rfl) (by kernel_rfl) (by kernel_rfl) (by kernel_rfl) (fun _ _ _ h => h) hrow (Or.inl ⟨by rfl, fun w hS => by go_simp⟩) ?_
            go_simp
            refine wpAnyX_take (i := 1) (v := .int .i64 lot) rfl (by kernel_rfl) (by kernel_rfl) (by kernel_rfl) (by kernel_rfl) (fun _ _ _ h => h) hrow (Or.inl ⟨by rfl, fun w hS => by go_simp⟩) ?_
            go_simp
            refine wpAnyX_take (i := 3) (v := .agg #[.int .i64 lot, .int .i64 t0, .int .i64 t1, .int .i64 t2, .int .i64 t3]) rfl (by kernel_rfl) (by kernel_rfl) (by kernel_rfl) (by kernel_rfl) (fun _ _ _ h => h) hrow (Or.inl ⟨by rfl, fun w hS => by (obtain ⟨⟨m0, m1, m2, m3, m4⟩, _⟩ := row5 hS; go_simp)⟩) ?_
            go_simp
            refine wpAnyX_one (i := 2) (by kernel_rfl) rfl (fun K hK => ?_)
            go_simp
            go_wp2_with (go_at_call 14; refine (HBY.out wd.drew (quiet_to HBD.out)).mono ?_; rintro e w9 ⟨rfl, hb9⟩)
            refine hK.out _ _ (fun _ => ((hb9.block gb hgb).trans hrow)) ?_
            clear hK K
            refine wpAnyX_take (i := 4) (v := .bool false) rfl (by kernel_rfl) (by kernel_rfl) (by kernel_rfl) (by kernel_rfl) (fun _ _ _ h => h) ((hb9.block gb hgb).trans hrow) (Or.inl ⟨by rfl, fun w hS => by go_simp⟩) ?_
            go_simp
            refine wpAnyX_done (by kernel_rfl) ?_
            have HB9 := Lib.hid ((quiet_to HBD.out).trans (hb9.mono (quiet_to HBD.out).size))
            clear hb9
            go_wp2_with fail
            go_roundg (gk - 1)
            case measure => have := HG.out; omega
            case rel => exact ⟨lot + 1, by omega, by have := HG.out; omega, by go_num, HB9.out⟩
        · go_wp2_with fail
          refine (HAW.out wr).mono ?_
          rintro e w12 ⟨rfl, hb12⟩
          have HB12 := Lib.hid ((HS4.out.below HBR.out).below hb12).bel
          go_wp2_with fail
          go_ret
          exact ⟨rfl, HB12.out⟩
  · have hbad := hbad hz
    subst hbad
    have hz1 : (ledF (L ++ [x]) != 0) = true := by simpa using hz
    have HS4 := Lib.hid S4
    clear S4 hz hgood
    generalize ledF (L ++ [x]) = er at hz1 ⊢
    go_wp2_with fail
    refine (HAW.out w4).mono ?_
    rintro e w12 ⟨rfl, hb12⟩
    have HB12 := Lib.hid (HS4.out.below hb12).bel
    go_wp2_with fail
    go_ret
    exact ⟨rfl, HB12.out⟩
theorem walkLedgerFold (A : Option Addr) (c : Nat) (l : List Int) (Am : Option Addr) (cm : Nat) (m : List Int) (w : World) (h : SlI w A c l) (hm : SlI w Am cm m) :
    Calls Try.prog 3 #[.slice A l.length c, .slice Am m.length cm] w fun e w' => e = .returned (.bool true) ∧ Below w.heap.size w w' := law A Am c cm l m w h hm
end ledgerFold
end Go.Proofs.Ytefphkefgfoklaa
