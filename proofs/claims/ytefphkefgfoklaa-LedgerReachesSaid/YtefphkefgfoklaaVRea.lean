/- The law LedgerReaches: the walk. -/
import Derived.Test.YtefphkefgfoklaaHu
namespace Go.Proofs.Ytefphkefgfoklaa
open Go.RowKit
set_option linter.unusedVariables false

theorem EnsAt.sle {B : Nat} {w : World} {A : Option Addr} {n c : Nat} {l : List En} (h : EnsAt B w (.slice A n c) l) (hl : l.length ≤ 1000000000) : n = l.length ∧ SlE w A l ∧ l.length ≤ c ∧ c ≤ maxLen := by
  obtain ⟨A', c', e, h1, h2, h3, _⟩ := h
  injection e with e1 e2 e3
  subst e1; subst e3
  exact ⟨e2, ⟨h1, hl⟩, h2, h3⟩
theorem alloc3 (w : World) (a b c : Obj) : (((w.alloc a).alloc b).alloc c).heap[w.heap.size]? = some a ∧ (((w.alloc a).alloc b).alloc c).heap[w.heap.size + 1]? = some b ∧ (((w.alloc a).alloc b).alloc c).heap[w.heap.size + 1 + 1]? = some c ∧ Below w.heap.size w (((w.alloc a).alloc b).alloc c) := by
  refine ⟨?_, ?_, ?_, (((Below.refl _ _).alloc (Nat.le_refl _) _).alloc (by simp) _).alloc (by simp; omega) _⟩
  · rw [Below.heap_alloc _ _ _ (by simp; omega), Below.heap_alloc _ _ _ (by simp)]
    exact heap_alloc_new w a
  · rw [Below.heap_alloc _ _ _ (by simp)]
    simpa using heap_alloc_new (w.alloc a) b
  · simpa using heap_alloc_new ((w.alloc a).alloc b) c
namespace ledgerReaches
set_option maxRecDepth 100000 in
set_option maxHeartbeats 2000000 in
theorem law (A Am : Option Addr) (c cm : Nat) (l m : List Int) (day : Int) (w : World) (h : SlI w A c l) (hm : SlI w Am cm m) :
    Calls Try.prog 7 #[.slice A l.length c, .slice Am m.length cm, .int .i64 day] w fun e w' => e = .returned (.bool true) ∧ Below w.heap.size w w' := by
  have HLG := Lib.hid (ledger_small A c l w h)
  have HTG := Lib.hid (fun W (hb : Below w.heap.size w W) => targets_any Am cm m W (hm.below hb))
  have HWI := Lib.hid (fun W => within_any day 90 W (by omega) (by omega))
  have HD := Lib.hid (And.intro (Int.emod_nonneg day (by omega : (90 : Int) ≠ 0)) (Int.emod_lt_of_pos day (by omega : (0 : Int) < 90)))
  have HAW := Lib.hid (fun W => awake_any W)
  generalize day % 90 = dd at HWI HD
  clear h hm
  go_enter Try.func7, Try.ntmps7
  go_wp2_with fail
  refine HLG.out.mono ?_
  rintro e w1 ⟨v, L, rfl, hE, hv, hL, hsm, hb⟩
  obtain ⟨A1, c1, rfl, hr1, hlc, hcm, _⟩ := hE
  have HB1 := Lib.hid hb
  have HS1 := Lib.hid (show SlE w1 A1 L from ⟨hr1, by omega⟩)
  have HV := Lib.hid hv
  have HSMA := Lib.hid hsm
  clear hv hb hsm hr1 hcm HLG
  go_wp2_with fail
  refine (HTG.out w1 HB1.out).mono ?_
  rintro e w2 ⟨A2, c2, t, rfl, hr2, hmt, _, hb2⟩
  have HB2 := Lib.hid (HB1.out.trans (hb2.mono HB1.out.size))
  have HS2 := Lib.hid (HS1.out.below hb2)
  have HT2 := Lib.hid hr2
  have HOK := Lib.hid (cor_ok (day := dd) HV.out hL HSMA.out hmt HD.out)
  have htl : t.length ≤ 40 := hmt.len
  clear hr2 hmt hb2 HTG
  go_wp2_with fail
  refine (HWI.out w2).mono ?_
  rintro e w' ⟨rfl, rfl⟩
  have HC1 := Lib.hid (correct_any A1 c1 L dd 1 A2 c2 t w2 HS2.out HT2.out (by omega))
  go_wp2_with fail
  refine HC1.out.mono ?_
  rintro e w3 ⟨v3, he, hb3, _, hgood⟩
  rw [HOK.out.err] at he
  subst he
  have hE3 := hgood HOK.out.err
  rw [HOK.out.res] at hE3
  generalize corF L dd 1 t = M at hE3 HOK
  obtain ⟨A3, c3, rfl, hr3, hlc3, hcm3, _⟩ := hE3
  have hml := HOK.out.len
  have HS3 := Lib.hid (show SlE w3 A3 M from ⟨hr3, by omega⟩)
  have HB3 := Lib.hid (HB2.out.trans (hb3.mono HB2.out.size))
  have HL3 := Lib.hid (HS2.out.below hb3)
  have HT3 := Lib.hid (HT2.out.below hb3)
  obtain ⟨rr, hrr⟩ := HOK.out.pre
  have hlm : L.length ≤ M.length := by rw [hrr, List.length_append]; omega
  have HF3 := Lib.hid (show SlE w3 A3 L from SlE.front (r := rr) (by rw [← hrr]; exact HS3.out))
  have hcut := fun W => headE_run W A3 M.length c3 L.length (by omega)
  have HSM := Lib.hid (fun W (hb : Below w3.heap.size w3 W) => sameLedger_any A3 A1 c3 c1 L W (HF3.out.below hb) (HL3.out.below hb))
  have HVA := Lib.hid (fun W (hb : Below w3.heap.size w3 W) => validate_any A3 c3 M W (HS3.out.below hb))
  rw [HOK.out.led] at HVA
  have hdl : decide (M.length < L.length) = false := by simp; omega
  clear hb3 hgood hr3 hcm3 hrr HC1
  go_wp2_with fail
  refine (HSM.out w3 (Below.refl _ _)).mono ?_
  rintro e w4 ⟨rfl, hq4⟩
  have HB4 := Lib.hid (hq4.below w3.heap.size)
  clear hq4
  go_wp2_with fail
  refine (HVA.out w4 HB4.out).mono ?_
  rintro e w5 ⟨rfl, hb5⟩
  have HB5 := Lib.hid (HB4.out.trans (hb5.mono HB4.out.size))
  clear hb5
  go_wp2_with fail
  have HBX : Hid (∀ lot : Int, 1 ≤ lot → lot ≤ 100 → ∀ W, Below w3.heap.size w3 W → Calls Try.prog 14 #[.slice A1 L.length c1, .int .i64 lot] W fun e w' => e = .returned (baV lot (balF L lot)) ∧ Below W.heap.size W w') := Lib.hid fun lot h1 h5 W hb => by
    have := balanceOf_any A1 c1 L lot W (HL3.out.below hb) (by omega) (by omega)
    unfold bofF at this
    rw [if_pos HV.out] at this
    exact this
  have HBY : Hid (∀ lot : Int, 1 ≤ lot → lot ≤ 100 → ∀ W, Below w3.heap.size w3 W → Calls Try.prog 14 #[.slice A3 M.length c3, .int .i64 lot] W fun e w' => e = .returned (baV lot (tgtF t lot)) ∧ Below W.heap.size W w') := Lib.hid fun lot h1 h5 W hb => by
    have := balanceOf_any A3 c3 M lot W (HS3.out.below hb) (by omega) (by omega)
    unfold bofF at this
    rw [if_pos HOK.out.led, HOK.out.bal] at this
    exact this
  have HTA := Lib.hid (fun lot W (hb : Below w3.heap.size w3 W) => refTarget_any A2 c2 t lot W (HT3.out.below hb) (by omega))
  have HCNT := Lib.hid HOK.out.cnt
  have HC2 := Lib.hid (fun W (hb : Below w3.heap.size w3 W) => correct_any A3 c3 M (dd + 1) 2 A2 c2 t W (HS3.out.below hb) (HT3.out.below hb) (by omega))
  generalize hcf : (fun y => cntF (balF L y) (tgtF t y)) = cf at HCNT
  have HCF := Lib.hid (fun y => (congrFun hcf y).symm)
  clear hcf
  have hd0 := HD.out.1
  have hd1 := HD.out.2
  generalize htot : sumC cf 0 100 = tot at HCNT
  go_loopg [11, 12] 100 (fun m n i wr => ∃ (k : Nat) (lot : Int), 1 ≤ lot ∧ lot + m = 101 ∧ n = .int .i64 (k : Int) ∧ i = .int .i64 lot ∧ k + sumC cf (lot - 1) m = tot ∧ Below w3.heap.size w3 wr)
  case atStart => exact ⟨0, 1, by omega, by omega, rfl, rfl, by rw [← htot]; simp, HB5.out⟩
  case round =>
    obtain ⟨n, lot, hl1, hlm2, rfl, rfl, hsum, hbr⟩ := hrel
    have HBR := Lib.hid hbr
    have HLM := Lib.hid hlm2
    have HSUM := Lib.hid hsum
    have hl2 : lot ≤ 101 := by omega
    have hn : n ≤ 2000 := by have := HCNT.out; omega
    clear hbr hlm2 hsum htot
    by_cases hl : lot ≤ 100
    · have hbx := HBX.out lot hl1 hl
      have hby := HBY.out lot hl1 hl
      have hta := HTA.out lot
      have hcf := HCF.out lot
      generalize balF L lot = B at hbx hcf
      generalize tgtF t lot = T at hby hta hcf
      obtain ⟨b0, b1, b2, b3⟩ := B
      obtain ⟨t0, t1, t2, t3⟩ := T
      unfold baV at hbx hby hta
      simp only at hbx hby hta
      have HX := Lib.hid hbx
      have HY := Lib.hid hby
      have HT := Lib.hid hta
      have HF := Lib.hid hcf
      clear hbx hby hta hcf
      go_wp2_with fail
      refine (HX.out wr HBR.out).mono ?_
      rintro e w6 ⟨rfl, hb6⟩
      have HB6 := Lib.hid (HBR.out.trans (hb6.mono HBR.out.size))
      clear hb6
      go_wp2_with fail
      refine (HY.out w6 HB6.out).mono ?_
      rintro e w7 ⟨rfl, hb7⟩
      have HB7 := Lib.hid (HB6.out.trans (hb7.mono HB6.out.size))
      clear hb7
      go_wp2_with fail
      refine (HT.out w7 HB7.out).mono ?_
      rintro e w8 ⟨rfl, hb8⟩
      have HB8 := Lib.hid (HB7.out.trans (hb8.mono HB7.out.size))
      clear hb8
      go_upto_region 11 with (fail)
      obtain ⟨r0, r1, r2, hq9⟩ := alloc3 w8 (.cells #[.int .i64 lot, .int .i64 b0, .int .i64 b1, .int .i64 b2, .int .i64 b3] 37) (.cells #[.int .i64 lot, .int .i64 t0, .int .i64 t1, .int .i64 t2, .int .i64 t3] 37) (.cells #[.int .i64 lot, .int .i64 t0, .int .i64 t1, .int .i64 t2, .int .i64 t3] 37)
      generalize (((w8.alloc (.cells #[.int .i64 lot, .int .i64 b0, .int .i64 b1, .int .i64 b2, .int .i64 b3] 37)).alloc (.cells #[.int .i64 lot, .int .i64 t0, .int .i64 t1, .int .i64 t2, .int .i64 t3] 37)).alloc (.cells #[.int .i64 lot, .int .i64 t0, .int .i64 t1, .int .i64 t2, .int .i64 t3] 37)) = W9 at r0 r1 r2 hq9 ⊢
      have HB9 := Lib.hid (HB8.out.trans (hq9.mono HB8.out.size))
      generalize w8.heap.size = g at r0 r1 r2 ⊢
      obtain ⟨⟨k0, k1, k2, k3, k4⟩, _⟩ := row5 r0
      obtain ⟨⟨m0, m1, m2, m3, m4⟩, _⟩ := row5 r1
      obtain ⟨⟨p0, p1, p2, p3, p4⟩, _⟩ := row5 r2
      clear r0 r1 r2 hq9
      obtain ⟨n1, hn1⟩ : ∃ q : Nat, q = n + (if b0 = t0 then 0 else 1) := ⟨_, rfl⟩
      have Hn1 := Lib.hid hn1
      have hn1b : n1 ≤ 2000 + 1 := by have := hn; split at hn1 <;> omega
      clear hn1
      go_upto_if 74 with (fail)
      go_cut [11] from 54 to 97 (fun s11 wx => s11 = .int .i64 (n1 : Int) ∧ W9 = wx)
      case first =>
        by_cases he : b0 = t0
        · have hd : (b0 != t0) = false := by simpa using he
          have HE := Lib.hid he
          clear he
          go_wp2_with fail
          go_meet
          exact ⟨by rw [Hn1.out, if_pos HE.out]; rfl, rfl⟩
        · have hd : (b0 != t0) = true := by simpa using he
          have HE := Lib.hid he
          clear he
          go_wp2_with fail
          go_meet
          exact ⟨by rw [Hn1.out, if_neg HE.out]; simp, rfl⟩
      case rest =>
        obtain ⟨rfl, rfl⟩ := hcut
        obtain ⟨n2, hn2⟩ : ∃ q : Nat, q = n1 + (if b1 = t1 then 0 else 1) := ⟨_, rfl⟩
        have Hn2 := Lib.hid hn2
        have hn2b : n2 ≤ 2000 + 2 := by have := hn1b; split at hn2 <;> omega
        clear hn2
        go_upto_if 81 with (fail)
        go_cut [11] from 54 to 97 (fun s11 wx => s11 = .int .i64 (n2 : Int) ∧ W9 = wx)
        case first =>
          by_cases he : b1 = t1
          · have hd : (b1 != t1) = false := by simpa using he
            have HE := Lib.hid he
            clear he
            go_wp2_with fail
            go_meet
            exact ⟨by rw [Hn2.out, if_pos HE.out]; rfl, rfl⟩
          · have hd : (b1 != t1) = true := by simpa using he
            have HE := Lib.hid he
            clear he
            go_wp2_with fail
            go_meet
            exact ⟨by rw [Hn2.out, if_neg HE.out]; simp, rfl⟩
        case rest =>
          obtain ⟨rfl, rfl⟩ := hcut
          obtain ⟨n3, hn3⟩ : ∃ q : Nat, q = n2 + (if b2 = t2 then 0 else 1) := ⟨_, rfl⟩
          have Hn3 := Lib.hid hn3
          have hn3b : n3 ≤ 2000 + 3 := by have := hn2b; split at hn3 <;> omega
          clear hn3
          go_upto_if 88 with (fail)
          go_cut [11] from 54 to 97 (fun s11 wx => s11 = .int .i64 (n3 : Int) ∧ W9 = wx)
          case first =>
            by_cases he : b2 = t2
            · have hd : (b2 != t2) = false := by simpa using he
              have HE := Lib.hid he
              clear he
              go_wp2_with fail
              go_meet
              exact ⟨by rw [Hn3.out, if_pos HE.out]; rfl, rfl⟩
            · have hd : (b2 != t2) = true := by simpa using he
              have HE := Lib.hid he
              clear he
              go_wp2_with fail
              go_meet
              exact ⟨by rw [Hn3.out, if_neg HE.out]; simp, rfl⟩
          case rest =>
            obtain ⟨rfl, rfl⟩ := hcut
            obtain ⟨n4, hn4⟩ : ∃ q : Nat, q = n3 + (if b3 = t3 then 0 else 1) := ⟨_, rfl⟩
            have Hn4 := Lib.hid hn4
            have hn4b : n4 ≤ 2000 + 4 := by have := hn3b; split at hn4 <;> omega
            clear hn4
            by_cases he : b3 = t3
            · have hd : (b3 != t3) = false := by simpa using he
              have HE := Lib.hid he
              clear he
              go_wp2_with fail
              go_roundg (gk - 1)
              case measure => have := HLM.out; omega
              case rel =>
                have hf := HF.out
                unfold cntF at hf
                have h1 := Hn1.out
                have h2 := Hn2.out
                have h3 := Hn3.out
                have h4 := Hn4.out
                have hs := HSUM.out
                have hg := HLM.out
                obtain ⟨gp, rfl⟩ : ∃ gp, gk = gp + 1 := ⟨gk - 1, by omega⟩
                have hs2 : sumC cf (lot - 1) (gp + 1) = cf (lot - 1 + 1) + sumC cf (lot - 1 + 1) gp := rfl
                rw [show lot - 1 + 1 = lot by omega] at hs2
                refine ⟨n4, lot + 1, by omega, by omega, by rw [h4, if_pos HE.out]; rfl, by go_num, ?_, HB9.out⟩
                rw [show lot + 1 - 1 = lot by omega, show gp + 1 - 1 = gp by omega]
                simp only at hf
                omega
            · have hd : (b3 != t3) = true := by simpa using he
              have HE := Lib.hid he
              clear he
              go_wp2_with fail
              go_roundg (gk - 1)
              case measure => have := HLM.out; omega
              case rel =>
                have hf := HF.out
                unfold cntF at hf
                have h1 := Hn1.out
                have h2 := Hn2.out
                have h3 := Hn3.out
                have h4 := Hn4.out
                have hs := HSUM.out
                have hg := HLM.out
                obtain ⟨gp, rfl⟩ : ∃ gp, gk = gp + 1 := ⟨gk - 1, by omega⟩
                have hs2 : sumC cf (lot - 1) (gp + 1) = cf (lot - 1 + 1) + sumC cf (lot - 1 + 1) gp := rfl
                rw [show lot - 1 + 1 = lot by omega] at hs2
                refine ⟨n4, lot + 1, by omega, by omega, by rw [h4, if_neg HE.out]; simp, by go_num, ?_, HB9.out⟩
                rw [show lot + 1 - 1 = lot by omega, show gp + 1 - 1 = gp by omega]
                simp only at hf
                omega
    · have HLEN : Hid (n = tot ∧ M.length = L.length + n) := Lib.hid (by
        have h := HLM.out
        have h2 := HSUM.out
        obtain rfl : gk = 0 := by omega
        have h3 : n = tot := by simpa [sumC] using h2
        exact ⟨h3, by rw [h3]; exact HCNT.out⟩)
      have hlen := HLEN.out.2
      have hnl : ((M.length : Int) == (L.length : Int) + (n : Int)) = true := by rw [beq_iff_eq]; omega
      have HM2 := Lib.hid (HC2.out wr HBR.out)
      clear hlen
      go_wp2_with fail
      refine HM2.out.mono ?_
      rintro e w9 ⟨v9, he, hb9, _, hgood⟩
      rw [HOK.out.err2] at he
      subst he
      have hE9 := hgood HOK.out.err2
      rw [HOK.out.res2] at hE9
      obtain ⟨A9, c9, rfl, hr9, _⟩ := hE9
      have HB9 := Lib.hid (HBR.out.trans (hb9.mono HBR.out.size))
      have HSM9 := Lib.hid (sameLedger_any A3 A9 c3 c9 M w9 (HS3.out.below HB9.out) ⟨hr9, by omega⟩)
      clear hgood hr9 hb9
      go_wp2_with fail
      refine HSM9.out.mono ?_
      rintro e w10 ⟨rfl, hq10⟩
      have HB10 := Lib.hid (HB9.out.trans (hq10.below _))
      clear hq10
      go_wp2_with fail
      refine (HAW.out w10).mono ?_
      rintro e w11 ⟨rfl, hb11⟩
      have HB11 := Lib.hid (HB3.out.trans ((HB10.out.trans (hb11.mono HB10.out.size)).mono HB3.out.size))
      clear hb11
      go_wp2_with fail
      go_ret
      exact ⟨rfl, HB11.out⟩
theorem walkLedgerReaches (A : Option Addr) (c : Nat) (l : List Int) (Am : Option Addr) (cm : Nat) (m : List Int) (day : Int) (w : World) (h : SlI w A c l) (hm : SlI w Am cm m) (hd : -9223372036854775808 ≤ day ∧ day ≤ 9223372036854775807) :
    Calls Try.prog 7 #[.slice A l.length c, .slice Am m.length cm, .int .i64 day] w fun e w' => e = .returned (.bool true) ∧ Below w.heap.size w w' := law A Am c cm l m day w h hm
end ledgerReaches
end Go.Proofs.Ytefphkefgfoklaa
