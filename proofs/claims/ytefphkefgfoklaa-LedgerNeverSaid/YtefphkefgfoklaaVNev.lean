/- The law LedgerNever: the walk. -/
import Derived.Test.YtefphkefgfoklaaHs
namespace Go.Proofs.Ytefphkefgfoklaa
open Go.RowKit
set_option linter.unusedVariables false

namespace ledgerNever
/-- behind i rounds: a valid ledger, and the source, in a world that is younger than w -/
def NvRel (w : World) (gs : Nat) (A : Option Addr) (c : Nat) (l : List Int) (m : Nat) (v i : Value) (wr : World) : Prop :=
  ∃ (k j : Nat) (L : List En), k + m = 25 ∧ i = .int .i64 (k : Int) ∧ EnsAt (w.heap.size + 1) wr v L ∧ ledF L = 0 ∧ L.length ≤ k ∧ Src wr gs A c l j ∧ Below w.heap.size w wr
set_option maxRecDepth 100000 in
set_option maxHeartbeats 2000000 in
theorem law (A Ar : Option Addr) (c cr : Nat) (l : List Int) (R : List En) (wild : Bool) (w : World) (h : SlI w A c l) (hr : Rd w Ar (ensCs R)) (hrl : R.length ≤ 5000000000000) :
    Calls Try.prog 8 #[.slice A l.length c, .slice Ar R.length cr, .bool wild] w fun e w' => e = .returned (.bool true) ∧ Below w.heap.size w w' := by
  have hc1 := h.le
  have hc2 := h.max
  have HC := Lib.hid (mcut_any A c l 90 w hc1 (by omega) (by omega))
  have hrb := (RdB.of_rd h.rd).take 90
  rw [show (ints l).take 90 = ints (l.take 90) by simp [ints, List.map_take]] at hrb
  have hl2 : (l.take 90).length ≤ 90 := by rw [List.length_take]; omega
  generalize l.take 90 = l' at HC hrb hl2
  have q0 := (Below.refl w.heap.size w).alloc (Nat.le_refl _) (.cells #[.slice A l'.length c, .int .i64 0] 30)
  have hS0 : Src (w.alloc (.cells #[.slice A l'.length c, .int .i64 0] 30)) w.heap.size A c l' 0 := ⟨heap_alloc_new w _, Nat.zero_le _, hrb.below q0, by omega⟩
  have HEN := Lib.hid (fun (i : Nat) (n : Int) (W : World) (h : Src W w.heap.size A c l' i) (hn : 0 ≤ n) (hn2 : n ≤ 10000000000000) => srcEntry_any w.heap.size A c l' i n W h hn hn2)
  have HR := Lib.hid hr
  have HAW := Lib.hid (fun W => awake_any W)
  have hs0 := Lib.hid hS0
  clear h hrb hr hS0
  have HQ0 := Lib.hid q0
  clear q0
  go_enter Try.func8, Try.ntmps8
  go_wp2_with (go_at_call 24; refine HC.out.mono ?_; rintro e w' ⟨rfl, rfl⟩)
  go_loopg [8, 9] 25 (fun g v i wr => NvRel w w.heap.size A c l' g v i wr)
  case atStart => exact ⟨0, 0, [], by omega, rfl, ⟨none, 0, rfl, Rd.nil _ _, by simp, by unfold maxLen; omega, fun a ha => by cases ha⟩, rfl, by simp, hs0.out, HQ0.out⟩
  case round =>
    obtain ⟨k, j, L, hk, rfl, hE, hv, hL, hS, hB⟩ := hrel
    obtain ⟨Av, cv, rfl, hrd, hlc, hcm, hbk⟩ := hE
    have hk2 : k ≤ 25 := by omega
    have HK := Lib.hid hk
    have HV := Lib.hid hv
    have HBK := Lib.hid hbk
    have HB := Lib.hid hB
    have HC2 := Lib.hid hcm
    have HSL := Lib.hid (show SlE wr Av L from ⟨hrd, by omega⟩)
    clear hk hv hbk hB hcm hrd hs0 HQ0 HC
    by_cases hlt : k < 25
    · have hkk : (k : Int) < 25 := by omega
      have HSR := Lib.hid hS
      clear hS
      go_wp2_with fail
      refine (HEN.out j L.length wr HSR.out (by omega) (by omega)).mono ?_
      rintro e w2 ⟨x, i2, rfl, hmd, hS2, hT2, hF2⟩
      have HS2 := Lib.hid hS2
      have HB2 := Lib.hid (HB.out.trans (hT2.below (Nat.le_refl _) HB.out.size))
      have hsl2 : SlE w2 Av L := ⟨HSL.out.rd.grown hT2 (fun a ha e => by injection e with e; have := HBK.out a ha; omega), HSL.out.len⟩
      have HSL2 := Lib.hid hsl2
      have HW2 := Lib.hid (show w.heap.size + 1 ≤ w2.heap.size by have := hS2.lt; omega)
      clear hmd hS2 hT2 hF2 hsl2
      unfold enV
      have hq3 := (Below.refl w2.heap.size w2).alloc (Nat.le_refl _) (.cells #[.int .i64 x.num, .int .i64 x.day, .int .i64 x.kind, .int .i64 x.lot, .int .i64 x.amt, .int .i64 x.cause] 26)
      have hg3 := heap_alloc_new w2 (.cells #[.int .i64 x.num, .int .i64 x.day, .int .i64 x.kind, .int .i64 x.lot, .int .i64 x.amt, .int .i64 x.cause] 26)
      have HQ3 := Lib.hid hq3
      have HG3 := Lib.hid hg3
      clear hq3 hg3
      go_upto_region 7 with (fail)
      have S3 : SA w (w2.alloc (.cells #[.int .i64 x.num, .int .i64 x.day, .int .i64 x.kind, .int .i64 x.lot, .int .i64 x.amt, .int .i64 x.cause] 26)) w2.heap.size (.slice Av L.length cv) x L := SA.mk0 ((RdN.of_rd HSL2.out.rd).below HQ3.out) hlc HC2.out (by omega) HG3.out (HB2.out.trans (HQ3.out.mono HB2.out.size)) HB2.out.size
      have HSR3 := Lib.hid (HS2.out.below HQ3.out)
      have HR3 := Lib.hid ((HR.out.below HB2.out))
      have HR3 := Lib.hid ((RdN.of_rd HR3.out).below HQ3.out)
      generalize hV : w2.alloc (.cells #[.int .i64 x.num, .int .i64 x.day, .int .i64 x.kind, .int .i64 x.lot, .int .i64 x.amt, .int .i64 x.cause] 26) = w3 at *
      clear hV
      generalize hgg : w2.heap.size = g at *
      have HW3 := Lib.hid (show w.heap.size < g by have := HW2.out; omega)
      have S3 := Lib.hid S3
      clear HQ3 HG3 hgg
      go_cut [33] from 19 to 46 (fun s33 wx => (s33 = .bool false ∨ s33 = .bool true ∧ k < R.length) ∧ w3 = wx)
      case first =>
        cases wild
        · go_wp2_with fail
          go_meet
          exact ⟨.inl rfl, rfl⟩
        · by_cases hkr : k < R.length
          · have hd : (k : Int) < R.length := by omega
            go_wp2_with fail
            go_meet
            exact ⟨.inr ⟨rfl, hkr⟩, rfl⟩
          · have hd : ¬ (k : Int) < R.length := by omega
            go_wp2_with fail
            go_meet
            exact ⟨.inl rfl, rfl⟩
      case rest =>
        obtain ⟨hs33, rfl⟩ := hcut
        have HS33 := Lib.hid hs33
        clear hs33
        have hgl := S3.out.lt
        obtain ⟨⟨k0, k1, k2, k3, k4, k5⟩, f0, f1, f2, f3, f4, f5⟩ := S3.out.cells
        go_upto_if 33 with (fail)
        go_cut [] from 19 to 46 (fun wx => ∃ y, SA w wx g (.slice Av L.length cv) y L ∧ Src wx w.heap.size A c l' i2)
        case first =>
          rcases HS33.out with rfl | ⟨rfl, hkr⟩
          · go_wp2_with fail
            go_meet
            exact ⟨x, S3.out, HSR3.out⟩
          · obtain ⟨z, hz⟩ : ∃ z, R[k]? = some z := ⟨_, List.getElem?_eq_getElem hkr⟩
            obtain ⟨br, orr, rfl, y0, y1, y2, y3, y4, y5⟩ := HR3.out.rd.en hz
            have hne : br ≠ g := by
              obtain ⟨ad, e, hn, _⟩ := HR3.out (k * 6) _ (ensCs_get (j := 0) hz (by omega))
              injection e with e
              subst e
              exact hn
            have hd : (k : Int) < R.length := by omega
            clear hz
            have hge := S3.out.ge
            go_wp2_with fail
            go_meet
            exact ⟨z, S3.out.put z, HSR3.out.belowB (put6_below w3 (Below.refl g w3) (Nat.le_refl _) _ _ _ _ _ _) HW3.out⟩
        case rest =>
          obtain ⟨wq, rfl⟩ : ∃ x, x = wc := ⟨_, rfl⟩
          obtain ⟨y, hS, hsr⟩ := hcut
          have HAP := Lib.hid ((append_any Av cv L y wq (hS.slA (by omega))).mono fun e w' ha => ha.x)
          have HS := Lib.hid hS
          have HSQ := Lib.hid hsr
          have HWQ := Lib.hid (show w.heap.size + 1 ≤ wq.heap.size by have := hS.lt; have := HW3.out; omega)
          clear k0 k1 k2 k3 k4 k5 f0 f1 f2 f3 f4 f5 hgl
          have hgl := hS.lt
          obtain ⟨⟨k0, k1, k2, k3, k4, k5⟩, f0, f1, f2, f3, f4, f5⟩ := hS.cells
          clear hS hsr
          unfold enV at *
          go_wp2_with fail
          refine HAP.out.mono ?_
          rintro e w5 ⟨v5, rfl, hb5, hbad, hgood⟩
          have HS5 := Lib.hid (HS.out.below hb5)
          have HSR5 := Lib.hid (HSQ.out.below hb5)
          clear hb5 HAP k0 k1 k2 k3 k4 k5 f0 f1 f2 f3 f4 f5 hgl
          by_cases hz : ledF (L ++ [y]) = 0
          · rw [hz]
            have HE5 := Lib.hid ((hgood hz).mono HWQ.out)
            have HZ := Lib.hid hz
            clear hbad hgood hz
            go_wp2_with fail
            go_roundg (25 - (k + 1))
            case measure => have := HK.out; omega
            case rel => exact ⟨k + 1, i2, L ++ [y], by have := HK.out; omega, by go_num, HE5.out, HZ.out, by simp; omega, HSR5.out, HS5.out.bel⟩
          · have hz1 : (ledF (L ++ [y]) == 0) = false := by simpa using hz
            clear hgood hbad hz
            generalize ledF (L ++ [y]) = er at hz1 ⊢
            go_wp2_with fail
            go_roundg (25 - (k + 1))
            case measure => have := HK.out; omega
            case rel => exact ⟨k + 1, i2, L, by have := HK.out; omega, by go_num, ⟨Av, cv, rfl, (HS5.out.slA (by omega)).rd, hlc, HC2.out, HBK.out⟩, HV.out, by omega, HSR5.out, HS5.out.bel⟩
    · have hge : (25 : Int) ≤ k := by omega
      have HBL := Lib.hid (balances_any Av cv L wr HSL.out HV.out (by omega))
      have HVL := Lib.hid (fun (W : World) (hb : Below wr.heap.size wr W) => validate_any Av cv L W (HSL.out.below hb))
      rw [HV.out] at HVL
      clear hS
      go_wp2_with fail
      refine HBL.out.mono ?_
      rintro e w3 ⟨A3, c3, bs, rfl, hr3, hok3, hl3, hb3⟩
      have HR3 := Lib.hid hr3
      have HOK3 := Lib.hid hok3
      have HB3 := Lib.hid hb3
      clear hr3 hok3 hb3 HBL
      go_wp2_with fail
      have HSL3 := Lib.hid (HVL.out w3 HB3.out)
      have hw3 : Hid (w.heap.size ≤ w3.heap.size) := Lib.hid (Nat.le_trans HB.out.size HB3.out.size)
      generalize wr = wo at *
      go_loopg [14] bs.length (fun g i wr => ∃ k : Nat, k + g = bs.length ∧ i = .int .i64 (k : Int) ∧ w3 = wr)
      case atStart => exact ⟨0, by omega, rfl, rfl⟩
      case round =>
        obtain ⟨q, hq, rfl, rfl⟩ := hrel
        have HQ := Lib.hid hq
        have hq2 : q ≤ bs.length := by omega
        clear hq
        by_cases hqt : q < bs.length
        · obtain ⟨z, hz⟩ : ∃ z, bs[q]? = some z := ⟨_, List.getElem?_eq_getElem hqt⟩
          obtain ⟨n0, n1, n2, n3⟩ := Ba.ok_iff.1 (HOK3.out z (List.mem_of_getElem? hz))
          obtain ⟨bb, ob, rfl, y0, y1, y2, y3, y4⟩ := HR3.out.tg hz
          have hd : (q : Int) < bs.length := by omega
          clear hz
          go_wp2_with fail
          go_roundg (bs.length - (q + 1))
          case measure => have := HQ.out; omega
          case rel => exact ⟨q + 1, by have := HQ.out; omega, by go_num, rfl⟩
        · have hd : ¬ (q : Int) < bs.length := by omega
          go_wp2_with fail
          refine HSL3.out.mono ?_
          rintro e w8 ⟨rfl, hb8⟩
          have HB8 := Lib.hid (HB3.out.trans (hb8.mono HB3.out.size))
          go_wp2_with fail
          refine (HAW.out w8).mono ?_
          rintro e w9 ⟨rfl, hb9⟩
          have HB9 := Lib.hid (HB.out.trans ((HB8.out.trans (hb9.mono HB8.out.size)).mono HB.out.size))
          clear hb8 hb9
          go_wp2_with fail
          go_ret
          exact ⟨rfl, HB9.out⟩
theorem walkLedgerNever (A : Option Addr) (c : Nat) (l : List Int) (Ar : Option Addr) (cr : Nat) (R : List En) (wild : Bool) (w : World) (h : SlI w A c l)
    (hrc : R.length ≤ cr) (hrm : cr ≤ maxLen) (hrl : R.length ≤ 5000000000000) (hre : ∀ x ∈ R, EBd x) (hr : Rd w Ar (ensCs R)) :
    Calls Try.prog 8 #[.slice A l.length c, .slice Ar R.length cr, .bool wild] w fun e w' => e = .returned (.bool true) ∧ Below w.heap.size w w' := law A Ar c cr l R wild w h hr hrl
end ledgerNever
end Go.Proofs.Ytefphkefgfoklaa
