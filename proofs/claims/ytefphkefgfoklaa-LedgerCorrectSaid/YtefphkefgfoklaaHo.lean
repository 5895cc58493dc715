/- Ledger of customsmade: some valid ledger. -/
import Derived.Test.YtefphkefgfoklaaHl
import Derived.Test.YtefphkefgfoklaaHn
namespace Go.Proofs.Ytefphkefgfoklaa
open Go.RowKit
set_option linter.unusedVariables false

/-- entries of few lots, with small amounts -/
def SmallL (L : List En) : Prop := ∀ e ∈ L, (1 ≤ e.lot ∧ e.lot ≤ 4) ∧ (e.kind ≠ 9 → e.amt ≤ 1000000000000)
def MkRet2 (w : World) (e : Ending) (w' : World) : Prop := ∃ (v : Value) (L : List En), e = .returned v ∧ EnsAt w.heap.size w' v L ∧ ledF L = 0 ∧ L.length ≤ 30 ∧ SmallL L ∧ Below w.heap.size w w'
/-- some valid ledger of at most 30 entries -/
def MkRet (w : World) (e : Ending) (w' : World) : Prop := ∃ (v : Value) (L : List En), e = .returned v ∧ EnsAt w.heap.size w' v L ∧ ledF L = 0 ∧ L.length ≤ 30 ∧ Below w.heap.size w w'
def MkRel (w : World) (n g : Nat) (A : Option Addr) (c : Nat) (l : List Int) (m : Nat) (v : Value) (wr : World) : Prop :=
  ∃ (L : List En) (i : Nat), i + m = n ∧ EnsAt (w.heap.size + 1) wr v L ∧ ledF L = 0 ∧ (L.length ≤ 30 ∧ SmallL L) ∧ Src wr g A c l i ∧ Below w.heap.size w wr
theorem made_range {n : Int} {x : En} (h : Made n x) (hn : n ≤ 10000000000000) : rangeB x = true := by
  obtain ⟨_, hd, hk, hl, ha, hc, h9⟩ := h
  refine range_iff.2 ⟨by omega, by omega, by omega, ⟨ha.1, ?_⟩, by omega⟩
  by_cases h : x.kind = 9
  · have := h9 h; omega
  · have := ha.2 h; omega
theorem SmallL.snoc {L : List En} {n : Int} {x : En} (h : SmallL L) (hm : Made n x) : SmallL (L ++ [x]) := fun e he => by
  rcases List.mem_append.1 he with he | he
  · exact h e he
  · rw [List.mem_singleton.1 he]
    exact ⟨hm.2.2.2.1, hm.2.2.2.2.1.2⟩
set_option maxRecDepth 100000 in
set_option maxHeartbeats 2000000 in
theorem ledger_small (A : Option Addr) (c : Nat) (l : List Int) (w : World) (h : SlI w A c l) :
    Calls Try.prog 9 #[.slice A l.length c] w (MkRet2 w) := by
  have hc1 := h.le
  have hc2 := h.max
  have HC := Lib.hid (mcut_any A c l 100 w hc1 (by omega) (by omega))
  have hr := (RdB.of_rd h.rd).take 100
  rw [show (ints l).take 100 = ints (l.take 100) by simp [ints, List.map_take]] at hr
  have hl2 : (l.take 100).length ≤ 100 := by rw [List.length_take]; omega
  generalize l.take 100 = l' at HC hr hl2
  have q0 := (Below.refl w.heap.size w).alloc (Nat.le_refl _) (.cells #[.slice A l'.length c, .int .i64 0] 30)
  have hS0 : Src (w.alloc (.cells #[.slice A l'.length c, .int .i64 0] 30)) w.heap.size A c l' 0 := ⟨heap_alloc_new w _, Nat.zero_le _, hr.below q0, by omega⟩
  have HLF := Lib.hid (fun (i : Nat) (W : World) (h : Src W w.heap.size A c l' i) => srcLeft_any w.heap.size A c l' i W h)
  have HEN := Lib.hid (fun (i : Nat) (n : Int) (W : World) (h : Src W w.heap.size A c l' i) (hn : 0 ≤ n) (hn2 : n ≤ 10000000000000) => srcEntry_any w.heap.size A c l' i n W h hn hn2)
  clear h hr
  go_enter Try.func9, Try.ntmps9
  go_wp2_with (go_at_call 24; refine HC.out.mono ?_; rintro e w' ⟨rfl, rfl⟩)
  generalize hW0 : w.alloc (.cells #[.slice A l'.length c, .int .i64 0] 30) = W0 at *
  go_loopg [4] l'.length (fun g v wr => MkRel w l'.length w.heap.size A c l' g v wr)
  case atStart => exact ⟨[], 0, by omega, ⟨none, 0, rfl, Rd.nil _ _, by simp, by unfold maxLen; omega, fun a ha => by cases ha⟩, rfl, ⟨by simp, fun e he => by cases he⟩, hS0, q0⟩
  case round =>
    obtain ⟨L, i, hi, hE, hv, ⟨hL, hsm⟩, hS, hB⟩ := hrel
    have HSMA := Lib.hid hsm
    clear hsm
    obtain ⟨Av, cv, rfl, hrd, hlc, hcm, hbk⟩ := hE
    have hsl : SlE wr Av L := ⟨hrd, by omega⟩
    have HS := Lib.hid hsl
    have HK := Lib.hid hi
    have HV := Lib.hid hv
    have HBK := Lib.hid hbk
    have HB := Lib.hid hB
    have HCM := Lib.hid (show cv ≤ 9223372036854775807 by unfold maxLen at hcm; omega)
    have HC2 := Lib.hid hcm
    have hlf := HLF.out i wr hS
    clear hi hv hbk hB hcm hrd hsl
    by_cases hlt : i < l'.length
    · have hd : decide (i < l'.length) = true := by simpa using hlt
      rw [hd] at hlf
      have HLF1 := Lib.hid hlf
      clear hd hlf
      by_cases h30 : L.length < 30
      · go_wp2_with fail
        refine HLF1.out.mono ?_
        rintro e w1 ⟨rfl, hq1⟩
        have hS1 := hS.below (hq1.below _)
        have HS1 := Lib.hid (HS.out.below (hq1.below _))
        have HB1 := Lib.hid (HB.out.trans (hq1.below _))
        clear hS hq1
        go_wp2_with fail
        refine (HEN.out i L.length w1 hS1 (by omega) (by omega)).mono ?_
        rintro e w2 ⟨x, i2, rfl, hmd, hS2, hT2, hF2⟩
        have hf2 := hF2.2 hlt
        have hi2 := hS2.2.1
        have HS2 : Hid (SlE w2 Av L) := Lib.hid ⟨HS1.out.rd.grown hT2 (fun a ha e => by injection e with e; have := HBK.out a ha; omega), HS1.out.len⟩
        have HB2 := Lib.hid (HB1.out.trans (hT2.below (Nat.le_refl _) HB1.out.size))
        have HGL := Lib.hid (show w.heap.size + 1 ≤ w2.heap.size by have := hS2.lt; omega)
        have HSR := Lib.hid hS2
        have HMD := Lib.hid hmd
        have HHF := Lib.hid hf2
        have HI2 := Lib.hid hi2
        have HRA := Lib.hid (fun (W : World) (hb : Below w2.heap.size w2 W) => refAppend_any Av cv L x W (HS2.out.below hb) hlc HCM.out)
        have q3 := (Below.refl w2.heap.size w2).alloc (Nat.le_refl _) (.cells #[.int .i64 x.num, .int .i64 x.day, .int .i64 x.kind, .int .i64 x.lot, .int .i64 x.amt, .int .i64 x.cause] 26)
        clear hS1 hmd hS2 hT2 hF2 hf2 hi2
        unfold enV at *
        have HQ3 := Lib.hid q3
        clear q3
        go_wp2_with fail
        refine (HRA.out _ HQ3.out).mono ?_
        rintro e w4 ⟨v4, rfl, hb4, hbad, hgood⟩
        have HB4 := Lib.hid (HQ3.out.trans (hb4.mono HQ3.out.size))
        have HZ3 := Lib.hid HQ3.out.size
        clear hb4 HQ3 HRA
        by_cases hz : ledF (L ++ [x]) = 0
        · rw [hz]
          have HE4 := Lib.hid (hgood hz)
          have HZ := Lib.hid hz
          clear hbad hgood hz
          go_wp2_with fail
          go_roundg (l'.length - i2)
          case measure => have := HHF.out; have := HI2.out; have := HK.out; omega
          case rel =>
            exact ⟨L ++ [x], i2, by have := HI2.out; omega, HE4.out.mono (Nat.le_trans HGL.out HZ3.out), HZ.out, ⟨by simp; omega, HSMA.out.snoc HMD.out⟩, HSR.out.below HB4.out, HB2.out.trans (HB4.out.mono HB2.out.size)⟩
        · have hz1 : (ledF (L ++ [x]) == 0) = false := by simpa using hz
          clear hgood hbad hz
          generalize ledF (L ++ [x]) = m at hz1 ⊢
          go_wp2_with fail
          go_roundg (l'.length - i2)
          case measure => have := HHF.out; have := HI2.out; have := HK.out; omega
          case rel =>
            exact ⟨L, i2, by have := HI2.out; omega, ⟨Av, cv, rfl, (HS2.out.below HB4.out).rd, hlc, HC2.out, HBK.out⟩, HV.out, ⟨by omega, HSMA.out⟩, HSR.out.below HB4.out, HB2.out.trans (HB4.out.mono HB2.out.size)⟩
      · go_wp2_with fail
        refine HLF1.out.mono ?_
        rintro e w1 ⟨rfl, hq1⟩
        have HE1 := Lib.hid (show EnsAt w.heap.size w1 (.slice Av L.length cv) L from ⟨Av, cv, rfl, (HS.out.below (hq1.below _)).rd, hlc, HC2.out, fun a ha => by have := HBK.out a ha; omega⟩)
        have HB1 := Lib.hid (HB.out.trans (hq1.below _))
        clear hS hq1
        go_wp2_with fail
        go_ret
        exact ⟨_, L, rfl, HE1.out, HV.out, hL, HSMA.out, HB1.out⟩
    · have hd : decide (i < l'.length) = false := by simpa using hlt
      rw [hd] at hlf
      have HLF1 := Lib.hid hlf
      clear hd hlf
      go_wp2_with fail
      refine HLF1.out.mono ?_
      rintro e w1 ⟨rfl, hq1⟩
      have HE1 := Lib.hid (show EnsAt w.heap.size w1 (.slice Av L.length cv) L from ⟨Av, cv, rfl, (HS.out.below (hq1.below _)).rd, hlc, HC2.out, fun a ha => by have := HBK.out a ha; omega⟩)
      have HB1 := Lib.hid (HB.out.trans (hq1.below _))
      clear hS hq1
      go_wp2_with fail
      go_ret
      exact ⟨_, L, rfl, HE1.out, HV.out, hL, HSMA.out, HB1.out⟩
theorem ledger_any (A : Option Addr) (c : Nat) (l : List Int) (w : World) (h : SlI w A c l) : Calls Try.prog 9 #[.slice A l.length c] w (MkRet w) :=
  (ledger_small A c l w h).mono fun e w' ⟨v, L, a, b, d, f, _, g⟩ => ⟨v, L, a, b, d, f, g⟩
end Go.Proofs.Ytefphkefgfoklaa
