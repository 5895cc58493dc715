/- The contract of change: an amount is booked on a balance, column by column. -/
import Derived.Test.YtefphkefgfoklaaGc
import Derived.StillTailTactics
import Derived.Laws.EntriesVeiled
namespace Go.Proofs.Ytefphkefgfoklaa
open Go.RowKit
set_option linter.unusedVariables false

/-- the first j columns of c, the others of b -/
def mix (j : Nat) (b c : Ba) : Ba := ⟨if 0 < j then c.ow else b.ow, if 1 < j then c.se else b.se, if 2 < j then c.pa else b.pa, if 3 < j then c.re else b.re⟩
def mixOk (j : Nat) (c : Ba) : Bool := (decide (j ≤ 0) || decide (0 ≤ c.ow)) && ((decide (j ≤ 1) || decide (0 ≤ c.se)) && ((decide (j ≤ 2) || decide (0 ≤ c.pa)) && (decide (j ≤ 3) || decide (0 ≤ c.re))))
theorem mix_zero (b c : Ba) : mix 0 b c = b := rfl
theorem mix_four (b c : Ba) : mix 4 b c = c := rfl
theorem mixOk_four (c : Ba) : mixOk 4 c = c.okB := by unfold mixOk Ba.okB; simp
theorem bump_ow (b : Ba) (k a : Int) : (bump b k a).ow = if k = 1 then b.ow + a else if k = 2 then b.ow - a else b.ow := by
  unfold bump
  repeat' split
  all_goals first | rfl | omega
theorem bump_se (b : Ba) (k a : Int) : (bump b k a).se = if k = 3 then b.se + a else if k = 4 then b.se - a else b.se := by
  unfold bump
  repeat' split
  all_goals first | rfl | omega
theorem bump_pa (b : Ba) (k a : Int) : (bump b k a).pa = if k = 5 then b.pa + a else if k = 6 then b.pa - a else b.pa := by
  unfold bump
  repeat' split
  all_goals first | rfl | omega
theorem bump_re (b : Ba) (k a : Int) : (bump b k a).re = if k = 7 then b.re + a else if k = 8 then b.re - a else b.re := by
  unfold bump
  repeat' split
  all_goals first | rfl | omega
theorem grown_set {a w : World} {g : Nat} (h : a.grownBy w (some g)) (i : Nat) (v : Value) : a.grownBy (w.setCell ⟨g, i, none⟩ v) (some g) :=
  ⟨h.os, h.tape, h.output, by simpa using h.size, fun k hk hne => (heap_setCell_other w ⟨g, i, none⟩ k v (fun e => hne (by rw [e]))).trans (h.block k hk hne)⟩
theorem grown_alloc {a w : World} {row : Option Nat} (h : a.grownBy w row) (o : Obj) : a.grownBy (w.alloc o) row :=
  ⟨h.os, h.tape, h.output, by have := h.size; simp; omega, fun k hk hne => (Below.heap_alloc w o k (Nat.lt_of_lt_of_le hk h.size)).trans (h.block k hk hne)⟩
theorem grown_drew {a w : World} {row : Option Nat} (h : a.grownBy w row) : a.grownBy w.drew row := ⟨h.os, h.tape, h.output, h.size, h.block⟩
def baArr (lot : Int) (b : Ba) : Array Value := #[.int .i64 lot, .int .i64 b.ow, .int .i64 b.se, .int .i64 b.pa, .int .i64 b.re]
def ChgRel (w : World) (g : Nat) (lot : Int) (b c : Ba) (m : Nat) (ok i : Value) (wr : World) : Prop :=
  ∃ k : Nat, k + m = 4 ∧ i = .int .i64 (k : Int) ∧ ok = .bool (mixOk k c) ∧ wr.heap[g]? = some (.cells (baArr lot (mix k b c)) 37 (0, 0)) ∧ w.grownBy wr (some g)
def fld (b : Ba) (j : Nat) : Int := match j with | 0 => b.ow | 1 => b.se | 2 => b.pa | _ => b.re
theorem mix_set (lot : Int) (b c : Ba) {j : Nat} (hj : j < 4) : (baArr lot (mix j b c)).setIfInBounds (j + 1) (.int .i64 (fld c j)) = baArr lot (mix (j + 1) b c) := by
  match j, hj with
  | 0, _ => rfl
  | 1, _ => rfl
  | 2, _ => rfl
  | 3, _ => rfl
theorem mix_keep (lot : Int) (b c : Ba) {j : Nat} (hj : j < 4) (h : fld (mix j b c) j = fld c j) : baArr lot (mix j b c) = baArr lot (mix (j + 1) b c) := by
  rw [← mix_set lot b c hj, ← h]
  match j, hj with
  | 0, _ => rfl
  | 1, _ => rfl
  | 2, _ => rfl
  | 3, _ => rfl
theorem mixOk_next (c : Ba) {j : Nat} (hj : j < 4) : mixOk (j + 1) c = (mixOk j c && decide (0 ≤ fld c j)) := by
  match j, hj with
  | 0, _ => simp [mixOk, fld]
  | 1, _ => simp [mixOk, fld]
  | 2, _ => simp [mixOk, fld, Bool.and_assoc]
  | 3, _ => simp [mixOk, fld, Bool.and_assoc]
theorem chg_next {w wr : World} {g : Nat} {lot : Int} {b c : Ba} {j m : Nat} (hj : j < 4) (hm : j + 1 + m = 4) {y : Int} {o okb : Bool} (HO : mixOk j c = o) (hy : fld c j = y) (hok : okb = (o && decide (0 ≤ y)))
    (HGJ : wr.heap[g]? = some (.cells (baArr lot (mix j b c)) 37 (0, 0))) (HGR : w.grownBy wr (some g)) (ob : Obj) :
    ChgRel w g lot b c m (.bool okb) (.int .i64 ((j + 1 : Nat) : Int)) ((wr.setCell ⟨g, j + 1, none⟩ (.int .i64 y)).alloc ob) := by
  refine ⟨j + 1, hm, rfl, by rw [mixOk_next c hj, HO, hy, hok], ?_, grown_alloc (grown_set HGR _ _) _⟩
  rw [Below.heap_alloc _ _ _ (by simpa using (Array.getElem?_eq_some_iff.1 HGJ).1), heap_setCell_same _ _ _ _ _ _ HGJ, ← hy, mix_set lot b c hj]
theorem chg_keep {w wr : World} {g : Nat} {lot : Int} {b c : Ba} {j m : Nat} (hj : j < 4) (hm : j + 1 + m = 4) {y : Int} {o okb : Bool} (HO : mixOk j c = o) (hx : fld (mix j b c) j = y) (hy : fld c j = y) (hok : okb = (o && decide (0 ≤ y)))
    (HGJ : wr.heap[g]? = some (.cells (baArr lot (mix j b c)) 37 (0, 0))) (HGR : w.grownBy wr (some g)) (ob : Obj) :
    ChgRel w g lot b c m (.bool okb) (.int .i64 ((j + 1 : Nat) : Int)) (wr.alloc ob) := by
  refine ⟨j + 1, hm, rfl, by rw [mixOk_next c hj, HO, hy, hok], ?_, grown_alloc HGR _⟩
  rw [Below.heap_alloc _ _ _ (Array.getElem?_eq_some_iff.1 HGJ).1, HGJ, mix_keep lot b c hj (hx.trans hy.symm)]
set_option maxHeartbeats 4000000 in
theorem change_any (pa pc g : Nat) (lot : Int) (b : Ba) (k a : Int) (w : World) (colT : Array Value) (hpa : w.cell? ⟨pa, 0, none⟩ = some (.slice (some ⟨pc, 0, none⟩) 4 4))
    (hpc : ∀ j u, colCs[j]? = some u → w.cell? ⟨pc, j, none⟩ = some u) (hg : w.heap[g]? = some (.cells (baArr lot b) 37 (0, 0))) (h1 : pa ≠ g) (h2 : pc ≠ g)
    (hb : b.within 130000000000000000) (ha : -64000000000000 ≤ a ∧ a ≤ 64000000000000) :
    Calls Try.prog 43 #[.pointer (some ⟨pa, 0, none⟩), .pointer (some ⟨g, 0, none⟩), .int .i64 k, .int .i64 a] w fun e w' => e = .returned (.bool (bump b k a).okB) ∧
      w'.heap[g]? = some (.cells (baArr lot (bump b k a)) 37 (0, 0)) ∧ w.grownBy w' (some g) := by
  generalize hc : bump b k a = c
  have e1 := bump_ow b k a
  have e2 := bump_se b k a
  have e3 := bump_pa b k a
  have e4 := bump_re b k a
  rw [hc] at e1 e2 e3 e4
  clear hc
  have hE := Lib.hid (And.intro e1 (And.intro e2 (And.intro e3 e4)))
  clear e1 e2 e3 e4
  have HPC := Lib.hid hpc
  have HG := Lib.hid hg
  clear hpc hg
  go_enter Try.func43, Try.ntmps43
  go_wp2
  go_loopg [9, 18] 4 (fun m ok i wr => ChgRel w g lot b c m ok i wr)
  case atStart => exact ⟨0, rfl, rfl, rfl, HG.out, World.grownBy.refl _ _⟩
  case round =>
    obtain ⟨j, hj, rfl, rfl, hgj, hgr⟩ := hrel
    have hj4 : j ≤ 4 := by omega
    match j, hj4 with
    | 0, _ =>
      have hgl : g < wr.heap.size := (Array.getElem?_eq_some_iff.1 hgj).1
      have hc0 : wr.cell? ⟨pc, 0, none⟩ = some (.int .i64 1) := hgr.cell (HPC.out 0 _ rfl) (fun e => h2 (by injection e))
      have hc1 : wr.cell? ⟨pc, 1, none⟩ = some (.int .i64 2) := hgr.cell (HPC.out 1 _ rfl) (fun e => h2 (by injection e))
      have hc2 : wr.cell? ⟨pc, 2, none⟩ = some (.func (.func 50) #[] #[]) := hgr.cell (HPC.out 2 _ rfl) (fun e => h2 (by injection e))
      have hpl : pc < wr.heap.size := block_lt_of_cell hc0
      have hgc : wr.cell? ⟨g, 1, none⟩ = some (.int .i64 b.ow) := by rw [cell_of_row _ _ _ _ _ _ hgj]; rfl
      have hgf : wr.frozen? ⟨g, 1, none⟩ = false := frozen_of_row _ _ _ _ _ hgj
      have HGJ := Lib.hid hgj
      have HGR := Lib.hid hgr
      clear hgj hgr
      obtain ⟨hb1, hb2⟩ := hb.1
      have hE1 := hE.out.1
      have HX : Hid (fld (mix 0 b c) 0 = b.ow) := Lib.hid rfl
      generalize hO : mixOk 0 c = o
      have HO := Lib.hid hO
      clear hO
      generalize b.ow = x at *
      by_cases hk1 : k = 1
      · subst hk1
        have hE2 := Lib.hid (hE1.trans (if_pos rfl))
        clear hE1
        cases o with
        | true =>
          go_wp2_with (go_at_call 50; refine (col1_any _ _).mono ?_; rintro e w' ⟨rfl, rfl⟩)
          go_roundg 3
          case measure => omega
          case rel => exact chg_next (j := 0) (m := 3) (by omega) rfl HO.out hE2.out rfl HGJ.out HGR.out _
        | false =>
          go_wp2_with (go_at_call 50; refine (col1_any _ _).mono ?_; rintro e w' ⟨rfl, rfl⟩)
          go_roundg 3
          case measure => omega
          case rel => exact chg_next (j := 0) (m := 3) (by omega) rfl HO.out hE2.out rfl HGJ.out HGR.out _
      · by_cases hk2 : k = 2
        · subst hk2
          have hE2 := Lib.hid (hE1.trans ((if_neg (by omega)).trans (if_pos rfl)))
          clear hE1 hk1
          cases o with
          | true =>
            go_wp2_with (go_at_call 50; refine (col1_any _ _).mono ?_; rintro e w' ⟨rfl, rfl⟩)
            go_roundg 3
            case measure => omega
            case rel => exact chg_next (j := 0) (m := 3) (by omega) rfl HO.out hE2.out (by rw [Bool.true_and]; exact decide_eq_decide.2 ⟨by omega, by omega⟩) HGJ.out HGR.out _
          | false =>
            go_wp2_with (go_at_call 50; refine (col1_any _ _).mono ?_; rintro e w' ⟨rfl, rfl⟩)
            go_roundg 3
            case measure => omega
            case rel => exact chg_next (j := 0) (m := 3) (by omega) rfl HO.out hE2.out rfl HGJ.out HGR.out _
        · have hE2 := Lib.hid (hE1.trans ((if_neg hk1).trans (if_neg hk2)))
          have hn1 : (k == 1) = false := by simpa using hk1
          have hn2 : (k == 2) = false := by simpa using hk2
          clear hE1 hk1 hk2
          cases o with
          | true =>
            go_wp2_with (go_at_call 50; refine (col1_any _ _).mono ?_; rintro e w' ⟨rfl, rfl⟩)
            go_roundg 3
            case measure => omega
            case rel => exact chg_keep (j := 0) (m := 3) (by omega) rfl HO.out HX.out hE2.out rfl HGJ.out HGR.out _
          | false =>
            go_wp2_with (go_at_call 50; refine (col1_any _ _).mono ?_; rintro e w' ⟨rfl, rfl⟩)
            go_roundg 3
            case measure => omega
            case rel => exact chg_keep (j := 0) (m := 3) (by omega) rfl HO.out HX.out hE2.out rfl HGJ.out HGR.out _
    | 1, _ =>
      have hgl : g < wr.heap.size := (Array.getElem?_eq_some_iff.1 hgj).1
      have hc0 : wr.cell? ⟨pc, 3, none⟩ = some (.int .i64 3) := hgr.cell (HPC.out 3 _ rfl) (fun e => h2 (by injection e))
      have hc1 : wr.cell? ⟨pc, 4, none⟩ = some (.int .i64 4) := hgr.cell (HPC.out 4 _ rfl) (fun e => h2 (by injection e))
      have hc2 : wr.cell? ⟨pc, 5, none⟩ = some (.func (.func 51) #[] #[]) := hgr.cell (HPC.out 5 _ rfl) (fun e => h2 (by injection e))
      have hpl : pc < wr.heap.size := block_lt_of_cell hc0
      have hgc : wr.cell? ⟨g, 2, none⟩ = some (.int .i64 b.se) := by rw [cell_of_row _ _ _ _ _ _ hgj]; rfl
      have hgf : wr.frozen? ⟨g, 2, none⟩ = false := frozen_of_row _ _ _ _ _ hgj
      have HGJ := Lib.hid hgj
      have HGR := Lib.hid hgr
      clear hgj hgr
      obtain ⟨hb1, hb2⟩ := hb.2.1
      have hE1 := hE.out.2.1
      have HX : Hid (fld (mix 1 b c) 1 = b.se) := Lib.hid rfl
      generalize hO : mixOk 1 c = o
      have HO := Lib.hid hO
      clear hO
      generalize b.se = x at *
      by_cases hk1 : k = 3
      · subst hk1
        have hE2 := Lib.hid (hE1.trans (if_pos rfl))
        clear hE1
        cases o with
        | true =>
          go_wp2_with (go_at_call 51; refine (col2_any _ _).mono ?_; rintro e w' ⟨rfl, rfl⟩)
          go_roundg 2
          case measure => omega
          case rel => exact chg_next (j := 1) (m := 2) (by omega) rfl HO.out hE2.out rfl HGJ.out HGR.out _
        | false =>
          go_wp2_with (go_at_call 51; refine (col2_any _ _).mono ?_; rintro e w' ⟨rfl, rfl⟩)
          go_roundg 2
          case measure => omega
          case rel => exact chg_next (j := 1) (m := 2) (by omega) rfl HO.out hE2.out rfl HGJ.out HGR.out _
      · by_cases hk2 : k = 4
        · subst hk2
          have hE2 := Lib.hid (hE1.trans ((if_neg (by omega)).trans (if_pos rfl)))
          clear hE1 hk1
          cases o with
          | true =>
            go_wp2_with (go_at_call 51; refine (col2_any _ _).mono ?_; rintro e w' ⟨rfl, rfl⟩)
            go_roundg 2
            case measure => omega
            case rel => exact chg_next (j := 1) (m := 2) (by omega) rfl HO.out hE2.out (by rw [Bool.true_and]; exact decide_eq_decide.2 ⟨by omega, by omega⟩) HGJ.out HGR.out _
          | false =>
            go_wp2_with (go_at_call 51; refine (col2_any _ _).mono ?_; rintro e w' ⟨rfl, rfl⟩)
            go_roundg 2
            case measure => omega
            case rel => exact chg_next (j := 1) (m := 2) (by omega) rfl HO.out hE2.out rfl HGJ.out HGR.out _
        · have hE2 := Lib.hid (hE1.trans ((if_neg hk1).trans (if_neg hk2)))
          have hn1 : (k == 3) = false := by simpa using hk1
          have hn2 : (k == 4) = false := by simpa using hk2
          clear hE1 hk1 hk2
          cases o with
          | true =>
            go_wp2_with (go_at_call 51; refine (col2_any _ _).mono ?_; rintro e w' ⟨rfl, rfl⟩)
            go_roundg 2
            case measure => omega
            case rel => exact chg_keep (j := 1) (m := 2) (by omega) rfl HO.out HX.out hE2.out rfl HGJ.out HGR.out _
          | false =>
            go_wp2_with (go_at_call 51; refine (col2_any _ _).mono ?_; rintro e w' ⟨rfl, rfl⟩)
            go_roundg 2
            case measure => omega
            case rel => exact chg_keep (j := 1) (m := 2) (by omega) rfl HO.out HX.out hE2.out rfl HGJ.out HGR.out _
    | 2, _ =>
      have hgl : g < wr.heap.size := (Array.getElem?_eq_some_iff.1 hgj).1
      have hc0 : wr.cell? ⟨pc, 6, none⟩ = some (.int .i64 5) := hgr.cell (HPC.out 6 _ rfl) (fun e => h2 (by injection e))
      have hc1 : wr.cell? ⟨pc, 7, none⟩ = some (.int .i64 6) := hgr.cell (HPC.out 7 _ rfl) (fun e => h2 (by injection e))
      have hc2 : wr.cell? ⟨pc, 8, none⟩ = some (.func (.func 52) #[] #[]) := hgr.cell (HPC.out 8 _ rfl) (fun e => h2 (by injection e))
      have hpl : pc < wr.heap.size := block_lt_of_cell hc0
      have hgc : wr.cell? ⟨g, 3, none⟩ = some (.int .i64 b.pa) := by rw [cell_of_row _ _ _ _ _ _ hgj]; rfl
      have hgf : wr.frozen? ⟨g, 3, none⟩ = false := frozen_of_row _ _ _ _ _ hgj
      have HGJ := Lib.hid hgj
      have HGR := Lib.hid hgr
      clear hgj hgr
      obtain ⟨hb1, hb2⟩ := hb.2.2.1
      have hE1 := hE.out.2.2.1
      have HX : Hid (fld (mix 2 b c) 2 = b.pa) := Lib.hid rfl
      generalize hO : mixOk 2 c = o
      have HO := Lib.hid hO
      clear hO
      generalize b.pa = x at *
      by_cases hk1 : k = 5
      · subst hk1
        have hE2 := Lib.hid (hE1.trans (if_pos rfl))
        clear hE1
        cases o with
        | true =>
          go_wp2_with (go_at_call 52; refine (col3_any _ _).mono ?_; rintro e w' ⟨rfl, rfl⟩)
          go_roundg 1
          case measure => omega
          case rel => exact chg_next (j := 2) (m := 1) (by omega) rfl HO.out hE2.out rfl HGJ.out HGR.out _
        | false =>
          go_wp2_with (go_at_call 52; refine (col3_any _ _).mono ?_; rintro e w' ⟨rfl, rfl⟩)
          go_roundg 1
          case measure => omega
          case rel => exact chg_next (j := 2) (m := 1) (by omega) rfl HO.out hE2.out rfl HGJ.out HGR.out _
      · by_cases hk2 : k = 6
        · subst hk2
          have hE2 := Lib.hid (hE1.trans ((if_neg (by omega)).trans (if_pos rfl)))
          clear hE1 hk1
          cases o with
          | true =>
            go_wp2_with (go_at_call 52; refine (col3_any _ _).mono ?_; rintro e w' ⟨rfl, rfl⟩)
            go_roundg 1
            case measure => omega
            case rel => exact chg_next (j := 2) (m := 1) (by omega) rfl HO.out hE2.out (by rw [Bool.true_and]; exact decide_eq_decide.2 ⟨by omega, by omega⟩) HGJ.out HGR.out _
          | false =>
            go_wp2_with (go_at_call 52; refine (col3_any _ _).mono ?_; rintro e w' ⟨rfl, rfl⟩)
            go_roundg 1
            case measure => omega
            case rel => exact chg_next (j := 2) (m := 1) (by omega) rfl HO.out hE2.out rfl HGJ.out HGR.out _
        · have hE2 := Lib.hid (hE1.trans ((if_neg hk1).trans (if_neg hk2)))
          have hn1 : (k == 5) = false := by simpa using hk1
          have hn2 : (k == 6) = false := by simpa using hk2
          clear hE1 hk1 hk2
          cases o with
          | true =>
            go_wp2_with (go_at_call 52; refine (col3_any _ _).mono ?_; rintro e w' ⟨rfl, rfl⟩)
            go_roundg 1
            case measure => omega
            case rel => exact chg_keep (j := 2) (m := 1) (by omega) rfl HO.out HX.out hE2.out rfl HGJ.out HGR.out _
          | false =>
            go_wp2_with (go_at_call 52; refine (col3_any _ _).mono ?_; rintro e w' ⟨rfl, rfl⟩)
            go_roundg 1
            case measure => omega
            case rel => exact chg_keep (j := 2) (m := 1) (by omega) rfl HO.out HX.out hE2.out rfl HGJ.out HGR.out _
    | 3, _ =>
      have hgl : g < wr.heap.size := (Array.getElem?_eq_some_iff.1 hgj).1
      have hc0 : wr.cell? ⟨pc, 9, none⟩ = some (.int .i64 7) := hgr.cell (HPC.out 9 _ rfl) (fun e => h2 (by injection e))
      have hc1 : wr.cell? ⟨pc, 10, none⟩ = some (.int .i64 8) := hgr.cell (HPC.out 10 _ rfl) (fun e => h2 (by injection e))
      have hc2 : wr.cell? ⟨pc, 11, none⟩ = some (.func (.func 53) #[] #[]) := hgr.cell (HPC.out 11 _ rfl) (fun e => h2 (by injection e))
      have hpl : pc < wr.heap.size := block_lt_of_cell hc0
      have hgc : wr.cell? ⟨g, 4, none⟩ = some (.int .i64 b.re) := by rw [cell_of_row _ _ _ _ _ _ hgj]; rfl
      have hgf : wr.frozen? ⟨g, 4, none⟩ = false := frozen_of_row _ _ _ _ _ hgj
      have HGJ := Lib.hid hgj
      have HGR := Lib.hid hgr
      clear hgj hgr
      obtain ⟨hb1, hb2⟩ := hb.2.2.2
      have hE1 := hE.out.2.2.2
      have HX : Hid (fld (mix 3 b c) 3 = b.re) := Lib.hid rfl
      generalize hO : mixOk 3 c = o
      have HO := Lib.hid hO
      clear hO
      generalize b.re = x at *
      by_cases hk1 : k = 7
      · subst hk1
        have hE2 := Lib.hid (hE1.trans (if_pos rfl))
        clear hE1
        cases o with
        | true =>
          go_wp2_with (go_at_call 53; refine (col4_any _ _).mono ?_; rintro e w' ⟨rfl, rfl⟩)
          go_roundg 0
          case measure => omega
          case rel => exact chg_next (j := 3) (m := 0) (by omega) rfl HO.out hE2.out rfl HGJ.out HGR.out _
        | false =>
          go_wp2_with (go_at_call 53; refine (col4_any _ _).mono ?_; rintro e w' ⟨rfl, rfl⟩)
          go_roundg 0
          case measure => omega
          case rel => exact chg_next (j := 3) (m := 0) (by omega) rfl HO.out hE2.out rfl HGJ.out HGR.out _
      · by_cases hk2 : k = 8
        · subst hk2
          have hE2 := Lib.hid (hE1.trans ((if_neg (by omega)).trans (if_pos rfl)))
          clear hE1 hk1
          cases o with
          | true =>
            go_wp2_with (go_at_call 53; refine (col4_any _ _).mono ?_; rintro e w' ⟨rfl, rfl⟩)
            go_roundg 0
            case measure => omega
            case rel => exact chg_next (j := 3) (m := 0) (by omega) rfl HO.out hE2.out (by rw [Bool.true_and]; exact decide_eq_decide.2 ⟨by omega, by omega⟩) HGJ.out HGR.out _
          | false =>
            go_wp2_with (go_at_call 53; refine (col4_any _ _).mono ?_; rintro e w' ⟨rfl, rfl⟩)
            go_roundg 0
            case measure => omega
            case rel => exact chg_next (j := 3) (m := 0) (by omega) rfl HO.out hE2.out rfl HGJ.out HGR.out _
        · have hE2 := Lib.hid (hE1.trans ((if_neg hk1).trans (if_neg hk2)))
          have hn1 : (k == 7) = false := by simpa using hk1
          have hn2 : (k == 8) = false := by simpa using hk2
          clear hE1 hk1 hk2
          cases o with
          | true =>
            go_wp2_with (go_at_call 53; refine (col4_any _ _).mono ?_; rintro e w' ⟨rfl, rfl⟩)
            go_roundg 0
            case measure => omega
            case rel => exact chg_keep (j := 3) (m := 0) (by omega) rfl HO.out HX.out hE2.out rfl HGJ.out HGR.out _
          | false =>
            go_wp2_with (go_at_call 53; refine (col4_any _ _).mono ?_; rintro e w' ⟨rfl, rfl⟩)
            go_roundg 0
            case measure => omega
            case rel => exact chg_keep (j := 3) (m := 0) (by omega) rfl HO.out HX.out hE2.out rfl HGJ.out HGR.out _
    | 4, _ =>
      have HGJ := Lib.hid hgj
      have HGR := Lib.hid hgr
      clear hgj hgr
      have HO := Lib.hid (mixOk_four c)
      generalize mixOk 4 c = o at *
      go_wp2
      go_ret
      exact ⟨(show Ending.returned (.bool o) = .returned (.bool c.okB) from by rw [HO.out]), HGJ.out, HGR.out⟩
end Go.Proofs.Ytefphkefgfoklaa
