/- Contract of customsmade.Segments: some list of at most twelve valid segments. -/
import Derived.Test.YtmnflbgejagpmaaSu
namespace Go.Proofs.Ytmnflbgejagpmaa
open Go.RowKit
set_option linter.unusedVariables false

def OkE (e : List Bs) : Prop := e.length ≤ 3 ∧ (∀ c ∈ e, c.length ≤ 4) ∧ lastBad e = false
def OkL (els : List (List Bs)) (n : Nat) : Prop := (∀ e ∈ els, OkE e) ∧ els.length + n ≤ 3 ∧ (n = 0 → els = [] ∨ ∃ l e, els = l ++ [e] ∧ e ≠ [])
theorem OkL.start {n : Nat} (h : n ≤ 3) : OkL [] n := ⟨fun e he => (by cases he), by simpa using h, fun _ => .inl rfl⟩
theorem OkL.step {els : List (List Bs)} {n : Nat} {e : List Bs} (h : OkL els n) (hn : 0 < n) (he : OkE e) (h1 : n = 1 → e ≠ []) : OkL (els ++ [e]) (n - 1) := by
  refine ⟨fun x hx => ?_, by have := h.2.1; simp; omega, fun h0 => .inr ⟨els, e, rfl, h1 (by omega)⟩⟩
  rcases List.mem_append.1 hx with hx | hx
  · exact h.1 x hx
  · simp only [List.mem_singleton] at hx; subst hx; exact he
theorem endBad_snoc : ∀ (l : List (List Bs)) (e : List Bs), (∀ x ∈ l, lastBad x = false) → lastBad e = false → e ≠ [] → endBad (l ++ [e]) = false
  | [], e, _, h1, h2 => by simp [endBad, h1, h2]
  | [x], e, h, h1, h2 => by
    have := h x (by simp)
    simp [endBad, h1, h2, this]
  | x :: y :: r, e, h, h1, h2 => by
    have hx := h x (by simp)
    have := endBad_snoc (y :: r) e (fun z hz => h z (by simp [hz])) h1 h2
    simp only [List.cons_append] at this ⊢
    unfold endBad
    rw [hx, this]
    rfl
theorem OkL.valid {els : List (List Bs)} {t : Bs} (h : OkL els 0) (ht : isTagF t = true) : validF ⟨t, els⟩ = 0 := by
  refine validF_zero.2 ⟨ht, ?_, ?_⟩
  · unfold isLongF
    have h1 := h.2.1
    rw [Bool.or_eq_false_iff]
    refine ⟨by simp; omega, ?_⟩
    rw [List.any_eq_false]
    intro e he
    have := h.1 e he
    unfold longE
    simp only [Bool.or_eq_true, decide_eq_true_eq, List.any_eq_true, not_or, not_exists, not_and]
    exact ⟨by have := this.1; omega, fun c hc => by have := this.2.1 c hc; omega⟩
  · rcases h.2.2 rfl with h0 | ⟨l, e, rfl, hne⟩
    · simp only at h0 ⊢
      rw [h0]; rfl
    · exact endBad_snoc l e (fun x hx => (h.1 x (by simp [hx])).2.2) (h.1 e (by simp)).2.2 hne
theorem lastBad_snoc : ∀ (l : List Bs) (c : Bs), lastBad (l ++ [c]) = c.isEmpty
  | [], c => rfl
  | [x], c => rfl
  | x :: y :: r, c => by
    have := lastBad_snoc (y :: r) c
    simp only [List.cons_append] at this ⊢
    unfold lastBad
    exact this
def madeTags : List Bs := [[76, 79, 84], [71, 68, 83], [65, 48, 48], [69, 78, 68]]
theorem madeTags_ok : ∀ t ∈ madeTags, isTagF t = true := by decide
/-- a string of a row of the call's own is replaced -/
theorem OwnStr.setAt {w : World} {B g c : Nat} {e : List Bs} (h : OwnStr w B (.slice (some ⟨g, 0, none⟩) e.length c) e) (k : Nat) (hk : k < e.length) (y : Bs) : OwnStr (w.setCell ⟨g, k, none⟩ (.string ⟨y.toArray⟩)) B (.slice (some ⟨g, 0, none⟩) e.length c) (e.set k y) := by
  rcases h.2 with ⟨hv, _⟩ | ⟨g', cap, cur, hv, hb, hh, h1, h2, h3, h4⟩
  · cases hv
  · injection hv with e1 _ e3
    injection e1 with e1
    injection e1 with e1
    subst e1; subst e3
    refine ⟨by simp [strs_len], .inr ⟨g, c, cur.setIfInBounds k (.string ⟨y.toArray⟩), by rw [List.length_set], hb, heap_setCell_same w g k cur _ _ hh, by rw [List.length_set]; exact h1, h2, by simpa using h3, ?_⟩⟩
    rw [List.length_set, Array.toList_setIfInBounds, List.take_set, strs, List.map_set]
    have h4' : cur.toList.take (e.length * 1) = e.map str := h4
    rw [h4']
    rfl
theorem Turned.below_trans {g : Nat} {a w w' : World} (h : Turned g a w) (hb : Below a.heap.size w w') : Turned g a w' :=
  ⟨hb.os.trans h.os, hb.tape.trans h.tape, hb.output.trans h.output, Nat.le_trans h.size hb.size, fun i hi hne => (hb.block i hi).trans (h.block i hi hne)⟩
theorem tags_at (w1 w3 : World) (g n : Nat) (hn : n < 4) (hg : g < w1.heap.size) (hT : Turned g (w1.alloc (.cells #[.string ⟨#[76, 79, 84]⟩, .string ⟨#[71, 68, 83]⟩, .string ⟨#[65, 48, 48]⟩, .string ⟨#[69, 78, 68]⟩] 9)) w3) :
    ∃ tg : Bs, isTagF tg = true ∧ w3.cell? ⟨w1.heap.size, n, none⟩ = some (.string ⟨tg.toArray⟩) := by
  have h1 : ∀ j, w3.cell? ⟨w1.heap.size, j, none⟩ = (#[.string ⟨#[76, 79, 84]⟩, .string ⟨#[71, 68, 83]⟩, .string ⟨#[65, 48, 48]⟩, .string ⟨#[69, 78, 68]⟩] : Array Value)[j]? := fun j => by
    rw [hT.cell (p := ⟨w1.heap.size, j, none⟩) (by simp) (by simp only; omega), cell_of_row _ _ _ _ _ _ (heap_alloc_new w1 _)]
  match n, hn with
  | 0, _ => exact ⟨[76, 79, 84], by decide, h1 0⟩
  | 1, _ => exact ⟨[71, 68, 83], by decide, h1 1⟩
  | 2, _ => exact ⟨[65, 48, 48], by decide, h1 2⟩
  | 3, _ => exact ⟨[69, 78, 68], by decide, h1 3⟩
theorem OwnStr.new (w : World) (B : Nat) (y : Bs) (hB : B ≤ w.heap.size) : OwnStr (w.alloc (.cells #[.string ⟨y.toArray⟩] 9)) B (.slice (some ⟨w.heap.size, 0, none⟩) 1 1) [y] :=
  ⟨rfl, .inr ⟨w.heap.size, 1, _, rfl, hB, heap_alloc_new w _, Nat.le_refl _, by unfold maxLen; omega, rfl, rfl⟩⟩
theorem own_formP {w : World} {B : Nat} {v : Value} {e : List Bs} (h : OwnStr w B v e) (hn : 0 < e.length) : ∃ g c, v = .slice (some ⟨g, 0, none⟩) e.length c ∧ B ≤ g ∧ g < w.heap.size := by
  rcases h.2 with ⟨_, h0⟩ | ⟨g, cap, cur, hv, hb, hh, _⟩
  · omega
  · exact ⟨g, cap, hv, hb, (Array.getElem?_eq_some_iff.1 hh).1⟩
theorem own_frozen {w : World} {B g c : Nat} {e : List Bs} (h : OwnStr w B (.slice (some ⟨g, 0, none⟩) e.length c) e) (j : Nat) : w.frozen? ⟨g, j, none⟩ = false := by
  rcases h.2 with ⟨hv, _⟩ | ⟨g', cap, cur, hv, hb, hh, _⟩
  · cases hv
  · injection hv with e1
    injection e1 with e1
    injection e1 with e1
    subst e1
    exact frozen_of_row _ _ _ _ _ hh
def MadeRet (w : World) (e : Ending) (w' : World) : Prop :=
  ∃ (v : Value) (l : List Seg), e = .returned v ∧ SegsOwn w' w.heap.size v l ∧ l.length ≤ 12 ∧ (∀ s ∈ l, validF s = 0) ∧ Below w.heap.size w w'
def MRel (w : World) (A : Option Addr) (c : Nat) (l : List Int) (m : Nat) (v : Value) (wr : World) : Prop :=
  ∃ (segs : List Seg) (i : Nat), segs.length + m = 12 ∧ SegsOwn wr (w.heap.size + 1) v segs ∧ (∀ s ∈ segs, validF s = 0) ∧ Src wr w.heap.size A c l i ∧ Below w.heap.size w wr
def MRel2 (g X : Nat) (w3 : World) (tg : Bs) (A : Option Addr) (c : Nat) (l : List Int) (m : Nat) (nv : Value) (wr : World) : Prop :=
  ∃ (els : List (List Bs)) (u : Value) (i : Nat), nv = .int .i64 (m : Int) ∧ wr.cell? ⟨X, 0, none⟩ = some (.string ⟨tg.toArray⟩) ∧ wr.cell? ⟨X, 1, none⟩ = some u ∧ wr.frozen? ⟨X, 1, none⟩ = false ∧
    ElsOwn wr (X + 1) u els ∧ OkL els m ∧ Src wr g A c l i ∧ Turned g w3 wr ∧ X < wr.heap.size
def MRel3 (g H : Nat) (w5 : World) (A : Option Addr) (c : Nat) (l : List Int) (m : Nat) (ev kv : Value) (wr : World) : Prop :=
  ∃ (es : List Bs) (i : Nat), kv = .int .i64 (m : Int) ∧ OwnStr wr H ev es ∧ es.length + m ≤ 3 ∧ (∀ x ∈ es, x.length ≤ 4) ∧ Src wr g A c l i ∧ Turned g w5 wr
set_option maxHeartbeats 8000000 in
theorem mSegments_any (A : Option Addr) (c : Nat) (l0 : List Int) (w : World) (hr : Rd w A (ints l0)) (hl : l0.length ≤ c) (hc : c ≤ 9223372036854775807) :
    Calls Try.prog 12 #[.slice A l0.length c] w (MadeRet w) := by
  have HCT := Lib.hid (mcut_any A c l0 200 w hl hc (by omega))
  have hr2 : RdB w w.heap.size A (ints (l0.take 200)) := by have := (RdB.of_rd hr).take 200; rwa [ints, ← List.map_take] at this
  have hl2 : (l0.take 200).length ≤ 200 := List.length_take_le _ _
  generalize l0.take 200 = l at HCT hr2 hl2
  have q0 := (Below.refl w.heap.size w).alloc (Nat.le_refl _) (.cells #[.slice A l.length c, .int .i64 0] 52)
  have hS0 : Src (w.alloc (.cells #[.slice A l.length c, .int .i64 0] 52)) w.heap.size A c l 0 := ⟨heap_alloc_new w _, Nat.zero_le _, hr2.below q0, by omega⟩
  have HN := Lib.hid (fun (n : Int) (i : Nat) (W : World) (h : Src W w.heap.size A c l i) (hn : 0 < n) (hn2 : n ≤ 1000000000000) => srcNext_any w.heap.size A c l i n W h hn hn2)
  have HLF := Lib.hid (fun (i : Nat) (W : World) (h : Src W w.heap.size A c l i) => srcLeft_any w.heap.size A c l i W h)
  have HTX := Lib.hid (fun (i : Nat) (W : World) (h : Src W w.heap.size A c l i) => srcText_any w.heap.size A c l i W h)
  obtain ⟨i1, hi1, hy0, hy1, hy2⟩ := info_parts strsInfo
  obtain ⟨i2, hi2, hx0, hx1, hx2⟩ := info_parts strInfo
  obtain ⟨i3, hi3, hw0, hw1, hw2⟩ := info_parts segInfo
  have hgw : w.heap.size < (w.alloc (.cells #[.slice A l.length c, .int .i64 0] 52)).heap.size := by simp
  clear hr hr2
  go_enter Try.func12, Try.ntmps12
  go_wp2_with (go_at_call 23; refine HCT.out.mono ?_; rintro e w' ⟨rfl, rfl⟩)
  go_loopg [4] 12 (fun m v wr => MRel w A c l m v wr)
  case atStart => exact ⟨[], 0, rfl, SegsOwn.nil_ _ _, fun s hs => (by cases hs), hS0, q0⟩
  case round =>
    clear hS0 q0 hgw
    obtain ⟨segs, i, hk, hsegs, hval, hS, hb⟩ := hrel
    have HK := Lib.hid hk
    have HV := Lib.hid hval
    have hs12 : segs.length ≤ 12 := by omega
    clear hk hval
    obtain ⟨Av, cv, rfl, _, _⟩ := hsegs.at_
    by_cases hend : i < l.length ∧ segs.length < 12
    · have hd1 : decide (i < l.length) = true := by simpa using hend.1
      have hd2 : decide ((segs.length : Int) < 12) = true := by have := hend.2; simp; omega
      have hs11 := hend.2
      clear hend
      go_wp2_with fail
      refine (HLF.out i _ hS).mono ?_
      rintro e w1 ⟨rfl, hq1⟩
      rw [hd1]
      have hb1 := hq1.below wr.heap.size
      have hS1 := hS.below hb1
      have hsegs1 := hsegs.below hb1
      have hB1 := hb.trans (hq1.below _)
      have hSt := hS1.below ((Below.refl w1.heap.size w1).alloc (Nat.le_refl _) (.cells #[.string ⟨#[76, 79, 84]⟩, .string ⟨#[71, 68, 83]⟩, .string ⟨#[65, 48, 48]⟩, .string ⟨#[69, 78, 68]⟩] 9))
      have hsegst := hsegs1.below ((Below.refl w1.heap.size w1).alloc (Nat.le_refl _) (.cells #[.string ⟨#[76, 79, 84]⟩, .string ⟨#[71, 68, 83]⟩, .string ⟨#[65, 48, 48]⟩, .string ⟨#[69, 78, 68]⟩] 9))
      have hBt := hB1.alloc hB1.size (.cells #[.string ⟨#[76, 79, 84]⟩, .string ⟨#[71, 68, 83]⟩, .string ⟨#[65, 48, 48]⟩, .string ⟨#[69, 78, 68]⟩] 9)
      have hg1 := hS1.lt
      go_wp2_with fail
      refine (HN.out 4 i _ hSt (by omega) (by omega)).mono ?_
      rintro e w3 ⟨x3, j3, rfl, h30, h34, hS3, hT3⟩
      obtain ⟨n3, rfl⟩ := Int.eq_ofNat_of_zero_le h30
      have hn3 : n3 < 4 := by omega
      obtain ⟨tg, htg, htc⟩ := tags_at w1 w3 w.heap.size n3 hn3 hg1 hT3
      have hsegs3 := hT3.segs hsegst (Nat.lt_succ_self _)
      have hB3 := hBt.trans (hT3.below (Nat.le_refl _) hBt.size)
      have hgX := hS3.lt
      clear hS1 hSt hsegs1 hsegst hBt hT3 hsegs hS hb hb1 hB1
      have hb4 := (Below.refl w3.heap.size w3).alloc (Nat.le_refl _) (.cells #[.string ⟨tg.toArray⟩, .slice none 0 0] 24)
      have hS4 := hS3.below hb4
      have hT4 := Turned.of_below (g := w.heap.size) hb4
      have hX0 : (w3.alloc (.cells #[.string ⟨tg.toArray⟩, .slice none 0 0] 24)).cell? ⟨w3.heap.size, 0, none⟩ = some (.string ⟨tg.toArray⟩) := by simp
      have hX1 : (w3.alloc (.cells #[.string ⟨tg.toArray⟩, .slice none 0 0] 24)).cell? ⟨w3.heap.size, 1, none⟩ = some (.slice none 0 0) := by simp
      have hXf : (w3.alloc (.cells #[.string ⟨tg.toArray⟩, .slice none 0 0] 24)).frozen? ⟨w3.heap.size, 1, none⟩ = false := by simp
      have hXl : w3.heap.size < (w3.alloc (.cells #[.string ⟨tg.toArray⟩, .slice none 0 0] 24)).heap.size := by simp
      have hgXne : w3.heap.size ≠ w.heap.size := by omega
      go_wp2_with fail
      refine (HN.out 4 j3 _ hS4 (by omega) (by omega)).mono ?_
      rintro e w4 ⟨x4, j4, rfl, h40, h44, hS4', hT4'⟩
      obtain ⟨n4, rfl⟩ := Int.eq_ofNat_of_zero_le h40
      have hn4 : n4 ≤ 3 := by omega
      have hY0 := (hT4'.cell (p := ⟨w3.heap.size, 0, none⟩) hXl hgXne).trans hX0
      have hY1 := (hT4'.cell (p := ⟨w3.heap.size, 1, none⟩) hXl hgXne).trans hX1
      have hYf := (hT4'.frozen (p := ⟨w3.heap.size, 1, none⟩) hXl hgXne).trans hXf
      have hYl := Nat.lt_of_lt_of_le hXl hT4'.size
      have hT34 := hT4.trans hT4'
      clear hX0 hX1 hXf hXl hT4 hT4' hS4 hb4 htc
      go_wp2
      go_loopg [6] n4 (fun m nv wr => MRel2 w.heap.size w3.heap.size w3 tg A c l m nv wr)
      case atStart => exact ⟨[], .slice none 0 0, j4, rfl, hY0, hY1, hYf, ElsOwn.nil_ _ _, OkL.start hn4, hS4', hT34, hYl⟩
      case round =>
        clear hY0 hY1 hYf hYl hT34 hS4'
        obtain ⟨els, u, i, rfl, hX0, hX1, hXf, hels, hok, hS, hT, hXl⟩ := hrel
        obtain ⟨m2, rfl⟩ : ∃ m2 : Nat, m2 = gk := ⟨_, rfl⟩
        obtain ⟨wo, rfl⟩ : ∃ wo : World, wo = wr := ⟨_, rfl⟩
        have HOK := Lib.hid hok
        have hem : els.length + m2 ≤ 3 := hok.2.1
        clear hok
        by_cases hm : 0 < m2
        · have hdm : decide (0 < m2) = true := by simpa using hm
          obtain ⟨ecs, ho1, ho2⟩ := hels
          go_wp2_with fail
          refine (HN.out 4 i _ hS (by omega) (by omega)).mono ?_
          rintro e w5 ⟨x5, j5, rfl, h50, h54, hS5, hT5⟩
          obtain ⟨n5, rfl⟩ := Int.eq_ofNat_of_zero_le h50
          have hn5 : n5 ≤ 3 := by omega
          have hg5 := hS5.lt
          clear hS
          go_wp2
          go_loopg [7, 8] n5 (fun m ev kv wr => MRel3 w.heap.size w5.heap.size w5 A c l m ev kv wr)
          case atStart => exact ⟨[], j5, rfl, OwnStr.nil_ _ _, by simpa using hn5, fun x hx => (by cases hx), hS5, Turned.refl _ _⟩
          case round =>
            clear hS5
            obtain ⟨es, i, rfl, hoe, hel, hec, hS, hT6⟩ := hrel
            have HEC := Lib.hid hec
            clear hec
            by_cases hk0 : 0 < gk
            · have hdk : decide (0 < gk) = true := by simpa using hk0
              go_wp2_with fail
              refine (HTX.out i _ hS).mono ?_
              rintro e w7 ⟨t7, j7, rfl, ht7, hS7, hT7⟩
              have hoe7 := hT7.str hoe hg5
              have hB7 := Nat.le_trans hT6.size hT7.size
              go_wp2_with (at_builtin; refine wpList_append_new w7 rfl (.tmp 39) (.tmp 42) 48 rfl w5.heap.size 9 i2 _ 1 16 Try.underlying48 hi2 hx0 hx1 hx2 rfl (by omega) _ es.length (strs es) [.string ⟨t7.toArray⟩] rfl (by simp [Value.oneCell']) rfl hoe7 rfl (by unfold maxLen; omega) (by omega) hB7 ?_; intro v8 w8 hown8 hb8 _ _)
              go_roundg (gk - 1)
              case measure => omega
              case rel =>
                refine ⟨es ++ [t7], j7, by rw [show ((gk - 1 : Nat) : Int) = (gk : Int) - 1 by omega], ?_, by simp; omega, fun x hx => ?_, hS7.belowB hb8 hg5, (hT6.trans hT7).below_trans hb8⟩
                · unfold OwnStr
                  rw [List.length_append]
                  simpa [strs, str] using hown8
                · rcases List.mem_append.1 hx with hx | hx
                  · exact HEC.out x hx
                  · simp only [List.mem_singleton] at hx; subst hx; exact ht7
            · have hdk : decide (0 < gk) = false := by simpa using hk0
              have hel2 : es.length ≤ 3 := by omega
              clear hk0 hel
              have hHX : w3.heap.size + 1 ≤ w5.heap.size := Nat.lt_of_lt_of_le hXl hT5.size
              have hT57 := hT5.trans hT6
              have hz0 : wr.cell? ⟨w3.heap.size, 0, none⟩ = some (.string ⟨tg.toArray⟩) := (hT57.cell (p := ⟨w3.heap.size, 0, none⟩) hXl hgXne).trans hX0
              have hz1 : wr.cell? ⟨w3.heap.size, 1, none⟩ = some u := (hT57.cell (p := ⟨w3.heap.size, 1, none⟩) hXl hgXne).trans hX1
              have hzf : wr.frozen? ⟨w3.heap.size, 1, none⟩ = false := (hT57.frozen (p := ⟨w3.heap.size, 1, none⟩) hXl hgXne).trans hXf
              have hzl : w3.heap.size < wr.heap.size := Nat.lt_of_lt_of_le hXl hT57.size
              have hox := hT57.own ho1 (Nat.lt_succ_of_lt hgX)
              have hoi : ∀ (i : Nat) (e : List Bs), els[i]? = some e → ∃ u, ecs[i]? = some u ∧ OwnStr wr (w3.heap.size + 1) u e := fun i x hx => by obtain ⟨y, a, b⟩ := ho2 i x hx; exact ⟨y, a, hT57.str b (Nat.lt_succ_of_lt hgX)⟩
              have hTz : Turned w.heap.size w3 wr := hT.trans hT57
              by_cases he0 : es.length = 0
              · have hes : es = [] := List.eq_nil_of_length_eq_zero he0
                subst hes
                obtain ⟨Ae, ce, rfl, _, _⟩ := own_shape hoe
                by_cases h1 : m2 = 1
                · have hb1 : ((m2 : Int) == 1) = true := by simp; omega
                  clear h1
                  have hb9 := (Below.refl wr.heap.size wr).alloc (Nat.le_refl _) (.cells #[.string ⟨#[120]⟩] 9)
                  have hc9 : (wr.alloc (.cells #[.string ⟨#[120]⟩] 9)).cell? ⟨wr.heap.size, 0, none⟩ = some (.string ⟨#[120]⟩) := by simp
                  have ho9 := OwnStr.new wr (w3.heap.size + 1) [120] hzl
                  have hS9 := hS.below hb9
                  have hT59 := hT57.below_trans (w' := wr.alloc (.cells #[.string ⟨#[120]⟩] 9)) (hb9.mono hT57.size)
                  clear hz0 hz1 hzf hox hoi hTz
                  have hzr := hzl
                  clear hzl
                  generalize hW9 : wr.alloc (.cells #[.string ⟨#[120]⟩] 9) = W9 at hb9 hc9 ho9 hS9 hT59
                  have hz0 : W9.cell? ⟨w3.heap.size, 0, none⟩ = some (.string ⟨tg.toArray⟩) := (hT59.cell (p := ⟨w3.heap.size, 0, none⟩) hXl hgXne).trans hX0
                  have hz1 : W9.cell? ⟨w3.heap.size, 1, none⟩ = some u := (hT59.cell (p := ⟨w3.heap.size, 1, none⟩) hXl hgXne).trans hX1
                  have hzf : W9.frozen? ⟨w3.heap.size, 1, none⟩ = false := (hT59.frozen (p := ⟨w3.heap.size, 1, none⟩) hXl hgXne).trans hXf
                  have hzl : w3.heap.size < W9.heap.size := Nat.lt_of_lt_of_le hXl hT59.size
                  have hox := hT59.own ho1 (Nat.lt_succ_of_lt hgX)
                  have hoi : ∀ (i : Nat) (e : List Bs), els[i]? = some e → ∃ u, ecs[i]? = some u ∧ OwnStr W9 (w3.heap.size + 1) u e := fun i x hx => by obtain ⟨y, a, b⟩ := ho2 i x hx; exact ⟨y, a, hT59.str b (Nat.lt_succ_of_lt hgX)⟩
                  have hTz : Turned w.heap.size w3 W9 := hT.trans hT59
                  clear hb9
                  go_wp2_with (at_builtin; refine wpList_append_new W9 rfl (.tmp 69) (.tmp 71) 22 rfl (w3.heap.size + 1) 48 i1 _ 1 24 Try.underlying22 hi1 hy0 hy1 hy2 rfl (by omega) _ els.length ecs [.slice (some ⟨wr.heap.size, 0, none⟩) 1 1] rfl (by simp [Value.oneCell']) rfl hox rfl (by unfold maxLen; omega) (by omega) hzl ?_; intro v8 w8 hown8 hb8 _ hg8; have hk0 : w8.cell? ⟨w3.heap.size, 0, none⟩ = some (.string ⟨tg.toArray⟩) := (hb8.cell (p := ⟨w3.heap.size, 0, none⟩) (Nat.lt_succ_self _)).trans hz0; have hk1 : w8.cell? ⟨w3.heap.size, 1, none⟩ = some u := (hb8.cell (p := ⟨w3.heap.size, 1, none⟩) (Nat.lt_succ_self _)).trans hz1; have hkf : w8.frozen? ⟨w3.heap.size, 1, none⟩ = false := (hb8.frozen (p := ⟨w3.heap.size, 1, none⟩) (Nat.lt_succ_self _)).trans hzf; obtain ⟨A8, c8, rfl, _, _⟩ := own_shape hown8)
                  have hels2 := ElsOwn.push hox hoi ho9 hg8 hown8
                  have hels3 := hels2.set (p := ⟨w3.heap.size, 1, none⟩) (Nat.lt_succ_self _) (.slice A8 (els.length + 1) c8)
                  go_roundg (m2 - 1)
                  case measure => omega
                  case rel =>
                    refine ⟨els ++ [[[120]]], .slice A8 (els.length + 1) c8, _, by rw [show ((m2 - 1 : Nat) : Int) = (m2 : Int) - 1 by omega], (World.cell?_setCell_other w8 _ _ _ (by simp)).trans hk0, World.cell?_setCell_same w8 _ _ hk1, (World.frozen?_setCell w8 _ _ _).trans hkf, hels3, HOK.out.step hm ⟨by simp, by simp, rfl⟩ (fun _ h => by cases h), ((hS9).belowB hb8 (Nat.lt_succ_of_lt hgX)).setNew (p := ⟨w3.heap.size, 1, none⟩) hgX _, (hTz.below_trans (hb8.mono (Nat.le_succ _))).setNew (p := ⟨w3.heap.size, 1, none⟩) (Nat.le_refl _) _, by simp; have := hb8.size; omega⟩
                · have hb1 : ((m2 : Int) == 1) = false := by rw [beq_eq_false_iff_ne]; omega
                  go_wp2_with (at_builtin; refine wpList_append_new wr rfl (.tmp 69) (.tmp 71) 22 rfl (w3.heap.size + 1) 48 i1 _ 1 24 Try.underlying22 hi1 hy0 hy1 hy2 rfl (by omega) _ els.length ecs [.slice Ae 0 ce] rfl (by simp [Value.oneCell']) rfl hox rfl (by unfold maxLen; omega) (by omega) hzl ?_; intro v8 w8 hown8 hb8 _ hg8; have hk0 : w8.cell? ⟨w3.heap.size, 0, none⟩ = some (.string ⟨tg.toArray⟩) := (hb8.cell (p := ⟨w3.heap.size, 0, none⟩) (Nat.lt_succ_self _)).trans hz0; have hk1 : w8.cell? ⟨w3.heap.size, 1, none⟩ = some u := (hb8.cell (p := ⟨w3.heap.size, 1, none⟩) (Nat.lt_succ_self _)).trans hz1; have hkf : w8.frozen? ⟨w3.heap.size, 1, none⟩ = false := (hb8.frozen (p := ⟨w3.heap.size, 1, none⟩) (Nat.lt_succ_self _)).trans hzf; obtain ⟨A8, c8, rfl, _, _⟩ := own_shape hown8)
                  have hels2 := ElsOwn.push hox hoi (hoe.mono hHX) hg8 hown8
                  have hels3 := hels2.set (p := ⟨w3.heap.size, 1, none⟩) (Nat.lt_succ_self _) (.slice A8 (els.length + 1) c8)
                  go_roundg (m2 - 1)
                  case measure => omega
                  case rel =>
                    refine ⟨els ++ [[]], .slice A8 (els.length + 1) c8, _, by rw [show ((m2 - 1 : Nat) : Int) = (m2 : Int) - 1 by omega], (World.cell?_setCell_other w8 _ _ _ (by simp)).trans hk0, World.cell?_setCell_same w8 _ _ hk1, (World.frozen?_setCell w8 _ _ _).trans hkf, hels3, HOK.out.step hm ⟨by simp, by simp, rfl⟩ (fun h => absurd h h1), ((hS).belowB hb8 (Nat.lt_succ_of_lt hgX)).setNew (p := ⟨w3.heap.size, 1, none⟩) hgX _, (hTz.below_trans (hb8.mono (Nat.le_succ _))).setNew (p := ⟨w3.heap.size, 1, none⟩) (Nat.le_refl _) _, by simp; have := hb8.size; omega⟩
              · have hpos : 0 < es.length := by omega
                have hne0 : ((es.length : Int) == 0) = false := by rw [beq_eq_false_iff_ne]; omega
                have hdp : decide (0 < es.length) = true := by simpa using hpos
                obtain ⟨ge, ce, rfl, hHge, hgel⟩ := own_formP hoe hpos
                have hlc := World.ownsRow.cells hoe (g := ge) rfl (es.length - 1) _ (strs_get (l := es) (k := es.length - 1) (by omega))
                rw [Addr.add_lit, Nat.zero_add] at hlc
                have hlf := own_frozen hoe (es.length - 1)
                obtain ⟨fr, la, hfl⟩ : ∃ fr la, es = fr ++ [la] := ⟨es.dropLast, es.getLast (by intro h; rw [h] at hpos; simp at hpos), (List.dropLast_concat_getLast _).symm⟩
                have hlast : es[es.length - 1]'(by omega) = la := by
                  have : es[es.length - 1]? = some la := by rw [hfl]; simp
                  rw [List.getElem?_eq_getElem (by omega)] at this
                  injection this
                rw [hlast] at hlc
                unfold str at hlc
                have HFL := Lib.hid hfl
                clear hfl hlast he0
                have htb : ∃ tb : Bool, ((m2 : Int) == 1) = tb := ⟨_, rfl⟩
                obtain ⟨tb, htb⟩ := htb
                cases la with
                | nil =>
                  have HS2 : Hid (es.set (es.length - 1) [121] = fr ++ [[121]]) := by show _ = _; rw [HFL.out]; simp
                  have ho9 := hoe.setAt (es.length - 1) (by omega) [121]
                  have hS9 := hS.setNew (p := ⟨ge, es.length - 1, none⟩) (by simp only; omega) (.string ⟨#[121]⟩)
                  have hT59 := hT5.trans (hT6.setNew (p := ⟨ge, es.length - 1, none⟩) hHge (.string ⟨#[121]⟩))
                  have hz9 : (wr.setCell ⟨ge, es.length - 1, none⟩ (.string ⟨#[121]⟩)).heap.size = wr.heap.size := by simp [World.setCell]
                  clear hz0 hz1 hzf hox hoi hTz
                  have hzr := hzl
                  clear hzl
                  generalize hW9 : wr.setCell ⟨ge, es.length - 1, none⟩ (.string ⟨#[121]⟩) = W9 at ho9 hS9 hT59 hz9
                  have hz0 : W9.cell? ⟨w3.heap.size, 0, none⟩ = some (.string ⟨tg.toArray⟩) := (hT59.cell (p := ⟨w3.heap.size, 0, none⟩) hXl hgXne).trans hX0
                  have hz1 : W9.cell? ⟨w3.heap.size, 1, none⟩ = some u := (hT59.cell (p := ⟨w3.heap.size, 1, none⟩) hXl hgXne).trans hX1
                  have hzf : W9.frozen? ⟨w3.heap.size, 1, none⟩ = false := (hT59.frozen (p := ⟨w3.heap.size, 1, none⟩) hXl hgXne).trans hXf
                  have hzl : w3.heap.size < W9.heap.size := Nat.lt_of_lt_of_le hXl hT59.size
                  have hox := hT59.own ho1 (Nat.lt_succ_of_lt hgX)
                  have hoi : ∀ (i : Nat) (e : List Bs), els[i]? = some e → ∃ u, ecs[i]? = some u ∧ OwnStr W9 (w3.heap.size + 1) u e := fun i x hx => by obtain ⟨y, a, b⟩ := ho2 i x hx; exact ⟨y, a, hT59.str b (Nat.lt_succ_of_lt hgX)⟩
                  have hTz : Turned w.heap.size w3 W9 := hT.trans hT59
                  have ho9' := ho9.mono hHX
                  have hsl : (es.set (es.length - 1) [121]).length = es.length := List.length_set
                  have hcs : ∀ x ∈ es.set (es.length - 1) [121], x.length ≤ 4 := by
                    rw [HS2.out]
                    intro x hx
                    rcases List.mem_append.1 hx with hx | hx
                    · exact HEC.out x (by rw [HFL.out]; simp [hx])
                    · simp only [List.mem_singleton] at hx; subst hx; simp
                  have HOE : Hid (OkE (es.set (es.length - 1) [121])) := ⟨by rw [hsl]; exact hel2, hcs, by rw [HS2.out, lastBad_snoc]; rfl⟩
                  have HNE : Hid (m2 = 1 → es.set (es.length - 1) [121] ≠ []) := fun _ h => by rw [HS2.out] at h; simp at h
                  have HSL := Lib.hid hsl
                  clear hz9 hsl hcs
                  cases tb
                  all_goals
                    skip
                    go_wp2_with (at_builtin; refine wpList_append_new W9 rfl (.tmp 69) (.tmp 71) 22 rfl (w3.heap.size + 1) 48 i1 _ 1 24 Try.underlying22 hi1 hy0 hy1 hy2 rfl (by omega) _ els.length ecs [.slice (some ⟨ge, 0, none⟩) es.length ce] rfl (by simp [Value.oneCell']) rfl hox rfl (by unfold maxLen; omega) (by omega) hzl ?_; intro v8 w8 hown8 hb8 _ hg8; have hk0 : w8.cell? ⟨w3.heap.size, 0, none⟩ = some (.string ⟨tg.toArray⟩) := (hb8.cell (p := ⟨w3.heap.size, 0, none⟩) (Nat.lt_succ_self _)).trans hz0; have hk1 : w8.cell? ⟨w3.heap.size, 1, none⟩ = some u := (hb8.cell (p := ⟨w3.heap.size, 1, none⟩) (Nat.lt_succ_self _)).trans hz1; have hkf : w8.frozen? ⟨w3.heap.size, 1, none⟩ = false := (hb8.frozen (p := ⟨w3.heap.size, 1, none⟩) (Nat.lt_succ_self _)).trans hzf; obtain ⟨A8, c8, rfl, _, _⟩ := own_shape hown8)
                    have hels2 := ElsOwn.push hox hoi ho9' hg8 hown8
                    have hels3 := hels2.set (p := ⟨w3.heap.size, 1, none⟩) (Nat.lt_succ_self _) (.slice A8 (els.length + 1) c8)
                    go_roundg (m2 - 1)
                    case measure => omega
                    case rel =>
                      refine ⟨els ++ [es.set (es.length - 1) [121]], .slice A8 (els.length + 1) c8, _, by rw [show ((m2 - 1 : Nat) : Int) = (m2 : Int) - 1 by omega], (World.cell?_setCell_other w8 _ _ _ (by simp)).trans hk0, World.cell?_setCell_same w8 _ _ hk1, (World.frozen?_setCell w8 _ _ _).trans hkf, hels3, HOK.out.step hm HOE.out HNE.out, ((hS9).belowB hb8 (Nat.lt_succ_of_lt hgX)).setNew (p := ⟨w3.heap.size, 1, none⟩) hgX _, (hTz.below_trans (hb8.mono (Nat.le_succ _))).setNew (p := ⟨w3.heap.size, 1, none⟩) (Nat.le_refl _) _, by simp; have := hb8.size; omega⟩
                | cons y z =>
                  have HOE : Hid (OkE es) := ⟨hel2, HEC.out, by rw [HFL.out, lastBad_snoc]; rfl⟩
                  have HNE : Hid (m2 = 1 → es ≠ []) := fun _ h => by rw [h] at hpos; simp at hpos
                  cases tb
                  all_goals
                    skip
                    go_wp2_with (at_builtin; refine wpList_append_new wr rfl (.tmp 69) (.tmp 71) 22 rfl (w3.heap.size + 1) 48 i1 _ 1 24 Try.underlying22 hi1 hy0 hy1 hy2 rfl (by omega) _ els.length ecs [.slice (some ⟨ge, 0, none⟩) es.length ce] rfl (by simp [Value.oneCell']) rfl hox rfl (by unfold maxLen; omega) (by omega) hzl ?_; intro v8 w8 hown8 hb8 _ hg8; have hk0 : w8.cell? ⟨w3.heap.size, 0, none⟩ = some (.string ⟨tg.toArray⟩) := (hb8.cell (p := ⟨w3.heap.size, 0, none⟩) (Nat.lt_succ_self _)).trans hz0; have hk1 : w8.cell? ⟨w3.heap.size, 1, none⟩ = some u := (hb8.cell (p := ⟨w3.heap.size, 1, none⟩) (Nat.lt_succ_self _)).trans hz1; have hkf : w8.frozen? ⟨w3.heap.size, 1, none⟩ = false := (hb8.frozen (p := ⟨w3.heap.size, 1, none⟩) (Nat.lt_succ_self _)).trans hzf; obtain ⟨A8, c8, rfl, _, _⟩ := own_shape hown8)
                    have hels2 := ElsOwn.push hox hoi (hoe.mono hHX) hg8 hown8
                    have hels3 := hels2.set (p := ⟨w3.heap.size, 1, none⟩) (Nat.lt_succ_self _) (.slice A8 (els.length + 1) c8)
                    go_roundg (m2 - 1)
                    case measure => omega
                    case rel =>
                      refine ⟨els ++ [es], .slice A8 (els.length + 1) c8, _, by rw [show ((m2 - 1 : Nat) : Int) = (m2 : Int) - 1 by omega], (World.cell?_setCell_other w8 _ _ _ (by simp)).trans hk0, World.cell?_setCell_same w8 _ _ hk1, (World.frozen?_setCell w8 _ _ _).trans hkf, hels3, HOK.out.step hm HOE.out HNE.out, ((hS).belowB hb8 (Nat.lt_succ_of_lt hgX)).setNew (p := ⟨w3.heap.size, 1, none⟩) hgX _, (hTz.below_trans (hb8.mono (Nat.le_succ _))).setNew (p := ⟨w3.heap.size, 1, none⟩) (Nat.le_refl _) _, by simp; have := hb8.size; omega⟩
        · skip
          obtain ⟨Au, cu, rfl, _⟩ := hels.at_
          have hm0 : m2 = 0 := by omega
          have hdm : decide (0 < m2) = false := by simpa using hm
          have HVL : Hid (validF ⟨tg, els⟩ = 0) := (by rw [hm0] at HOK; exact HOK.out.valid htg : validF ⟨tg, els⟩ = 0)
          obtain ⟨scs, hs1, hs2⟩ := hT.segs hsegs3 (Nat.lt_succ_self _)
          have HS2 := Lib.hid hs2
          have hBo : w.heap.size + 1 ≤ wo.heap.size := Nat.lt_trans hgX hXl
          have hBw : Below w.heap.size w wo := hB3.trans (hT.below (Nat.le_refl _) hB3.size)
          clear hs2 hm hm0 hem HOK
          go_wp2_with (at_builtin; refine wpList_append_new wo rfl (.tmp 74) (.tmp 76) 30 rfl (w.heap.size + 1) 24 i3 _ 2 40 Try.underlying30 hi3 hw0 hw1 hw2 rfl (by omega) _ segs.length scs [.string ⟨tg.toArray⟩, .slice Au els.length cu] rfl (by simp [Value.oneCell']) rfl hs1 rfl (by unfold maxLen; omega) (by omega) hBo ?_; intro v8 w8 hown8 hb8 _ hg8)
          have hsn := SegsOwn.push (s := ⟨tg, els⟩) hs1 HS2.out (hels.mono (Nat.le_of_lt (Nat.succ_lt_succ hgX))) hg8 hown8
          go_roundg (12 - (segs.length + 1))
          case measure => have := HK.out; omega
          case rel =>
            refine ⟨segs ++ [⟨tg, els⟩], _, by simp; omega, hsn, fun s hs => ?_, hS.belowB hb8 (Nat.lt_succ_self _), hBw.trans (hb8.mono (Nat.le_succ _))⟩
            rcases List.mem_append.1 hs with hs | hs
            · exact HV.out s hs
            · simp only [List.mem_singleton] at hs; subst hs; exact HVL.out
    · skip
      by_cases hlf : i < l.length
      · have hd1 : decide (i < l.length) = true := by simpa using hlf
        have hd2 : decide ((segs.length : Int) < 12) = false := by
          have : ¬ segs.length < 12 := fun h => hend ⟨hlf, h⟩
          simp; omega
        clear hend hlf
        go_wp2_with fail
        refine (HLF.out i _ hS).mono ?_
        rintro e w1 ⟨rfl, hq1⟩
        rw [hd1]
        have hb1 := hq1.below wr.heap.size
        have hsegs1 := hsegs.below hb1
        go_wp2
        go_ret
        exact ⟨_, segs, rfl, hsegs1.mono (Nat.le_succ _), hs12, HV.out, hb.trans (hq1.below _)⟩
      · have hd1 : decide (i < l.length) = false := by simpa using hlf
        clear hend hlf
        go_wp2_with fail
        refine (HLF.out i _ hS).mono ?_
        rintro e w1 ⟨rfl, hq1⟩
        rw [hd1]
        have hb1 := hq1.below wr.heap.size
        have hsegs1 := hsegs.below hb1
        go_wp2
        go_ret
        exact ⟨_, segs, rfl, hsegs1.mono (Nat.le_succ _), hs12, HV.out, hb.trans (hq1.below _)⟩
end Go.Proofs.Ytmnflbgejagpmaa
