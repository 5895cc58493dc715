/- Contract of customsmade.Segments: some list of at most twelve valid segments. -/
import Derived.Test.YtmjlnckmhdgoiaaGreatDoorSu
import Derived.OpenShut
import Derived.Deep.RegionHeld3
namespace Go.Proofs.YtmjlnckmhdgoiaaGreatDoor
open Go.RowKit
set_option linter.unusedVariables false

def OkE (e : List Bs) : Prop := e.length ≤ 3 ∧ (∀ c ∈ e, c.length ≤ 4) ∧ lastBad e = false
def OkL (els : List (List Bs)) (n : Nat) : Prop := (∀ e ∈ els, OkE e) ∧ els.length + n ≤ 3 ∧ (n = 0 → els = [] ∨ ∃ l e, els = l ++ [e] ∧ e ≠ [])
theorem OkL.start {n : Nat} (h : n ≤ 3) : OkL [] n := ⟨fun e he => (by cases he), by simpa using h, fun _ => .inl rfl⟩
theorem OkL.step {els : List (List Bs)} {n : Nat} {e : List Bs} (h : OkL els n) (hn : 0 < n) (he : OkE e) (h1 : n = 1 → e ≠ []) : OkL (els ++ [e]) (n - 1) := by
  refine ⟨fun x hx => ?_, by have := h.2.1; simp; omega, fun h0 => .inr ⟨els, e, rfl, h1 (by omega)⟩⟩
  rcases List.mem_append.1 hx with hx | hx
  · exact h.1 x hx
  · simp only [List.mem_singleton] at hx; subst hx; exact he
set_option maxRecDepth 100000 in
theorem endBad_snoc : ∀ (l : List (List Bs)) (e : List Bs), (∀ x ∈ l, lastBad x = false) → lastBad e = false → e ≠ [] → endBad (l ++ [e]) = false
  | [], e, _, h1, h2 => by simp [endBad, h1, h2]
  | [x], e, h, h1, h2 => by
    have := h x (by simp)
    simp [endBad, h1, h2, this]
  | x :: y :: r, e, h, h1, h2 => by
    have hx := h x (by simp)
    have := endBad_snoc (y :: r) e (fun z hz => h z (by simp [hz])) h1 h2
    simp only [List.cons_append] at this ⊢
    unfold endBad
    rw [hx, this]
    rfl
set_option maxRecDepth 100000 in
theorem OkL.valid {els : List (List Bs)} {t : Bs} (h : OkL els 0) (ht : isTagF t = true) : validF ⟨t, els⟩ = 0 := by
  refine validF_zero.2 ⟨ht, ?_, ?_⟩
  · unfold isLongF
    have h1 := h.2.1
    rw [Bool.or_eq_false_iff]
    refine ⟨by simp; omega, ?_⟩
    rw [List.any_eq_false]
    intro e he
    have := h.1 e he
    unfold longE
    simp only [Bool.or_eq_true, decide_eq_true_eq, List.any_eq_true, not_or, not_exists, not_and]
    exact ⟨by have := this.1; omega, fun c hc => by have := this.2.1 c hc; omega⟩
  · rcases h.2.2 rfl with h0 | ⟨l, e, rfl, hne⟩
    · simp only at h0 ⊢
      rw [h0]; rfl
    · exact endBad_snoc l e (fun x hx => (h.1 x (by simp [hx])).2.2) (h.1 e (by simp)).2.2 hne
set_option maxRecDepth 100000 in
theorem lastBad_snoc : ∀ (l : List Bs) (c : Bs), lastBad (l ++ [c]) = c.isEmpty
  | [], c => rfl
  | [x], c => rfl
  | x :: y :: r, c => by
    have := lastBad_snoc (y :: r) c
    simp only [List.cons_append] at this ⊢
    unfold lastBad
    exact this
def madeTags : List Bs := [[76, 79, 84], [71, 68, 83], [65, 48, 48], [69, 78, 68]]
theorem madeTags_ok : ∀ t ∈ madeTags, isTagF t = true := by decide
set_option maxRecDepth 100000 in
/-- a string of a row of the call's own is replaced -/
theorem OwnStr.setAt {w : World} {B g c : Nat} {e : List Bs} (h : OwnStr w B (.slice (some ⟨g, 0, none⟩) e.length c) e) (k : Nat) (hk : k < e.length) (y : Bs) : OwnStr (w.setCell ⟨g, k, none⟩ (.string ⟨y.toArray⟩)) B (.slice (some ⟨g, 0, none⟩) e.length c) (e.set k y) := by
  rcases h.2 with ⟨hv, _⟩ | ⟨g', cap, cur, hv, hb, hh, h1, h2, h3, h4⟩
  · cases hv
  · injection hv with e1 _ e3
    injection e1 with e1
    injection e1 with e1
    subst e1; subst e3
    refine ⟨by simp [strs_len], .inr ⟨g, c, cur.setIfInBounds k (.string ⟨y.toArray⟩), by rw [List.length_set], hb, heap_setCell_same w g k cur _ _ hh, by rw [List.length_set]; exact h1, h2, by simpa using h3, ?_⟩⟩
    rw [List.length_set, Array.toList_setIfInBounds, List.take_set, strs, List.map_set]
    have h4' : cur.toList.take (e.length * 1) = e.map str := h4
    rw [h4']
    rfl
theorem Turned.below_trans {g : Nat} {a w w' : World} (h : Turned g a w) (hb : Below a.heap.size w w') : Turned g a w' :=
  ⟨hb.os.trans h.os, hb.tape.trans h.tape, hb.output.trans h.output, Nat.le_trans h.size hb.size, fun i hi hne => (hb.block i hi).trans (h.block i hi hne)⟩
set_option maxRecDepth 100000 in
theorem tags_at (w1 w3 : World) (g n : Nat) (hn : n < 4) (hg : g < w1.heap.size) (hT : Turned g (w1.alloc (.cells #[.string ⟨#[76, 79, 84]⟩, .string ⟨#[71, 68, 83]⟩, .string ⟨#[65, 48, 48]⟩, .string ⟨#[69, 78, 68]⟩] 9)) w3) :
    ∃ tg : Bs, isTagF tg = true ∧ w3.cell? ⟨w1.heap.size, n, none⟩ = some (.string ⟨tg.toArray⟩) := by
  have h1 : ∀ j, w3.cell? ⟨w1.heap.size, j, none⟩ = (#[.string ⟨#[76, 79, 84]⟩, .string ⟨#[71, 68, 83]⟩, .string ⟨#[65, 48, 48]⟩, .string ⟨#[69, 78, 68]⟩] : Array Value)[j]? := fun j => by
    rw [hT.cell (p := ⟨w1.heap.size, j, none⟩) (by simp) (by simp only; omega), cell_of_row _ _ _ _ _ _ (heap_alloc_new w1 _)]
  match n, hn with
  | 0, _ => exact ⟨[76, 79, 84], by decide, h1 0⟩
  | 1, _ => exact ⟨[71, 68, 83], by decide, h1 1⟩
  | 2, _ => exact ⟨[65, 48, 48], by decide, h1 2⟩
  | 3, _ => exact ⟨[69, 78, 68], by decide, h1 3⟩
theorem OwnStr.new (w : World) (B : Nat) (y : Bs) (hB : B ≤ w.heap.size) : OwnStr (w.alloc (.cells #[.string ⟨y.toArray⟩] 9)) B (.slice (some ⟨w.heap.size, 0, none⟩) 1 1) [y] :=
  ⟨rfl, .inr ⟨w.heap.size, 1, _, rfl, hB, heap_alloc_new w _, Nat.le_refl _, by unfold maxLen; omega, rfl, rfl⟩⟩
theorem own_formP {w : World} {B : Nat} {v : Value} {e : List Bs} (h : OwnStr w B v e) (hn : 0 < e.length) : ∃ g c, v = .slice (some ⟨g, 0, none⟩) e.length c ∧ B ≤ g ∧ g < w.heap.size := by
  rcases h.2 with ⟨_, h0⟩ | ⟨g, cap, cur, hv, hb, hh, _⟩
  · omega
  · exact ⟨g, cap, hv, hb, (Array.getElem?_eq_some_iff.1 hh).1⟩
set_option maxRecDepth 100000 in
theorem own_frozen {w : World} {B g c : Nat} {e : List Bs} (h : OwnStr w B (.slice (some ⟨g, 0, none⟩) e.length c) e) (j : Nat) : w.frozen? ⟨g, j, none⟩ = false := by
  rcases h.2 with ⟨hv, _⟩ | ⟨g', cap, cur, hv, hb, hh, _⟩
  · cases hv
  · injection hv with e1
    injection e1 with e1
    injection e1 with e1
    subst e1
    exact frozen_of_row _ _ _ _ _ hh
def MadeRet (w : World) (e : Ending) (w' : World) : Prop :=
  ∃ (v : Value) (l : List Seg), e = .returned v ∧ SegsOwn w' w.heap.size v l ∧ l.length ≤ 12 ∧ (∀ s ∈ l, validF s = 0) ∧ Below w.heap.size w w'
def MRel (w : World) (A : Option Addr) (c : Nat) (l : List Int) (m : Nat) (v : Value) (wr : World) : Prop :=
  ∃ (segs : List Seg) (i : Nat), segs.length + m = 12 ∧ SegsOwn wr (w.heap.size + 1) v segs ∧ (∀ s ∈ segs, validF s = 0) ∧ Src wr w.heap.size A c l i ∧ Below w.heap.size w wr
def MRel2 (g X : Nat) (w3 : World) (tg : Bs) (A : Option Addr) (c : Nat) (l : List Int) (m : Nat) (nv : Value) (wr : World) : Prop :=
  ∃ (els : List (List Bs)) (u : Value) (i : Nat), nv = .int .i64 (m : Int) ∧ wr.cell? ⟨X, 0, none⟩ = some (.string ⟨tg.toArray⟩) ∧ wr.cell? ⟨X, 1, none⟩ = some u ∧ wr.frozen? ⟨X, 1, none⟩ = false ∧
    ElsOwn wr (X + 1) u els ∧ OkL els m ∧ Src wr g A c l i ∧ Turned g w3 wr ∧ X < wr.heap.size
def MRel3 (g H : Nat) (w5 : World) (A : Option Addr) (c : Nat) (l : List Int) (m : Nat) (ev kv : Value) (wr : World) : Prop :=
  ∃ (es : List Bs) (i : Nat), kv = .int .i64 (m : Int) ∧ OwnStr wr H ev es ∧ es.length + m ≤ 3 ∧ (∀ x ∈ es, x.length ≤ 4) ∧ Src wr g A c l i ∧ Turned g w5 wr
end Go.Proofs.YtmjlnckmhdgoiaaGreatDoor

/-! SameSegments of two slices that read as one list. -/
namespace Go.Proofs.YtmjlnckmhdgoiaaGreatDoor
open Go.RowKit
set_option linter.unusedVariables false

theorem SegsAt.quiet {w w' : World} {B : Nat} {A : Option Addr} {l : List Seg} (h : SegsAt w B A l) (q : Quiet w w') : SegsAt w' B A l := h.below (q.below _)
def CntRel (n : Nat) (w : World) (g : Nat) (i : Value) (wr : World) : Prop := ∃ k : Nat, k + g = n ∧ i = .int .i64 (k : Int) ∧ Quiet w wr
theorem bytes_neq (x : Bs) : (x != x) = false := by simp
set_option maxRecDepth 100000 in
set_option maxHeartbeats 4000000 in
theorem same_any (A A' : Option Addr) (c c' : Nat) (l : List Seg) (B B' : Nat) (w : World) (h : SegsAt w B A l) (h' : SegsAt w B' A' l) (hl : l.length ≤ 1000000) (hz : ∀ s ∈ l, s.els.length ≤ 1000000 ∧ ∀ e ∈ s.els, e.length ≤ 1000000) :
    Calls Tryz.prog 38 #[.slice A l.length c, .slice A' l.length c'] w fun e w' => e = .returned (.bool true) ∧ Quiet w w' := by
  have HZ := Lib.hid hz
  have hnn : ((l.length : Int) != (l.length : Int)) = false := by simp
  clear hz
  go_enter Tryz.func38, Tryz.ntmps38
  go_wp2
  go_loopg [5] l.length (fun g i wr => CntRel l.length w g i wr)
  case atStart => exact ⟨0, by omega, rfl, Quiet.refl _⟩
  case round =>
    obtain ⟨k, hk, rfl, hq⟩ := hrel
    have HK := Lib.hid hk
    have hk2 : k ≤ l.length := by omega
    clear hk
    by_cases hlt : k < l.length
    · obtain ⟨b, off, Ae, ce, rfl, _, hc0, hc1, hE⟩ := (h.quiet hq).get hlt
      obtain ⟨b', off', Ae', ce', rfl, _, hc0', hc1', hE'⟩ := (h'.quiet hq).get hlt
      unfold str at hc0 hc0'
      have hc1 : wr.cell? ⟨b, off + k * 2 + 1, none⟩ = some (.slice Ae l[k].els.length ce) := hc1
      have hc1' : wr.cell? ⟨b', off' + k * 2 + 1, none⟩ = some (.slice Ae' l[k].els.length ce') := hc1'
      have hzz := HZ.out l[k] (List.getElem_mem hlt)
      have hel := hzz.1
      have HZ2 := Lib.hid hzz.2
      clear hzz
      generalize l[k] = s at *
      obtain ⟨tg, els⟩ := s
      simp only at hc0 hc0' hc1 hc1' hE hE' hel HZ2
      have hn1 : (tg != tg) = false := bytes_neq tg
      have hn2 : ((els.length : Int) != (els.length : Int)) = false := by simp
      go_wp2
      go_quiet (fail)
      go_wp2
      have q2 : Quiet wr (wr.drewN nq) := ⟨nq, rfl⟩
      generalize wr.drewN nq = W2 at q2 ⊢
      have hd1 := (q2.cell _).trans hc1
      have hd1' := (q2.cell _).trans hc1'
      have hE2 := hE.below (q2.below _)
      have hE2' := hE'.below (q2.below _)
      have hqw := hq.trans q2
      clear hc0 hc0' hc1 hc1' hE hE' hq hn1
      go_loopg [6] els.length (fun g i wr => CntRel els.length W2 g i wr)
      case atStart => exact ⟨0, by omega, rfl, Quiet.refl _⟩
      case round =>
        obtain ⟨j, hj, rfl, hq⟩ := hrel
        have HJ := Lib.hid hj
        have hj2 : j ≤ els.length := by omega
        have hf1 := (hq.cell _).trans hd1
        have hf1' := (hq.cell _).trans hd1'
        clear hj
        by_cases hlt2 : j < els.length
        · obtain ⟨b2, off2, As, cs, rfl, _, hg, hr⟩ := (hE2.below (hq.below _)).get hlt2
          obtain ⟨b2', off2', As', cs', rfl, _, hg', hr'⟩ := (hE2'.below (hq.below _)).get hlt2
          have hel2 := HZ2.out els[j] (List.getElem_mem hlt2)
          generalize els[j] = e at *
          have hn3 : ((e.length : Int) != (e.length : Int)) = false := by simp
          go_wp2
          go_quiet (fail)
          go_wp2
          have q3 : Quiet wr (wr.drewN nq) := ⟨nq, rfl⟩
          generalize wr.drewN nq = W3 at q3 ⊢
          have hr3 := hr.below (q3.below _)
          have hr3' := hr'.below (q3.below _)
          have hqw3 := hq.trans q3
          clear hf1 hf1' hg hg' hr hr' hq hn3
          go_loopg [9] e.length (fun g i wr => CntRel e.length W3 g i wr)
          case atStart => exact ⟨0, by omega, rfl, Quiet.refl _⟩
          case round =>
            obtain ⟨m, hm, rfl, hq⟩ := hrel
            have HM := Lib.hid hm
            have hm2 : m ≤ e.length := by omega
            clear hm
            by_cases hlt3 : m < e.length
            · obtain ⟨b3, off3, rfl, hs⟩ := (hr3.below (hq.below _)).rd.at_lit (strs_get hlt3)
              obtain ⟨b3', off3', rfl, hs'⟩ := (hr3'.below (hq.below _)).rd.at_lit (strs_get hlt3)
              unfold str at hs hs'
              generalize e[m] = x at hs hs'
              have hn4 : (x != x) = false := bytes_neq x
              go_wp2
              go_quiet (fail)
              go_wp2
              go_roundg (e.length - (m + 1))
              case measure => have := HM.out; omega
              case rel => exact ⟨m + 1, by omega, by go_num, hq.drewN _⟩
            · have hge : e.length ≤ m := by omega
              clear hlt3
              go_wp2
              go_roundg (els.length - (j + 1))
              case measure => have := HJ.out; omega
              case rel => exact ⟨j + 1, by omega, by go_num, hqw3.trans hq⟩
        · have hge : els.length ≤ j := by omega
          clear hlt2
          go_wp2
          go_roundg (l.length - (k + 1))
          case measure => have := HK.out; omega
          case rel => exact ⟨k + 1, by omega, by go_num, hqw.trans hq⟩
    · have hge : l.length ≤ k := by omega
      clear hlt
      go_wp2
      go_ret
      exact ⟨rfl, hq⟩
end Go.Proofs.YtmjlnckmhdgoiaaGreatDoor

/-! The law SegmentRoundTrip: the walk (printed by mkround.py). -/
namespace Go.Proofs.YtmjlnckmhdgoiaaGreatDoor
open Go.RowKit
set_option linter.unusedVariables false

theorem headS_run (W : World) (A : Option Addr) (n c k : Nat) (hk : k ≤ c) :
    (Instr.slice 27 (.slice A n c) none (some (.int .i64 (k : Int))) none).run Tryz.prog W = .ok (.slice A k c) W := by
  rw [run_slice_h W 27 A n c (by kernel_rfl) .i64 (k : Int) (by omega) (by omega)]
  have hs : (sizeOf (Tryz.prog.elem 27)).run Tryz.prog W = .ok 2 W := by kernel_rfl
  rw [hs]
  have : A.map (fun x => x.add 0) = A := by cases A <;> simp [Addr.add]
  simp [sliced, Result.andThen, this]
set_option maxRecDepth 100000 in
theorem SegsAt.take {w : World} {B : Nat} {A : Option Addr} {l : List Seg} (h : SegsAt w B A l) (k : Nat) (hk : k ≤ l.length) : SegsAt w B A (l.take k) := by
  obtain ⟨cs, h1, h2, h3⟩ := h
  refine ⟨cs.take (k * 2), by rw [List.length_take, List.length_take, h1]; omega, h2.take _, fun i s hs => ?_⟩
  have hi : i < k := by
    have := (List.getElem?_eq_some_iff.1 hs).1
    rw [List.length_take] at this
    omega
  rw [List.getElem?_take_of_lt hi] at hs
  obtain ⟨t, v, a, b, c⟩ := h3 i s hs
  exact ⟨t, v, by rw [List.getElem?_take_of_lt (by omega)]; exact a, by rw [List.getElem?_take_of_lt (by omega)]; exact b, c⟩
set_option maxRecDepth 100000 in
theorem SegsAt.one (w : World) (t : Bs) (A : Option Addr) (c : Nat) (l : List (List Bs)) (B : Nat) (hB : B ≤ w.heap.size) (h : ElsAt w B A l) :
    SegsAt (w.alloc (.cells #[.string ⟨t.toArray⟩, .slice A l.length c] 57)) (w.heap.size + 1) (some ⟨w.heap.size, 0, none⟩) [⟨t, l⟩] := by
  refine ⟨_, rfl, RdB.new w [.string ⟨t.toArray⟩, .slice A l.length c] 57 (0, 0) w.heap.size rfl, fun i s hs => ?_⟩
  match i, hs with
  | 0, hs =>
    simp only [List.getElem?_cons_zero, Option.some.injEq] at hs
    subst hs
    exact ⟨_, _, rfl, rfl, rfl, A, c, rfl, (h.below ((Below.refl _ _).alloc hB _)).mono (by omega)⟩
  | i + 1, hs => simp at hs
theorem valid_small {s : Seg} (h : validF s = 0) : s.els.length ≤ 1000000 ∧ ∀ e ∈ s.els, e.length ≤ 1000000 := by
  have := short_of (validF_zero.1 h).2.1
  exact ⟨by omega, fun e he => by have := (this.2 e he).1; omega⟩
theorem next_nil : nextF [] = (noSeg, 0, 5) := rfl
theorem encAll_one (s : Seg) : encAll [s] = encS s := by simp [encAll]
namespace segmentRoundTrip
end segmentRoundTrip
end Go.Proofs.YtmjlnckmhdgoiaaGreatDoor

/-! Lists of segments that are put together out of others; slices of bytes that came in. -/
namespace Go.Proofs.YtmjlnckmhdgoiaaGreatDoor
open Go.RowKit Go.ChangeShapes Go.WideShapes Go.ChangeAt
set_option linter.unusedVariables false

/-- a row of segments of the call's own, whose elements lie below B' -/
def SegsX (w : World) (B B' : Nat) (v : Value) (l : List Seg) : Prop :=
  ∃ cs : List Value, OwnX w B 57 2 v l.length cs ∧ (∀ u ∈ cs, u.oneCell' = true) ∧ ∀ (i : Nat) (s : Seg), l[i]? = some s → ∃ t u, cs[i * 2]? = some t ∧ cs[i * 2 + 1]? = some u ∧ SegAt w B' t u s
theorem SegsX.empty (w : World) (B B' : Nat) (hB : B ≤ w.heap.size) : SegsX (w.alloc (.cells #[] 57)) B B' (.slice (some ⟨w.heap.size, 0, none⟩) 0 0) [] :=
  ⟨[], ⟨rfl, .inr ⟨w.heap.size, 0, 0, #[], rfl, hB, heap_alloc_new w _, Nat.le_refl _, Nat.zero_le _, by simp, fun j u h => by simp at h⟩⟩, fun u h => (by cases h), fun i s h => by simp at h⟩
theorem SegsX.at_ {w : World} {B B' : Nat} {v : Value} {l : List Seg} (h : SegsX w B B' v l) (hB : B' ≤ w.heap.size) : ∃ A c, v = .slice A l.length c ∧ l.length ≤ c ∧ SegsAt w w.heap.size A l := by
  obtain ⟨cs, h1, _, h2⟩ := h
  obtain ⟨A, c, h3, h4, h5, _⟩ := h1.shape
  exact ⟨A, c, h3, h5, cs, h1.1, RdB.of_rd h4, fun i s hs => by obtain ⟨t, u, a, b, d⟩ := h2 i s hs; exact ⟨t, u, a, b, d.mono hB⟩⟩
set_option maxRecDepth 100000 in
theorem SegsAt.one_cells {w : World} {B : Nat} {A : Option Addr} {l : List Seg} (h : SegsAt w B A l) : ∃ cs : List Value, cs.length = l.length * 2 ∧ RdB w B A cs ∧ (∀ u ∈ cs, u.oneCell' = true) ∧ ∀ (i : Nat) (s : Seg), l[i]? = some s → ∃ t v, cs[i * 2]? = some t ∧ cs[i * 2 + 1]? = some v ∧ SegAt w B t v s := by
  obtain ⟨cs, h1, h2, h3⟩ := h
  refine ⟨cs, h1, h2, fun u hu => ?_, h3⟩
  obtain ⟨j, hj, rfl⟩ := List.mem_iff_getElem.1 hu
  have hi : j / 2 < l.length := by omega
  obtain ⟨t, v, a, b, rfl, A', c', rfl, _⟩ := h3 (j / 2) _ (List.getElem?_eq_getElem hi)
  rcases (by omega : j = j / 2 * 2 ∨ j = j / 2 * 2 + 1) with e | e
  · rw [← e, List.getElem?_eq_getElem hj] at a
    injection a with a
    rw [a]
    rfl
  · rw [← e, List.getElem?_eq_getElem hj] at b
    injection b with b
    rw [b]
    rfl
set_option maxRecDepth 100000 in
/-- append(x, s...) -/
theorem wpList_append_segs (w : World) {ops : Array Oper} {rest : List Oper} {o : Oper} {a : Act} {Q : Exit → Act → World → Prop} (hgd : o.guard = none) (s x : Operand)
    (ho : o.op = .call { callee := .builtin .append, args := #[s, x], argTypes := #[27, 27] })
    (B B' : Nat) (v : Value) (l : List Seg) (hs : a.eval s = v) (hown : SegsX w B B' v l)
    (A : Option Addr) (n c : Nat) (l2 : List Seg) (hn : n = l2.length) (hx : a.eval x = .slice A n c) (hr : SegsAt w B' A l2) (hlen : l.length + l2.length ≤ 1000000) (hB : B ≤ w.heap.size) (hBB : B' ≤ B)
    (h : ∀ v' w', SegsX w' B B' v' (l ++ l2) → Below B w w' → wpList Tryz.prog ops Q rest (a.put o.dst v') w') : wpList Tryz.prog ops Q (o :: rest) a w := by
  subst hn
  obtain ⟨i0, hi0, hz0, hz1, hz2⟩ := info_parts segInfo
  obtain ⟨cs, h1, h1c, h2⟩ := hown
  obtain ⟨cs2, k1, k2, k3, k4⟩ := hr.one_cells
  refine wpList_append_x w hgd s x 27 ho B 57 i0 _ 2 40 Tryz.underlying27 hi0 hz0 hz1 hz2 rfl (by omega) v l.length cs hs h1 A l2.length c cs2 hx k1 k2.rd k3 (by unfold maxLen; omega) (by omega) hB ?_
  intro v' w' h3 h4 _
  have hb : Below B w w' := (Below.refl _ _).grown h4 hB (fun g e => (h1.block_lt e).1)
  have hcl := h1.1
  refine h v' w' ⟨cs ++ cs2, by rw [List.length_append]; exact h3, fun u hu => ?_, fun i s hs => ?_⟩ hb
  · rcases List.mem_append.1 hu with hu | hu
    · exact h1c u hu
    · exact k3 u hu
  · by_cases hi : i < l.length
    · rw [List.getElem?_append_left hi] at hs
      obtain ⟨t, u, e1, e2, e3⟩ := h2 i s hs
      exact ⟨t, u, by rw [List.getElem?_append_left (by omega)]; exact e1, by rw [List.getElem?_append_left (by omega)]; exact e2, e3.below (hb.mono hBB)⟩
    · rw [List.getElem?_append_right (by omega)] at hs
      obtain ⟨t, u, e1, e2, e3⟩ := k4 _ s hs
      refine ⟨t, u, ?_, ?_, e3.below (hb.mono hBB)⟩
      · rw [List.getElem?_append_right (by omega), hcl, ← e1]; congr 1; omega
      · rw [List.getElem?_append_right (by omega), hcl, ← e2]; congr 1; omega
/-- append(b, xs...) of bytes -/
def OwnXB (w : World) (B : Nat) (v : Value) (xs : Bs) : Prop := OwnX w B 5 1 v xs.length (u8s xs)
theorem OwnXB.empty (w : World) (B : Nat) (hB : B ≤ w.heap.size) : OwnXB (w.alloc (.cells #[] 5)) B (.slice (some ⟨w.heap.size, 0, none⟩) 0 0) [] :=
  ⟨rfl, .inr ⟨w.heap.size, 0, 0, #[], rfl, hB, heap_alloc_new w _, Nat.le_refl _, Nat.zero_le _, by simp, fun j u h => by simp [u8s] at h⟩⟩
theorem OwnXB.shape {w : World} {B : Nat} {v : Value} {xs : Bs} (h : OwnXB w B v xs) : ∃ A c, v = .slice A xs.length c ∧ Rd w A (u8s xs) ∧ xs.length ≤ c ∧ c ≤ maxLen := OwnX.shape h
set_option maxRecDepth 100000 in
theorem wpList_append_bytes (w : World) {ops : Array Oper} {rest : List Oper} {o : Oper} {a : Act} {Q : Exit → Act → World → Prop} (hgd : o.guard = none) (s x : Operand)
    (ho : o.op = .call { callee := .builtin .append, args := #[s, x], argTypes := #[23, 23] })
    (B : Nat) (v : Value) (xs : Bs) (hs : a.eval s = v) (hown : OwnXB w B v xs)
    (A : Option Addr) (n c : Nat) (ys : Bs) (hn : n = ys.length) (hx : a.eval x = .slice A n c) (hr : Rd w A (u8s ys)) (hlen : xs.length + ys.length ≤ 1000000000) (hB : B ≤ w.heap.size)
    (h : ∀ v' w', OwnXB w' B v' (xs ++ ys) → Below B w w' → wpList Tryz.prog ops Q rest (a.put o.dst v') w') : wpList Tryz.prog ops Q (o :: rest) a w := by
  subst hn
  obtain ⟨i0, hi0, hz0, hz1, hz2⟩ := info_parts byteInfo
  refine wpList_append_x w hgd s x 23 ho B 5 i0 _ 1 1 Tryz.underlying23 hi0 hz0 hz1 hz2 rfl (by omega) v xs.length (u8s xs) hs hown A ys.length c (u8s ys) hx (by rw [u8s_len, Nat.mul_one]) hr (u8s_one _) (by unfold maxLen; omega) (by omega) hB ?_
  intro v' w' h3 h4 _
  refine h v' w' ?_ ((Below.refl _ _).grown h4 hB (fun g e => (OwnX.block_lt hown e).1))
  unfold OwnXB
  rw [List.length_append]
  simpa [u8s] using h3
/-- a slice of bytes that came in -/
structure SlB (w : World) (A : Option Addr) (c : Nat) (b : Bs) : Prop where
  rd : Rd w A (u8s b)
  le : b.length ≤ c
  max : c ≤ maxLen
set_option maxRecDepth 100000 in
theorem open_slB {H : Type} {enc : TypeId × Value → H} {W : World} {base : Nat} {r : Reach} {v : Value} {d : DataW H} {p : List MemPlace}
    (hv : Value.okWide Tryz.prog W r base 23 v) (h : DataW.Trod enc Tryz.prog W 0 (fun _ => true) true 23 v d p) : ∃ A c b, v = .slice A b.length c ∧ SlB W A c b := by
  obtain ⟨a, len, cap, rfl⟩ := okWide_slice Tryz.underlying23 hv
  obtain ⟨fuel, hf⟩ := h
  rcases open_ints Tryz.underlying23 Tryz.underlying5 (by kernel_rfl) hf with ⟨hcs, _⟩ | ⟨x, l, c, zs, hcs, _, hl, hm, hz, _, hcell, hwz⟩
  · simp [Value.cells] at hcs
    obtain ⟨rfl, rfl, rfl⟩ := hcs
    exact ⟨none, 0, [], rfl, ⟨Rd.nil _ _, Nat.le_refl _, Nat.zero_le _⟩⟩
  · simp [Value.cells] at hcs
    obtain ⟨rfl, rfl, rfl⟩ := hcs
    simp only [if_true] at hz
    have hlen : ((zs.take len).map (fun n => UInt8.ofNat n.toNat)).length = len := by rw [List.length_map, List.length_take]; omega
    refine ⟨some x, cap, (zs.take len).map (fun n => UInt8.ofNat n.toNat), by rw [hlen], ⟨fun j u hu => ⟨x, rfl, ?_⟩, by rw [hlen]; exact hl, hm⟩⟩
    have hj : j < len := by
      have := (List.getElem?_eq_some_iff.1 hu).1
      rw [u8s_len, hlen] at this
      exact this
    have hj2 : j < zs.length := by omega
    rw [hcell j hj2]
    rw [u8s, List.map_map, List.getElem?_map, List.getElem?_take_of_lt hj, List.getElem?_eq_getElem hj2] at hu
    simp only [Option.map_some, Function.comp_apply, u8, Option.some.injEq] at hu
    rw [← hu, List.getD, List.getElem?_eq_getElem hj2]
    have hb := bounds_u8 (hwz zs[j] (List.getElem_mem hj2))
    have : ((UInt8.ofNat zs[j].toNat).toNat : Int) = zs[j] := by simp [UInt8.toNat_ofNat']; omega
    rw [this]
    rfl
end Go.Proofs.YtmjlnckmhdgoiaaGreatDoor

/-! append of segments at a step of a region that draws its order. -/
namespace Go.Proofs.YtmjlnckmhdgoiaaGreatDoor
open Go.RowKit
set_option linter.unusedVariables false

/-- an empty slice without room, or a row of the call's own -/
def SegsY (w : World) (B B' : Nat) (v : Value) (l : List Seg) : Prop := (∃ A, v = .slice A 0 0 ∧ l = []) ∨ SegsX w B B' v l
/-- the cells of segments at A; their elements lie below B' -/
def SegsC (w : World) (B' : Nat) (A : Option Addr) (l : List Seg) : Prop :=
  ∃ cs : List Value, cs.length = l.length * 2 ∧ Rd w A cs ∧ (∀ u ∈ cs, u.oneCell' = true) ∧ ∀ (i : Nat) (s : Seg), l[i]? = some s → ∃ t v, cs[i * 2]? = some t ∧ cs[i * 2 + 1]? = some v ∧ SegAt w B' t v s
theorem SegsC.of {w : World} {B : Nat} {A : Option Addr} {l : List Seg} (h : SegsAt w B A l) : SegsC w B A l := by
  obtain ⟨cs, h1, h2, h3, h4⟩ := h.one_cells
  exact ⟨cs, h1, h2.rd, h3, h4⟩
theorem SegsC.below {w w' : World} {B' : Nat} {A : Option Addr} {l : List Seg} (h : SegsC w B' A l) (hB : B' ≤ w.heap.size) (hb : Below w.heap.size w w') : SegsC w' B' A l := by
  obtain ⟨cs, h1, h2, h3, h4⟩ := h
  exact ⟨cs, h1, h2.below hb, h3, fun i s hs => by obtain ⟨t, v, a, b, c⟩ := h4 i s hs; exact ⟨t, v, a, b, c.below (hb.mono hB)⟩⟩
theorem SegsC.drew {w : World} {B' : Nat} {A : Option Addr} {l : List Seg} (h : SegsC w B' A l) : SegsC w.drew B' A l := h
set_option maxRecDepth 100000 in
theorem SegsC.one (w : World) (t : Bs) (A : Option Addr) (c : Nat) (l : List (List Bs)) (B' : Nat) (h : ElsAt w B' A l) (hB : B' ≤ w.heap.size) :
    SegsC (w.alloc (.cells #[.string ⟨t.toArray⟩, .slice A l.length c] 57)) B' (some ⟨w.heap.size, 0, none⟩) [⟨t, l⟩] := by
  refine ⟨[.string ⟨t.toArray⟩, .slice A l.length c], rfl, (RdB.new w [.string ⟨t.toArray⟩, .slice A l.length c] 57 (0, 0) w.heap.size rfl).rd, by simp [Value.oneCell'], fun i s hs => ?_⟩
  match i, hs with
  | 0, hs =>
    simp only [List.getElem?_cons_zero, Option.some.injEq] at hs
    subst hs
    exact ⟨_, _, rfl, rfl, rfl, A, c, rfl, h.below ((Below.refl _ _).alloc hB _)⟩
  | i + 1, hs => simp at hs
theorem SegsX.mono {w : World} {B B1 B' : Nat} {v : Value} {l : List Seg} (h : SegsX w B B' v l) (hB : B1 ≤ B) : SegsX w B1 B' v l := by
  obtain ⟨cs, h1, h2, h3⟩ := h
  exact ⟨cs, h1.mono hB, h2, h3⟩
theorem SegsX.below {w w' : World} {B B' : Nat} {v : Value} {l : List Seg} (h : SegsX w B B' v l) (hB : B' ≤ w.heap.size) (hb : Below w.heap.size w w') : SegsX w' B B' v l := by
  obtain ⟨cs, h1, h2, h3⟩ := h
  exact ⟨cs, h1.below hb, h2, fun i s hs => by obtain ⟨t, u, a, b, c⟩ := h3 i s hs; exact ⟨t, u, a, b, c.below (hb.mono hB)⟩⟩
theorem SegsY.mono {w : World} {B B1 B' : Nat} {v : Value} {l : List Seg} (h : SegsY w B B' v l) (hB : B1 ≤ B) : SegsY w B1 B' v l := h.imp id fun h => h.mono hB
theorem SegsY.below {w w' : World} {B B' : Nat} {v : Value} {l : List Seg} (h : SegsY w B B' v l) (hB : B' ≤ w.heap.size) (hb : Below w.heap.size w w') : SegsY w' B B' v l := h.imp id fun h => h.below hB hb
theorem SegsY.at_ {w : World} {B B' : Nat} {v : Value} {l : List Seg} (h : SegsY w B B' v l) (hB : B' ≤ w.heap.size) : ∃ A c, v = .slice A l.length c ∧ SegsAt w w.heap.size A l := by
  rcases h with ⟨A, rfl, rfl⟩ | h
  · exact ⟨A, 0, rfl, SegsAt.nil _ _ _⟩
  · obtain ⟨A, c, h1, _, h2⟩ := h.at_ hB
    exact ⟨A, c, h1, h2⟩
set_option maxRecDepth 100000 in
theorem step_segs {ops : Array Oper} {o : Oper} {a : Act} {w : World} {K : Act → World → Prop} {Q : Exit → Act → World → Prop} {E : Prop}
    (hg : o.guard = none) (s x : Operand) (hop : o.op = Op.call { callee := Callee.builtin Builtin.append, args := #[s, x], argTypes := #[27, 27] })
    (B B' : Nat) (v : Value) (l : List Seg) (hs : a.eval s = v) (hv : SegsY w B B' v l) (A : Option Addr) (m c : Nat) (l2 : List Seg) (hm : m = l2.length) (hx : a.eval x = .slice A m c) (hr : SegsC w B' A l2)
    (hb : l.length + l2.length ≤ 1000000) (hB : B ≤ w.heap.size) (hBB : B' ≤ B)
    (hK : ∀ v' w', SegsY w' B B' v' (l ++ l2) → Below B w w' → K (a.put o.dst v') w') :
    if Region.wanted o (yielded ops a.tmps) = true then Oper.wp Tryz.prog o a w K Q else E := by
  have hw : Region.wanted o (yielded ops a.tmps) = true := by simp [Region.wanted, hg]
  rw [if_pos hw]
  subst hm
  obtain ⟨i0, hi0, hz0, hz1, hz2⟩ := info_parts segInfo
  obtain ⟨cs2, k1, k2, k3, k4⟩ := hr
  have fin : ∀ v' w' (cs : List Value), OwnX w' B 57 2 v' (l.length + l2.length) (cs ++ cs2) → cs.length = l.length * 2 → (∀ u ∈ cs, u.oneCell' = true) → (∀ (i : Nat) (s : Seg), l[i]? = some s → ∃ t u, cs[i * 2]? = some t ∧ cs[i * 2 + 1]? = some u ∧ SegAt w B' t u s) → Below B w w' → SegsX w' B B' v' (l ++ l2) := by
    intro v' w' cs h3 hcl h1c h2 hbl
    refine ⟨cs ++ cs2, by rw [List.length_append]; exact h3, fun u hu => ?_, fun i s hs => ?_⟩
    · rcases List.mem_append.1 hu with hu | hu
      · exact h1c u hu
      · exact k3 u hu
    · by_cases hi : i < l.length
      · rw [List.getElem?_append_left hi] at hs
        obtain ⟨t, u, e1, e2, e3⟩ := h2 i s hs
        exact ⟨t, u, by rw [List.getElem?_append_left (by omega)]; exact e1, by rw [List.getElem?_append_left (by omega)]; exact e2, e3.below (hbl.mono hBB)⟩
      · rw [List.getElem?_append_right (by omega)] at hs
        obtain ⟨t, u, e1, e2, e3⟩ := k4 _ s hs
        refine ⟨t, u, ?_, ?_, e3.below (hbl.mono hBB)⟩
        · rw [List.getElem?_append_right (by omega), hcl, ← e1]; congr 1; omega
        · rw [List.getElem?_append_right (by omega), hcl, ← e2]; congr 1; omega
  rcases hv with ⟨A', rfl, rfl⟩ | ⟨cs, h1, h1c, h2⟩
  · rcases Nat.eq_zero_or_pos l2.length with h0 | h0
    · have hrun : (Builtin.append_ #[27, 27] o.type #[.slice A' 0 0, .slice A 0 c]).run Tryz.prog w = .ok (.slice A' 0 0) w := by
        cases A' <;> cases A <;> simp [Builtin.append_, run_underlying Tryz.underlying27, sizeOf, typeInfo, hi0, Builtin.lenOf, Builtin.firstCells, storeCells, loadCells, loadCellsFrom]
      rw [h0] at hx
      unfold Oper.wp
      simp [execOp, hop, resolve, invoke, builtin, hs, hx, hrun, Result.andThen]
      have : l2 = [] := List.eq_nil_of_length_eq_zero h0
      subst this
      exact hK _ _ (.inl ⟨A', rfl, rfl⟩) (Below.refl _ _)
    · have : ∃ ad, A = some ad := by
        obtain ⟨ad, h, _⟩ := k2.at (j := 0) (by omega)
        exact ⟨ad, h⟩
      obtain ⟨ad, rfl⟩ := this
      have hcells : ∀ j u, cs2[j]? = some u → w.cell? (ad.add j) = some u := fun j u hu => by
        obtain ⟨ad', h, hc⟩ := k2 j u hu
        injection h with h
        subst h
        exact hc
      have key : ∃ v' w', (Builtin.append_ #[27, 27] o.type #[.slice A' 0 0, .slice (some ad) l2.length c]).run Tryz.prog w = .ok v' w' ∧ w'.ownsRow w.heap.size 57 2 v' (0 + l2.length) ([] ++ cs2) ∧ w.grownBy w' none := by
        cases A' with
        | none =>
          obtain ⟨v', w', hrun, q1, q2, _, _⟩ := run_append_own_at (P := Tryz.prog) w w.heap.size 27 o.type 57 i0 _ 2 40 Tryz.underlying27 hi0 hz0 hz1 hz2 rfl (by omega) (.slice none 0 0) 0 [] (World.ownsRow_nil _ _ _ _) ad l2.length c cs2 k1 hcells k3 (by unfold maxLen; omega) (by omega) (Nat.le_refl _)
          exact ⟨v', w', hrun, q1, q2⟩
        | some b =>
          exact run_append_arg_grows (P := Tryz.prog) w 27 o.type 57 i0 _ 2 40 Tryz.underlying27 hi0 hz0 hz1 hz2 rfl (by omega) b 0 0 [] rfl (fun j u hu => by simp at hu) ad l2.length c cs2 k1 hcells (by omega) (by unfold maxLen; omega) (by omega)
      obtain ⟨v', w', hrun, q1, q2⟩ := key
      have hbl : Below B w w' := ⟨q2.os, q2.tape, q2.output, q2.size, fun i hi => q2.block i (Nat.lt_of_lt_of_le hi hB) (by simp)⟩
      unfold Oper.wp
      simp [execOp, hop, resolve, invoke, builtin, hs, hx, hrun, Result.andThen]
      refine hK _ _ (.inr ?_) hbl
      have := fin v' w' [] ((OwnX.of_row q1).mono hB) rfl (fun u hu => by cases hu) (fun i s hs => by simp at hs) hbl
      simpa using this
  · obtain ⟨v', w', hrun, q1, q2, _⟩ := run_append_x (P := Tryz.prog) w B 27 o.type 57 i0 _ 2 40 Tryz.underlying27 hi0 hz0 hz1 hz2 rfl (by omega) v l.length cs h1 A l2.length c cs2 k1 k2 k3 (by unfold maxLen; omega) (by omega) hB
    have hbl : Below B w w' := (Below.refl _ _).grown q2 hB (fun g e => (h1.block_lt e).1)
    unfold Oper.wp
    simp [execOp, hop, resolve, invoke, builtin, hs, hx, hrun, Result.andThen]
    exact hK _ _ (.inr (fin v' w' cs q1 h1.1 h1c h2 hbl)) hbl
end Go.Proofs.YtmjlnckmhdgoiaaGreatDoor
