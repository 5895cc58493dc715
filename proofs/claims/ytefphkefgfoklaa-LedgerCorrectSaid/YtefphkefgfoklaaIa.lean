/- The contract of the reference's Correct. -/
import Derived.Test.YtefphkefgfoklaaHu
namespace Go.Proofs.Ytefphkefgfoklaa
open Go.RowKit
set_option linter.unusedVariables false

def fldArr (b : Ba) : Array Value := #[.int .i64 b.ow, .int .i64 b.se, .int .i64 b.pa, .int .i64 b.re]
set_option maxHeartbeats 1000000 in
theorem fields_any (lot : Int) (b : Ba) (w : World) : Calls Try.prog 36 #[baV lot b] w fun e w' => e = .returned (.agg (fldArr b)) ∧ Below w.heap.size w w' := by
  have q0 : ∀ a c : Array Value, Below w.heap.size w ((w.alloc (.cells a 37)).alloc (.cells c 71)) := fun _ _ => ((Below.refl _ _).alloc (Nat.le_refl _) _).alloc (by simp) _
  have Q0 := Lib.hid q0
  clear q0
  obtain ⟨o, s, p, r⟩ := b
  unfold baV
  simp only
  go_enter Try.func36, Try.ntmps36
  go_wp2_with fail
  exact bodyPost_ret (v := .agg (fldArr ⟨o, s, p, r⟩)) (by simp [results, fldArr, Try.results36, go_sem]) rfl ⟨rfl, Q0.out _ _⟩
theorem effs_led {l : List En} (h : ledF l = 0) : Effs l := by
  refine ⟨ledF_back h, fun e he => ?_, by have := ledF_len h; omega⟩
  obtain ⟨k, hk, rfl⟩ := List.mem_iff_getElem.1 he
  obtain ⟨a, _, _⟩ := ledF_mem h k _ (List.getElem?_eq_getElem hk)
  exact effA_bd h a (fun h9 => (ledF_back h _ he h9).2)
theorem rise_len (l : List Int) (n : Int) : (riseF l n).length ≤ l.length + 1 := by
  induction l with
  | nil => simp [riseF]
  | cons a r ih => unfold riseF; split; · simp; omega
                   · split <;> simp
theorem rises_len : ∀ (ns l : List Int), (risesF l ns).length ≤ l.length + ns.length
  | [], l => by simp [risesF]
  | n :: ns, l => by
    have h1 := rises_len ns (riseF l n)
    have h2 := rise_len l n
    show (risesF (riseF l n) ns).length ≤ _
    simp; omega
theorem rises_snoc (l ns : List Int) (n : Int) : risesF l (ns ++ [n]) = riseF (risesF l ns) n := by rw [rises_append]; rfl
theorem map_take_snoc {α : Type} (f : α → Int) (l : List α) {k : Nat} {x : α} (h : l[k]? = some x) : (l.take (k + 1)).map f = (l.take k).map f ++ [f x] := by
  have hk := (List.getElem?_eq_some_iff.1 h).1
  rw [List.take_succ_eq_append_getElem hk, List.map_append]
  rw [List.getElem?_eq_getElem hk] at h
  injection h with h
  rw [h]
  rfl
def LotsRet (l : List En) (w : World) (e : Ending) (w' : World) : Prop := ∃ v, e = .returned v ∧ IntsAt w' v (risesF [] (l.map (·.lot))) ∧ Below w.heap.size w w'
set_option maxRecDepth 100000 in
set_option maxHeartbeats 2000000 in
theorem lots_any (A : Option Addr) (c : Nat) (l : List En) (w : World) (h : SlE w A l) (hl : l.length ≤ 2000) :
    Calls Try.prog 37 #[.slice A l.length c] w (LotsRet l w) := by
  have HS := Lib.hid h
  clear h
  go_enter Try.func37, Try.ntmps37
  go_wp2_with fail
  go_loopg [3, 4] l.length (fun g v i wr => ∃ k : Nat, k + g = l.length ∧ i = .int .i64 (k : Int) ∧ IntsAt wr v (risesF [] ((l.take k).map (·.lot))) ∧ Below w.heap.size w wr)
  case atStart => exact ⟨0, by omega, rfl, IntsAt.nil_ _, Below.refl _ _⟩
  case round =>
    obtain ⟨k, hk, rfl, hi, hb⟩ := hrel
    have HK := Lib.hid hk
    have hk2 : k ≤ l.length := by omega
    have HI := Lib.hid hi
    have HB := Lib.hid hb
    clear hk hi hb
    by_cases hlt : k < l.length
    · obtain ⟨x, hx⟩ : ∃ x, l[k]? = some x := ⟨_, List.getElem?_eq_getElem hlt⟩
      have HST := Lib.hid (map_take_snoc (·.lot) l hx)
      have hln := rises_len ((l.take k).map (·.lot)) []
      simp only [List.length_map, List.length_take, List.length_nil] at hln
      have hlen2 : (risesF [] ((l.take k).map (·.lot))).length ≤ 2000 := by omega
      generalize hR : risesF [] ((l.take k).map (·.lot)) = R at *
      have HR := Lib.hid hR
      obtain ⟨A2, c2, rfl, hr2, hc2, hm2⟩ := HI.out
      obtain ⟨b, off, rfl, y0, y1, y2, y3, y4, y5⟩ := (HS.out.below HB.out).rd.en hx
      have HRI := Lib.hid (rise_any A2 c2 R x.lot wr hr2 (by omega) hc2 hm2)
      have hd : (k : Int) < l.length := by omega
      clear hx hln hR hr2 hm2
      go_wp2_with fail
      refine HRI.out.mono ?_
      rintro e w2 ⟨v2, rfl, hi2, hb2⟩
      have HI2 := Lib.hid hi2
      have HB2 := Lib.hid (HB.out.trans (hb2.mono HB.out.size))
      clear hi2 hb2
      go_wp2_with fail
      go_roundg (l.length - (k + 1))
      case measure => have := HK.out; omega
      case rel => exact ⟨k + 1, by have := HK.out; omega, by go_num, by rw [HST.out, rises_snoc, HR.out]; exact HI2.out, HB2.out⟩
    · have hd : ¬ (k : Int) < l.length := by omega
      have HT : Hid (l.take k = l) := List.take_of_length_le (by omega)
      go_wp2_with fail
      go_ret
      exact ⟨_, rfl, by have := HI.out; rwa [HT.out] at this, HB.out⟩
def put4 (W : World) (b : Nat) (v0 v1 v2 v3 : Value) : World := (((W.setCell ⟨b, 0, none⟩ v0).setCell ⟨b, 1, none⟩ v1).setCell ⟨b, 2, none⟩ v2).setCell ⟨b, 3, none⟩ v3
theorem put4_row (W : World) (b : Nat) (t : TypeId) (a0 a1 a2 a3 v0 v1 v2 v3 : Value) (h : W.heap[b]? = some (.cells #[a0, a1, a2, a3] t (0, 0))) : (put4 W b v0 v1 v2 v3).heap[b]? = some (.cells #[v0, v1, v2, v3] t (0, 0)) := by
  have h0 := heap_setCell_same W b 0 _ _ v0 h
  have h1 := heap_setCell_same _ b 1 _ _ v1 h0
  have h2 := heap_setCell_same _ b 2 _ _ v2 h1
  have h3 := heap_setCell_same _ b 3 _ _ v3 h2
  exact h3
theorem put4_other (W : World) (b : Nat) (v0 v1 v2 v3 : Value) (i : Nat) (hi : i ≠ b) : (put4 W b v0 v1 v2 v3).heap[i]? = W.heap[i]? := by
  unfold put4
  rw [Below.heap_setCell _ _ _ _ hi, Below.heap_setCell _ _ _ _ hi, Below.heap_setCell _ _ _ _ hi, Below.heap_setCell _ _ _ _ hi]
theorem put4_below {B b : Nat} {w W : World} (h : Below B w W) (hb : B ≤ b) (v0 v1 v2 v3 : Value) : Below B w (put4 W b v0 v1 v2 v3) :=
  (((h.setCell (p := ⟨b, 0, none⟩) hb _).setCell (p := ⟨b, 1, none⟩) hb _).setCell (p := ⟨b, 2, none⟩) hb _).setCell (p := ⟨b, 3, none⟩) hb _
theorem row4 {W : World} {b : Nat} {t : TypeId} {v0 v1 v2 v3 : Value} (h : W.heap[b]? = some (.cells #[v0, v1, v2, v3] t (0, 0))) :
    (W.cell? ⟨b, 0, none⟩ = some v0 ∧ W.cell? ⟨b, 1, none⟩ = some v1 ∧ W.cell? ⟨b, 2, none⟩ = some v2 ∧ W.cell? ⟨b, 3, none⟩ = some v3) ∧
    W.frozen? ⟨b, 0, none⟩ = false ∧ W.frozen? ⟨b, 1, none⟩ = false ∧ W.frozen? ⟨b, 2, none⟩ = false ∧ W.frozen? ⟨b, 3, none⟩ = false := by
  refine ⟨⟨?_, ?_, ?_, ?_⟩, frozen_of_row _ _ _ _ _ h, frozen_of_row _ _ _ _ _ h, frozen_of_row _ _ _ _ _ h, frozen_of_row _ _ _ _ _ h⟩ <;> (rw [cell_of_row _ _ _ _ _ _ h]; rfl)
theorem dn_next (lot : Int) (b g : Ba) {j : Nat} (hj : j < 4) : dnJ lot b g (j + 1) = dnJ lot b g j ++ stepOf lot (fld ⟨2, 4, 6, 8⟩ j) (fld b j - fld g j) := by
  match j, hj with
  | 0, _ => simp [dnJ, fld]
  | 1, _ => simp [dnJ, fld]
  | 2, _ => simp [dnJ, fld]
  | 3, _ => simp [dnJ, fld]
theorem up_next (lot : Int) (b g : Ba) {j : Nat} (hj : j < 4) : upJ lot b g (j + 1) = upJ lot b g j ++ stepOf lot (fld ⟨1, 3, 5, 7⟩ j) (fld g j - fld b j) := by
  match j, hj with
  | 0, _ => simp [upJ, fld]
  | 1, _ => simp [upJ, fld]
  | 2, _ => simp [upJ, fld]
  | 3, _ => simp [upJ, fld]
theorem fld_within {b : Ba} {m : Int} (h : b.within m) {j : Nat} (hj : j < 4) : -m ≤ fld b j ∧ fld b j ≤ m := by
  obtain ⟨h0, h1, h2, h3⟩ := h
  match j, hj with
  | 0, _ => exact h0
  | 1, _ => exact h1
  | 2, _ => exact h2
  | 3, _ => exact h3
theorem fld_ok {b : Ba} (h : b.okB = true) {j : Nat} (hj : j < 4) : 0 ≤ fld b j := by
  obtain ⟨h0, h1, h2, h3⟩ := Ba.ok_iff.1 h
  match j, hj with
  | 0, _ => exact h0
  | 1, _ => exact h1
  | 2, _ => exact h2
  | 3, _ => exact h3
theorem up_small (lot : Int) {b g : Ba} (hb : b.okB = true) (hg : g.within 64000000000000) : bigB (upJ lot b g 4) = false := by
  have h : ∀ j, j ≤ 4 → bigB (upJ lot b g j) = false := by
    intro j
    induction j with
    | zero => intro _; rfl
    | succ j ih =>
      intro hj
      rw [up_next lot b g (by omega), big_append, ih (by omega), Bool.false_or]
      refine small_big fun x hx => ?_
      rw [stepOf_amt hx]
      have := fld_ok hb (show j < 4 by omega)
      have := (fld_within hg (show j < 4 by omega)).2
      omega
  exact h 4 (Nat.le_refl _)
theorem big_step (lot k d : Int) (h : 0 < d) : bigB (stepOf lot k d) = decide (64000000000000 < d) := by
  rw [step_pos h]
  simp [bigB]
theorem puts_step (out : List En) (day cause lot k d : Int) (h : 0 < d) : putsF out day cause (stepOf lot k d) = out ++ [⟨(out.length : Int) + 1, day, k, lot, d, cause⟩] := by rw [step_pos h]; rfl
/-- inside a lot: the entries so far, and the four rows of four cells -/
structure InC (wB W : World) (gd gu ga gb : Nat) (B T : Ba) (vo : Value) (O : List En) : Prop where
  own : OwnX W wB.heap.size 26 6 vo O.length (ensCs O)
  d : BlkAt W gd (.cells (fldArr ⟨2, 4, 6, 8⟩) 71)
  u : BlkAt W gu (.cells (fldArr ⟨1, 3, 5, 7⟩) 71)
  a : BlkAt W ga (.cells (fldArr B) 71)
  b : BlkAt W gb (.cells (fldArr T) 71)
  bel : Below wB.heap.size wB W
theorem InC.below {wB W W' : World} {gd gu ga gb : Nat} {B T : Ba} {vo : Value} {O : List En} (h : InC wB W gd gu ga gb B T vo O) (hb : Below W.heap.size W W') : InC wB W' gd gu ga gb B T vo O :=
  ⟨h.own.below hb, h.d.below hb, h.u.below hb, h.a.below hb, h.b.below hb, h.bel.trans (hb.mono h.bel.size)⟩
theorem InC.drewN {wB W : World} {gd gu ga gb : Nat} {B T : Ba} {vo : Value} {O : List En} (h : InC wB W gd gu ga gb B T vo O) (m : Nat) : InC wB (W.drewN m) gd gu ga gb B T vo O :=
  ⟨h.own, h.d, h.u, h.a, h.b, drewN_below h.bel m⟩
theorem InC.app {wB W W' : World} {gd gu ga gb : Nat} {B T : Ba} {vo v' : Value} {O : List En} {x : En} (h : InC wB W gd gu ga gb B T vo O) (ho : OwnX W' wB.heap.size 26 6 v' (O.length + 1) (ensCs O ++ enCs x)) (hg : W.grownBy W' vo.ownBlock) : InC wB W' gd gu ga gb B T v' (O ++ [x]) :=
  ⟨by rw [ensCs_snoc, List.length_append]; exact ho, h.d.kept hg (h.own.ne_blk h.d (by decide)), h.u.kept hg (h.own.ne_blk h.u (by decide)), h.a.kept hg (h.own.ne_blk h.a (by decide)), h.b.kept hg (h.own.ne_blk h.b (by decide)), h.bel.grown hg h.bel.size (fun k e => (h.own.block_lt e).1)⟩
/-- the four cells that a step reads -/
def S4 (g1 g2 g3 bi oi j : Nat) (kd lot x y : Int) (W : World) : Prop := W.cell? ⟨g1, j, none⟩ = some (.int .i64 kd) ∧ W.cell? ⟨bi, oi, none⟩ = some (.int .i64 lot) ∧ W.cell? ⟨g2, j, none⟩ = some (.int .i64 x) ∧ W.cell? ⟨g3, j, none⟩ = some (.int .i64 y)
theorem S4.below {g1 g2 g3 bi oi j : Nat} {kd lot x y : Int} {W W' : World} (h : S4 g1 g2 g3 bi oi j kd lot x y W) (hb : Below W.heap.size W W') : S4 g1 g2 g3 bi oi j kd lot x y W' :=
  ⟨(hb.cell (p := ⟨g1, j, none⟩) (block_lt_of_cell h.1)).trans h.1, (hb.cell (p := ⟨bi, oi, none⟩) (block_lt_of_cell h.2.1)).trans h.2.1, (hb.cell (p := ⟨g2, j, none⟩) (block_lt_of_cell h.2.2.1)).trans h.2.2.1, (hb.cell (p := ⟨g3, j, none⟩) (block_lt_of_cell h.2.2.2)).trans h.2.2.2⟩
/-- behind the first k lots: the entries that were added, whether one was too big, the two rows of kinds -/
def CoRel (wB : World) (l : List En) (t : List Tg) (day cause : Int) (ids : List Int) (gd gu : Nat) (m : Nat) (vo ov i : Value) (wr : World) : Prop :=
  ∃ k : Nat, k + m = ids.length ∧ i = .int .i64 (k : Int) ∧ ov = .bool (bigB (allF l t (ids.take k))) ∧ OwnX wr wB.heap.size 26 6 vo (putsF l day cause (allF l t (ids.take k))).length (ensCs (putsF l day cause (allF l t (ids.take k)))) ∧
    BlkAt wr gd (.cells (fldArr ⟨2, 4, 6, 8⟩) 71) ∧ BlkAt wr gu (.cells (fldArr ⟨1, 3, 5, 7⟩) 71) ∧ (putsF l day cause (allF l t (ids.take k))).length ≤ 60 + 8 * k ∧ Below wB.heap.size wB wr ∧ wB.heap.size ≤ gd ∧ wB.heap.size ≤ gu
theorem share1 {α : Type} {P F : α → Prop} {R : Prop} (main : (∀ a, F a → P a) → R) (tail : ∀ a, F a → P a) : R := main tail
theorem share2 {α β : Type} {P F : α → β → Prop} {R : Prop} (main : (∀ a b, F a b → P a b) → R) (tail : ∀ a b, F a b → P a b) : R := main tail
theorem share3 {α β γ : Type} {P F : α → β → γ → Prop} {R : Prop} (main : (∀ a b c, F a b c → P a b c) → R) (tail : ∀ a b c, F a b c → P a b c) : R := main tail
/-- a world behind W0, with no, one or two blocks laid since -/
def zObj : Obj := .cells #[.int .i64 0, .int .i64 0, .int .i64 0, .int .i64 0] 71
def Fr0 (w W : World) : Prop := Below w.heap.size w W
def Fr1 (w W : World) (g : Nat) : Prop := Below w.heap.size w W ∧ BlkAt W g zObj ∧ w.heap.size ≤ g
def Fr2 (w W : World) (ga gb : Nat) : Prop := Below w.heap.size w W ∧ (BlkAt W ga zObj ∧ w.heap.size ≤ ga) ∧ (BlkAt W gb zObj ∧ w.heap.size ≤ gb) ∧ ga ≠ gb
section
variable {w W V : World} {g ga gb : Nat}
theorem Fr0.below (h : Fr0 w W) : Below w.heap.size w W := h
theorem Fr1.below (h : Fr1 w W g) : Below w.heap.size w W := h.1
theorem Fr2.below (h : Fr2 w W ga gb) : Below w.heap.size w W := h.1
theorem Fr0.go (h : Fr0 w W) (hb : Below W.heap.size W V) : Fr0 w V := h.below.trans (hb.mono h.below.size)
theorem Fr1.go (h : Fr1 w W g) (hb : Below W.heap.size W V) : Fr1 w V g := ⟨h.1.trans (hb.mono h.1.size), h.2.1.below hb, h.2.2⟩
theorem Fr2.go (h : Fr2 w W ga gb) (hb : Below W.heap.size W V) : Fr2 w V ga gb := ⟨h.1.trans (hb.mono h.1.size), ⟨h.2.1.1.below hb, h.2.1.2⟩, ⟨h.2.2.1.1.below hb, h.2.2.1.2⟩, h.2.2.2⟩
theorem Fr0.new_ (h : Fr0 w W) : Fr1 w (W.alloc (.cells #[.int .i64 0, .int .i64 0, .int .i64 0, .int .i64 0] 71)) W.heap.size := ⟨h.go ((Below.refl _ _).alloc (Nat.le_refl _) _), BlkAt.new_ W _, h.below.size⟩
theorem Fr1.newA (h : Fr1 w W gb) : Fr2 w (W.alloc (.cells #[.int .i64 0, .int .i64 0, .int .i64 0, .int .i64 0] 71)) W.heap.size gb := by
  have h2 := h.go ((Below.refl W.heap.size W).alloc (Nat.le_refl _) (.cells #[.int .i64 0, .int .i64 0, .int .i64 0, .int .i64 0] 71))
  exact ⟨h2.1, ⟨BlkAt.new_ W _, h.1.size⟩, h2.2, fun e => by have := h.2.1.lt; omega⟩
theorem Fr1.newB (h : Fr1 w W ga) : Fr2 w (W.alloc (.cells #[.int .i64 0, .int .i64 0, .int .i64 0, .int .i64 0] 71)) ga W.heap.size := by
  have h2 := h.go ((Below.refl W.heap.size W).alloc (Nat.le_refl _) (.cells #[.int .i64 0, .int .i64 0, .int .i64 0, .int .i64 0] 71))
  exact ⟨h2.1, h2.2, ⟨BlkAt.new_ W _, h.1.size⟩, fun e => by have := h.2.1.lt; omega⟩
end
theorem fld_cell {W : World} {g : Nat} {b : Ba} (h : W.heap[g]? = some (.cells (fldArr b) 71 (0, 0))) {j : Nat} (hj : j < 4) : W.cell? ⟨g, j, none⟩ = some (.int .i64 (fld b j)) := by
  rw [cell_of_row _ _ _ _ _ _ h]
  match j, hj with
  | 0, _ => rfl
  | 1, _ => rfl
  | 2, _ => rfl
  | 3, _ => rfl
theorem tg_flds {lot : Int} {b : Ba} (h : 1 ≤ lot ∧ lot ≤ 1000000) (hf : ∀ j < 4, 0 ≤ fld b j ∧ fld b j ≤ 64000000000000) : tgB ⟨lot, b⟩ = true :=
  tg_iff.2 ⟨h, hf 0 (by omega), hf 1 (by omega), hf 2 (by omega), hf 3 (by omega)⟩
theorem flds_tg {g : Tg} (h : tgB g = true) : (1 ≤ g.lot ∧ g.lot ≤ 1000000) ∧ ∀ j < 4, 0 ≤ fld g.b j ∧ fld g.b j ≤ 64000000000000 := by
  obtain ⟨a, b, c, d, e⟩ := tg_iff.1 h
  refine ⟨a, fun j hj => ?_⟩
  match j, hj with
  | 0, _ => exact b
  | 1, _ => exact c
  | 2, _ => exact d
  | 3, _ => exact e
theorem chk_two {day cause : Int} {t : List Tg} (hd : (0 ≤ day ∧ day ≤ 36524) ∧ (0 ≤ cause ∧ cause ≤ 1000000000)) (hl : t.length ≤ 256) {g : Tg} (hg : g ∈ t) (hb : ¬ tgB g = true) : chkF day cause t = 2 := by
  unfold chkF
  rw [if_pos hd, if_neg (by omega), if_neg (fun h => hb (List.all_eq_true.1 h g hg))]
theorem chk_nine {day cause : Int} {t : List Tg} (hd : (0 ≤ day ∧ day ≤ 36524) ∧ (0 ≤ cause ∧ cause ≤ 1000000000)) (hl : t.length ≤ 256) (hg : ∀ g ∈ t, tgB g = true) (hb : ascB t = false) : chkF day cause t = 9 := by
  unfold chkF
  rw [if_pos hd, if_neg (by omega), if_pos (List.all_eq_true.2 hg), if_neg (by simp [hb])]
theorem chk_ok {day cause : Int} {t : List Tg} (hd : (0 ≤ day ∧ day ≤ 36524) ∧ (0 ≤ cause ∧ cause ≤ 1000000000)) (hl : t.length ≤ 256) (hg : ∀ g ∈ t, tgB g = true) (hb : ascB t = true) : chkF day cause t = 0 := by
  unfold chkF
  rw [if_pos hd, if_neg (by omega), if_pos (List.all_eq_true.2 hg), if_pos hb]
theorem take_one {t : List Tg} {k : Nat} {z : Tg} (h : t[k]? = some z) : t.take (k + 1) = t.take k ++ [z] := by
  have hk := (List.getElem?_eq_some_iff.1 h).1
  rw [List.take_succ_eq_append_getElem hk]
  rw [List.getElem?_eq_getElem hk] at h
  injection h with h
  rw [h]
set_option maxRecDepth 100000 in
set_option maxHeartbeats 40000000 in
theorem refCorrect_any (A : Option Addr) (c : Nat) (l : List En) (day cause : Int) (At : Option Addr) (ct : Nat) (t : List Tg) (w : World) (h : SlE w A l) (hc : l.length ≤ c) (hcm : c ≤ 9223372036854775807) (hl60 : l.length ≤ 60) (ht : Rd w At (tgsCs t)) (htl : t.length ≤ 300)
    (hday : -9223372036854775808 ≤ day ∧ day ≤ 9223372036854775807) (hcause : -9223372036854775808 ≤ cause ∧ cause ≤ 9223372036854775807) :
    Calls Try.prog 19 #[.slice A l.length c, .int .i64 day, .int .i64 cause, .slice At t.length ct] w (CorRet l day cause t w) := by
  have HRL := Lib.hid (refLedger_any A c l w h hc hcm)
  have HS := Lib.hid h
  have HT := Lib.hid ht
  have HBAD := Lib.hid (fun (m : Int) (w' : World) (hm : corE l day cause t = m) (h0 : m ≠ 0) (hb : Below w.heap.size w w') => cor_bad hm h0 hb)
  clear h ht
  by_cases hv : ledF l = 0
  · rw [hv] at HRL
    have HV := Lib.hid hv
    by_cases hrg : (0 ≤ day ∧ day ≤ 36524) ∧ (0 ≤ cause ∧ cause ≤ 1000000000)
    · obtain ⟨⟨d0, d1⟩, e0, e1⟩ := hrg
      have hrg : (0 ≤ day ∧ day ≤ 36524) ∧ (0 ≤ cause ∧ cause ≤ 1000000000) := ⟨⟨d0, d1⟩, e0, e1⟩
      by_cases hl256 : t.length ≤ 256
      · have hdd0 : decide (day < 0) = false := by simp; omega
        have hdd1 : decide (36524 < day) = false := by simp; omega
        have hdd2 : decide (cause < 0) = false := by simp; omega
        have hdd3 : decide (1000000000 < cause) = false := by simp; omega
        have hdd4 : decide ((256 : Int) < t.length) = false := by simp; omega
        go_enter Try.func19, Try.ntmps19
        go_wp2_with fail
        refine HRL.out.mono ?_
        rintro e w1 ⟨rfl, hb1⟩
        have HB1 := Lib.hid hb1
        clear hb1 hv HRL hrg
        go_wp2_with fail
        have HRG := Lib.hid (show (0 ≤ day ∧ day ≤ 36524) ∧ (0 ≤ cause ∧ cause ≤ 1000000000) from ⟨⟨d0, d1⟩, e0, e1⟩)
        go_loopg [11] t.length (fun g i wr => ∃ k : Nat, k + g = t.length ∧ i = .int .i64 (k : Int) ∧ (∀ x ∈ t.take k, tgB x = true) ∧ Below w.heap.size w wr)
        case atStart => exact ⟨0, by omega, rfl, fun x hx => by simp at hx, HB1.out⟩
        case round =>
          obtain ⟨k, hk, rfl, hok, hb⟩ := hrel
          have HK := Lib.hid hk
          have hk2 : k ≤ t.length := by omega
          have HOK := Lib.hid hok
          have HB := Lib.hid hb
          clear hk hok hb HB1
          by_cases hlt : k < t.length
          · obtain ⟨z, hz⟩ : ∃ z, t[k]? = some z := ⟨_, List.getElem?_eq_getElem hlt⟩
            have hmem : z ∈ t := List.mem_of_getElem? hz
            have HSN := Lib.hid (take_one hz)
            obtain ⟨bt, ot, rfl, y0, y1, y2, y3, y4⟩ := (HT.out.below HB.out).tg hz
            have hd : (k : Int) < t.length := by omega
            have HB2 := Lib.hid (fun hb => corE_chk (l := l) (day := day) (cause := cause) HV.out (by rw [chk_two HRG.out hl256 hmem hb]; decide))
            have HE2 := Lib.hid (fun hb => (HB2.out hb).trans (chk_two HRG.out hl256 hmem hb))
            clear hz hmem
            obtain ⟨zl, zb⟩ := z
            have HFD := Lib.hid (fields_any zl zb wr)
            have hzb := zb
            simp only at y0 y1 y2 y3 y4
            unfold baV at HFD
            go_wp2_with fail
            refine HFD.out.mono ?_
            rintro e w2 ⟨rfl, hb2⟩
            have HB3 := Lib.hid (HB.out.trans (hb2.mono HB.out.size))
            obtain ⟨hcc, _⟩ := bcell hb2
            have hbt := block_lt_of_cell y0
            have z0 := (hcc bt (ot + k * 5) hbt).trans y0
            clear hb2 hcc y0 y1 y2 y3 y4
            have hbt2 : bt < w2.heap.size := block_lt_of_cell z0
            have hq := (Below.refl w2.heap.size w2).alloc (Nat.le_refl _) (.cells #[.int .i64 zb.ow, .int .i64 zb.se, .int .i64 zb.pa, .int .i64 zb.re] 71)
            have hg := heap_alloc_new w2 (.cells #[.int .i64 zb.ow, .int .i64 zb.se, .int .i64 zb.pa, .int .i64 zb.re] 71)
            have HQ := Lib.hid hq
            have HG := Lib.hid hg
            clear hq hg
            unfold fldArr
            go_upto_region 12 with (fail)
            generalize hV : w2.alloc (.cells #[.int .i64 zb.ow, .int .i64 zb.se, .int .i64 zb.pa, .int .i64 zb.re] 71) = w3 at HQ HG ⊢
            clear hV
            generalize hgg : w2.heap.size = gf at HQ HG hbt2 ⊢
            have HG : Hid (w3.heap[gf]? = some (.cells (fldArr zb) 71 (0, 0))) := HG
            have HW3 := Lib.hid (HB3.out.trans (HQ.out.mono (by rw [← hgg]; exact HB3.out.size)))
            have z1 := (HQ.out.cell (p := ⟨bt, ot + k * 5, none⟩) hbt2).trans z0
            clear hgg z0 HQ HB3
            by_cases hlz : 1 ≤ zl ∧ zl ≤ 1000000
            · obtain ⟨hz1, hz2⟩ := hlz
              have HLZ := Lib.hid (And.intro hz1 hz2)
              go_wp2_with fail
              generalize wr = wo at *
              go_loopg [13] 4 (fun g i wr => ∃ j : Nat, j + g = 4 ∧ i = .int .i64 (j : Int) ∧ (∀ q < j, 0 ≤ fld zb q ∧ fld zb q ≤ 64000000000000) ∧ w3 = wr)
              case atStart => exact ⟨0, by omega, rfl, fun q hq => by omega, rfl⟩
              case round =>
                obtain ⟨j, hj, rfl, hfl, rfl⟩ := hrel
                have HJ := Lib.hid hj
                have hj4 : j ≤ 4 := by omega
                have HFL := Lib.hid hfl
                clear hj hfl
                by_cases hjl : j < 4
                · have hcl := fld_cell HG.out hjl
                  have hjd : (j : Int) < 4 := by omega
                  by_cases hfo : 0 ≤ fld zb j ∧ fld zb j ≤ 64000000000000
                  · obtain ⟨f0, f1⟩ := hfo
                    have HFO := Lib.hid (And.intro f0 f1)
                    generalize fld zb j = fj at hcl f0 f1
                    go_wp2_with fail
                    go_roundg (4 - (j + 1))
                    case measure => have := HJ.out; omega
                    case rel =>
                      refine ⟨j + 1, by have := HJ.out; omega, by go_num, fun q hq => ?_, rfl⟩
                      by_cases hqj : q = j
                      · rw [hqj]; exact HFO.out
                      · exact HFL.out q (by omega)
                  · have HE := Lib.hid (HE2.out fun h => hfo ((flds_tg h).2 j hjl))
                    by_cases hf0 : fld zb j < 0
                    · clear hfo
                      generalize fld zb j = fj at hcl hf0
                      go_wp2_with fail
                      go_ret2
                      exact HBAD.out 2 _ HE.out (by decide) HW3.out
                    · have hf1 : 64000000000000 < fld zb j := by omega
                      have hf2 : 0 ≤ fld zb j := by omega
                      clear hfo hf0
                      generalize fld zb j = fj at hcl hf1 hf2
                      go_wp2_with fail
                      go_ret2
                      exact HBAD.out 2 _ HE.out (by decide) HW3.out
                · obtain rfl : j = 4 := by omega
                  have HTG := Lib.hid (tg_flds HLZ.out HFL.out)
                  go_wp2_with fail
                  go_roundg (t.length - (k + 1))
                  case measure => have := HK.out; omega
                  case rel =>
                    refine ⟨k + 1, by have := HK.out; omega, by go_num, fun q hq => ?_, HW3.out⟩
                    rw [HSN.out] at hq
                    rcases List.mem_append.1 hq with hq | hq
                    · exact HOK.out q hq
                    · rw [List.mem_singleton.1 hq]; exact HTG.out
            · have HE := Lib.hid (HE2.out fun h => hlz (flds_tg h).1)
              by_cases hz1 : zl < 1
              · clear hlz
                go_wp2_with fail
                go_ret2
                exact HBAD.out 2 _ HE.out (by decide) HW3.out
              · have hz2 : 1000000 < zl := by omega
                have hz3 : 1 ≤ zl := by omega
                clear hlz hz1
                go_wp2_with fail
                go_ret2
                exact HBAD.out 2 _ HE.out (by decide) HW3.out
          · obtain rfl : k = t.length := by omega
            have hd : ¬ ((t.length : Nat) : Int) < t.length := by omega
            have HTB : Hid (∀ x ∈ t, tgB x = true) := Lib.hid (by have := HOK.out; rwa [List.take_length] at this)
            clear HOK
            go_wp2_with fail
            generalize wr = wo at *
            have hdl : decide (t.length < t.length) = false := by simp
            go_loopg [14] t.length (fun g i wr => ∃ q : Nat, q + g = t.length ∧ i = .int .i64 ((q : Int) + 1) ∧ ascUp t (q + 1) = true ∧ (q = 0 ∨ q + 1 ≤ t.length) ∧ Below w.heap.size w wr)
            case atStart => exact ⟨0, by omega, by go_num, ascUp_one t, .inl rfl, HB.out⟩
            case round =>
              obtain ⟨q, hq, rfl, hasc, hq1, hbr⟩ := hrel
              have HQ1 := Lib.hid hq1
              clear hq1
              have HQ := Lib.hid hq
              have hq2 : q ≤ t.length := by omega
              have HASC := Lib.hid hasc
              have HBR := Lib.hid hbr
              clear hq hasc hbr
              by_cases hql : q + 1 < t.length
              · obtain ⟨z, hz⟩ : ∃ z, t[q + 1]? = some z := ⟨_, List.getElem?_eq_getElem hql⟩
                obtain ⟨y, hy⟩ : ∃ y, t[q]? = some y := ⟨_, List.getElem?_eq_getElem (by omega)⟩
                obtain ⟨bt, ot, rfl, y0, _, _, _, _⟩ := (HT.out.below HBR.out).tg hz
                obtain ⟨bt2, ot2, ee, u0, _, _, _, _⟩ := (HT.out.below HBR.out).tg hy
                injection ee with ee
                injection ee with e1 e2 _
                subst e1; subst e2
                have hd : (q : Int) + 1 < t.length := by omega
                have HST := Lib.hid (show y.lot < z.lot → ascUp t (q + 1 + 1) = true from fun h => ascUp_step (k := q + 1) HASC.out (by omega) (by rw [Nat.add_sub_cancel, hy, hz]; exact h))
                have HBD := Lib.hid (show ¬ y.lot < z.lot → ascB t = false from fun h => ascUp_bad (k := q + 1) (by omega) hql (by rw [Nat.add_sub_cancel, hy, hz]; exact h))
                clear hz hy
                by_cases hlo : y.lot < z.lot
                · have hle : decide (z.lot ≤ y.lot) = false := by simp; omega
                  have HST := Lib.hid (HST.out hlo)
                  clear HBD
                  go_wp2_with fail
                  go_quiet (fail)
                  go_wp2_with fail
                  go_roundg (t.length - (q + 1))
                  case measure => have := HQ.out; omega
                  case rel => exact ⟨q + 1, by have := HQ.out; omega, by go_num, HST.out, .inr (by omega), drewN_below HBR.out _⟩
                · have hle : decide (z.lot ≤ y.lot) = true := by simp; omega
                  have hc9 := chk_nine HRG.out hl256 HTB.out (HBD.out hlo)
                  have HE := Lib.hid ((corE_chk (l := l) HV.out (by rw [hc9]; decide)).trans hc9)
                  clear HST hc9
                  go_wp2_with fail
                  go_quiet (fail)
                  go_wp2_with fail
                  go_ret2
                  exact HBAD.out 9 _ HE.out (by decide) (drewN_below HBR.out _)
              · have hd : ¬ (q : Int) + 1 < t.length := by omega
                have hasc : ascB t = true := by
                  unfold ascB
                  by_cases h0 : t.length = 0
                  · rw [h0]; rfl
                  · have := HASC.out
                    rwa [show q + 1 = t.length by have := HQ.out; have := HQ1.out; omega] at this
                have HCK := Lib.hid (chk_ok HRG.out hl256 HTB.out hasc)
                clear hasc
                have HLT := Lib.hid (lots_any A c l wr (HS.out.below HBR.out) (by omega))
                go_wp2_with fail
                refine HLT.out.mono ?_
                rintro e w5 ⟨v5, rfl, hi5, hb5⟩
                have HI5 := Lib.hid hi5
                have HB5 := Lib.hid (HBR.out.trans (hb5.mono HBR.out.size))
                clear hi5 hb5 HASC HQ1
                have hdq : decide (t.length < q + 1) = decide (t.length < q + 1) := rfl
                go_wp2_with fail
                generalize wr = wo2 at *
                go_loopg [15, 16] t.length (fun g v i wr => ∃ k : Nat, k + g = t.length ∧ i = .int .i64 (k : Int) ∧ IntsAt wr v (risesF [] (l.map (·.lot) ++ (t.take k).map (·.lot))) ∧ Below w.heap.size w wr)
                case atStart => exact ⟨0, by omega, rfl, by simpa using HI5.out, HB5.out⟩
                case round =>
                  obtain ⟨k, hk, rfl, hi, hb⟩ := hrel
                  have HK := Lib.hid hk
                  have hk2 : k ≤ t.length := by omega
                  have HI := Lib.hid hi
                  have HB6 := Lib.hid hb
                  clear hk hi hb HI5 HB5
                  by_cases hkl : k < t.length
                  · obtain ⟨z, hz⟩ : ∃ z, t[k]? = some z := ⟨_, List.getElem?_eq_getElem hkl⟩
                    have HST := Lib.hid (map_take_snoc (·.lot) t hz)
                    have hln := rises_len (l.map (·.lot) ++ (t.take k).map (·.lot)) []
                    simp only [List.length_append, List.length_map, List.length_take, List.length_nil] at hln
                    have hlen2 : (risesF [] (l.map (·.lot) ++ (t.take k).map (·.lot))).length ≤ 2000 := by omega
                    generalize hR : risesF [] (l.map (·.lot) ++ (t.take k).map (·.lot)) = R at *
                    have HR := Lib.hid hR
                    obtain ⟨A2, c2, rfl, hr2, hc2, hm2⟩ := HI.out
                    obtain ⟨bt, ot, rfl, y0, _, _, _, _⟩ := (HT.out.below HB6.out).tg hz
                    have HRI := Lib.hid (rise_any A2 c2 R z.lot wr hr2 (by omega) hc2 hm2)
                    have hd5 : (k : Int) < t.length := by omega
                    clear hz hln hR hr2 hm2
                    go_wp2_with fail
                    refine HRI.out.mono ?_
                    rintro e w6 ⟨v6, rfl, hi6, hb6⟩
                    have HI6 := Lib.hid hi6
                    have HB7 := Lib.hid (HB6.out.trans (hb6.mono HB6.out.size))
                    clear hi6 hb6
                    go_wp2_with fail
                    go_roundg (t.length - (k + 1))
                    case measure => have := HK.out; omega
                    case rel => exact ⟨k + 1, by have := HK.out; omega, by go_num, by rw [HST.out, ← List.append_assoc, rises_snoc, HR.out]; exact HI6.out, HB7.out⟩
                  · obtain rfl : k = t.length := by omega
                    have hi := HI.out
                    rw [List.take_length] at hi
                    have hd5 : ¬ ((t.length : Nat) : Int) < t.length := by omega
                    have hln := rises_len (l.map (·.lot) ++ t.map (·.lot)) []
                    simp only [List.length_append, List.length_map, List.length_nil] at hln
                    have hidl : (lotsF l t).length ≤ 400 := by unfold lotsF; omega
                    have HIDS : Hid (∃ ids, ids = lotsF l t) := Lib.hid ⟨_, rfl⟩
                    change IntsAt wr _ (lotsF l t) at hi
                    obtain ⟨A2, c2, rfl, hr2, hc2, hm2⟩ := hi
                    have HR2 := Lib.hid hr2
                    clear hr2 hm2 HI hln HIDS
                    have HL := Lib.hid (HS.out.below HB6.out)
                    have HLZ := Lib.hid (OwnX.lit0 wr wr.heap.size 26 6 (Nat.le_refl _))
                    have q0 := (Below.refl wr.heap.size wr).alloc (Nat.le_refl _) (.cells #[] 26)
                    have HRL2 := Lib.hid (HL.out.rd.below q0)
                    have Q0 := Lib.hid q0
                    obtain ⟨i0, hi0, hz0, hz1, hz2⟩ := info_parts entInfo
                    clear q0
                    go_wp2_with (at_builtin; refine wpList_append_x (wr.alloc (.cells #[] 26)) rfl (.tmp 120) (.tmp 121) 23 rfl wr.heap.size 26 i0 _ 6 48 Try.underlying23 hi0 hz0 hz1 hz2 rfl (by omega) _ 0 [] rfl HLZ.out A l.length c (ensCs l) rfl (by rw [ensCs_len]) HRL2.out (ensCs_one l) (by unfold maxLen; omega) (by omega) (by simp) ?_; intro v7 w7 hown7 hgr7 _; have HO7 := Lib.hid hown7; have HG7 := Lib.hid hgr7; clear hown7 hgr7)
                    have HRW := Lib.hid (show OwnX w7 wr.heap.size 26 6 v7 l.length (ensCs l) by have h := HO7.out; rw [Nat.zero_add, List.nil_append] at h; exact h)
                    obtain ⟨Ao, co, rfl, _⟩ := OwnX.shape HRW.out
                    have HB70 : Hid (Below wr.heap.size wr w7) := Lib.hid (Q0.out.trans ((Below.refl _ _).grown HG7.out (by simp) (fun k e => (HLZ.out.block_lt e).1)))
                    have hqd := (Below.refl w7.heap.size w7).alloc (Nat.le_refl _) (.cells #[.int .i64 2, .int .i64 4, .int .i64 6, .int .i64 8] 71)
                    have hgd := BlkAt.new_ w7 (.cells #[.int .i64 2, .int .i64 4, .int .i64 6, .int .i64 8] 71)
                    have hgu := BlkAt.new_ (w7.alloc (.cells #[.int .i64 2, .int .i64 4, .int .i64 6, .int .i64 8] 71)) (.cells #[.int .i64 1, .int .i64 3, .int .i64 5, .int .i64 7] 71)
                    have hqu := (Below.refl (w7.alloc (.cells #[.int .i64 2, .int .i64 4, .int .i64 6, .int .i64 8] 71)).heap.size (w7.alloc (.cells #[.int .i64 2, .int .i64 4, .int .i64 6, .int .i64 8] 71))).alloc (Nat.le_refl _) (.cells #[.int .i64 1, .int .i64 3, .int .i64 5, .int .i64 7] 71)
                    have hsd : (w7.alloc (.cells #[.int .i64 2, .int .i64 4, .int .i64 6, .int .i64 8] 71)).heap.size = w7.heap.size + 1 := by simp
                    have HGD := Lib.hid (hgd.below hqu)
                    have HQ8 := Lib.hid (hqd.trans (hqu.mono hqd.size))
                    rw [hsd] at hgu
                    have HGU := Lib.hid hgu
                    clear hgd hgu hqd hqu hsd
                    generalize hV : (w7.alloc (.cells #[.int .i64 2, .int .i64 4, .int .i64 6, .int .i64 8] 71)).alloc (.cells #[.int .i64 1, .int .i64 3, .int .i64 5, .int .i64 7] 71) = w8 at HGD HGU HQ8 ⊢
                    clear hV
                    have HRW8 := Lib.hid (HRW.out.below HQ8.out)
                    have HBW8 := Lib.hid (HB70.out.trans (HQ8.out.mono HB70.out.size))
                    have hgdl := HGD.out.lt
                    have hge7 := HB70.out.size
                    have HST : Hid (CoRel wr l t day cause (lotsF l t) w7.heap.size (w7.heap.size + 1) (lotsF l t).length (.slice Ao l.length co) (.bool false) (.int .i64 0) w8) := Lib.hid ⟨0, by omega, rfl, rfl, by simpa [allF, putsF] using HRW8.out, HGD.out, HGU.out, by simp [allF, putsF]; omega, HBW8.out, hge7, by omega⟩
                    have HEB := Lib.hid (effs_led HV.out)
                    have HTWI := Lib.hid (fun lot => tgt_within HTB.out lot)
                    have HBWI := Lib.hid (fun lot => balF_within HV.out lot)
                    clear HRW HB70 HGD HGU HQ8 HRW8 HBW8 hgdl hge7 HO7 HG7 HLZ HRL2 Q0
                    generalize w7.heap.size = gd at *
                    generalize hgu : gd + 1 = gu at *
                    clear hgu
                    generalize wr = wB at *
                    go_loopg [17, 20, 21] (lotsF l t).length (fun m vo ov i wr => CoRel wB l t day cause (lotsF l t) gd gu m vo ov i wr)
                    case atStart => exact HST.out
                    case round =>
                      obtain ⟨k, hk, rfl, rfl, hown, hbd, hbu, hol, hbw, hged, hgeu⟩ := hrel
                      have HKK := Lib.hid hk
                      have hkk2 : k ≤ (lotsF l t).length := by omega
                      have HOWN := Lib.hid hown
                      have HBDN := Lib.hid hbd
                      have HBUP := Lib.hid hbu
                      have HOL := Lib.hid hol
                      have HBW := Lib.hid hbw
                      have HGE := Lib.hid (And.intro hged hgeu)
                      clear hk hown hbd hbu hol hbw hged hgeu HST HK
                      by_cases hkl : k < (lotsF l t).length
                      · have hkd : (k : Int) < (lotsF l t).length := by omega
                        obtain ⟨b2, o2, rfl, hcB⟩ := HR2.out.int hkl
                        have hcell := (HBW.out.cell (p := ⟨b2, o2 + k, none⟩) (block_lt_of_cell hcB)).trans hcB
                        have hb2 := block_lt_of_cell hcell
                        have HTK := Lib.hid (allF_take (l := l) (t := t) hkl)
                        have HLOT := Lib.hid (show ∃ q, q = (lotsF l t)[k]?.getD 0 from ⟨_, rfl⟩)
                        generalize (lotsF l t)[k]?.getD 0 = lot at hcell hcB HTK HLOT
                        have HBL0 := Lib.hid (fun W (hb : Below wr.heap.size wr W) => refBalance_any A c l lot W (HL.out.below (HBW.out.trans (hb.mono HBW.out.size))) HEB.out)
                        have HTG0 := Lib.hid (fun W (hb : Below wr.heap.size wr W) => refTarget_any At ct t lot W (HT.out.below (HB6.out.trans ((HBW.out.trans (hb.mono HBW.out.size)).mono HB6.out.size))) (by omega))
                        have HBB := Lib.hid ((HBWI.out lot).mono (show (l.length : Int) * 64000000000000 ≤ 3840000000000000 by omega))
                        have HTT := Lib.hid (HTWI.out lot)
                        have HBO := Lib.hid (balF_nonneg HV.out lot)
                        have HXC0 : Hid (∀ W, Below wB.heap.size wB W → W.cell? ⟨b2, o2 + k, none⟩ = some (.int .i64 lot)) := Lib.hid fun W hb => (hb.cell (p := ⟨b2, o2 + k, none⟩) (block_lt_of_cell hcB)).trans hcB
                        clear hcB
                        generalize balF l lot = B at HBL0 HBB HTK HBO
                        generalize tgtF t lot = T at HTG0 HTT HTK
                        obtain ⟨b0, b1, bx2, b3⟩ := B
                        obtain ⟨t0, t1, t2, t3⟩ := T
                        have HFB := Lib.hid (fun W => fields_any lot ⟨b0, b1, bx2, b3⟩ W)
                        have HFT := Lib.hid (fun W => fields_any lot ⟨t0, t1, t2, t3⟩ W)
                        have HBL := HBL0
                        have HTG := HTG0
                        unfold baV at HBL HTG HFB HFT
                        unfold fldArr at HFB HFT
                        simp only at HBL HTG HFB HFT
                        clear HBL0 HTG0
                        go_upto_region 36 with (fail)
                        go_cut [22, 23] from 125 to 223 (fun s22 s23 wx => ∃ ga gb, (s22 = .pointer (some ⟨ga, 0, none⟩) ∧ s23 = .pointer (some ⟨gb, 0, none⟩)) ∧ (BlkAt wx ga (.cells (fldArr ⟨b0, b1, bx2, b3⟩) 71) ∧ BlkAt wx gb (.cells (fldArr ⟨t0, t1, t2, t3⟩) 71)) ∧ Below wr.heap.size wr wx)
                        case first =>
                          refine wp_region_x 18 (by kernel_rfl) (fun w' => Below wr.heap.size wr w') ?_
                          have hF : Hid (Fr0 wr wr.drew) := Lib.hid ((Below.refl _ _).drew)
                          generalize hV : wr.drew = W at hF ⊢
                          clear hV
                          refine wpAnyX_take (i := 0) (v := .slice A l.length c) rfl (by kernel_rfl) (by kernel_rfl) (by kernel_rfl) (by kernel_rfl) (fun _ _ _ h => h) hF.out.below (Or.inl ⟨by rfl, fun w hS => by obtain ⟨rc, rf⟩ := below_cell hS rfl; go_simp⟩) ?_
                          go_simp
                          refine wpAnyX_take (i := 1) (v := .slice (some ⟨b2, o2, none⟩) (lotsF l t).length c2) rfl (by kernel_rfl) (by kernel_rfl) (by kernel_rfl) (by kernel_rfl) (fun _ _ _ h => h) hF.out.below (Or.inl ⟨by rfl, fun w hS => by obtain ⟨rc, rf⟩ := below_cell hS rfl; go_simp⟩) ?_
                          go_simp
                          refine wpAnyX_take (i := 2) (v := .int .i64 (k : Int)) rfl (by kernel_rfl) (by kernel_rfl) (by kernel_rfl) (by kernel_rfl) (fun _ _ _ h => h) hF.out.below (Or.inl ⟨by rfl, fun w hS => by obtain ⟨rc, rf⟩ := below_cell hS rfl; go_simp⟩) ?_
                          go_simp
                          refine wpAnyX_take (i := 3) (v := .pointer (some ⟨b2, o2 + k, none⟩)) rfl (by kernel_rfl) (by kernel_rfl) (by kernel_rfl) (by kernel_rfl) (fun _ _ _ h => h) hF.out.below (Or.inl ⟨by rfl, fun w hS => by obtain ⟨rc, rf⟩ := below_cell hS rfl; go_simp⟩) ?_
                          go_simp
                          refine wpAnyX_take (i := 4) (v := .int .i64 lot) rfl (by kernel_rfl) (by kernel_rfl) (by kernel_rfl) (by kernel_rfl) (fun _ _ _ h => h) hF.out.below (Or.inl ⟨by rfl, fun w hS => by obtain ⟨rc, rf⟩ := below_cell hS rfl; go_simp⟩) ?_
                          go_simp
                          refine wpAnyX_take (i := 7) (v := .slice At t.length ct) rfl (by kernel_rfl) (by kernel_rfl) (by kernel_rfl) (by kernel_rfl) (fun _ _ _ h => h) hF.out.below (Or.inl ⟨by rfl, fun w hS => by obtain ⟨rc, rf⟩ := below_cell hS rfl; go_simp⟩) ?_
                          go_simp
                          refine wpAnyX_take (i := 8) (v := .slice (some ⟨b2, o2, none⟩) (lotsF l t).length c2) rfl (by kernel_rfl) (by kernel_rfl) (by kernel_rfl) (by kernel_rfl) (fun _ _ _ h => h) hF.out.below (Or.inl ⟨by rfl, fun w hS => by obtain ⟨rc, rf⟩ := below_cell hS rfl; go_simp⟩) ?_
                          go_simp
                          refine wpAnyX_take (i := 9) (v := .int .i64 (k : Int)) rfl (by kernel_rfl) (by kernel_rfl) (by kernel_rfl) (by kernel_rfl) (fun _ _ _ h => h) hF.out.below (Or.inl ⟨by rfl, fun w hS => by obtain ⟨rc, rf⟩ := below_cell hS rfl; go_simp⟩) ?_
                          go_simp
                          refine wpAnyX_take (i := 10) (v := .pointer (some ⟨b2, o2 + k, none⟩)) rfl (by kernel_rfl) (by kernel_rfl) (by kernel_rfl) (by kernel_rfl) (fun _ _ _ h => h) hF.out.below (Or.inl ⟨by rfl, fun w hS => by obtain ⟨rc, rf⟩ := below_cell hS rfl; go_simp⟩) ?_
                          go_simp
                          refine wpAnyX_take (i := 11) (v := .int .i64 lot) rfl (by kernel_rfl) (by kernel_rfl) (by kernel_rfl) (by kernel_rfl) (fun _ _ _ h => h) hF.out.below (Or.inl ⟨by rfl, fun w hS => by obtain ⟨rc, rf⟩ := below_cell hS rfl; go_simp⟩) ?_
                          go_simp
                          apply share3 (F := fun W ga gb => Fr2 wr W ga gb)
                          intro T_4_1_1
                          apply share3 (F := fun W ga gb => Fr2 wr W ga gb)
                          intro T_3_1_1
                          apply share2 (F := fun W g => Fr1 wr W g)
                          intro T_4_0_1
                          apply share2 (F := fun W g => Fr1 wr W g)
                          intro T_4_1_0
                          apply share3 (F := fun W ga gb => Fr2 wr W ga gb)
                          intro T_2_1_1
                          apply share2 (F := fun W g => Fr1 wr W g)
                          intro T_3_0_1
                          apply share2 (F := fun W g => Fr1 wr W g)
                          intro T_3_1_0
                          apply share1 (F := fun W => Fr0 wr W)
                          intro T_4_0_0
                          apply share3 (F := fun W ga gb => Fr2 wr W ga gb)
                          intro T_1_1_1
                          apply share2 (F := fun W g => Fr1 wr W g)
                          intro T_2_0_1
                          apply share2 (F := fun W g => Fr1 wr W g)
                          intro T_2_1_0
                          apply share1 (F := fun W => Fr0 wr W)
                          intro T_3_0_0
                          apply share3 (F := fun W ga gb => Fr2 wr W ga gb)
                          intro T_0_1_1
                          apply share2 (F := fun W g => Fr1 wr W g)
                          intro T_1_0_1
                          apply share2 (F := fun W g => Fr1 wr W g)
                          intro T_1_1_0
                          apply share1 (F := fun W => Fr0 wr W)
                          intro T_2_0_0
                          apply share2 (F := fun W g => Fr1 wr W g)
                          intro T_0_0_1
                          apply share2 (F := fun W g => Fr1 wr W g)
                          intro T_0_1_0
                          apply share1 (F := fun W => Fr0 wr W)
                          intro T_1_0_0
                          · refine wpAnyX_ready (rs := [5, 14, 15]) (by kernel_rfl) (by simp) (AllX.cons rfl (fun K hK => ?_) (AllX.cons rfl (fun K hK => ?_) (AllX.cons rfl (fun K hK => ?_) AllX.nil)))
                            · go_simp
                              go_wp2_with (go_at_call 39; refine (HBL.out W hF.out.below).mono ?_; rintro e V ⟨rfl, hb⟩)
                              have hN := hF.out.go hb
                              refine hK.out _ _ (fun _ => hN.below) ?_
                              clear hK K hb
                              exact T_1_0_0 V hN
                            · go_simp
                              have hN := hF.out.new_
                              refine hK.out _ _ (fun _ => hN.below) ?_
                              clear hK K
                              generalize hV : W.alloc (.cells #[.int .i64 0, .int .i64 0, .int .i64 0, .int .i64 0] 71) = V at hN ⊢
                              clear hV
                              generalize hV : W.heap.size = ga at hN ⊢
                              clear hV
                              exact T_0_1_0 V ga hN
                            · go_simp
                              have hN := hF.out.new_
                              refine hK.out _ _ (fun _ => hN.below) ?_
                              clear hK K
                              generalize hV : W.alloc (.cells #[.int .i64 0, .int .i64 0, .int .i64 0, .int .i64 0] 71) = V at hN ⊢
                              clear hV
                              generalize hV : W.heap.size = gb at hN ⊢
                              clear hV
                              exact T_0_0_1 V gb hN
                          · intro W hF
                            have hF := Lib.hid hF
                            refine wpAnyX_ready (rs := [6, 14, 15]) (by kernel_rfl) (by simp) (AllX.cons rfl (fun K hK => ?_) (AllX.cons rfl (fun K hK => ?_) (AllX.cons rfl (fun K hK => ?_) AllX.nil)))
                            · go_simp
                              go_wp2_with (go_at_call 36; refine (HFB.out W).mono ?_; rintro e V ⟨rfl, hb⟩)
                              have hN := hF.out.go hb
                              refine hK.out _ _ (fun _ => hN.below) ?_
                              clear hK K hb
                              exact T_2_0_0 V hN
                            · go_simp
                              have hN := hF.out.new_
                              refine hK.out _ _ (fun _ => hN.below) ?_
                              clear hK K
                              generalize hV : W.alloc (.cells #[.int .i64 0, .int .i64 0, .int .i64 0, .int .i64 0] 71) = V at hN ⊢
                              clear hV
                              generalize hV : W.heap.size = ga at hN ⊢
                              clear hV
                              exact T_1_1_0 V ga hN
                            · go_simp
                              have hN := hF.out.new_
                              refine hK.out _ _ (fun _ => hN.below) ?_
                              clear hK K
                              generalize hV : W.alloc (.cells #[.int .i64 0, .int .i64 0, .int .i64 0, .int .i64 0] 71) = V at hN ⊢
                              clear hV
                              generalize hV : W.heap.size = gb at hN ⊢
                              clear hV
                              exact T_1_0_1 V gb hN
                          · intro W ga hF
                            have hF := Lib.hid hF
                            refine wpAnyX_ready (rs := [5, 15]) (by kernel_rfl) (by simp) (AllX.cons rfl (fun K hK => ?_) (AllX.cons rfl (fun K hK => ?_) AllX.nil))
                            · go_simp
                              go_wp2_with (go_at_call 39; refine (HBL.out W hF.out.below).mono ?_; rintro e V ⟨rfl, hb⟩)
                              have hN := hF.out.go hb
                              refine hK.out _ _ (fun _ => hN.below) ?_
                              clear hK K hb
                              exact T_1_1_0 V ga hN
                            · go_simp
                              have hN := hF.out.newB
                              refine hK.out _ _ (fun _ => hN.below) ?_
                              clear hK K
                              generalize hV : W.alloc (.cells #[.int .i64 0, .int .i64 0, .int .i64 0, .int .i64 0] 71) = V at hN ⊢
                              clear hV
                              generalize hV : W.heap.size = gb at hN ⊢
                              clear hV
                              exact T_0_1_1 V ga gb hN
                          · intro W gb hF
                            have hF := Lib.hid hF
                            refine wpAnyX_ready (rs := [5, 14]) (by kernel_rfl) (by simp) (AllX.cons rfl (fun K hK => ?_) (AllX.cons rfl (fun K hK => ?_) AllX.nil))
                            · go_simp
                              go_wp2_with (go_at_call 39; refine (HBL.out W hF.out.below).mono ?_; rintro e V ⟨rfl, hb⟩)
                              have hN := hF.out.go hb
                              refine hK.out _ _ (fun _ => hN.below) ?_
                              clear hK K hb
                              exact T_1_0_1 V gb hN
                            · go_simp
                              have hN := hF.out.newA
                              refine hK.out _ _ (fun _ => hN.below) ?_
                              clear hK K
                              generalize hV : W.alloc (.cells #[.int .i64 0, .int .i64 0, .int .i64 0, .int .i64 0] 71) = V at hN ⊢
                              clear hV
                              generalize hV : W.heap.size = ga at hN ⊢
                              clear hV
                              exact T_0_1_1 V ga gb hN
                          · intro W hF
                            have hF := Lib.hid hF
                            refine wpAnyX_ready (rs := [12, 14, 15]) (by kernel_rfl) (by simp) (AllX.cons rfl (fun K hK => ?_) (AllX.cons rfl (fun K hK => ?_) (AllX.cons rfl (fun K hK => ?_) AllX.nil)))
                            · go_simp
                              go_wp2_with (go_at_call 23; refine (HTG.out W hF.out.below).mono ?_; rintro e V ⟨rfl, hb⟩)
                              have hN := hF.out.go hb
                              refine hK.out _ _ (fun _ => hN.below) ?_
                              clear hK K hb
                              exact T_3_0_0 V hN
                            · go_simp
                              have hN := hF.out.new_
                              refine hK.out _ _ (fun _ => hN.below) ?_
                              clear hK K
                              generalize hV : W.alloc (.cells #[.int .i64 0, .int .i64 0, .int .i64 0, .int .i64 0] 71) = V at hN ⊢
                              clear hV
                              generalize hV : W.heap.size = ga at hN ⊢
                              clear hV
                              exact T_2_1_0 V ga hN
                            · go_simp
                              have hN := hF.out.new_
                              refine hK.out _ _ (fun _ => hN.below) ?_
                              clear hK K
                              generalize hV : W.alloc (.cells #[.int .i64 0, .int .i64 0, .int .i64 0, .int .i64 0] 71) = V at hN ⊢
                              clear hV
                              generalize hV : W.heap.size = gb at hN ⊢
                              clear hV
                              exact T_2_0_1 V gb hN
                          · intro W ga hF
                            have hF := Lib.hid hF
                            refine wpAnyX_ready (rs := [6, 15]) (by kernel_rfl) (by simp) (AllX.cons rfl (fun K hK => ?_) (AllX.cons rfl (fun K hK => ?_) AllX.nil))
                            · go_simp
                              go_wp2_with (go_at_call 36; refine (HFB.out W).mono ?_; rintro e V ⟨rfl, hb⟩)
                              have hN := hF.out.go hb
                              refine hK.out _ _ (fun _ => hN.below) ?_
                              clear hK K hb
                              exact T_2_1_0 V ga hN
                            · go_simp
                              have hN := hF.out.newB
                              refine hK.out _ _ (fun _ => hN.below) ?_
                              clear hK K
                              generalize hV : W.alloc (.cells #[.int .i64 0, .int .i64 0, .int .i64 0, .int .i64 0] 71) = V at hN ⊢
                              clear hV
                              generalize hV : W.heap.size = gb at hN ⊢
                              clear hV
                              exact T_1_1_1 V ga gb hN
                          · intro W gb hF
                            have hF := Lib.hid hF
                            refine wpAnyX_ready (rs := [6, 14]) (by kernel_rfl) (by simp) (AllX.cons rfl (fun K hK => ?_) (AllX.cons rfl (fun K hK => ?_) AllX.nil))
                            · go_simp
                              go_wp2_with (go_at_call 36; refine (HFB.out W).mono ?_; rintro e V ⟨rfl, hb⟩)
                              have hN := hF.out.go hb
                              refine hK.out _ _ (fun _ => hN.below) ?_
                              clear hK K hb
                              exact T_2_0_1 V gb hN
                            · go_simp
                              have hN := hF.out.newA
                              refine hK.out _ _ (fun _ => hN.below) ?_
                              clear hK K
                              generalize hV : W.alloc (.cells #[.int .i64 0, .int .i64 0, .int .i64 0, .int .i64 0] 71) = V at hN ⊢
                              clear hV
                              generalize hV : W.heap.size = ga at hN ⊢
                              clear hV
                              exact T_1_1_1 V ga gb hN
                          · intro W ga gb hF
                            have hF := Lib.hid hF
                            refine wpAnyX_one (i := 5) (by kernel_rfl) rfl (fun K hK => ?_)
                            go_simp
                            go_wp2_with (go_at_call 39; refine (HBL.out W hF.out.below).mono ?_; rintro e V ⟨rfl, hb⟩)
                            have hN := hF.out.go hb
                            refine hK.out _ _ (fun _ => hN.below) ?_
                            clear hK K hb
                            exact T_1_1_1 V ga gb hN
                          · intro W hF
                            have hF := Lib.hid hF
                            refine wpAnyX_ready (rs := [13, 14, 15]) (by kernel_rfl) (by simp) (AllX.cons rfl (fun K hK => ?_) (AllX.cons rfl (fun K hK => ?_) (AllX.cons rfl (fun K hK => ?_) AllX.nil)))
                            · go_simp
                              go_wp2_with (go_at_call 36; refine (HFT.out W).mono ?_; rintro e V ⟨rfl, hb⟩)
                              have hN := hF.out.go hb
                              refine hK.out _ _ (fun _ => hN.below) ?_
                              clear hK K hb
                              exact T_4_0_0 V hN
                            · go_simp
                              have hN := hF.out.new_
                              refine hK.out _ _ (fun _ => hN.below) ?_
                              clear hK K
                              generalize hV : W.alloc (.cells #[.int .i64 0, .int .i64 0, .int .i64 0, .int .i64 0] 71) = V at hN ⊢
                              clear hV
                              generalize hV : W.heap.size = ga at hN ⊢
                              clear hV
                              exact T_3_1_0 V ga hN
                            · go_simp
                              have hN := hF.out.new_
                              refine hK.out _ _ (fun _ => hN.below) ?_
                              clear hK K
                              generalize hV : W.alloc (.cells #[.int .i64 0, .int .i64 0, .int .i64 0, .int .i64 0] 71) = V at hN ⊢
                              clear hV
                              generalize hV : W.heap.size = gb at hN ⊢
                              clear hV
                              exact T_3_0_1 V gb hN
                          · intro W ga hF
                            have hF := Lib.hid hF
                            refine wpAnyX_ready (rs := [12, 15]) (by kernel_rfl) (by simp) (AllX.cons rfl (fun K hK => ?_) (AllX.cons rfl (fun K hK => ?_) AllX.nil))
                            · go_simp
                              go_wp2_with (go_at_call 23; refine (HTG.out W hF.out.below).mono ?_; rintro e V ⟨rfl, hb⟩)
                              have hN := hF.out.go hb
                              refine hK.out _ _ (fun _ => hN.below) ?_
                              clear hK K hb
                              exact T_3_1_0 V ga hN
                            · go_simp
                              have hN := hF.out.newB
                              refine hK.out _ _ (fun _ => hN.below) ?_
                              clear hK K
                              generalize hV : W.alloc (.cells #[.int .i64 0, .int .i64 0, .int .i64 0, .int .i64 0] 71) = V at hN ⊢
                              clear hV
                              generalize hV : W.heap.size = gb at hN ⊢
                              clear hV
                              exact T_2_1_1 V ga gb hN
                          · intro W gb hF
                            have hF := Lib.hid hF
                            refine wpAnyX_ready (rs := [12, 14]) (by kernel_rfl) (by simp) (AllX.cons rfl (fun K hK => ?_) (AllX.cons rfl (fun K hK => ?_) AllX.nil))
                            · go_simp
                              go_wp2_with (go_at_call 23; refine (HTG.out W hF.out.below).mono ?_; rintro e V ⟨rfl, hb⟩)
                              have hN := hF.out.go hb
                              refine hK.out _ _ (fun _ => hN.below) ?_
                              clear hK K hb
                              exact T_3_0_1 V gb hN
                            · go_simp
                              have hN := hF.out.newA
                              refine hK.out _ _ (fun _ => hN.below) ?_
                              clear hK K
                              generalize hV : W.alloc (.cells #[.int .i64 0, .int .i64 0, .int .i64 0, .int .i64 0] 71) = V at hN ⊢
                              clear hV
                              generalize hV : W.heap.size = ga at hN ⊢
                              clear hV
                              exact T_2_1_1 V ga gb hN
                          · intro W ga gb hF
                            have hF := Lib.hid hF
                            refine wpAnyX_one (i := 6) (by kernel_rfl) rfl (fun K hK => ?_)
                            go_simp
                            go_wp2_with (go_at_call 36; refine (HFB.out W).mono ?_; rintro e V ⟨rfl, hb⟩)
                            have hN := hF.out.go hb
                            refine hK.out _ _ (fun _ => hN.below) ?_
                            clear hK K hb
                            exact T_2_1_1 V ga gb hN
                          · intro W hF
                            have hF := Lib.hid hF
                            refine wpAnyX_ready (rs := [14, 15]) (by kernel_rfl) (by simp) (AllX.cons rfl (fun K hK => ?_) (AllX.cons rfl (fun K hK => ?_) AllX.nil))
                            · go_simp
                              have hN := hF.out.new_
                              refine hK.out _ _ (fun _ => hN.below) ?_
                              clear hK K
                              generalize hV : W.alloc (.cells #[.int .i64 0, .int .i64 0, .int .i64 0, .int .i64 0] 71) = V at hN ⊢
                              clear hV
                              generalize hV : W.heap.size = ga at hN ⊢
                              clear hV
                              exact T_4_1_0 V ga hN
                            · go_simp
                              have hN := hF.out.new_
                              refine hK.out _ _ (fun _ => hN.below) ?_
                              clear hK K
                              generalize hV : W.alloc (.cells #[.int .i64 0, .int .i64 0, .int .i64 0, .int .i64 0] 71) = V at hN ⊢
                              clear hV
                              generalize hV : W.heap.size = gb at hN ⊢
                              clear hV
                              exact T_4_0_1 V gb hN
                          · intro W ga hF
                            have hF := Lib.hid hF
                            refine wpAnyX_ready (rs := [13, 15]) (by kernel_rfl) (by simp) (AllX.cons rfl (fun K hK => ?_) (AllX.cons rfl (fun K hK => ?_) AllX.nil))
                            · go_simp
                              go_wp2_with (go_at_call 36; refine (HFT.out W).mono ?_; rintro e V ⟨rfl, hb⟩)
                              have hN := hF.out.go hb
                              refine hK.out _ _ (fun _ => hN.below) ?_
                              clear hK K hb
                              exact T_4_1_0 V ga hN
                            · go_simp
                              have hN := hF.out.newB
                              refine hK.out _ _ (fun _ => hN.below) ?_
                              clear hK K
                              generalize hV : W.alloc (.cells #[.int .i64 0, .int .i64 0, .int .i64 0, .int .i64 0] 71) = V at hN ⊢
                              clear hV
                              generalize hV : W.heap.size = gb at hN ⊢
                              clear hV
                              exact T_3_1_1 V ga gb hN
                          · intro W gb hF
                            have hF := Lib.hid hF
                            refine wpAnyX_ready (rs := [13, 14]) (by kernel_rfl) (by simp) (AllX.cons rfl (fun K hK => ?_) (AllX.cons rfl (fun K hK => ?_) AllX.nil))
                            · go_simp
                              go_wp2_with (go_at_call 36; refine (HFT.out W).mono ?_; rintro e V ⟨rfl, hb⟩)
                              have hN := hF.out.go hb
                              refine hK.out _ _ (fun _ => hN.below) ?_
                              clear hK K hb
                              exact T_4_0_1 V gb hN
                            · go_simp
                              have hN := hF.out.newA
                              refine hK.out _ _ (fun _ => hN.below) ?_
                              clear hK K
                              generalize hV : W.alloc (.cells #[.int .i64 0, .int .i64 0, .int .i64 0, .int .i64 0] 71) = V at hN ⊢
                              clear hV
                              generalize hV : W.heap.size = ga at hN ⊢
                              clear hV
                              exact T_3_1_1 V ga gb hN
                          · intro W ga gb hF
                            have hF := Lib.hid hF
                            refine wpAnyX_one (i := 12) (by kernel_rfl) rfl (fun K hK => ?_)
                            go_simp
                            go_wp2_with (go_at_call 23; refine (HTG.out W hF.out.below).mono ?_; rintro e V ⟨rfl, hb⟩)
                            have hN := hF.out.go hb
                            refine hK.out _ _ (fun _ => hN.below) ?_
                            clear hK K hb
                            exact T_3_1_1 V ga gb hN
                          · intro W ga hF
                            have hF := Lib.hid hF
                            refine wpAnyX_one (i := 15) (by kernel_rfl) rfl (fun K hK => ?_)
                            go_simp
                            have hN := hF.out.newB
                            refine hK.out _ _ (fun _ => hN.below) ?_
                            clear hK K
                            generalize hV : W.alloc (.cells #[.int .i64 0, .int .i64 0, .int .i64 0, .int .i64 0] 71) = V at hN ⊢
                            clear hV
                            generalize hV : W.heap.size = gb at hN ⊢
                            clear hV
                            exact T_4_1_1 V ga gb hN
                          · intro W gb hF
                            have hF := Lib.hid hF
                            refine wpAnyX_one (i := 14) (by kernel_rfl) rfl (fun K hK => ?_)
                            go_simp
                            have hN := hF.out.newA
                            refine hK.out _ _ (fun _ => hN.below) ?_
                            clear hK K
                            generalize hV : W.alloc (.cells #[.int .i64 0, .int .i64 0, .int .i64 0, .int .i64 0] 71) = V at hN ⊢
                            clear hV
                            generalize hV : W.heap.size = ga at hN ⊢
                            clear hV
                            exact T_4_1_1 V ga gb hN
                          · intro W ga gb hF
                            have hF := Lib.hid hF
                            refine wpAnyX_one (i := 13) (by kernel_rfl) rfl (fun K hK => ?_)
                            go_simp
                            go_wp2_with (go_at_call 36; refine (HFT.out W).mono ?_; rintro e V ⟨rfl, hb⟩)
                            have hN := hF.out.go hb
                            refine hK.out _ _ (fun _ => hN.below) ?_
                            clear hK K hb
                            exact T_4_1_1 V ga gb hN
                          · intro W ga gb hF
                            have hF := Lib.hid hF
                            obtain ⟨hq, ⟨hA, hAge⟩, ⟨hB, hBge⟩, hne⟩ := hF.out
                            have hq := Lib.hid hq
                            have hA := Lib.hid hA
                            have hB := Lib.hid hB
                            have hAge := Lib.hid hAge
                            have hBge := Lib.hid hBge
                            clear hF
                            refine wpAnyX_one (i := 16) (by kernel_rfl) rfl (fun K hK => ?_)
                            obtain ⟨⟨k0, k1, k2, k3⟩, f0, f1, f2, f3⟩ := row4 hA.out
                            have hgl := hA.out.lt
                            go_simp
                            have hr := put4_row W ga _ _ _ _ _ (.int .i64 b0) (.int .i64 b1) (.int .i64 bx2) (.int .i64 b3) hA.out
                            have ho := put4_other W ga (.int .i64 b0) (.int .i64 b1) (.int .i64 bx2) (.int .i64 b3)
                            have hq2 := put4_below hq.out hAge.out (.int .i64 b0) (.int .i64 b1) (.int .i64 bx2) (.int .i64 b3)
                            change K _ (put4 W ga (.int .i64 b0) (.int .i64 b1) (.int .i64 bx2) (.int .i64 b3))
                            generalize put4 W ga (.int .i64 b0) (.int .i64 b1) (.int .i64 bx2) (.int .i64 b3) = V at hr ho hq2 ⊢
                            refine hK.out _ _ (fun _ => hq2) ?_
                            clear hK K k0 k1 k2 k3 f0 f1 f2 f3 hgl
                            have hB2 : Hid (BlkAt V gb _) := Lib.hid ((ho gb (Ne.symm hne)).trans hB.out)
                            have hA2 : Hid (BlkAt V ga _) := Lib.hid hr
                            have hq := Lib.hid hq2
                            clear hr ho hq2 hA hB
                            refine wpAnyX_one (i := 17) (by kernel_rfl) rfl (fun K hK => ?_)
                            obtain ⟨⟨k0, k1, k2, k3⟩, f0, f1, f2, f3⟩ := row4 hB2.out
                            have hgl := hB2.out.lt
                            go_simp
                            have hr := put4_row V gb _ _ _ _ _ (.int .i64 t0) (.int .i64 t1) (.int .i64 t2) (.int .i64 t3) hB2.out
                            have ho := put4_other V gb (.int .i64 t0) (.int .i64 t1) (.int .i64 t2) (.int .i64 t3)
                            have hq2 := put4_below hq.out hBge.out (.int .i64 t0) (.int .i64 t1) (.int .i64 t2) (.int .i64 t3)
                            change K _ (put4 V gb (.int .i64 t0) (.int .i64 t1) (.int .i64 t2) (.int .i64 t3))
                            generalize put4 V gb (.int .i64 t0) (.int .i64 t1) (.int .i64 t2) (.int .i64 t3) = X at hr ho hq2 ⊢
                            refine hK.out _ _ (fun _ => hq2) ?_
                            clear hK K k0 k1 k2 k3 f0 f1 f2 f3 hgl
                            have hA3 : BlkAt X ga _ := (ho ga hne).trans hA2.out
                            refine wpAnyX_done (by kernel_rfl) ?_
                            go_wp2_with fail
                            go_meet
                            exact ⟨ga, gb, ⟨rfl, rfl⟩, ⟨hA3, hr⟩, hq2⟩
                        case rest =>
                          obtain ⟨ga, gb, ⟨rfl, rfl⟩, ⟨hra, hrb⟩, hbx⟩ := hcut
                          obtain ⟨wd, rfl⟩ : ∃ x, x = wc := ⟨_, rfl⟩
                          have HIN := Lib.hid (show InC wB wd gd gu ga gb ⟨b0, b1, bx2, b3⟩ ⟨t0, t1, t2, t3⟩ _ _ from ⟨HOWN.out.below hbx, HBDN.out.below hbx, HBUP.out.below hbx, hra, hrb, HBW.out.trans (hbx.mono HBW.out.size)⟩)
                          have HPUT : Hid (putsF l day cause (allF l t ((lotsF l t).take (k + 1))) = putsF (putsF (putsF l day cause (allF l t ((lotsF l t).take k))) day cause (dnJ lot ⟨b0, b1, bx2, b3⟩ ⟨t0, t1, t2, t3⟩ 4)) day cause (upJ lot ⟨b0, b1, bx2, b3⟩ ⟨t0, t1, t2, t3⟩ 4)) := Lib.hid (by rw [HTK.out, puts_append, ← puts_append _ _ _ (dnJ _ _ _ 4), dn_up_four])
                          have HBIG : Hid (bigB (allF l t ((lotsF l t).take (k + 1))) = (bigB (allF l t ((lotsF l t).take k)) || bigB (dnJ lot ⟨b0, b1, bx2, b3⟩ ⟨t0, t1, t2, t3⟩ 4))) := Lib.hid (by rw [HTK.out, big_append, ← dn_up_four, big_append, up_small lot HBO.out HTT.out, Bool.or_false])
                          have hol := HOL.out
                          have HXC : Hid (∀ W, Below wB.heap.size wB W → W.cell? ⟨b2, o2 + k, none⟩ = some (.int .i64 lot)) := HXC0
                          clear HOWN HBDN HBUP hra hrb hbx HTK HBL HTG HFB HFT hcell hb2 HBW
                          generalize (⟨b0, b1, bx2, b3⟩ : Ba) = B at *
                          generalize (⟨t0, t1, t2, t3⟩ : Ba) = T at *
                          generalize putsF l day cause (allF l t ((lotsF l t).take k)) = O at *
                          generalize bigB (allF l t ((lotsF l t).take k)) = ov0 at *
                          obtain ⟨Av0, cv0, hv0, _⟩ := HIN.out.own.shape
                          subst hv0
                          go_wp2_with fail
                          generalize wr = wo5 at *
                          go_loopg [17, 20, 24] 4 (fun g vo ov i wr => ∃ j : Nat, j + g = 4 ∧ i = .int .i64 (j : Int) ∧ ov = .bool (ov0 || bigB (dnJ lot B T j)) ∧ InC wB wr gd gu ga gb B T vo (putsF O day cause (dnJ lot B T j)))
                          case atStart => exact ⟨0, by omega, rfl, by simp [dnJ, bigB], HIN.out⟩
                          case round =>
                            obtain ⟨j, hj, rfl, rfl, hin⟩ := hrel
                            have HJ := Lib.hid hj
                            have hj4 : j ≤ 4 := by omega
                            have HI6 := Lib.hid hin
                            clear hj hin HIN
                            have hob : (putsF O day cause (dnJ lot B T j)).length ≤ 5000 := by
                              have h1 := puts_len day cause (dnJ lot B T j) O
                              have h2 := (dnJ_len lot B T j).1
                              omega
                            obtain ⟨Av, cv, rfl, _⟩ := HI6.out.own.shape
                            by_cases hjl : j < 4
                            · have hjd : (j : Int) < 4 := by omega
                              have ca := fld_cell HI6.out.a hjl
                              have cb := fld_cell HI6.out.b hjl
                              have cd := fld_cell HI6.out.d hjl
                              have ci := HXC.out wr HI6.out.bel
                              have HNX := Lib.hid (dn_next lot B T hjl)
                              obtain ⟨fa0, fa1⟩ := fld_within HBB.out hjl
                              obtain ⟨fb0, fb1⟩ := fld_within HTT.out hjl
                              generalize fld B j = x at ca HNX fa0 fa1
                              generalize fld T j = y at cb HNX fb0 fb1
                              generalize fld ⟨2, 4, 6, 8⟩ j = kd at cd HNX
                              generalize hOJ : putsF O day cause (dnJ lot B T j) = OJ at *
                              have HOJ := Lib.hid hOJ
                              clear hOJ
                              generalize hovj : (ov0 || bigB (dnJ lot B T j)) = ovj at *
                              have HOV := Lib.hid hovj
                              clear hovj
                              by_cases hxy : y < x
                              · have hd1 : decide (y < x) = true := by simpa using hxy
                                have HXY := Lib.hid (show 0 < x - y by omega)
                                go_wp2_with fail
                                go_quiet (fail)
                                have HI7 := Lib.hid (HI6.out.drewN nq)
                                replace ca : (wr.drewN nq).cell? ⟨ga, j, none⟩ = _ := ca
                                replace cb : (wr.drewN nq).cell? ⟨gb, j, none⟩ = _ := cb
                                replace cd : (wr.drewN nq).cell? ⟨gd, j, none⟩ = _ := cd
                                replace ci : (wr.drewN nq).cell? ⟨b2, o2 + k, none⟩ = _ := ci
                                clear HI6
                                generalize wr.drewN nq = W1 at HI7 ca cb cd ci ⊢
                                go_upto_region 41 with (fail)
                                go_cut [20] from 145 to 189 (fun s20 wx => s20 = .bool (ovj || decide (64000000000000 < x - y)) ∧ ∃ n, wx = W1.drewN n)
                                case first =>
                                  cases ovj
                                  · go_quiet (fail)
                                    go_wp2_with fail
                                    go_meet
                                    exact ⟨by simp, _, rfl⟩
                                  · refine wp_region_x 12 (by kernel_rfl) (fun W => True) ?_
                                    refine wpAnyX_take (i := 0) (v := .bool true) rfl (by kernel_rfl) (by kernel_rfl) (by kernel_rfl) (by kernel_rfl) (fun _ _ _ h => h) trivial (Or.inl ⟨by rfl, fun w hS => by go_simp⟩) ?_
                                    go_simp
                                    refine wpAnyX_take (i := 1) (v := .bool true) rfl (by kernel_rfl) (by kernel_rfl) (by kernel_rfl) (by kernel_rfl) (fun _ _ _ h => h) trivial (Or.inl ⟨by rfl, fun w hS => by go_simp⟩) ?_
                                    go_simp
                                    refine wpAnyX_take (i := 2) (v := undef) rfl (by kernel_rfl) (by kernel_rfl) (by kernel_rfl) (by kernel_rfl) (fun _ _ _ h => h) trivial (Or.inr ⟨by rfl, rfl⟩) ?_
                                    go_simp
                                    refine wpAnyX_take (i := 3) (v := undef) rfl (by kernel_rfl) (by kernel_rfl) (by kernel_rfl) (by kernel_rfl) (fun _ _ _ h => h) trivial (Or.inr ⟨by rfl, rfl⟩) ?_
                                    go_simp
                                    refine wpAnyX_take (i := 4) (v := undef) rfl (by kernel_rfl) (by kernel_rfl) (by kernel_rfl) (by kernel_rfl) (fun _ _ _ h => h) trivial (Or.inr ⟨by rfl, rfl⟩) ?_
                                    go_simp
                                    refine wpAnyX_take (i := 5) (v := undef) rfl (by kernel_rfl) (by kernel_rfl) (by kernel_rfl) (by kernel_rfl) (fun _ _ _ h => h) trivial (Or.inr ⟨by rfl, rfl⟩) ?_
                                    go_simp
                                    refine wpAnyX_take (i := 6) (v := undef) rfl (by kernel_rfl) (by kernel_rfl) (by kernel_rfl) (by kernel_rfl) (fun _ _ _ h => h) trivial (Or.inr ⟨by rfl, rfl⟩) ?_
                                    go_simp
                                    refine wpAnyX_take (i := 7) (v := undef) rfl (by kernel_rfl) (by kernel_rfl) (by kernel_rfl) (by kernel_rfl) (fun _ _ _ h => h) trivial (Or.inr ⟨by rfl, rfl⟩) ?_
                                    go_simp
                                    refine wpAnyX_take (i := 8) (v := undef) rfl (by kernel_rfl) (by kernel_rfl) (by kernel_rfl) (by kernel_rfl) (fun _ _ _ h => h) trivial (Or.inr ⟨by rfl, rfl⟩) ?_
                                    go_simp
                                    refine wpAnyX_take (i := 9) (v := undef) rfl (by kernel_rfl) (by kernel_rfl) (by kernel_rfl) (by kernel_rfl) (fun _ _ _ h => h) trivial (Or.inr ⟨by rfl, rfl⟩) ?_
                                    go_simp
                                    refine wpAnyX_take (i := 10) (v := .bool true) rfl (by kernel_rfl) (by kernel_rfl) (by kernel_rfl) (by kernel_rfl) (fun _ _ _ h => h) trivial (Or.inl ⟨by rfl, fun w hS => by go_simp⟩) ?_
                                    go_simp
                                    refine wpAnyX_one (i := 11) (by kernel_rfl) rfl (fun K hK => ?_)
                                    go_simp
                                    refine hK.out _ _ (fun _ => trivial) ?_
                                    clear hK K
                                    refine wpAnyX_done (by kernel_rfl) ?_
                                    go_wp2_with fail
                                    go_meet
                                    exact ⟨by simp, 1, rfl⟩
                                case rest =>
                                  obtain ⟨rfl, nn, rfl⟩ := hcut
                                  have HI8 := Lib.hid (HI7.out.drewN nn)
                                  replace ca : (W1.drewN nn).cell? ⟨ga, j, none⟩ = _ := ca
                                  replace cb : (W1.drewN nn).cell? ⟨gb, j, none⟩ = _ := cb
                                  replace cd : (W1.drewN nn).cell? ⟨gd, j, none⟩ = _ := cd
                                  replace ci : (W1.drewN nn).cell? ⟨b2, o2 + k, none⟩ = _ := ci
                                  clear HI7
                                  generalize W1.drewN nn = W2 at HI8 ca cb cd ci ⊢
                                  go_wp2_with fail
                                  have hS : S4 gd ga gb b2 (o2 + k) j kd lot x y W2.drew := ⟨cd, ci, ca, cb⟩
                                  have HI9 := Lib.hid (show InC wB W2.drew gd gu ga gb B T (.slice Av OJ.length cv) OJ from HI8.out.drewN 1)
                                  refine wp_region_x 24 (by kernel_rfl) (fun W => S4 gd ga gb b2 (o2 + k) j kd lot x y W) ?_
                                  clear HI8 ca cb cd ci
                                  generalize hV : W2.drew = W3 at hS HI9 ⊢
                                  clear hV
                                  have hS := Lib.hid hS
                                  refine wpAnyX_take (i := 0) (v := .slice Av OJ.length cv) rfl (by kernel_rfl) (by kernel_rfl) (by kernel_rfl) (by kernel_rfl) (fun _ _ _ h => h) hS.out (Or.inl ⟨by rfl, fun w hS => by (obtain ⟨s0, s1, s2, s3⟩ := hS; go_simp)⟩) ?_
                                  go_simp
                                  refine wpAnyX_take (i := 1) (v := .slice Av OJ.length cv) rfl (by kernel_rfl) (by kernel_rfl) (by kernel_rfl) (by kernel_rfl) (fun _ _ _ h => h) hS.out (Or.inl ⟨by rfl, fun w hS => by (obtain ⟨s0, s1, s2, s3⟩ := hS; go_simp)⟩) ?_
                                  go_simp
                                  refine wpAnyX_take (i := 2) (v := .int .i64 (OJ.length : Int)) rfl (by kernel_rfl) (by kernel_rfl) (by kernel_rfl) (by kernel_rfl) (fun _ _ _ h => h) hS.out (Or.inl ⟨by rfl, fun w hS => by (obtain ⟨s0, s1, s2, s3⟩ := hS; go_simp)⟩) ?_
                                  go_simp
                                  refine wpAnyX_take (i := 3) (v := .int .i64 ((OJ.length : Int) + 1)) rfl (by kernel_rfl) (by kernel_rfl) (by kernel_rfl) (by kernel_rfl) (fun _ _ _ h => h) hS.out (Or.inl ⟨by rfl, fun w hS => by (obtain ⟨s0, s1, s2, s3⟩ := hS; go_simp; first | done | exact IntWalk.i64_in _ (by omega))⟩) ?_
                                  go_simp
                                  refine wpAnyX_take (i := 4) (v := .int .i64 day) rfl (by kernel_rfl) (by kernel_rfl) (by kernel_rfl) (by kernel_rfl) (fun _ _ _ h => h) hS.out (Or.inl ⟨by rfl, fun w hS => by (obtain ⟨s0, s1, s2, s3⟩ := hS; go_simp)⟩) ?_
                                  go_simp
                                  refine wpAnyX_take (i := 5) (v := .int .i64 (j : Int)) rfl (by kernel_rfl) (by kernel_rfl) (by kernel_rfl) (by kernel_rfl) (fun _ _ _ h => h) hS.out (Or.inl ⟨by rfl, fun w hS => by (obtain ⟨s0, s1, s2, s3⟩ := hS; go_simp)⟩) ?_
                                  go_simp
                                  refine wpAnyX_take (i := 6) (v := .pointer (some ⟨gd, j, none⟩)) rfl (by kernel_rfl) (by kernel_rfl) (by kernel_rfl) (by kernel_rfl) (fun _ _ _ h => h) hS.out (Or.inl ⟨by rfl, fun w hS => by (obtain ⟨s0, s1, s2, s3⟩ := hS; go_simp)⟩) ?_
                                  go_simp
                                  refine wpAnyX_take (i := 7) (v := .int .i64 kd) rfl (by kernel_rfl) (by kernel_rfl) (by kernel_rfl) (by kernel_rfl) (fun _ _ _ h => h) hS.out (Or.inl ⟨by rfl, fun w hS => by (obtain ⟨s0, s1, s2, s3⟩ := hS; go_simp)⟩) ?_
                                  go_simp
                                  refine wpAnyX_take (i := 8) (v := .slice (some ⟨b2, o2, none⟩) (lotsF l t).length c2) rfl (by kernel_rfl) (by kernel_rfl) (by kernel_rfl) (by kernel_rfl) (fun _ _ _ h => h) hS.out (Or.inl ⟨by rfl, fun w hS => by (obtain ⟨s0, s1, s2, s3⟩ := hS; go_simp)⟩) ?_
                                  go_simp
                                  refine wpAnyX_take (i := 9) (v := .int .i64 (k : Int)) rfl (by kernel_rfl) (by kernel_rfl) (by kernel_rfl) (by kernel_rfl) (fun _ _ _ h => h) hS.out (Or.inl ⟨by rfl, fun w hS => by (obtain ⟨s0, s1, s2, s3⟩ := hS; go_simp)⟩) ?_
                                  go_simp
                                  refine wpAnyX_take (i := 10) (v := .pointer (some ⟨b2, o2 + k, none⟩)) rfl (by kernel_rfl) (by kernel_rfl) (by kernel_rfl) (by kernel_rfl) (fun _ _ _ h => h) hS.out (Or.inl ⟨by rfl, fun w hS => by (obtain ⟨s0, s1, s2, s3⟩ := hS; go_simp)⟩) ?_
                                  go_simp
                                  refine wpAnyX_take (i := 11) (v := .int .i64 lot) rfl (by kernel_rfl) (by kernel_rfl) (by kernel_rfl) (by kernel_rfl) (fun _ _ _ h => h) hS.out (Or.inl ⟨by rfl, fun w hS => by (obtain ⟨s0, s1, s2, s3⟩ := hS; go_simp)⟩) ?_
                                  go_simp
                                  refine wpAnyX_take (i := 12) (v := .int .i64 (j : Int)) rfl (by kernel_rfl) (by kernel_rfl) (by kernel_rfl) (by kernel_rfl) (fun _ _ _ h => h) hS.out (Or.inl ⟨by rfl, fun w hS => by (obtain ⟨s0, s1, s2, s3⟩ := hS; go_simp)⟩) ?_
                                  go_simp
                                  refine wpAnyX_take (i := 13) (v := .pointer (some ⟨ga, j, none⟩)) rfl (by kernel_rfl) (by kernel_rfl) (by kernel_rfl) (by kernel_rfl) (fun _ _ _ h => h) hS.out (Or.inl ⟨by rfl, fun w hS => by (obtain ⟨s0, s1, s2, s3⟩ := hS; go_simp)⟩) ?_
                                  go_simp
                                  refine wpAnyX_take (i := 14) (v := .int .i64 x) rfl (by kernel_rfl) (by kernel_rfl) (by kernel_rfl) (by kernel_rfl) (fun _ _ _ h => h) hS.out (Or.inl ⟨by rfl, fun w hS => by (obtain ⟨s0, s1, s2, s3⟩ := hS; go_simp)⟩) ?_
                                  go_simp
                                  refine wpAnyX_take (i := 15) (v := .int .i64 (j : Int)) rfl (by kernel_rfl) (by kernel_rfl) (by kernel_rfl) (by kernel_rfl) (fun _ _ _ h => h) hS.out (Or.inl ⟨by rfl, fun w hS => by (obtain ⟨s0, s1, s2, s3⟩ := hS; go_simp)⟩) ?_
                                  go_simp
                                  refine wpAnyX_take (i := 16) (v := .pointer (some ⟨gb, j, none⟩)) rfl (by kernel_rfl) (by kernel_rfl) (by kernel_rfl) (by kernel_rfl) (fun _ _ _ h => h) hS.out (Or.inl ⟨by rfl, fun w hS => by (obtain ⟨s0, s1, s2, s3⟩ := hS; go_simp)⟩) ?_
                                  go_simp
                                  refine wpAnyX_take (i := 17) (v := .int .i64 y) rfl (by kernel_rfl) (by kernel_rfl) (by kernel_rfl) (by kernel_rfl) (fun _ _ _ h => h) hS.out (Or.inl ⟨by rfl, fun w hS => by (obtain ⟨s0, s1, s2, s3⟩ := hS; go_simp)⟩) ?_
                                  go_simp
                                  refine wpAnyX_take (i := 18) (v := .int .i64 (x - y)) rfl (by kernel_rfl) (by kernel_rfl) (by kernel_rfl) (by kernel_rfl) (fun _ _ _ h => h) hS.out (Or.inl ⟨by rfl, fun w hS => by (obtain ⟨s0, s1, s2, s3⟩ := hS; go_simp; first | done | exact IntWalk.i64_in _ (by omega))⟩) ?_
                                  go_simp
                                  refine wpAnyX_take (i := 19) (v := .int .i64 cause) rfl (by kernel_rfl) (by kernel_rfl) (by kernel_rfl) (by kernel_rfl) (fun _ _ _ h => h) hS.out (Or.inl ⟨by rfl, fun w hS => by (obtain ⟨s0, s1, s2, s3⟩ := hS; go_simp)⟩) ?_
                                  go_simp
                                  refine wpAnyX_take (i := 20) (v := .agg #[.int .i64 ((OJ.length : Int) + 1), .int .i64 day, .int .i64 kd, .int .i64 lot, .int .i64 (x - y), .int .i64 cause]) rfl (by kernel_rfl) (by kernel_rfl) (by kernel_rfl) (by kernel_rfl) (fun _ _ _ h => h) hS.out (Or.inl ⟨by rfl, fun w hS => by (obtain ⟨s0, s1, s2, s3⟩ := hS; go_simp)⟩) ?_
                                  go_simp
                                  refine wpAnyX_one (i := 21) (by kernel_rfl) rfl (fun K hK => ?_)
                                  go_simp
                                  have hb := (Below.refl W3.heap.size W3).alloc (Nat.le_refl _) (.cells #[.int .i64 ((OJ.length : Int) + 1), .int .i64 day, .int .i64 kd, .int .i64 lot, .int .i64 (x - y), .int .i64 cause] 26)
                                  have HN := Lib.hid (Rd.new_ W3 [.int .i64 ((OJ.length : Int) + 1), .int .i64 day, .int .i64 kd, .int .i64 lot, .int .i64 (x - y), .int .i64 cause] 26)
                                  have HI10 := Lib.hid (HI9.out.below hb)
                                  have hS2 := hS.out.below hb
                                  refine hK.out _ _ (fun _ => hS2) ?_
                                  clear hK K hb hS HI9
                                  change wpAnyX _ _ _ _ _ _ _ _ _ (W3.alloc (.cells #[.int .i64 ((OJ.length : Int) + 1), .int .i64 day, .int .i64 kd, .int .i64 lot, .int .i64 (x - y), .int .i64 cause] 26))
                                  generalize hV : W3.alloc (.cells #[.int .i64 ((OJ.length : Int) + 1), .int .i64 day, .int .i64 kd, .int .i64 lot, .int .i64 (x - y), .int .i64 cause] 26) = W4 at HN HI10 hS2 ⊢
                                  clear hV
                                  generalize hV : W3.heap.size = g1 at HN ⊢
                                  clear hV
                                  have hS2 := Lib.hid hS2
                                  refine wpAnyX_one (i := 22) (by kernel_rfl) rfl (fun K hK => ?_)
                                  refine step_append_x W4 (by rfl) (.tmp 167) (.tmp 188) 23 (by rfl) _ 26 i0 _ 6 48 Try.underlying23 hi0 hz0 hz1 hz2 rfl (by omega) (.slice Av OJ.length cv) OJ.length (ensCs OJ) (by rfl) HI10.out.own (some ⟨g1, 0, none⟩) 1 1 [.int .i64 ((OJ.length : Int) + 1), .int .i64 day, .int .i64 kd, .int .i64 lot, .int .i64 (x - y), .int .i64 cause] (by rfl) rfl HN.out (by intro u hu; simp at hu; rcases hu with rfl | rfl | rfl | rfl | rfl | rfl <;> rfl) (by unfold maxLen; omega) (by omega) HI10.out.bel.size ?_
                                  intro v5 W5 hown hg
                                  have HI11 := Lib.hid (HI10.out.app (x := ⟨(OJ.length : Int) + 1, day, kd, lot, (x - y), cause⟩) hown hg)
                                  obtain ⟨A5, c5, rfl, _⟩ := OwnX.shape hown
                                  have hS3 : S4 gd ga gb b2 (o2 + k) j kd lot x y W5 := ⟨(World.cell?_of_block (HI11.out.d.trans HI10.out.d.symm)).trans hS2.out.1, HXC.out _ HI11.out.bel, (World.cell?_of_block (HI11.out.a.trans HI10.out.a.symm)).trans hS2.out.2.2.1, (World.cell?_of_block (HI11.out.b.trans HI10.out.b.symm)).trans hS2.out.2.2.2⟩
                                  have hS3 := Lib.hid hS3
                                  refine hK.out _ _ (fun _ => hS3.out) ?_
                                  clear hK K hown hg HI10 HN hS2
                                  go_simp
                                  refine wpAnyX_one (i := 23) (by kernel_rfl) rfl (fun K hK => ?_)
                                  go_simp
                                  refine hK.out _ _ (fun _ => hS3.out) ?_
                                  clear hK K
                                  refine wpAnyX_done (by kernel_rfl) ?_
                                  go_wp2_with fail
                                  go_roundg (4 - (j + 1))
                                  case measure => have := HJ.out; omega
                                  case rel =>
                                    refine ⟨j + 1, by have := HJ.out; omega, by go_num, ?_, ?_⟩
                                    · rw [HNX.out, big_append, big_step _ _ _ HXY.out, ← HOV.out, Bool.or_assoc]
                                    · rw [HNX.out, puts_append, HOJ.out, puts_step _ _ _ _ _ _ HXY.out]
                                      exact HI11.out
                              · have hd1 : decide (y < x) = false := by simpa using hxy
                                have HN2 := Lib.hid (show stepOf lot kd (x - y) = [] from step_neg (by omega))
                                go_wp2_with fail
                                go_quiet (fail)
                                go_wp2_with fail
                                go_roundg (4 - (j + 1))
                                case measure => have := HJ.out; omega
                                case rel =>
                                  refine ⟨j + 1, by have := HJ.out; omega, by go_num, ?_, ?_⟩
                                  · rw [HNX.out, HN2.out, List.append_nil, HOV.out]
                                  · rw [HNX.out, HN2.out, List.append_nil, HOJ.out]
                                    exact HI6.out.drewN _
                            · obtain rfl : j = 4 := by omega
                              have hob4 : (putsF O day cause (dnJ lot B T 4)).length ≤ 5000 := hob
                              have hl4 := puts_len day cause (dnJ lot B T 4) O
                              have hd4 := (dnJ_len lot B T 4).1
                              have hb4 : (putsF O day cause (dnJ lot B T 4)).length ≤ 60 + 8 * k + 4 := by omega
                              have HB4 := Lib.hid hb4
                              clear hob hl4 hd4 hb4 HJ
                              generalize putsF O day cause (dnJ lot B T 4) = O4 at *
                              generalize (ov0 || bigB (dnJ lot B T 4)) = ov4 at *
                              go_wp2_with fail
                              generalize wr = wo6 at *
                              go_loopg [17, 25] 4 (fun g vo i wr => ∃ j : Nat, j + g = 4 ∧ i = .int .i64 (j : Int) ∧ InC wB wr gd gu ga gb B T vo (putsF O4 day cause (upJ lot B T j)))
                              case atStart => exact ⟨0, by omega, rfl, HI6.out⟩
                              case round =>
                                obtain ⟨j, hj, rfl, hin⟩ := hrel
                                have HJ := Lib.hid hj
                                have hj4 : j ≤ 4 := by omega
                                have HI7 := Lib.hid hin
                                clear hj hin HI6
                                have hob : (putsF O4 day cause (upJ lot B T j)).length ≤ 6000 := by
                                  have h1 := puts_len day cause (upJ lot B T j) O4
                                  have h2 := (dnJ_len lot B T j).2
                                  omega
                                obtain ⟨Av, cv, rfl, _⟩ := HI7.out.own.shape
                                by_cases hjl : j < 4
                                · have hjd : (j : Int) < 4 := by omega
                                  have ca := fld_cell HI7.out.a hjl
                                  have cb := fld_cell HI7.out.b hjl
                                  have cd := fld_cell HI7.out.u hjl
                                  have ci := HXC.out wr HI7.out.bel
                                  have HNX := Lib.hid (up_next lot B T hjl)
                                  obtain ⟨fa0, fa1⟩ := fld_within HBB.out hjl
                                  obtain ⟨fb0, fb1⟩ := fld_within HTT.out hjl
                                  generalize fld B j = x at ca HNX fa0 fa1
                                  generalize fld T j = y at cb HNX fb0 fb1
                                  generalize fld ⟨1, 3, 5, 7⟩ j = kd at cd HNX
                                  generalize hOJ : putsF O4 day cause (upJ lot B T j) = OJ at *
                                  have HOJ := Lib.hid hOJ
                                  clear hOJ
                                  by_cases hxy : x < y
                                  · have hd1 : decide (x < y) = true := by simpa using hxy
                                    have HXY := Lib.hid (show 0 < y - x by omega)
                                    go_wp2_with fail
                                    go_quiet (fail)
                                    have HI8 := Lib.hid (HI7.out.drewN nq)
                                    replace ca : (wr.drewN nq).cell? ⟨ga, j, none⟩ = _ := ca
                                    replace cb : (wr.drewN nq).cell? ⟨gb, j, none⟩ = _ := cb
                                    replace cd : (wr.drewN nq).cell? ⟨gu, j, none⟩ = _ := cd
                                    replace ci : (wr.drewN nq).cell? ⟨b2, o2 + k, none⟩ = _ := ci
                                    clear HI7
                                    generalize wr.drewN nq = W2 at HI8 ca cb cd ci ⊢
                                    go_wp2_with fail
                                    have hS : S4 gu gb ga b2 (o2 + k) j kd lot y x W2.drew := ⟨cd, ci, cb, ca⟩
                                    have HI9 := Lib.hid (show InC wB W2.drew gd gu ga gb B T (.slice Av OJ.length cv) OJ from HI8.out.drewN 1)
                                    refine wp_region_x 24 (by kernel_rfl) (fun W => S4 gu gb ga b2 (o2 + k) j kd lot y x W) ?_
                                    clear HI8 ca cb cd ci
                                    generalize hV : W2.drew = W3 at hS HI9 ⊢
                                    clear hV
                                    have hS := Lib.hid hS
                                    refine wpAnyX_take (i := 0) (v := .slice Av OJ.length cv) rfl (by kernel_rfl) (by kernel_rfl) (by kernel_rfl) (by kernel_rfl) (fun _ _ _ h => h) hS.out (Or.inl ⟨by rfl, fun w hS => by (obtain ⟨s0, s1, s2, s3⟩ := hS; go_simp)⟩) ?_
                                    go_simp
                                    refine wpAnyX_take (i := 1) (v := .slice Av OJ.length cv) rfl (by kernel_rfl) (by kernel_rfl) (by kernel_rfl) (by kernel_rfl) (fun _ _ _ h => h) hS.out (Or.inl ⟨by rfl, fun w hS => by (obtain ⟨s0, s1, s2, s3⟩ := hS; go_simp)⟩) ?_
                                    go_simp
                                    refine wpAnyX_take (i := 2) (v := .int .i64 (OJ.length : Int)) rfl (by kernel_rfl) (by kernel_rfl) (by kernel_rfl) (by kernel_rfl) (fun _ _ _ h => h) hS.out (Or.inl ⟨by rfl, fun w hS => by (obtain ⟨s0, s1, s2, s3⟩ := hS; go_simp)⟩) ?_
                                    go_simp
                                    refine wpAnyX_take (i := 3) (v := .int .i64 ((OJ.length : Int) + 1)) rfl (by kernel_rfl) (by kernel_rfl) (by kernel_rfl) (by kernel_rfl) (fun _ _ _ h => h) hS.out (Or.inl ⟨by rfl, fun w hS => by (obtain ⟨s0, s1, s2, s3⟩ := hS; go_simp; first | done | exact IntWalk.i64_in _ (by omega))⟩) ?_
                                    go_simp
                                    refine wpAnyX_take (i := 4) (v := .int .i64 day) rfl (by kernel_rfl) (by kernel_rfl) (by kernel_rfl) (by kernel_rfl) (fun _ _ _ h => h) hS.out (Or.inl ⟨by rfl, fun w hS => by (obtain ⟨s0, s1, s2, s3⟩ := hS; go_simp)⟩) ?_
                                    go_simp
                                    refine wpAnyX_take (i := 5) (v := .int .i64 (j : Int)) rfl (by kernel_rfl) (by kernel_rfl) (by kernel_rfl) (by kernel_rfl) (fun _ _ _ h => h) hS.out (Or.inl ⟨by rfl, fun w hS => by (obtain ⟨s0, s1, s2, s3⟩ := hS; go_simp)⟩) ?_
                                    go_simp
                                    refine wpAnyX_take (i := 6) (v := .pointer (some ⟨gu, j, none⟩)) rfl (by kernel_rfl) (by kernel_rfl) (by kernel_rfl) (by kernel_rfl) (fun _ _ _ h => h) hS.out (Or.inl ⟨by rfl, fun w hS => by (obtain ⟨s0, s1, s2, s3⟩ := hS; go_simp)⟩) ?_
                                    go_simp
                                    refine wpAnyX_take (i := 7) (v := .int .i64 kd) rfl (by kernel_rfl) (by kernel_rfl) (by kernel_rfl) (by kernel_rfl) (fun _ _ _ h => h) hS.out (Or.inl ⟨by rfl, fun w hS => by (obtain ⟨s0, s1, s2, s3⟩ := hS; go_simp)⟩) ?_
                                    go_simp
                                    refine wpAnyX_take (i := 8) (v := .slice (some ⟨b2, o2, none⟩) (lotsF l t).length c2) rfl (by kernel_rfl) (by kernel_rfl) (by kernel_rfl) (by kernel_rfl) (fun _ _ _ h => h) hS.out (Or.inl ⟨by rfl, fun w hS => by (obtain ⟨s0, s1, s2, s3⟩ := hS; go_simp)⟩) ?_
                                    go_simp
                                    refine wpAnyX_take (i := 9) (v := .int .i64 (k : Int)) rfl (by kernel_rfl) (by kernel_rfl) (by kernel_rfl) (by kernel_rfl) (fun _ _ _ h => h) hS.out (Or.inl ⟨by rfl, fun w hS => by (obtain ⟨s0, s1, s2, s3⟩ := hS; go_simp)⟩) ?_
                                    go_simp
                                    refine wpAnyX_take (i := 10) (v := .pointer (some ⟨b2, o2 + k, none⟩)) rfl (by kernel_rfl) (by kernel_rfl) (by kernel_rfl) (by kernel_rfl) (fun _ _ _ h => h) hS.out (Or.inl ⟨by rfl, fun w hS => by (obtain ⟨s0, s1, s2, s3⟩ := hS; go_simp)⟩) ?_
                                    go_simp
                                    refine wpAnyX_take (i := 11) (v := .int .i64 lot) rfl (by kernel_rfl) (by kernel_rfl) (by kernel_rfl) (by kernel_rfl) (fun _ _ _ h => h) hS.out (Or.inl ⟨by rfl, fun w hS => by (obtain ⟨s0, s1, s2, s3⟩ := hS; go_simp)⟩) ?_
                                    go_simp
                                    refine wpAnyX_take (i := 12) (v := .int .i64 (j : Int)) rfl (by kernel_rfl) (by kernel_rfl) (by kernel_rfl) (by kernel_rfl) (fun _ _ _ h => h) hS.out (Or.inl ⟨by rfl, fun w hS => by (obtain ⟨s0, s1, s2, s3⟩ := hS; go_simp)⟩) ?_
                                    go_simp
                                    refine wpAnyX_take (i := 13) (v := .pointer (some ⟨gb, j, none⟩)) rfl (by kernel_rfl) (by kernel_rfl) (by kernel_rfl) (by kernel_rfl) (fun _ _ _ h => h) hS.out (Or.inl ⟨by rfl, fun w hS => by (obtain ⟨s0, s1, s2, s3⟩ := hS; go_simp)⟩) ?_
                                    go_simp
                                    refine wpAnyX_take (i := 14) (v := .int .i64 y) rfl (by kernel_rfl) (by kernel_rfl) (by kernel_rfl) (by kernel_rfl) (fun _ _ _ h => h) hS.out (Or.inl ⟨by rfl, fun w hS => by (obtain ⟨s0, s1, s2, s3⟩ := hS; go_simp)⟩) ?_
                                    go_simp
                                    refine wpAnyX_take (i := 15) (v := .int .i64 (j : Int)) rfl (by kernel_rfl) (by kernel_rfl) (by kernel_rfl) (by kernel_rfl) (fun _ _ _ h => h) hS.out (Or.inl ⟨by rfl, fun w hS => by (obtain ⟨s0, s1, s2, s3⟩ := hS; go_simp)⟩) ?_
                                    go_simp
                                    refine wpAnyX_take (i := 16) (v := .pointer (some ⟨ga, j, none⟩)) rfl (by kernel_rfl) (by kernel_rfl) (by kernel_rfl) (by kernel_rfl) (fun _ _ _ h => h) hS.out (Or.inl ⟨by rfl, fun w hS => by (obtain ⟨s0, s1, s2, s3⟩ := hS; go_simp)⟩) ?_
                                    go_simp
                                    refine wpAnyX_take (i := 17) (v := .int .i64 x) rfl (by kernel_rfl) (by kernel_rfl) (by kernel_rfl) (by kernel_rfl) (fun _ _ _ h => h) hS.out (Or.inl ⟨by rfl, fun w hS => by (obtain ⟨s0, s1, s2, s3⟩ := hS; go_simp)⟩) ?_
                                    go_simp
                                    refine wpAnyX_take (i := 18) (v := .int .i64 (y - x)) rfl (by kernel_rfl) (by kernel_rfl) (by kernel_rfl) (by kernel_rfl) (fun _ _ _ h => h) hS.out (Or.inl ⟨by rfl, fun w hS => by (obtain ⟨s0, s1, s2, s3⟩ := hS; go_simp; first | done | exact IntWalk.i64_in _ (by omega))⟩) ?_
                                    go_simp
                                    refine wpAnyX_take (i := 19) (v := .int .i64 cause) rfl (by kernel_rfl) (by kernel_rfl) (by kernel_rfl) (by kernel_rfl) (fun _ _ _ h => h) hS.out (Or.inl ⟨by rfl, fun w hS => by (obtain ⟨s0, s1, s2, s3⟩ := hS; go_simp)⟩) ?_
                                    go_simp
                                    refine wpAnyX_take (i := 20) (v := .agg #[.int .i64 ((OJ.length : Int) + 1), .int .i64 day, .int .i64 kd, .int .i64 lot, .int .i64 (y - x), .int .i64 cause]) rfl (by kernel_rfl) (by kernel_rfl) (by kernel_rfl) (by kernel_rfl) (fun _ _ _ h => h) hS.out (Or.inl ⟨by rfl, fun w hS => by (obtain ⟨s0, s1, s2, s3⟩ := hS; go_simp)⟩) ?_
                                    go_simp
                                    refine wpAnyX_one (i := 21) (by kernel_rfl) rfl (fun K hK => ?_)
                                    go_simp
                                    have hb := (Below.refl W3.heap.size W3).alloc (Nat.le_refl _) (.cells #[.int .i64 ((OJ.length : Int) + 1), .int .i64 day, .int .i64 kd, .int .i64 lot, .int .i64 (y - x), .int .i64 cause] 26)
                                    have HN := Lib.hid (Rd.new_ W3 [.int .i64 ((OJ.length : Int) + 1), .int .i64 day, .int .i64 kd, .int .i64 lot, .int .i64 (y - x), .int .i64 cause] 26)
                                    have HI10 := Lib.hid (HI9.out.below hb)
                                    have hS2 := hS.out.below hb
                                    refine hK.out _ _ (fun _ => hS2) ?_
                                    clear hK K hb hS HI9
                                    change wpAnyX _ _ _ _ _ _ _ _ _ (W3.alloc (.cells #[.int .i64 ((OJ.length : Int) + 1), .int .i64 day, .int .i64 kd, .int .i64 lot, .int .i64 (y - x), .int .i64 cause] 26))
                                    generalize hV : W3.alloc (.cells #[.int .i64 ((OJ.length : Int) + 1), .int .i64 day, .int .i64 kd, .int .i64 lot, .int .i64 (y - x), .int .i64 cause] 26) = W4 at HN HI10 hS2 ⊢
                                    clear hV
                                    generalize hV : W3.heap.size = g1 at HN ⊢
                                    clear hV
                                    have hS2 := Lib.hid hS2
                                    refine wpAnyX_one (i := 22) (by kernel_rfl) rfl (fun K hK => ?_)
                                    refine step_append_x W4 (by rfl) (.tmp 201) (.tmp 222) 23 (by rfl) _ 26 i0 _ 6 48 Try.underlying23 hi0 hz0 hz1 hz2 rfl (by omega) (.slice Av OJ.length cv) OJ.length (ensCs OJ) (by rfl) HI10.out.own (some ⟨g1, 0, none⟩) 1 1 [.int .i64 ((OJ.length : Int) + 1), .int .i64 day, .int .i64 kd, .int .i64 lot, .int .i64 (y - x), .int .i64 cause] (by rfl) rfl HN.out (by intro u hu; simp at hu; rcases hu with rfl | rfl | rfl | rfl | rfl | rfl <;> rfl) (by unfold maxLen; omega) (by omega) HI10.out.bel.size ?_
                                    intro v5 W5 hown hg
                                    have HI11 := Lib.hid (HI10.out.app (x := ⟨(OJ.length : Int) + 1, day, kd, lot, (y - x), cause⟩) hown hg)
                                    obtain ⟨A5, c5, rfl, _⟩ := OwnX.shape hown
                                    have hS3 : S4 gu gb ga b2 (o2 + k) j kd lot y x W5 := ⟨(World.cell?_of_block (HI11.out.u.trans HI10.out.u.symm)).trans hS2.out.1, HXC.out _ HI11.out.bel, (World.cell?_of_block (HI11.out.b.trans HI10.out.b.symm)).trans hS2.out.2.2.1, (World.cell?_of_block (HI11.out.a.trans HI10.out.a.symm)).trans hS2.out.2.2.2⟩
                                    have hS3 := Lib.hid hS3
                                    refine hK.out _ _ (fun _ => hS3.out) ?_
                                    clear hK K hown hg HI10 HN hS2
                                    go_simp
                                    refine wpAnyX_one (i := 23) (by kernel_rfl) rfl (fun K hK => ?_)
                                    go_simp
                                    refine hK.out _ _ (fun _ => hS3.out) ?_
                                    clear hK K
                                    refine wpAnyX_done (by kernel_rfl) ?_
                                    go_wp2_with fail
                                    go_roundg (4 - (j + 1))
                                    case measure => have := HJ.out; omega
                                    case rel =>
                                      refine ⟨j + 1, by have := HJ.out; omega, by go_num, ?_⟩
                                      rw [HNX.out, puts_append, HOJ.out, puts_step _ _ _ _ _ _ HXY.out]
                                      exact HI11.out
                                  · have hd1 : decide (x < y) = false := by simpa using hxy
                                    have HN2 := Lib.hid (show stepOf lot kd (y - x) = [] from step_neg (by omega))
                                    go_wp2_with fail
                                    go_quiet (fail)
                                    go_wp2_with fail
                                    go_roundg (4 - (j + 1))
                                    case measure => have := HJ.out; omega
                                    case rel =>
                                      refine ⟨j + 1, by have := HJ.out; omega, by go_num, ?_⟩
                                      rw [HNX.out, HN2.out, List.append_nil, HOJ.out]
                                      exact HI7.out.drewN _
                                · obtain rfl : j = 4 := by omega
                                  have HLN : Hid ((putsF O4 day cause (upJ lot B T 4)).length ≤ 60 + 8 * (k + 1)) := Lib.hid (by
                                    have h1 := puts_len day cause (upJ lot B T 4) O4
                                    have h2 := (dnJ_len lot B T 4).2
                                    have := HB4.out
                                    omega)
                                  clear hob
                                  go_wp2_with fail
                                  go_roundg ((lotsF l t).length - (k + 1))
                                  case measure => have := HKK.out; omega
                                  case rel =>
                                    refine ⟨k + 1, by have := HKK.out; omega, by go_num, by rw [HBIG.out], ?_, HI7.out.d, HI7.out.u, ?_, HI7.out.bel, HGE.out.1, HGE.out.2⟩
                                    · rw [HPUT.out]; exact HI7.out.own
                                    · rw [HPUT.out]; exact HLN.out
                      · obtain rfl : k = (lotsF l t).length := by omega
                        have hkd : ¬ (((lotsF l t).length : Nat) : Int) < (lotsF l t).length := by omega
                        have hown := HOWN.out
                        rw [List.take_length] at hown
                        have hol := HOL.out
                        rw [List.take_length] at hol
                        have hbe : bigB (allF l t ((lotsF l t).take (lotsF l t).length)) = bigB (allF l t (lotsF l t)) := by rw [List.take_length]
                        rw [hbe]
                        clear hbe
                        obtain ⟨Av, cv, rfl, hrd, hlc, hcm9⟩ := hown.shape
                        have HRD := Lib.hid (And.intro hrd (And.intro hlc hcm9))
                        have HBF := Lib.hid (HB6.out.trans (HBW.out.mono HB6.out.size))
                        have HPL := Lib.hid (puts_len day cause (allF l t (lotsF l t)) l)
                        clear hown HOWN hrd hlc hcm9 HBDN HBUP
                        cases hbg : bigB (allF l t (lotsF l t)) with
                        | true =>
                          have HE := Lib.hid (corE_big HV.out HCK.out hbg)
                          clear hbg
                          go_wp2_with fail
                          go_ret2
                          exact HBAD.out 16 _ HE.out (by decide) HBF.out
                        | false =>
                          have HE := Lib.hid (corE_rest HV.out HCK.out hbg)
                          clear hbg
                          generalize hOF : putsF l day cause (allF l t (lotsF l t)) = OF at *
                          have HOF := Lib.hid hOF
                          clear hOF
                          by_cases hbig : 2000 < OF.length
                          · have hbd : (2000 : Int) < OF.length := by omega
                            have HE8 := Lib.hid (HE.out.trans (if_pos (by have := HPL.out; omega)))
                            go_wp2_with fail
                            go_ret2
                            exact HBAD.out 8 _ HE8.out (by decide) HBF.out
                          · have hbd : ¬ (2000 : Int) < OF.length := by omega
                            have HE0 := Lib.hid (HE.out.trans (if_neg (by have := HPL.out; omega)))
                            go_wp2_with fail
                            go_ret2
                            refine ⟨.slice Av OF.length cv, by rw [HE0.out]; rfl, HBF.out, fun h => absurd HE0.out h, fun _ => ?_⟩
                            show EnsAt 0 _ _ (putsF l day cause (allF l t (lotsF l t)))
                            rw [HOF.out]
                            exact ⟨Av, cv, rfl, HRD.out.1, HRD.out.2.1, HRD.out.2.2, fun _ _ => Nat.zero_le _⟩
      · have hdd0 : decide (day < 0) = false := by simp; omega
        have hdd1 : decide (36524 < day) = false := by simp; omega
        have hdd2 : decide (cause < 0) = false := by simp; omega
        have hdd3 : decide (1000000000 < cause) = false := by simp; omega
        have hdd4 : decide ((256 : Int) < t.length) = true := by simp; omega
        have hc8 : chkF day cause t = 8 := by unfold chkF; rw [if_pos hrg, if_pos (by omega)]
        have HE := Lib.hid ((corE_chk (l := l) hv (by rw [hc8]; decide)).trans hc8)
        clear hv hc8 hrg
        go_enter Try.func19, Try.ntmps19
        go_wp2_with fail
        refine HRL.out.mono ?_
        rintro e w1 ⟨rfl, hb1⟩
        have HB1 := Lib.hid hb1
        clear hb1
        go_wp2_with fail
        go_ret2
        exact HBAD.out 8 _ HE.out (by decide) HB1.out
    · have hc2 : chkF day cause t = 2 := by unfold chkF; rw [if_neg hrg]
      have HE := Lib.hid ((corE_chk (l := l) hv (by rw [hc2]; decide)).trans hc2)
      clear hv hc2
      by_cases d0 : day < 0
      · have hdd0 : decide (day < 0) = true := by simpa using d0
        clear hrg d0
        go_enter Try.func19, Try.ntmps19
        go_wp2_with fail
        refine HRL.out.mono ?_
        rintro e w1 ⟨rfl, hb1⟩
        have HB1 := Lib.hid hb1
        clear hb1
        go_wp2_with fail
        go_ret2
        exact HBAD.out 2 _ HE.out (by decide) HB1.out
      have hdd0 : decide (day < 0) = false := by simp; omega
      by_cases d1 : 36524 < day
      · have hdd1 : decide (36524 < day) = true := by simpa using d1
        clear hrg d0 d1
        go_enter Try.func19, Try.ntmps19
        go_wp2_with fail
        refine HRL.out.mono ?_
        rintro e w1 ⟨rfl, hb1⟩
        have HB1 := Lib.hid hb1
        clear hb1
        go_wp2_with fail
        go_ret2
        exact HBAD.out 2 _ HE.out (by decide) HB1.out
      have hdd1 : decide (36524 < day) = false := by simp; omega
      by_cases e0 : cause < 0
      · have hdd2 : decide (cause < 0) = true := by simpa using e0
        clear hrg d0 d1 e0
        go_enter Try.func19, Try.ntmps19
        go_wp2_with fail
        refine HRL.out.mono ?_
        rintro e w1 ⟨rfl, hb1⟩
        have HB1 := Lib.hid hb1
        clear hb1
        go_wp2_with fail
        go_ret2
        exact HBAD.out 2 _ HE.out (by decide) HB1.out
      have hdd2 : decide (cause < 0) = false := by simp; omega
      have e1 : 1000000000 < cause := by omega
      have hdd3 : decide (1000000000 < cause) = true := by simpa using e1
      clear hrg d0 d1 e0 e1
      go_enter Try.func19, Try.ntmps19
      go_wp2_with fail
      refine HRL.out.mono ?_
      rintro e w1 ⟨rfl, hb1⟩
      have HB1 := Lib.hid hb1
      clear hb1
      go_wp2_with fail
      go_ret2
      exact HBAD.out 2 _ HE.out (by decide) HB1.out
  · have HE := Lib.hid (corE_led (day := day) (cause := cause) (t := t) hv)
    have HNZ := Lib.hid hv
    have hm1 : (ledF l == 0) = false := by simpa using hv
    generalize ledF l = er at HRL HE HNZ hm1
    clear hv
    go_enter Try.func19, Try.ntmps19
    go_wp2_with fail
    refine HRL.out.mono ?_
    rintro e w1 ⟨rfl, hb1⟩
    have HB1 := Lib.hid hb1
    clear hb1
    go_wp2_with fail
    go_ret2
    exact HBAD.out er _ HE.out HNZ.out HB1.out
end Go.Proofs.Ytefphkefgfoklaa
