/- Entry of customsmade. -/
import Derived.Test.YtefphkefgfoklaaHm
import Derived.Test.YtefphkefgfoklaaOrd
namespace Go.Proofs.Ytefphkefgfoklaa
open Go.RowKit
set_option linter.unusedVariables false

theorem with_node {P : Program} {md : Region.Mode} {ops : Array Oper} {Q : Exit → Act → World → Prop} {S : World → Prop} {x fuel : Nat} {listed : Array Bool} {a : Act} {w : World}
    (h : ∀ N : Nat → Array Bool → Act → World → Prop, (∀ f l a w, wpAnyX P md ops Q S x f l a w → N f l a w) → (∀ f l a w, N f l a w → wpAnyX P md ops Q S x f l a w) → wpAnyX P md ops Q S x fuel listed a w) : wpAnyX P md ops Q S x fuel listed a w :=
  h _ (fun _ _ _ _ h => h) (fun _ _ _ _ h => h)
/-- the source has gone on from i0; it surely has if b -/
def Adv (n i0 : Nat) (b : Bool) (i : Nat) : Prop := i0 ≤ i ∧ (b = true → i0 < n → i0 < i)
theorem Adv.fwd {n i0 i j : Nat} {b : Bool} (h : Adv n i0 b i) (hf : Fwd n i j) : Adv n i0 true j := ⟨Nat.le_trans h.1 hf.1, fun _ hn => by
  rcases Nat.lt_or_ge i0 i with h1 | h1
  · exact Nat.lt_of_lt_of_le h1 hf.1
  · have := hf.2 (by omega); have := h.1; omega⟩
/-- the source stands; nothing else has turned -/
structure EN (W0 W : World) (g : Nat) (A : Option Addr) (c : Nat) (l : List Int) (i0 : Nat) (b : Bool) : Prop where
  src : ∃ i, Src W g A c l i ∧ Adv l.length i0 b i
  tur : Turned g W0 W
section
variable {W0 W W' : World} {g : Nat} {A : Option Addr} {c : Nat} {l : List Int} {i0 : Nat} {b : Bool}
theorem EN.turn (h : EN W0 W g A c l i0 b) {i j : Nat} (ha : Adv l.length i0 b i) (hs : Src W' g A c l j) (ht : Turned g W W') (hf : Fwd l.length i j) : EN W0 W' g A c l i0 true := ⟨⟨j, hs, ha.fwd hf⟩, h.tur.trans ht⟩
theorem EN.below (h : EN W0 W g A c l i0 b) (hb : Below W.heap.size W W') : EN W0 W' g A c l i0 b := by
  obtain ⟨i, hs, ha⟩ := h.src
  exact ⟨⟨i, hs.below hb, ha⟩, h.tur.trans (Turned.of_below hb)⟩
end
/-- a block that is younger than W0 -/
def BK (W0 W : World) (b : Nat) (o : Obj) : Prop := W.heap[b]? = some o ∧ W0.heap.size ≤ b
theorem BK.lt {W0 W : World} {b : Nat} {o : Obj} (h : BK W0 W b o) : b < W.heap.size := (Array.getElem?_eq_some_iff.1 h.1).1
theorem BK.turn {W0 W W' : World} {b g : Nat} {o : Obj} (h : BK W0 W b o) (ht : Turned g W W') (hg : g < W0.heap.size) : BK W0 W' b o := ⟨(ht.block b h.lt (by intro e; injection e with e; have := h.2; omega)).trans h.1, h.2⟩
theorem BK.below {W0 W W' : World} {b : Nat} {o : Obj} (h : BK W0 W b o) (hb : Below W.heap.size W W') : BK W0 W' b o := ⟨(hb.block b h.lt).trans h.1, h.2⟩
theorem BK.new {W0 W : World} {g : Nat} {A : Option Addr} {c : Nat} {l : List Int} {i0 : Nat} {b : Bool} (h : EN W0 W g A c l i0 b) (o : Obj) : BK W0 (W.alloc o) W.heap.size o := ⟨heap_alloc_new W o, h.tur.size⟩
theorem BK.kind {W0 W : World} {b m : Nat} (h : BK W0 W b (.cells #[.int .i64 1, .int .i64 1, .int .i64 1, .int .i64 2, .int .i64 3, .int .i64 3, .int .i64 4, .int .i64 5, .int .i64 5, .int .i64 6, .int .i64 7, .int .i64 8, .int .i64 9] 3)) (hm : m < 13) :
    ∃ v : Int, (1 ≤ v ∧ v ≤ 9) ∧ W.cell? ⟨b, m, none⟩ = some (.int .i64 v) := by
  rw [cell_of_row _ _ _ _ _ _ h.1]
  have : m = 0 ∨ m = 1 ∨ m = 2 ∨ m = 3 ∨ m = 4 ∨ m = 5 ∨ m = 6 ∨ m = 7 ∨ m = 8 ∨ m = 9 ∨ m = 10 ∨ m = 11 ∨ m = 12 := by omega
  rcases this with rfl | rfl | rfl | rfl | rfl | rfl | rfl | rfl | rfl | rfl | rfl | rfl | rfl <;> exact ⟨_, by omega, rfl⟩
def put6 (W : World) (b : Nat) (v0 v1 v2 v3 v4 v5 : Value) : World := (((((W.setCell ⟨b, 0, none⟩ v0).setCell ⟨b, 1, none⟩ v1).setCell ⟨b, 2, none⟩ v2).setCell ⟨b, 3, none⟩ v3).setCell ⟨b, 4, none⟩ v4).setCell ⟨b, 5, none⟩ v5
theorem put6_row (W : World) (b : Nat) (t : TypeId) (a0 a1 a2 a3 a4 a5 v0 v1 v2 v3 v4 v5 : Value) (h : W.heap[b]? = some (.cells #[a0, a1, a2, a3, a4, a5] t (0, 0))) :
    (put6 W b v0 v1 v2 v3 v4 v5).heap[b]? = some (.cells #[v0, v1, v2, v3, v4, v5] t (0, 0)) := by
  have h0 := heap_setCell_same W b 0 _ _ v0 h
  have h1 := heap_setCell_same _ b 1 _ _ v1 h0
  have h2 := heap_setCell_same _ b 2 _ _ v2 h1
  have h3 := heap_setCell_same _ b 3 _ _ v3 h2
  have h4 := heap_setCell_same _ b 4 _ _ v4 h3
  have h5 := heap_setCell_same _ b 5 _ _ v5 h4
  exact h5
theorem put6_below (w : World) {B b : Nat} {W : World} (h : Below B w W) (hb : B ≤ b) (v0 v1 v2 v3 v4 v5 : Value) : Below B w (put6 W b v0 v1 v2 v3 v4 v5) :=
  (((((h.setCell (p := ⟨b, 0, none⟩) hb _).setCell (p := ⟨b, 1, none⟩) hb _).setCell (p := ⟨b, 2, none⟩) hb _).setCell (p := ⟨b, 3, none⟩) hb _).setCell (p := ⟨b, 4, none⟩) hb _).setCell (p := ⟨b, 5, none⟩) hb _
theorem cells6 {W : World} {b : Nat} {t : TypeId} {v0 v1 v2 v3 v4 v5 : Value} (h : W.heap[b]? = some (.cells #[v0, v1, v2, v3, v4, v5] t (0, 0))) :
    (W.cell? ⟨b, 0, none⟩ = some v0 ∧ W.cell? ⟨b, 1, none⟩ = some v1 ∧ W.cell? ⟨b, 2, none⟩ = some v2 ∧ W.cell? ⟨b, 3, none⟩ = some v3 ∧ W.cell? ⟨b, 4, none⟩ = some v4 ∧ W.cell? ⟨b, 5, none⟩ = some v5) ∧
    W.frozen? ⟨b, 0, none⟩ = false ∧ W.frozen? ⟨b, 1, none⟩ = false ∧ W.frozen? ⟨b, 2, none⟩ = false ∧ W.frozen? ⟨b, 3, none⟩ = false ∧ W.frozen? ⟨b, 4, none⟩ = false ∧ W.frozen? ⟨b, 5, none⟩ = false := by
  refine ⟨⟨?_, ?_, ?_, ?_, ?_, ?_⟩, frozen_of_row _ _ _ _ _ h, frozen_of_row _ _ _ _ _ h, frozen_of_row _ _ _ _ _ h, frozen_of_row _ _ _ _ _ h, frozen_of_row _ _ _ _ _ h, frozen_of_row _ _ _ _ _ h⟩ <;> (rw [cell_of_row _ _ _ _ _ _ h]; rfl)
theorem Turned.below_trans {g : Nat} {a w w' : World} (h : Turned g a w) (hb : Below a.heap.size w w') : Turned g a w' :=
  ⟨hb.os.trans h.os, hb.tape.trans h.tape, hb.output.trans h.output, Nat.le_trans h.size hb.size, fun i hi hne => (hb.block i hi).trans (h.block i hi hne)⟩
theorem EN.put {W0 W W' : World} {g : Nat} {A : Option Addr} {c : Nat} {l : List Int} {i0 : Nat} {b : Bool} (h : EN W0 W g A c l i0 b) (hg : g < W0.heap.size) (hb : Below W0.heap.size W W') : EN W0 W' g A c l i0 b := by
  obtain ⟨i, hs, ha⟩ := h.src
  exact ⟨⟨i, hs.belowB hb hg, ha⟩, h.tur.below_trans hb⟩
theorem put6_own {W0 W : World} {b : Nat} (hb : W0.heap.size ≤ b) (v0 v1 v2 v3 v4 v5 : Value) : Below W0.heap.size W (put6 W b v0 v1 v2 v3 v4 v5) := put6_below W (Below.refl _ _) hb _ _ _ _ _ _
theorem set_own {W0 W : World} {b : Nat} (hb : W0.heap.size ≤ b) (j : Nat) (v : Value) : Below W0.heap.size W (W.setCell ⟨b, j, none⟩ v) := (Below.refl _ _).setCell (p := ⟨b, j, none⟩) hb _
theorem set4_row (W : World) (b : Nat) (t : TypeId) (a0 a1 a2 a3 a4 a5 v : Value) (h : W.heap[b]? = some (.cells #[a0, a1, a2, a3, a4, a5] t (0, 0))) :
    (W.setCell ⟨b, 4, none⟩ v).heap[b]? = some (.cells #[a0, a1, a2, a3, v, a5] t (0, 0)) := heap_setCell_same W b 4 _ _ v h
/-- an entry that may come out -/
def Made (n : Int) (x : En) : Prop := x.num = n + 1 ∧ (0 ≤ x.day ∧ x.day < 50) ∧ (1 ≤ x.kind ∧ x.kind ≤ 9) ∧ (1 ≤ x.lot ∧ x.lot ≤ 4) ∧ (1 ≤ x.amt ∧ (x.kind ≠ 9 → x.amt ≤ 1000000000000)) ∧ (0 ≤ x.cause ∧ x.cause < 9) ∧ (x.kind = 9 → x.amt ≤ n + 1)
theorem made_mk {n d k lo a c : Int} (hd : 0 ≤ d ∧ d < 50) (hk : 1 ≤ k ∧ k ≤ 9) (hl : 1 ≤ lo ∧ lo ≤ 4) (ha : 1 ≤ a ∧ (k ≠ 9 → a ≤ 1000000000000)) (hc : 0 ≤ c ∧ c < 9) (h9 : k = 9 → a ≤ n + 1) : Made n ⟨n + 1, d, k, lo, a, c⟩ := ⟨rfl, hd, hk, hl, ha, hc, h9⟩
def EntRet (w : World) (g : Nat) (A : Option Addr) (c : Nat) (l : List Int) (i : Nat) (n : Int) (e : Ending) (w' : World) : Prop :=
  ∃ (x : En) (i' : Nat), e = .returned (enV x) ∧ Made n x ∧ Src w' g A c l i' ∧ Turned g w w' ∧ Fwd l.length i i'
/-- the end: the entry lies in its result's cells -/
theorem ent_end {w W0 W W' : World} {g gr : Nat} {A : Option Addr} {c : Nat} {l : List Int} {i0 : Nat} (h : EN W0 W g A c l i0 true) (h0 : Below gr w W0) (hz : w.heap.size = gr) (hg : g < gr) (hb : Below gr W W') :
    ∃ i', Src W' g A c l i' ∧ Turned g w W' ∧ Fwd l.length i0 i' := by
  obtain ⟨i, hs, ha⟩ := h.src
  subst hz
  have ht : Turned g w W := (Turned.of_below h0).trans h.tur
  exact ⟨i, hs.belowB hb hg, ht.below_trans hb, ha.1, ha.2 rfl⟩
set_option maxRecDepth 100000 in
set_option maxHeartbeats 20000000 in
theorem srcEntry_any (g : Nat) (A : Option Addr) (c : Nat) (l : List Int) (i : Nat) (n : Int) (w : World) (h : Src w g A c l i) (hn : 0 ≤ n) (hn2 : n ≤ 10000000000000) :
    Calls Try.prog 10 #[.pointer (some ⟨g, 0, none⟩), .int .i64 n] w (EntRet w g A c l i n) := by
  have HN := Lib.hid (fun (n : Int) (i : Nat) (W : World) (h : Src W g A c l i) (hn : 0 < n) (hn2 : n ≤ 1000000000000000) => srcNext_any g A c l i n W h hn hn2)
  have HSM := Lib.hid (fun (i : Nat) (W : World) (h : Src W g A c l i) => srcSmall_any g A c l i 50 1000000000000 W h (by omega) (by omega) (by omega))
  have q0 := (Below.refl w.heap.size w).alloc (Nat.le_refl _) (.cells #[.int .i64 0, .int .i64 0, .int .i64 0, .int .i64 0, .int .i64 0, .int .i64 0] 26)
  have hS0 := h.below q0
  have hg0 : g < (w.alloc (.cells #[.int .i64 0, .int .i64 0, .int .i64 0, .int .i64 0, .int .i64 0, .int .i64 0] 26)).heap.size := hS0.lt
  have hz0 : (w.alloc (.cells #[.int .i64 0, .int .i64 0, .int .i64 0, .int .i64 0, .int .i64 0, .int .i64 0] 26)).heap.size = w.heap.size + 1 := by simp
  have hgr := h.lt
  have hR0 := heap_alloc_new w (.cells #[.int .i64 0, .int .i64 0, .int .i64 0, .int .i64 0, .int .i64 0, .int .i64 0] 26)
  go_enter Try.func10, Try.ntmps10
  go_wp2_with fail
  generalize hW0 : w.alloc (.cells #[.int .i64 0, .int .i64 0, .int .i64 0, .int .i64 0, .int .i64 0, .int .i64 0] 26) = W0 at *
  generalize hgrr : w.heap.size = gr at *
  have HQ0 := Lib.hid q0
  have HZ := Lib.hid hgrr
  clear hW0 h q0 hgrr
  refine wp_region_x 19 (by kernel_rfl) (fun _ => True) ?_
  have HE0 : Hid (EN W0 W0.drew g A c l i false) := Lib.hid ⟨⟨i, hS0.drewN 1, Nat.le_refl _, fun h => by cases h⟩, Turned.drewN (Turned.refl g W0) 1⟩
  refine wpAnyX_take (i := 0) (v := .int .i64 n) rfl (by kernel_rfl) (by kernel_rfl) (by kernel_rfl) (by kernel_rfl) (fun _ _ _ h => h) trivial (Or.inl ⟨by rfl, fun w hS => by go_simp⟩) ?_
  go_simp
  refine wpAnyX_take (i := 1) (v := .int .i64 (n + 1)) rfl (by kernel_rfl) (by kernel_rfl) (by kernel_rfl) (by kernel_rfl) (fun _ _ _ h => h) trivial (Or.inl ⟨by rfl, fun w hS => by go_simp; exact IntWalk.i64_in _ (by omega)⟩) ?_
  go_simp
  refine wpAnyX_take (i := 2) (v := .pointer (some ⟨g, 0, none⟩)) rfl (by kernel_rfl) (by kernel_rfl) (by kernel_rfl) (by kernel_rfl) (fun _ _ _ h => h) trivial (Or.inl ⟨by rfl, fun w hS => by go_simp⟩) ?_
  go_simp
  refine wpAnyX_take (i := 5) (v := .pointer (some ⟨g, 0, none⟩)) rfl (by kernel_rfl) (by kernel_rfl) (by kernel_rfl) (by kernel_rfl) (fun _ _ _ h => h) trivial (Or.inl ⟨by rfl, fun w hS => by go_simp⟩) ?_
  go_simp
  refine wpAnyX_take (i := 9) (v := .pointer (some ⟨g, 0, none⟩)) rfl (by kernel_rfl) (by kernel_rfl) (by kernel_rfl) (by kernel_rfl) (fun _ _ _ h => h) trivial (Or.inl ⟨by rfl, fun w hS => by go_simp⟩) ?_
  go_simp
  refine wpAnyX_take (i := 12) (v := .pointer (some ⟨g, 0, none⟩)) rfl (by kernel_rfl) (by kernel_rfl) (by kernel_rfl) (by kernel_rfl) (fun _ _ _ h => h) trivial (Or.inl ⟨by rfl, fun w hS => by go_simp⟩) ?_
  go_simp
  refine wpAnyX_take (i := 15) (v := .pointer (some ⟨g, 0, none⟩)) rfl (by kernel_rfl) (by kernel_rfl) (by kernel_rfl) (by kernel_rfl) (fun _ _ _ h => h) trivial (Or.inl ⟨by rfl, fun w hS => by go_simp⟩) ?_
  go_simp

  refine with_node (fun N hN1 hN2 => ?_)
  have n_5_1_1_1 : ∀ (W : World) (x1 : Int) (m2 : Nat) (x3 : Int) (x4 : Int) (x5 : Int) (gb : Nat) (lv : Int) (ga : Nat) (hE : EN W0 W g A c l i true) (h1 : 0 ≤ x1 ∧ x1 < 50) (h2 : m2 < 13) (h3 : 0 ≤ x3 ∧ x3 < 4) (h4 : 0 ≤ x4 ∧ x4 < 1000000000000) (h5 : 0 ≤ x5 ∧ x5 < 9) (hB : BK W0 W gb (.cells #[.int .i64 1, .int .i64 1, .int .i64 1, .int .i64 2, .int .i64 3, .int .i64 3, .int .i64 4, .int .i64 5, .int .i64 5, .int .i64 6, .int .i64 7, .int .i64 8, .int .i64 9] 3)) (hL : 1 ≤ lv ∧ lv ≤ 9) (hA : BK W0 W ga (.cells #[.int .i64 0, .int .i64 0, .int .i64 0, .int .i64 0, .int .i64 0, .int .i64 0] 26)), N 1 #[true, true, true, true, true, true, true, true, true, true, true, true, true, true, true, true, true, true, true, false] ⟨#[.pointer (some ⟨g, 0, none⟩), .int .i64 n, undef, undef, .pointer (some ⟨gr, 0, none⟩), .pointer (some ⟨ga, 0, none⟩), .int .i64 n, .int .i64 (n + 1), .pointer (some ⟨g, 0, none⟩), .int .i64 x1, .slice (some ⟨gb, 0, none⟩) 13 13, .pointer (some ⟨g, 0, none⟩), .int .i64 (m2 : Int), .pointer (some ⟨gb, m2, none⟩), .int .i64 lv, .pointer (some ⟨g, 0, none⟩), .int .i64 x3, .int .i64 (1 + x3), .pointer (some ⟨g, 0, none⟩), .int .i64 x4, .int .i64 (1 + x4), .pointer (some ⟨g, 0, none⟩), .int .i64 x5, .agg #[.int .i64 (n + 1), .int .i64 x1, .int .i64 lv, .int .i64 (1 + x3), .int .i64 (1 + x4), .int .i64 x5], undef, undef, undef, undef, undef, undef, undef, undef, undef, undef], []⟩ W := by
    intro W x1 m2 x3 x4 x5 gb lv ga hE h1 h2 h3 h4 h5 hB hL hA
    refine hN1 _ _ _ _ ?_
    refine wpAnyX_one (i := 19) (by kernel_rfl) rfl (fun K hK => ?_)
    obtain ⟨⟨c0, c1, c2, c3, c4, c5⟩, cf0, cf1, cf2, cf3, cf4, cf5⟩ := cells6 hA.1
    have hgl := hA.lt
    have hga := hA.2
    go_simp
    refine hK.out _ _ (fun _ => trivial) ?_
    change wpAnyX _ _ _ _ _ _ _ _ _ (put6 W ga (.int .i64 (n + 1)) (.int .i64 x1) (.int .i64 lv) (.int .i64 (1 + x3)) (.int .i64 (1 + x4)) (.int .i64 x5))
    have r6 := put6_row W ga _ _ _ _ _ _ _ (.int .i64 (n + 1)) (.int .i64 x1) (.int .i64 lv) (.int .i64 (1 + x3)) (.int .i64 (1 + x4)) (.int .i64 x5) hA.1
    have e6 := hE.put hg0 (put6_own hga (.int .i64 (n + 1)) (.int .i64 x1) (.int .i64 lv) (.int .i64 (1 + x3)) (.int .i64 (1 + x4)) (.int .i64 x5))
    generalize put6 W ga (.int .i64 (n + 1)) (.int .i64 x1) (.int .i64 lv) (.int .i64 (1 + x3)) (.int .i64 (1 + x4)) (.int .i64 x5) = W5 at r6 e6 ⊢
    clear hK K c0 c1 c2 c3 c4 c5 cf0 cf1 cf2 cf3 cf4 cf5 hgl hA hB hE
    refine wpAnyX_done (by kernel_rfl) ?_
    obtain ⟨⟨c0, c1, c2, c3, c4, c5⟩, cf0, cf1, cf2, cf3, cf4, cf5⟩ := cells6 r6
    have hgl := (Array.getElem?_eq_some_iff.1 r6).1
    have hrr := (e6.tur.block gr (by omega) (by intro e; injection e with e; omega)).trans hR0
    obtain ⟨⟨d0, d1, d2, d3, d4, d5⟩, df0, df1, df2, df3, df4, df5⟩ := cells6 hrr
    have HRR := Lib.hid hR0
    have HR8 := Lib.hid hrr
    have E6 := Lib.hid e6
    have H1 := Lib.hid h1
    have H3 := Lib.hid h3
    have H4 := Lib.hid h4
    have H5 := Lib.hid h5
    have HL := Lib.hid hL
    have HR6 := Lib.hid r6
    have HG := Lib.hid (And.intro hga (And.intro hg0 (And.intro hgr hz0)))
    have HN0 := Lib.hid (And.intro hn hn2)
    clear e6 h1 h2 h3 h4 h5 hL r6 hrr hga hg0 hgr hR0 HE0 HSM
    by_cases h9 : lv = 9
    · subst h9
      obtain ⟨j, hS, hAd⟩ := E6.out.src
      have HAd := Lib.hid hAd
      clear hAd hz0
      go_wp2_with fail
      refine (HN.out (n + 1) j W5 hS (by have := HN0.out.1; omega) (by have := HN0.out.2; omega)).mono ?_
      rintro e W6 ⟨x6, j2, rfl, hx0, hx1, hS2, hT2, hF2⟩
      have e7 := E6.out.turn HAd.out hS2 hT2 hF2
      have HR7 := Lib.hid ((hT2.block ga hgl (by intro e; injection e with e; have := HG.out; omega)).trans HR6.out)
      have hrr := (e7.tur.block gr (by have := HG.out; omega) (by intro e; injection e with e; have := HG.out; omega)).trans HRR.out
      clear c0 c1 c2 c3 c4 c5 cf0 cf1 cf2 cf3 cf4 cf5 d0 d1 d2 d3 d4 d5 df0 df1 df2 df3 df4 df5 hS hgl
      obtain ⟨⟨c0, c1, c2, c3, c4, c5⟩, cf0, cf1, cf2, cf3, cf4, cf5⟩ := cells6 HR7.out
      obtain ⟨⟨d0, d1, d2, d3, d4, d5⟩, df0, df1, df2, df3, df4, df5⟩ := cells6 hrr
      have hgl := (Array.getElem?_eq_some_iff.1 HR7.out).1
      have E7 := Lib.hid e7
      have HR8 := Lib.hid hrr
      have hne : gr ≠ ga := by have := HG.out; omega
      have hne2 : ga ≠ gr := by have := HG.out; omega
      clear e7 hrr hS2 hT2 hF2
      go_wp2_with fail
      change bodyPost _ _ _ _ _ (put6 (W6.setCell ⟨ga, 4, none⟩ (.int .i64 (1 + x6))) gr (.int .i64 (n + 1)) (.int .i64 x1) (.int .i64 9) (.int .i64 (1 + x3)) (.int .i64 (1 + x6)) (.int .i64 x5))
      have r8 := put6_row (W6.setCell ⟨ga, 4, none⟩ (.int .i64 (1 + x6))) gr _ _ _ _ _ _ _ (.int .i64 (n + 1)) (.int .i64 x1) (.int .i64 9) (.int .i64 (1 + x3)) (.int .i64 (1 + x6)) (.int .i64 x5) ((Below.heap_setCell W6 ⟨ga, 4, none⟩ _ gr hne).trans HR8.out)
      have b8 : Below gr W6 (put6 (W6.setCell ⟨ga, 4, none⟩ (.int .i64 (1 + x6))) gr (.int .i64 (n + 1)) (.int .i64 x1) (.int .i64 9) (.int .i64 (1 + x3)) (.int .i64 (1 + x6)) (.int .i64 x5)) := put6_below W6 ((Below.refl gr W6).setCell (p := ⟨ga, 4, none⟩) (by have := HG.out; show gr ≤ ga; omega) _) (Nat.le_refl _) _ _ _ _ _ _
      generalize put6 (W6.setCell ⟨ga, 4, none⟩ (.int .i64 (1 + x6))) gr (.int .i64 (n + 1)) (.int .i64 x1) (.int .i64 9) (.int .i64 (1 + x3)) (.int .i64 (1 + x6)) (.int .i64 x5) = W8 at r8 b8 ⊢
      have hend := ent_end E7.out HQ0.out HZ.out HG.out.2.2.1 b8
      clear c0 c1 c2 c3 c4 c5 cf0 cf1 cf2 cf3 cf4 cf5 d0 d1 d2 d3 d4 d5 df0 df1 df2 df3 df4 df5 hne hne2 hgl b8
      obtain ⟨⟨c0, c1, c2, c3, c4, c5⟩, cf0, cf1, cf2, cf3, cf4, cf5⟩ := cells6 r8
      have hgl := (Array.getElem?_eq_some_iff.1 r8).1
      clear r8
      obtain ⟨i', hs, ht, hf⟩ := hend
      refine bodyPost_ret (v := enV ⟨n + 1, x1, 9, 1 + x3, 1 + x6, x5⟩) (by simp [results, enV, Try.results10, go_sem, c0, c1, c2, c3, c4, c5]) rfl ?_
      exact ⟨⟨n + 1, x1, 9, 1 + x3, 1 + x6, x5⟩, i', rfl, made_mk H1.out (by omega) (by have := H3.out; omega) ⟨by omega, fun h => absurd rfl h⟩ H5.out (fun _ => by omega), hs, ht, hf⟩
    · have h9' : (lv == 9) = false := by simpa using h9
      have H9 := Lib.hid h9
      clear hz0 h9
      go_wp2_with fail
      change bodyPost _ _ _ _ _ (put6 W5 gr (.int .i64 (n + 1)) (.int .i64 x1) (.int .i64 lv) (.int .i64 (1 + x3)) (.int .i64 (1 + x4)) (.int .i64 x5))
      have r8 := put6_row W5 gr _ _ _ _ _ _ _ (.int .i64 (n + 1)) (.int .i64 x1) (.int .i64 lv) (.int .i64 (1 + x3)) (.int .i64 (1 + x4)) (.int .i64 x5) HR8.out
      have b8 : Below gr W5 (put6 W5 gr (.int .i64 (n + 1)) (.int .i64 x1) (.int .i64 lv) (.int .i64 (1 + x3)) (.int .i64 (1 + x4)) (.int .i64 x5)) := put6_below W5 (Below.refl gr W5) (Nat.le_refl _) _ _ _ _ _ _
      generalize put6 W5 gr (.int .i64 (n + 1)) (.int .i64 x1) (.int .i64 lv) (.int .i64 (1 + x3)) (.int .i64 (1 + x4)) (.int .i64 x5) = W8 at r8 b8 ⊢
      have hend := ent_end E6.out HQ0.out HZ.out HG.out.2.2.1 b8
      clear c0 c1 c2 c3 c4 c5 cf0 cf1 cf2 cf3 cf4 cf5 d0 d1 d2 d3 d4 d5 df0 df1 df2 df3 df4 df5 hgl b8
      obtain ⟨⟨c0, c1, c2, c3, c4, c5⟩, cf0, cf1, cf2, cf3, cf4, cf5⟩ := cells6 r8
      have hgl := (Array.getElem?_eq_some_iff.1 r8).1
      clear r8
      obtain ⟨i', hs, ht, hf⟩ := hend
      refine bodyPost_ret (v := enV ⟨n + 1, x1, lv, 1 + x3, 1 + x4, x5⟩) (by simp [results, enV, Try.results10, go_sem, c0, c1, c2, c3, c4, c5]) rfl ?_
      exact ⟨⟨n + 1, x1, lv, 1 + x3, 1 + x4, x5⟩, i', rfl, made_mk H1.out HL.out (by have := H3.out; omega) ⟨by have := H4.out; omega, fun _ => by have := H4.out; omega⟩ H5.out (fun h => absurd h H9.out), hs, ht, hf⟩
  replace n_5_1_1_1 := Lib.hid n_5_1_1_1
  have n_5_1_1_0 : ∀ (W : World) (x1 : Int) (m2 : Nat) (x3 : Int) (x4 : Int) (x5 : Int) (gb : Nat) (lv : Int) (hE : EN W0 W g A c l i true) (h1 : 0 ≤ x1 ∧ x1 < 50) (h2 : m2 < 13) (h3 : 0 ≤ x3 ∧ x3 < 4) (h4 : 0 ≤ x4 ∧ x4 < 1000000000000) (h5 : 0 ≤ x5 ∧ x5 < 9) (hB : BK W0 W gb (.cells #[.int .i64 1, .int .i64 1, .int .i64 1, .int .i64 2, .int .i64 3, .int .i64 3, .int .i64 4, .int .i64 5, .int .i64 5, .int .i64 6, .int .i64 7, .int .i64 8, .int .i64 9] 3)) (hL : 1 ≤ lv ∧ lv ≤ 9), N 2 #[true, true, true, true, true, true, true, true, true, true, true, true, true, true, true, true, true, true, false, false] ⟨#[.pointer (some ⟨g, 0, none⟩), .int .i64 n, undef, undef, .pointer (some ⟨gr, 0, none⟩), undef, .int .i64 n, .int .i64 (n + 1), .pointer (some ⟨g, 0, none⟩), .int .i64 x1, .slice (some ⟨gb, 0, none⟩) 13 13, .pointer (some ⟨g, 0, none⟩), .int .i64 (m2 : Int), .pointer (some ⟨gb, m2, none⟩), .int .i64 lv, .pointer (some ⟨g, 0, none⟩), .int .i64 x3, .int .i64 (1 + x3), .pointer (some ⟨g, 0, none⟩), .int .i64 x4, .int .i64 (1 + x4), .pointer (some ⟨g, 0, none⟩), .int .i64 x5, .agg #[.int .i64 (n + 1), .int .i64 x1, .int .i64 lv, .int .i64 (1 + x3), .int .i64 (1 + x4), .int .i64 x5], undef, undef, undef, undef, undef, undef, undef, undef, undef, undef], []⟩ W := by
    intro W x1 m2 x3 x4 x5 gb lv hE h1 h2 h3 h4 h5 hB hL
    refine hN1 _ _ _ _ ?_
    refine wpAnyX_one (i := 18) (by kernel_rfl) rfl (fun K hK => ?_)
    go_simp
    refine hK.out _ _ (fun _ => trivial) ?_
    clear hK K
    have q := (Below.refl W.heap.size W).alloc (Nat.le_refl _) (.cells #[.int .i64 0, .int .i64 0, .int .i64 0, .int .i64 0, .int .i64 0, .int .i64 0] 26)
    have hA := BK.new hE (.cells #[.int .i64 0, .int .i64 0, .int .i64 0, .int .i64 0, .int .i64 0, .int .i64 0] 26)
    have hE1 := hE.below q
    have hB := hB.below q
    generalize hV : W.alloc (.cells #[.int .i64 0, .int .i64 0, .int .i64 0, .int .i64 0, .int .i64 0, .int .i64 0] 26) = W2 at hE1 hA hB ⊢
    clear hV q
    generalize hV : W.heap.size = ga at hA ⊢
    clear hV
    exact hN2 _ _ _ _ (n_5_1_1_1.out W2 x1 m2 x3 x4 x5 gb lv ga hE1 h1 h2 h3 h4 h5 hB hL hA)
  replace n_5_1_1_0 := Lib.hid n_5_1_1_0
  have n_4_1_1_1 : ∀ (W : World) (x1 : Int) (m2 : Nat) (x3 : Int) (x4 : Int) (gb : Nat) (lv : Int) (ga : Nat) (hE : EN W0 W g A c l i true) (h1 : 0 ≤ x1 ∧ x1 < 50) (h2 : m2 < 13) (h3 : 0 ≤ x3 ∧ x3 < 4) (h4 : 0 ≤ x4 ∧ x4 < 1000000000000) (hB : BK W0 W gb (.cells #[.int .i64 1, .int .i64 1, .int .i64 1, .int .i64 2, .int .i64 3, .int .i64 3, .int .i64 4, .int .i64 5, .int .i64 5, .int .i64 6, .int .i64 7, .int .i64 8, .int .i64 9] 3)) (hL : 1 ≤ lv ∧ lv ≤ 9) (hA : BK W0 W ga (.cells #[.int .i64 0, .int .i64 0, .int .i64 0, .int .i64 0, .int .i64 0, .int .i64 0] 26)), N 3 #[true, true, true, true, true, true, true, true, true, true, true, true, true, true, true, true, false, false, true, false] ⟨#[.pointer (some ⟨g, 0, none⟩), .int .i64 n, undef, undef, .pointer (some ⟨gr, 0, none⟩), .pointer (some ⟨ga, 0, none⟩), .int .i64 n, .int .i64 (n + 1), .pointer (some ⟨g, 0, none⟩), .int .i64 x1, .slice (some ⟨gb, 0, none⟩) 13 13, .pointer (some ⟨g, 0, none⟩), .int .i64 (m2 : Int), .pointer (some ⟨gb, m2, none⟩), .int .i64 lv, .pointer (some ⟨g, 0, none⟩), .int .i64 x3, .int .i64 (1 + x3), .pointer (some ⟨g, 0, none⟩), .int .i64 x4, .int .i64 (1 + x4), .pointer (some ⟨g, 0, none⟩), undef, undef, undef, undef, undef, undef, undef, undef, undef, undef, undef, undef], []⟩ W := by
    intro W x1 m2 x3 x4 gb lv ga hE h1 h2 h3 h4 hB hL hA
    refine hN1 _ _ _ _ ?_
    refine wpAnyX_one (i := 16) (by kernel_rfl) rfl (fun K hK => ?_)
    obtain ⟨j, hS, hAd⟩ := hE.src
    go_simp
    go_wp2_with (go_at_call 27; refine (HN.out 9 j W hS (by omega) (by omega)).mono ?_; rintro e W2 ⟨x5, j2, rfl, hx0, hx1, hS2, hT2, hF2⟩)
    refine hK.out _ _ (fun _ => trivial) ?_
    clear hK K
    have hE := hE.turn hAd hS2 hT2 hF2
    have hB := hB.turn hT2 hg0
    have hA := hA.turn hT2 hg0
    have h5 := And.intro hx0 hx1
    refine wpAnyX_take (i := 17) (v := .agg #[.int .i64 (n + 1), .int .i64 x1, .int .i64 lv, .int .i64 (1 + x3), .int .i64 (1 + x4), .int .i64 x5]) rfl (by kernel_rfl) (by kernel_rfl) (by kernel_rfl) (by kernel_rfl) (fun _ _ _ h => h) trivial (Or.inl ⟨by rfl, fun w hS => by go_simp⟩) ?_
    go_simp
    exact hN2 _ _ _ _ (n_5_1_1_1.out W2 x1 m2 x3 x4 x5 gb lv ga hE h1 h2 h3 h4 h5 hB hL hA)
  replace n_4_1_1_1 := Lib.hid n_4_1_1_1
  have n_5_1_0_1 : ∀ (W : World) (x1 : Int) (m2 : Nat) (x3 : Int) (x4 : Int) (x5 : Int) (gb : Nat) (ga : Nat) (hE : EN W0 W g A c l i true) (h1 : 0 ≤ x1 ∧ x1 < 50) (h2 : m2 < 13) (h3 : 0 ≤ x3 ∧ x3 < 4) (h4 : 0 ≤ x4 ∧ x4 < 1000000000000) (h5 : 0 ≤ x5 ∧ x5 < 9) (hB : BK W0 W gb (.cells #[.int .i64 1, .int .i64 1, .int .i64 1, .int .i64 2, .int .i64 3, .int .i64 3, .int .i64 4, .int .i64 5, .int .i64 5, .int .i64 6, .int .i64 7, .int .i64 8, .int .i64 9] 3)) (hA : BK W0 W ga (.cells #[.int .i64 0, .int .i64 0, .int .i64 0, .int .i64 0, .int .i64 0, .int .i64 0] 26)), N 3 #[true, true, true, true, true, true, true, true, false, true, true, true, true, true, true, true, true, false, true, false] ⟨#[.pointer (some ⟨g, 0, none⟩), .int .i64 n, undef, undef, .pointer (some ⟨gr, 0, none⟩), .pointer (some ⟨ga, 0, none⟩), .int .i64 n, .int .i64 (n + 1), .pointer (some ⟨g, 0, none⟩), .int .i64 x1, .slice (some ⟨gb, 0, none⟩) 13 13, .pointer (some ⟨g, 0, none⟩), .int .i64 (m2 : Int), .pointer (some ⟨gb, m2, none⟩), undef, .pointer (some ⟨g, 0, none⟩), .int .i64 x3, .int .i64 (1 + x3), .pointer (some ⟨g, 0, none⟩), .int .i64 x4, .int .i64 (1 + x4), .pointer (some ⟨g, 0, none⟩), .int .i64 x5, undef, undef, undef, undef, undef, undef, undef, undef, undef, undef, undef], []⟩ W := by
    intro W x1 m2 x3 x4 x5 gb ga hE h1 h2 h3 h4 h5 hB hA
    refine hN1 _ _ _ _ ?_
    refine wpAnyX_one (i := 8) (by kernel_rfl) rfl (fun K hK => ?_)
    obtain ⟨lv, hL, hc⟩ := hB.kind h2
    go_simp
    refine hK.out _ _ (fun _ => trivial) ?_
    clear hK K
    refine wpAnyX_take (i := 17) (v := .agg #[.int .i64 (n + 1), .int .i64 x1, .int .i64 lv, .int .i64 (1 + x3), .int .i64 (1 + x4), .int .i64 x5]) rfl (by kernel_rfl) (by kernel_rfl) (by kernel_rfl) (by kernel_rfl) (fun _ _ _ h => h) trivial (Or.inl ⟨by rfl, fun w hS => by go_simp⟩) ?_
    go_simp
    exact hN2 _ _ _ _ (n_5_1_1_1.out W x1 m2 x3 x4 x5 gb lv ga hE h1 h2 h3 h4 h5 hB hL hA)
  replace n_5_1_0_1 := Lib.hid n_5_1_0_1
  have n_4_1_0_1 : ∀ (W : World) (x1 : Int) (m2 : Nat) (x3 : Int) (x4 : Int) (gb : Nat) (ga : Nat) (hE : EN W0 W g A c l i true) (h1 : 0 ≤ x1 ∧ x1 < 50) (h2 : m2 < 13) (h3 : 0 ≤ x3 ∧ x3 < 4) (h4 : 0 ≤ x4 ∧ x4 < 1000000000000) (hB : BK W0 W gb (.cells #[.int .i64 1, .int .i64 1, .int .i64 1, .int .i64 2, .int .i64 3, .int .i64 3, .int .i64 4, .int .i64 5, .int .i64 5, .int .i64 6, .int .i64 7, .int .i64 8, .int .i64 9] 3)) (hA : BK W0 W ga (.cells #[.int .i64 0, .int .i64 0, .int .i64 0, .int .i64 0, .int .i64 0, .int .i64 0] 26)), N 4 #[true, true, true, true, true, true, true, true, false, true, true, true, true, true, true, true, false, false, true, false] ⟨#[.pointer (some ⟨g, 0, none⟩), .int .i64 n, undef, undef, .pointer (some ⟨gr, 0, none⟩), .pointer (some ⟨ga, 0, none⟩), .int .i64 n, .int .i64 (n + 1), .pointer (some ⟨g, 0, none⟩), .int .i64 x1, .slice (some ⟨gb, 0, none⟩) 13 13, .pointer (some ⟨g, 0, none⟩), .int .i64 (m2 : Int), .pointer (some ⟨gb, m2, none⟩), undef, .pointer (some ⟨g, 0, none⟩), .int .i64 x3, .int .i64 (1 + x3), .pointer (some ⟨g, 0, none⟩), .int .i64 x4, .int .i64 (1 + x4), .pointer (some ⟨g, 0, none⟩), undef, undef, undef, undef, undef, undef, undef, undef, undef, undef, undef, undef], []⟩ W := by
    intro W x1 m2 x3 x4 gb ga hE h1 h2 h3 h4 hB hA
    refine hN1 _ _ _ _ ?_
    refine wpAnyX_ready (rs := [8, 16]) (by kernel_rfl) (by simp) (AllX.cons rfl (fun K hK => ?_) (AllX.cons rfl (fun K hK => ?_) AllX.nil))
    · obtain ⟨lv, hL, hc⟩ := hB.kind h2
      go_simp
      refine hK.out _ _ (fun _ => trivial) ?_
      clear hK K
      exact hN2 _ _ _ _ (n_4_1_1_1.out W x1 m2 x3 x4 gb lv ga hE h1 h2 h3 h4 hB hL hA)
    · obtain ⟨j, hS, hAd⟩ := hE.src
      go_simp
      go_wp2_with (go_at_call 27; refine (HN.out 9 j W hS (by omega) (by omega)).mono ?_; rintro e W2 ⟨x5, j2, rfl, hx0, hx1, hS2, hT2, hF2⟩)
      refine hK.out _ _ (fun _ => trivial) ?_
      clear hK K
      have hE := hE.turn hAd hS2 hT2 hF2
      have hB := hB.turn hT2 hg0
      have hA := hA.turn hT2 hg0
      have h5 := And.intro hx0 hx1
      exact hN2 _ _ _ _ (n_5_1_0_1.out W2 x1 m2 x3 x4 x5 gb ga hE h1 h2 h3 h4 h5 hB hA)
  replace n_4_1_0_1 := Lib.hid n_4_1_0_1
  have n_4_1_1_0 : ∀ (W : World) (x1 : Int) (m2 : Nat) (x3 : Int) (x4 : Int) (gb : Nat) (lv : Int) (hE : EN W0 W g A c l i true) (h1 : 0 ≤ x1 ∧ x1 < 50) (h2 : m2 < 13) (h3 : 0 ≤ x3 ∧ x3 < 4) (h4 : 0 ≤ x4 ∧ x4 < 1000000000000) (hB : BK W0 W gb (.cells #[.int .i64 1, .int .i64 1, .int .i64 1, .int .i64 2, .int .i64 3, .int .i64 3, .int .i64 4, .int .i64 5, .int .i64 5, .int .i64 6, .int .i64 7, .int .i64 8, .int .i64 9] 3)) (hL : 1 ≤ lv ∧ lv ≤ 9), N 4 #[true, true, true, true, true, true, true, true, true, true, true, true, true, true, true, true, false, false, false, false] ⟨#[.pointer (some ⟨g, 0, none⟩), .int .i64 n, undef, undef, .pointer (some ⟨gr, 0, none⟩), undef, .int .i64 n, .int .i64 (n + 1), .pointer (some ⟨g, 0, none⟩), .int .i64 x1, .slice (some ⟨gb, 0, none⟩) 13 13, .pointer (some ⟨g, 0, none⟩), .int .i64 (m2 : Int), .pointer (some ⟨gb, m2, none⟩), .int .i64 lv, .pointer (some ⟨g, 0, none⟩), .int .i64 x3, .int .i64 (1 + x3), .pointer (some ⟨g, 0, none⟩), .int .i64 x4, .int .i64 (1 + x4), .pointer (some ⟨g, 0, none⟩), undef, undef, undef, undef, undef, undef, undef, undef, undef, undef, undef, undef], []⟩ W := by
    intro W x1 m2 x3 x4 gb lv hE h1 h2 h3 h4 hB hL
    refine hN1 _ _ _ _ ?_
    refine wpAnyX_ready (rs := [16, 18]) (by kernel_rfl) (by simp) (AllX.cons rfl (fun K hK => ?_) (AllX.cons rfl (fun K hK => ?_) AllX.nil))
    · obtain ⟨j, hS, hAd⟩ := hE.src
      go_simp
      go_wp2_with (go_at_call 27; refine (HN.out 9 j W hS (by omega) (by omega)).mono ?_; rintro e W2 ⟨x5, j2, rfl, hx0, hx1, hS2, hT2, hF2⟩)
      refine hK.out _ _ (fun _ => trivial) ?_
      clear hK K
      have hE := hE.turn hAd hS2 hT2 hF2
      have hB := hB.turn hT2 hg0
      have h5 := And.intro hx0 hx1
      refine wpAnyX_take (i := 17) (v := .agg #[.int .i64 (n + 1), .int .i64 x1, .int .i64 lv, .int .i64 (1 + x3), .int .i64 (1 + x4), .int .i64 x5]) rfl (by kernel_rfl) (by kernel_rfl) (by kernel_rfl) (by kernel_rfl) (fun _ _ _ h => h) trivial (Or.inl ⟨by rfl, fun w hS => by go_simp⟩) ?_
      go_simp
      exact hN2 _ _ _ _ (n_5_1_1_0.out W2 x1 m2 x3 x4 x5 gb lv hE h1 h2 h3 h4 h5 hB hL)
    · go_simp
      refine hK.out _ _ (fun _ => trivial) ?_
      clear hK K
      have q := (Below.refl W.heap.size W).alloc (Nat.le_refl _) (.cells #[.int .i64 0, .int .i64 0, .int .i64 0, .int .i64 0, .int .i64 0, .int .i64 0] 26)
      have hA := BK.new hE (.cells #[.int .i64 0, .int .i64 0, .int .i64 0, .int .i64 0, .int .i64 0, .int .i64 0] 26)
      have hE1 := hE.below q
      have hB := hB.below q
      generalize hV : W.alloc (.cells #[.int .i64 0, .int .i64 0, .int .i64 0, .int .i64 0, .int .i64 0, .int .i64 0] 26) = W2 at hE1 hA hB ⊢
      clear hV q
      generalize hV : W.heap.size = ga at hA ⊢
      clear hV
      exact hN2 _ _ _ _ (n_4_1_1_1.out W2 x1 m2 x3 x4 gb lv ga hE1 h1 h2 h3 h4 hB hL hA)
  replace n_4_1_1_0 := Lib.hid n_4_1_1_0
  have n_5_1_0_0 : ∀ (W : World) (x1 : Int) (m2 : Nat) (x3 : Int) (x4 : Int) (x5 : Int) (gb : Nat) (hE : EN W0 W g A c l i true) (h1 : 0 ≤ x1 ∧ x1 < 50) (h2 : m2 < 13) (h3 : 0 ≤ x3 ∧ x3 < 4) (h4 : 0 ≤ x4 ∧ x4 < 1000000000000) (h5 : 0 ≤ x5 ∧ x5 < 9) (hB : BK W0 W gb (.cells #[.int .i64 1, .int .i64 1, .int .i64 1, .int .i64 2, .int .i64 3, .int .i64 3, .int .i64 4, .int .i64 5, .int .i64 5, .int .i64 6, .int .i64 7, .int .i64 8, .int .i64 9] 3)), N 4 #[true, true, true, true, true, true, true, true, false, true, true, true, true, true, true, true, true, false, false, false] ⟨#[.pointer (some ⟨g, 0, none⟩), .int .i64 n, undef, undef, .pointer (some ⟨gr, 0, none⟩), undef, .int .i64 n, .int .i64 (n + 1), .pointer (some ⟨g, 0, none⟩), .int .i64 x1, .slice (some ⟨gb, 0, none⟩) 13 13, .pointer (some ⟨g, 0, none⟩), .int .i64 (m2 : Int), .pointer (some ⟨gb, m2, none⟩), undef, .pointer (some ⟨g, 0, none⟩), .int .i64 x3, .int .i64 (1 + x3), .pointer (some ⟨g, 0, none⟩), .int .i64 x4, .int .i64 (1 + x4), .pointer (some ⟨g, 0, none⟩), .int .i64 x5, undef, undef, undef, undef, undef, undef, undef, undef, undef, undef, undef], []⟩ W := by
    intro W x1 m2 x3 x4 x5 gb hE h1 h2 h3 h4 h5 hB
    refine hN1 _ _ _ _ ?_
    refine wpAnyX_ready (rs := [8, 18]) (by kernel_rfl) (by simp) (AllX.cons rfl (fun K hK => ?_) (AllX.cons rfl (fun K hK => ?_) AllX.nil))
    · obtain ⟨lv, hL, hc⟩ := hB.kind h2
      go_simp
      refine hK.out _ _ (fun _ => trivial) ?_
      clear hK K
      refine wpAnyX_take (i := 17) (v := .agg #[.int .i64 (n + 1), .int .i64 x1, .int .i64 lv, .int .i64 (1 + x3), .int .i64 (1 + x4), .int .i64 x5]) rfl (by kernel_rfl) (by kernel_rfl) (by kernel_rfl) (by kernel_rfl) (fun _ _ _ h => h) trivial (Or.inl ⟨by rfl, fun w hS => by go_simp⟩) ?_
      go_simp
      exact hN2 _ _ _ _ (n_5_1_1_0.out W x1 m2 x3 x4 x5 gb lv hE h1 h2 h3 h4 h5 hB hL)
    · go_simp
      refine hK.out _ _ (fun _ => trivial) ?_
      clear hK K
      have q := (Below.refl W.heap.size W).alloc (Nat.le_refl _) (.cells #[.int .i64 0, .int .i64 0, .int .i64 0, .int .i64 0, .int .i64 0, .int .i64 0] 26)
      have hA := BK.new hE (.cells #[.int .i64 0, .int .i64 0, .int .i64 0, .int .i64 0, .int .i64 0, .int .i64 0] 26)
      have hE1 := hE.below q
      have hB := hB.below q
      generalize hV : W.alloc (.cells #[.int .i64 0, .int .i64 0, .int .i64 0, .int .i64 0, .int .i64 0, .int .i64 0] 26) = W2 at hE1 hA hB ⊢
      clear hV q
      generalize hV : W.heap.size = ga at hA ⊢
      clear hV
      exact hN2 _ _ _ _ (n_5_1_0_1.out W2 x1 m2 x3 x4 x5 gb ga hE1 h1 h2 h3 h4 h5 hB hA)
  replace n_5_1_0_0 := Lib.hid n_5_1_0_0
  have n_3_1_1_1 : ∀ (W : World) (x1 : Int) (m2 : Nat) (x3 : Int) (gb : Nat) (lv : Int) (ga : Nat) (hE : EN W0 W g A c l i true) (h1 : 0 ≤ x1 ∧ x1 < 50) (h2 : m2 < 13) (h3 : 0 ≤ x3 ∧ x3 < 4) (hB : BK W0 W gb (.cells #[.int .i64 1, .int .i64 1, .int .i64 1, .int .i64 2, .int .i64 3, .int .i64 3, .int .i64 4, .int .i64 5, .int .i64 5, .int .i64 6, .int .i64 7, .int .i64 8, .int .i64 9] 3)) (hL : 1 ≤ lv ∧ lv ≤ 9) (hA : BK W0 W ga (.cells #[.int .i64 0, .int .i64 0, .int .i64 0, .int .i64 0, .int .i64 0, .int .i64 0] 26)), N 5 #[true, true, true, true, true, true, true, true, true, true, true, true, true, false, false, true, false, false, true, false] ⟨#[.pointer (some ⟨g, 0, none⟩), .int .i64 n, undef, undef, .pointer (some ⟨gr, 0, none⟩), .pointer (some ⟨ga, 0, none⟩), .int .i64 n, .int .i64 (n + 1), .pointer (some ⟨g, 0, none⟩), .int .i64 x1, .slice (some ⟨gb, 0, none⟩) 13 13, .pointer (some ⟨g, 0, none⟩), .int .i64 (m2 : Int), .pointer (some ⟨gb, m2, none⟩), .int .i64 lv, .pointer (some ⟨g, 0, none⟩), .int .i64 x3, .int .i64 (1 + x3), .pointer (some ⟨g, 0, none⟩), undef, undef, .pointer (some ⟨g, 0, none⟩), undef, undef, undef, undef, undef, undef, undef, undef, undef, undef, undef, undef], []⟩ W := by
    intro W x1 m2 x3 gb lv ga hE h1 h2 h3 hB hL hA
    refine hN1 _ _ _ _ ?_
    refine wpAnyX_one (i := 13) (by kernel_rfl) rfl (fun K hK => ?_)
    obtain ⟨j, hS, hAd⟩ := hE.src
    go_simp
    go_wp2_with (go_at_call 28; refine (HSM.out j W hS).mono ?_; rintro e W2 ⟨x4, j2, rfl, hx0, hx1, hS2, hT2, hF2⟩)
    refine hK.out _ _ (fun _ => trivial) ?_
    clear hK K
    have hE := hE.turn hAd hS2 hT2 hF2
    have hB := hB.turn hT2 hg0
    have hA := hA.turn hT2 hg0
    have h4 := And.intro hx0 hx1
    refine wpAnyX_take (i := 14) (v := .int .i64 (1 + x4)) rfl (by kernel_rfl) (by kernel_rfl) (by kernel_rfl) (by kernel_rfl) (fun _ _ _ h => h) trivial (Or.inl ⟨by rfl, fun w hS => by go_simp; exact IntWalk.i64_in _ (by omega)⟩) ?_
    go_simp
    exact hN2 _ _ _ _ (n_4_1_1_1.out W2 x1 m2 x3 x4 gb lv ga hE h1 h2 h3 h4 hB hL hA)
  replace n_3_1_1_1 := Lib.hid n_3_1_1_1
  have n_4_1_0_0 : ∀ (W : World) (x1 : Int) (m2 : Nat) (x3 : Int) (x4 : Int) (gb : Nat) (hE : EN W0 W g A c l i true) (h1 : 0 ≤ x1 ∧ x1 < 50) (h2 : m2 < 13) (h3 : 0 ≤ x3 ∧ x3 < 4) (h4 : 0 ≤ x4 ∧ x4 < 1000000000000) (hB : BK W0 W gb (.cells #[.int .i64 1, .int .i64 1, .int .i64 1, .int .i64 2, .int .i64 3, .int .i64 3, .int .i64 4, .int .i64 5, .int .i64 5, .int .i64 6, .int .i64 7, .int .i64 8, .int .i64 9] 3)), N 5 #[true, true, true, true, true, true, true, true, false, true, true, true, true, true, true, true, false, false, false, false] ⟨#[.pointer (some ⟨g, 0, none⟩), .int .i64 n, undef, undef, .pointer (some ⟨gr, 0, none⟩), undef, .int .i64 n, .int .i64 (n + 1), .pointer (some ⟨g, 0, none⟩), .int .i64 x1, .slice (some ⟨gb, 0, none⟩) 13 13, .pointer (some ⟨g, 0, none⟩), .int .i64 (m2 : Int), .pointer (some ⟨gb, m2, none⟩), undef, .pointer (some ⟨g, 0, none⟩), .int .i64 x3, .int .i64 (1 + x3), .pointer (some ⟨g, 0, none⟩), .int .i64 x4, .int .i64 (1 + x4), .pointer (some ⟨g, 0, none⟩), undef, undef, undef, undef, undef, undef, undef, undef, undef, undef, undef, undef], []⟩ W := by
    intro W x1 m2 x3 x4 gb hE h1 h2 h3 h4 hB
    refine hN1 _ _ _ _ ?_
    refine wpAnyX_ready (rs := [8, 16, 18]) (by kernel_rfl) (by simp) (AllX.cons rfl (fun K hK => ?_) (AllX.cons rfl (fun K hK => ?_) (AllX.cons rfl (fun K hK => ?_) AllX.nil)))
    · obtain ⟨lv, hL, hc⟩ := hB.kind h2
      go_simp
      refine hK.out _ _ (fun _ => trivial) ?_
      clear hK K
      exact hN2 _ _ _ _ (n_4_1_1_0.out W x1 m2 x3 x4 gb lv hE h1 h2 h3 h4 hB hL)
    · obtain ⟨j, hS, hAd⟩ := hE.src
      go_simp
      go_wp2_with (go_at_call 27; refine (HN.out 9 j W hS (by omega) (by omega)).mono ?_; rintro e W2 ⟨x5, j2, rfl, hx0, hx1, hS2, hT2, hF2⟩)
      refine hK.out _ _ (fun _ => trivial) ?_
      clear hK K
      have hE := hE.turn hAd hS2 hT2 hF2
      have hB := hB.turn hT2 hg0
      have h5 := And.intro hx0 hx1
      exact hN2 _ _ _ _ (n_5_1_0_0.out W2 x1 m2 x3 x4 x5 gb hE h1 h2 h3 h4 h5 hB)
    · go_simp
      refine hK.out _ _ (fun _ => trivial) ?_
      clear hK K
      have q := (Below.refl W.heap.size W).alloc (Nat.le_refl _) (.cells #[.int .i64 0, .int .i64 0, .int .i64 0, .int .i64 0, .int .i64 0, .int .i64 0] 26)
      have hA := BK.new hE (.cells #[.int .i64 0, .int .i64 0, .int .i64 0, .int .i64 0, .int .i64 0, .int .i64 0] 26)
      have hE1 := hE.below q
      have hB := hB.below q
      generalize hV : W.alloc (.cells #[.int .i64 0, .int .i64 0, .int .i64 0, .int .i64 0, .int .i64 0, .int .i64 0] 26) = W2 at hE1 hA hB ⊢
      clear hV q
      generalize hV : W.heap.size = ga at hA ⊢
      clear hV
      exact hN2 _ _ _ _ (n_4_1_0_1.out W2 x1 m2 x3 x4 gb ga hE1 h1 h2 h3 h4 hB hA)
  replace n_4_1_0_0 := Lib.hid n_4_1_0_0
  have n_5_0_0_1 : ∀ (W : World) (x1 : Int) (m2 : Nat) (x3 : Int) (x4 : Int) (x5 : Int) (ga : Nat) (hE : EN W0 W g A c l i true) (h1 : 0 ≤ x1 ∧ x1 < 50) (h2 : m2 < 13) (h3 : 0 ≤ x3 ∧ x3 < 4) (h4 : 0 ≤ x4 ∧ x4 < 1000000000000) (h5 : 0 ≤ x5 ∧ x5 < 9) (hA : BK W0 W ga (.cells #[.int .i64 0, .int .i64 0, .int .i64 0, .int .i64 0, .int .i64 0, .int .i64 0] 26)), N 5 #[true, true, true, true, false, true, true, false, false, true, true, true, true, true, true, true, true, false, true, false] ⟨#[.pointer (some ⟨g, 0, none⟩), .int .i64 n, undef, undef, .pointer (some ⟨gr, 0, none⟩), .pointer (some ⟨ga, 0, none⟩), .int .i64 n, .int .i64 (n + 1), .pointer (some ⟨g, 0, none⟩), .int .i64 x1, undef, .pointer (some ⟨g, 0, none⟩), .int .i64 (m2 : Int), undef, undef, .pointer (some ⟨g, 0, none⟩), .int .i64 x3, .int .i64 (1 + x3), .pointer (some ⟨g, 0, none⟩), .int .i64 x4, .int .i64 (1 + x4), .pointer (some ⟨g, 0, none⟩), .int .i64 x5, undef, undef, undef, undef, undef, undef, undef, undef, undef, undef, undef], []⟩ W := by
    intro W x1 m2 x3 x4 x5 ga hE h1 h2 h3 h4 h5 hA
    refine hN1 _ _ _ _ ?_
    refine wpAnyX_one (i := 4) (by kernel_rfl) rfl (fun K hK => ?_)
    go_simp
    refine hK.out _ _ (fun _ => trivial) ?_
    clear hK K
    have q := (Below.refl W.heap.size W).alloc (Nat.le_refl _) (.cells #[.int .i64 1, .int .i64 1, .int .i64 1, .int .i64 2, .int .i64 3, .int .i64 3, .int .i64 4, .int .i64 5, .int .i64 5, .int .i64 6, .int .i64 7, .int .i64 8, .int .i64 9] 3)
    have hB := BK.new hE (.cells #[.int .i64 1, .int .i64 1, .int .i64 1, .int .i64 2, .int .i64 3, .int .i64 3, .int .i64 4, .int .i64 5, .int .i64 5, .int .i64 6, .int .i64 7, .int .i64 8, .int .i64 9] 3)
    have hE1 := hE.below q
    have hA := hA.below q
    generalize hV : W.alloc (.cells #[.int .i64 1, .int .i64 1, .int .i64 1, .int .i64 2, .int .i64 3, .int .i64 3, .int .i64 4, .int .i64 5, .int .i64 5, .int .i64 6, .int .i64 7, .int .i64 8, .int .i64 9] 3) = W2 at hE1 hB hA ⊢
    clear hV q
    generalize hV : W.heap.size = gb at hB ⊢
    clear hV
    refine wpAnyX_take (i := 7) (v := .pointer (some ⟨gb, m2, none⟩)) rfl (by kernel_rfl) (by kernel_rfl) (by kernel_rfl) (by kernel_rfl) (fun _ _ _ h => h) trivial (Or.inl ⟨by rfl, fun w hS => by go_simp; first | done | (intro h13; omega)⟩) ?_
    go_simp
    exact hN2 _ _ _ _ (n_5_1_0_1.out W2 x1 m2 x3 x4 x5 gb ga hE1 h1 h2 h3 h4 h5 hB hA)
  replace n_5_0_0_1 := Lib.hid n_5_0_0_1
  have n_3_1_0_1 : ∀ (W : World) (x1 : Int) (m2 : Nat) (x3 : Int) (gb : Nat) (ga : Nat) (hE : EN W0 W g A c l i true) (h1 : 0 ≤ x1 ∧ x1 < 50) (h2 : m2 < 13) (h3 : 0 ≤ x3 ∧ x3 < 4) (hB : BK W0 W gb (.cells #[.int .i64 1, .int .i64 1, .int .i64 1, .int .i64 2, .int .i64 3, .int .i64 3, .int .i64 4, .int .i64 5, .int .i64 5, .int .i64 6, .int .i64 7, .int .i64 8, .int .i64 9] 3)) (hA : BK W0 W ga (.cells #[.int .i64 0, .int .i64 0, .int .i64 0, .int .i64 0, .int .i64 0, .int .i64 0] 26)), N 6 #[true, true, true, true, true, true, true, true, false, true, true, true, true, false, false, true, false, false, true, false] ⟨#[.pointer (some ⟨g, 0, none⟩), .int .i64 n, undef, undef, .pointer (some ⟨gr, 0, none⟩), .pointer (some ⟨ga, 0, none⟩), .int .i64 n, .int .i64 (n + 1), .pointer (some ⟨g, 0, none⟩), .int .i64 x1, .slice (some ⟨gb, 0, none⟩) 13 13, .pointer (some ⟨g, 0, none⟩), .int .i64 (m2 : Int), .pointer (some ⟨gb, m2, none⟩), undef, .pointer (some ⟨g, 0, none⟩), .int .i64 x3, .int .i64 (1 + x3), .pointer (some ⟨g, 0, none⟩), undef, undef, .pointer (some ⟨g, 0, none⟩), undef, undef, undef, undef, undef, undef, undef, undef, undef, undef, undef, undef], []⟩ W := by
    intro W x1 m2 x3 gb ga hE h1 h2 h3 hB hA
    refine hN1 _ _ _ _ ?_
    refine wpAnyX_ready (rs := [8, 13]) (by kernel_rfl) (by simp) (AllX.cons rfl (fun K hK => ?_) (AllX.cons rfl (fun K hK => ?_) AllX.nil))
    · obtain ⟨lv, hL, hc⟩ := hB.kind h2
      go_simp
      refine hK.out _ _ (fun _ => trivial) ?_
      clear hK K
      exact hN2 _ _ _ _ (n_3_1_1_1.out W x1 m2 x3 gb lv ga hE h1 h2 h3 hB hL hA)
    · obtain ⟨j, hS, hAd⟩ := hE.src
      go_simp
      go_wp2_with (go_at_call 28; refine (HSM.out j W hS).mono ?_; rintro e W2 ⟨x4, j2, rfl, hx0, hx1, hS2, hT2, hF2⟩)
      refine hK.out _ _ (fun _ => trivial) ?_
      clear hK K
      have hE := hE.turn hAd hS2 hT2 hF2
      have hB := hB.turn hT2 hg0
      have hA := hA.turn hT2 hg0
      have h4 := And.intro hx0 hx1
      refine wpAnyX_take (i := 14) (v := .int .i64 (1 + x4)) rfl (by kernel_rfl) (by kernel_rfl) (by kernel_rfl) (by kernel_rfl) (fun _ _ _ h => h) trivial (Or.inl ⟨by rfl, fun w hS => by go_simp; exact IntWalk.i64_in _ (by omega)⟩) ?_
      go_simp
      exact hN2 _ _ _ _ (n_4_1_0_1.out W2 x1 m2 x3 x4 gb ga hE h1 h2 h3 h4 hB hA)
  replace n_3_1_0_1 := Lib.hid n_3_1_0_1
  have n_3_1_1_0 : ∀ (W : World) (x1 : Int) (m2 : Nat) (x3 : Int) (gb : Nat) (lv : Int) (hE : EN W0 W g A c l i true) (h1 : 0 ≤ x1 ∧ x1 < 50) (h2 : m2 < 13) (h3 : 0 ≤ x3 ∧ x3 < 4) (hB : BK W0 W gb (.cells #[.int .i64 1, .int .i64 1, .int .i64 1, .int .i64 2, .int .i64 3, .int .i64 3, .int .i64 4, .int .i64 5, .int .i64 5, .int .i64 6, .int .i64 7, .int .i64 8, .int .i64 9] 3)) (hL : 1 ≤ lv ∧ lv ≤ 9), N 6 #[true, true, true, true, true, true, true, true, true, true, true, true, true, false, false, true, false, false, false, false] ⟨#[.pointer (some ⟨g, 0, none⟩), .int .i64 n, undef, undef, .pointer (some ⟨gr, 0, none⟩), undef, .int .i64 n, .int .i64 (n + 1), .pointer (some ⟨g, 0, none⟩), .int .i64 x1, .slice (some ⟨gb, 0, none⟩) 13 13, .pointer (some ⟨g, 0, none⟩), .int .i64 (m2 : Int), .pointer (some ⟨gb, m2, none⟩), .int .i64 lv, .pointer (some ⟨g, 0, none⟩), .int .i64 x3, .int .i64 (1 + x3), .pointer (some ⟨g, 0, none⟩), undef, undef, .pointer (some ⟨g, 0, none⟩), undef, undef, undef, undef, undef, undef, undef, undef, undef, undef, undef, undef], []⟩ W := by
    intro W x1 m2 x3 gb lv hE h1 h2 h3 hB hL
    refine hN1 _ _ _ _ ?_
    refine wpAnyX_ready (rs := [13, 18]) (by kernel_rfl) (by simp) (AllX.cons rfl (fun K hK => ?_) (AllX.cons rfl (fun K hK => ?_) AllX.nil))
    · obtain ⟨j, hS, hAd⟩ := hE.src
      go_simp
      go_wp2_with (go_at_call 28; refine (HSM.out j W hS).mono ?_; rintro e W2 ⟨x4, j2, rfl, hx0, hx1, hS2, hT2, hF2⟩)
      refine hK.out _ _ (fun _ => trivial) ?_
      clear hK K
      have hE := hE.turn hAd hS2 hT2 hF2
      have hB := hB.turn hT2 hg0
      have h4 := And.intro hx0 hx1
      refine wpAnyX_take (i := 14) (v := .int .i64 (1 + x4)) rfl (by kernel_rfl) (by kernel_rfl) (by kernel_rfl) (by kernel_rfl) (fun _ _ _ h => h) trivial (Or.inl ⟨by rfl, fun w hS => by go_simp; exact IntWalk.i64_in _ (by omega)⟩) ?_
      go_simp
      exact hN2 _ _ _ _ (n_4_1_1_0.out W2 x1 m2 x3 x4 gb lv hE h1 h2 h3 h4 hB hL)
    · go_simp
      refine hK.out _ _ (fun _ => trivial) ?_
      clear hK K
      have q := (Below.refl W.heap.size W).alloc (Nat.le_refl _) (.cells #[.int .i64 0, .int .i64 0, .int .i64 0, .int .i64 0, .int .i64 0, .int .i64 0] 26)
      have hA := BK.new hE (.cells #[.int .i64 0, .int .i64 0, .int .i64 0, .int .i64 0, .int .i64 0, .int .i64 0] 26)
      have hE1 := hE.below q
      have hB := hB.below q
      generalize hV : W.alloc (.cells #[.int .i64 0, .int .i64 0, .int .i64 0, .int .i64 0, .int .i64 0, .int .i64 0] 26) = W2 at hE1 hA hB ⊢
      clear hV q
      generalize hV : W.heap.size = ga at hA ⊢
      clear hV
      exact hN2 _ _ _ _ (n_3_1_1_1.out W2 x1 m2 x3 gb lv ga hE1 h1 h2 h3 hB hL hA)
  replace n_3_1_1_0 := Lib.hid n_3_1_1_0
  have n_4_0_0_1 : ∀ (W : World) (x1 : Int) (m2 : Nat) (x3 : Int) (x4 : Int) (ga : Nat) (hE : EN W0 W g A c l i true) (h1 : 0 ≤ x1 ∧ x1 < 50) (h2 : m2 < 13) (h3 : 0 ≤ x3 ∧ x3 < 4) (h4 : 0 ≤ x4 ∧ x4 < 1000000000000) (hA : BK W0 W ga (.cells #[.int .i64 0, .int .i64 0, .int .i64 0, .int .i64 0, .int .i64 0, .int .i64 0] 26)), N 6 #[true, true, true, true, false, true, true, false, false, true, true, true, true, true, true, true, false, false, true, false] ⟨#[.pointer (some ⟨g, 0, none⟩), .int .i64 n, undef, undef, .pointer (some ⟨gr, 0, none⟩), .pointer (some ⟨ga, 0, none⟩), .int .i64 n, .int .i64 (n + 1), .pointer (some ⟨g, 0, none⟩), .int .i64 x1, undef, .pointer (some ⟨g, 0, none⟩), .int .i64 (m2 : Int), undef, undef, .pointer (some ⟨g, 0, none⟩), .int .i64 x3, .int .i64 (1 + x3), .pointer (some ⟨g, 0, none⟩), .int .i64 x4, .int .i64 (1 + x4), .pointer (some ⟨g, 0, none⟩), undef, undef, undef, undef, undef, undef, undef, undef, undef, undef, undef, undef], []⟩ W := by
    intro W x1 m2 x3 x4 ga hE h1 h2 h3 h4 hA
    refine hN1 _ _ _ _ ?_
    refine wpAnyX_ready (rs := [4, 16]) (by kernel_rfl) (by simp) (AllX.cons rfl (fun K hK => ?_) (AllX.cons rfl (fun K hK => ?_) AllX.nil))
    · go_simp
      refine hK.out _ _ (fun _ => trivial) ?_
      clear hK K
      have q := (Below.refl W.heap.size W).alloc (Nat.le_refl _) (.cells #[.int .i64 1, .int .i64 1, .int .i64 1, .int .i64 2, .int .i64 3, .int .i64 3, .int .i64 4, .int .i64 5, .int .i64 5, .int .i64 6, .int .i64 7, .int .i64 8, .int .i64 9] 3)
      have hB := BK.new hE (.cells #[.int .i64 1, .int .i64 1, .int .i64 1, .int .i64 2, .int .i64 3, .int .i64 3, .int .i64 4, .int .i64 5, .int .i64 5, .int .i64 6, .int .i64 7, .int .i64 8, .int .i64 9] 3)
      have hE1 := hE.below q
      have hA := hA.below q
      generalize hV : W.alloc (.cells #[.int .i64 1, .int .i64 1, .int .i64 1, .int .i64 2, .int .i64 3, .int .i64 3, .int .i64 4, .int .i64 5, .int .i64 5, .int .i64 6, .int .i64 7, .int .i64 8, .int .i64 9] 3) = W2 at hE1 hB hA ⊢
      clear hV q
      generalize hV : W.heap.size = gb at hB ⊢
      clear hV
      refine wpAnyX_take (i := 7) (v := .pointer (some ⟨gb, m2, none⟩)) rfl (by kernel_rfl) (by kernel_rfl) (by kernel_rfl) (by kernel_rfl) (fun _ _ _ h => h) trivial (Or.inl ⟨by rfl, fun w hS => by go_simp; first | done | (intro h13; omega)⟩) ?_
      go_simp
      exact hN2 _ _ _ _ (n_4_1_0_1.out W2 x1 m2 x3 x4 gb ga hE1 h1 h2 h3 h4 hB hA)
    · obtain ⟨j, hS, hAd⟩ := hE.src
      go_simp
      go_wp2_with (go_at_call 27; refine (HN.out 9 j W hS (by omega) (by omega)).mono ?_; rintro e W2 ⟨x5, j2, rfl, hx0, hx1, hS2, hT2, hF2⟩)
      refine hK.out _ _ (fun _ => trivial) ?_
      clear hK K
      have hE := hE.turn hAd hS2 hT2 hF2
      have hA := hA.turn hT2 hg0
      have h5 := And.intro hx0 hx1
      exact hN2 _ _ _ _ (n_5_0_0_1.out W2 x1 m2 x3 x4 x5 ga hE h1 h2 h3 h4 h5 hA)
  replace n_4_0_0_1 := Lib.hid n_4_0_0_1
  have n_5_0_0_0 : ∀ (W : World) (x1 : Int) (m2 : Nat) (x3 : Int) (x4 : Int) (x5 : Int) (hE : EN W0 W g A c l i true) (h1 : 0 ≤ x1 ∧ x1 < 50) (h2 : m2 < 13) (h3 : 0 ≤ x3 ∧ x3 < 4) (h4 : 0 ≤ x4 ∧ x4 < 1000000000000) (h5 : 0 ≤ x5 ∧ x5 < 9), N 6 #[true, true, true, true, false, true, true, false, false, true, true, true, true, true, true, true, true, false, false, false] ⟨#[.pointer (some ⟨g, 0, none⟩), .int .i64 n, undef, undef, .pointer (some ⟨gr, 0, none⟩), undef, .int .i64 n, .int .i64 (n + 1), .pointer (some ⟨g, 0, none⟩), .int .i64 x1, undef, .pointer (some ⟨g, 0, none⟩), .int .i64 (m2 : Int), undef, undef, .pointer (some ⟨g, 0, none⟩), .int .i64 x3, .int .i64 (1 + x3), .pointer (some ⟨g, 0, none⟩), .int .i64 x4, .int .i64 (1 + x4), .pointer (some ⟨g, 0, none⟩), .int .i64 x5, undef, undef, undef, undef, undef, undef, undef, undef, undef, undef, undef], []⟩ W := by
    intro W x1 m2 x3 x4 x5 hE h1 h2 h3 h4 h5
    refine hN1 _ _ _ _ ?_
    refine wpAnyX_ready (rs := [4, 18]) (by kernel_rfl) (by simp) (AllX.cons rfl (fun K hK => ?_) (AllX.cons rfl (fun K hK => ?_) AllX.nil))
    · go_simp
      refine hK.out _ _ (fun _ => trivial) ?_
      clear hK K
      have q := (Below.refl W.heap.size W).alloc (Nat.le_refl _) (.cells #[.int .i64 1, .int .i64 1, .int .i64 1, .int .i64 2, .int .i64 3, .int .i64 3, .int .i64 4, .int .i64 5, .int .i64 5, .int .i64 6, .int .i64 7, .int .i64 8, .int .i64 9] 3)
      have hB := BK.new hE (.cells #[.int .i64 1, .int .i64 1, .int .i64 1, .int .i64 2, .int .i64 3, .int .i64 3, .int .i64 4, .int .i64 5, .int .i64 5, .int .i64 6, .int .i64 7, .int .i64 8, .int .i64 9] 3)
      have hE1 := hE.below q
      generalize hV : W.alloc (.cells #[.int .i64 1, .int .i64 1, .int .i64 1, .int .i64 2, .int .i64 3, .int .i64 3, .int .i64 4, .int .i64 5, .int .i64 5, .int .i64 6, .int .i64 7, .int .i64 8, .int .i64 9] 3) = W2 at hE1 hB ⊢
      clear hV q
      generalize hV : W.heap.size = gb at hB ⊢
      clear hV
      refine wpAnyX_take (i := 7) (v := .pointer (some ⟨gb, m2, none⟩)) rfl (by kernel_rfl) (by kernel_rfl) (by kernel_rfl) (by kernel_rfl) (fun _ _ _ h => h) trivial (Or.inl ⟨by rfl, fun w hS => by go_simp; first | done | (intro h13; omega)⟩) ?_
      go_simp
      exact hN2 _ _ _ _ (n_5_1_0_0.out W2 x1 m2 x3 x4 x5 gb hE1 h1 h2 h3 h4 h5 hB)
    · go_simp
      refine hK.out _ _ (fun _ => trivial) ?_
      clear hK K
      have q := (Below.refl W.heap.size W).alloc (Nat.le_refl _) (.cells #[.int .i64 0, .int .i64 0, .int .i64 0, .int .i64 0, .int .i64 0, .int .i64 0] 26)
      have hA := BK.new hE (.cells #[.int .i64 0, .int .i64 0, .int .i64 0, .int .i64 0, .int .i64 0, .int .i64 0] 26)
      have hE1 := hE.below q
      generalize hV : W.alloc (.cells #[.int .i64 0, .int .i64 0, .int .i64 0, .int .i64 0, .int .i64 0, .int .i64 0] 26) = W2 at hE1 hA ⊢
      clear hV q
      generalize hV : W.heap.size = ga at hA ⊢
      clear hV
      exact hN2 _ _ _ _ (n_5_0_0_1.out W2 x1 m2 x3 x4 x5 ga hE1 h1 h2 h3 h4 h5 hA)
  replace n_5_0_0_0 := Lib.hid n_5_0_0_0
  have n_2_1_1_1 : ∀ (W : World) (x1 : Int) (m2 : Nat) (gb : Nat) (lv : Int) (ga : Nat) (hE : EN W0 W g A c l i true) (h1 : 0 ≤ x1 ∧ x1 < 50) (h2 : m2 < 13) (hB : BK W0 W gb (.cells #[.int .i64 1, .int .i64 1, .int .i64 1, .int .i64 2, .int .i64 3, .int .i64 3, .int .i64 4, .int .i64 5, .int .i64 5, .int .i64 6, .int .i64 7, .int .i64 8, .int .i64 9] 3)) (hL : 1 ≤ lv ∧ lv ≤ 9) (hA : BK W0 W ga (.cells #[.int .i64 0, .int .i64 0, .int .i64 0, .int .i64 0, .int .i64 0, .int .i64 0] 26)), N 7 #[true, true, true, true, true, true, true, true, true, true, false, false, true, false, false, true, false, false, true, false] ⟨#[.pointer (some ⟨g, 0, none⟩), .int .i64 n, undef, undef, .pointer (some ⟨gr, 0, none⟩), .pointer (some ⟨ga, 0, none⟩), .int .i64 n, .int .i64 (n + 1), .pointer (some ⟨g, 0, none⟩), .int .i64 x1, .slice (some ⟨gb, 0, none⟩) 13 13, .pointer (some ⟨g, 0, none⟩), .int .i64 (m2 : Int), .pointer (some ⟨gb, m2, none⟩), .int .i64 lv, .pointer (some ⟨g, 0, none⟩), undef, undef, .pointer (some ⟨g, 0, none⟩), undef, undef, .pointer (some ⟨g, 0, none⟩), undef, undef, undef, undef, undef, undef, undef, undef, undef, undef, undef, undef], []⟩ W := by
    intro W x1 m2 gb lv ga hE h1 h2 hB hL hA
    refine hN1 _ _ _ _ ?_
    refine wpAnyX_one (i := 10) (by kernel_rfl) rfl (fun K hK => ?_)
    obtain ⟨j, hS, hAd⟩ := hE.src
    go_simp
    go_wp2_with (go_at_call 27; refine (HN.out 4 j W hS (by omega) (by omega)).mono ?_; rintro e W2 ⟨x3, j2, rfl, hx0, hx1, hS2, hT2, hF2⟩)
    refine hK.out _ _ (fun _ => trivial) ?_
    clear hK K
    have hE := hE.turn hAd hS2 hT2 hF2
    have hB := hB.turn hT2 hg0
    have hA := hA.turn hT2 hg0
    have h3 := And.intro hx0 hx1
    refine wpAnyX_take (i := 11) (v := .int .i64 (1 + x3)) rfl (by kernel_rfl) (by kernel_rfl) (by kernel_rfl) (by kernel_rfl) (fun _ _ _ h => h) trivial (Or.inl ⟨by rfl, fun w hS => by go_simp; exact IntWalk.i64_in _ (by omega)⟩) ?_
    go_simp
    exact hN2 _ _ _ _ (n_3_1_1_1.out W2 x1 m2 x3 gb lv ga hE h1 h2 h3 hB hL hA)
  replace n_2_1_1_1 := Lib.hid n_2_1_1_1
  have n_3_1_0_0 : ∀ (W : World) (x1 : Int) (m2 : Nat) (x3 : Int) (gb : Nat) (hE : EN W0 W g A c l i true) (h1 : 0 ≤ x1 ∧ x1 < 50) (h2 : m2 < 13) (h3 : 0 ≤ x3 ∧ x3 < 4) (hB : BK W0 W gb (.cells #[.int .i64 1, .int .i64 1, .int .i64 1, .int .i64 2, .int .i64 3, .int .i64 3, .int .i64 4, .int .i64 5, .int .i64 5, .int .i64 6, .int .i64 7, .int .i64 8, .int .i64 9] 3)), N 7 #[true, true, true, true, true, true, true, true, false, true, true, true, true, false, false, true, false, false, false, false] ⟨#[.pointer (some ⟨g, 0, none⟩), .int .i64 n, undef, undef, .pointer (some ⟨gr, 0, none⟩), undef, .int .i64 n, .int .i64 (n + 1), .pointer (some ⟨g, 0, none⟩), .int .i64 x1, .slice (some ⟨gb, 0, none⟩) 13 13, .pointer (some ⟨g, 0, none⟩), .int .i64 (m2 : Int), .pointer (some ⟨gb, m2, none⟩), undef, .pointer (some ⟨g, 0, none⟩), .int .i64 x3, .int .i64 (1 + x3), .pointer (some ⟨g, 0, none⟩), undef, undef, .pointer (some ⟨g, 0, none⟩), undef, undef, undef, undef, undef, undef, undef, undef, undef, undef, undef, undef], []⟩ W := by
    intro W x1 m2 x3 gb hE h1 h2 h3 hB
    refine hN1 _ _ _ _ ?_
    refine wpAnyX_ready (rs := [8, 13, 18]) (by kernel_rfl) (by simp) (AllX.cons rfl (fun K hK => ?_) (AllX.cons rfl (fun K hK => ?_) (AllX.cons rfl (fun K hK => ?_) AllX.nil)))
    · obtain ⟨lv, hL, hc⟩ := hB.kind h2
      go_simp
      refine hK.out _ _ (fun _ => trivial) ?_
      clear hK K
      exact hN2 _ _ _ _ (n_3_1_1_0.out W x1 m2 x3 gb lv hE h1 h2 h3 hB hL)
    · obtain ⟨j, hS, hAd⟩ := hE.src
      go_simp
      go_wp2_with (go_at_call 28; refine (HSM.out j W hS).mono ?_; rintro e W2 ⟨x4, j2, rfl, hx0, hx1, hS2, hT2, hF2⟩)
      refine hK.out _ _ (fun _ => trivial) ?_
      clear hK K
      have hE := hE.turn hAd hS2 hT2 hF2
      have hB := hB.turn hT2 hg0
      have h4 := And.intro hx0 hx1
      refine wpAnyX_take (i := 14) (v := .int .i64 (1 + x4)) rfl (by kernel_rfl) (by kernel_rfl) (by kernel_rfl) (by kernel_rfl) (fun _ _ _ h => h) trivial (Or.inl ⟨by rfl, fun w hS => by go_simp; exact IntWalk.i64_in _ (by omega)⟩) ?_
      go_simp
      exact hN2 _ _ _ _ (n_4_1_0_0.out W2 x1 m2 x3 x4 gb hE h1 h2 h3 h4 hB)
    · go_simp
      refine hK.out _ _ (fun _ => trivial) ?_
      clear hK K
      have q := (Below.refl W.heap.size W).alloc (Nat.le_refl _) (.cells #[.int .i64 0, .int .i64 0, .int .i64 0, .int .i64 0, .int .i64 0, .int .i64 0] 26)
      have hA := BK.new hE (.cells #[.int .i64 0, .int .i64 0, .int .i64 0, .int .i64 0, .int .i64 0, .int .i64 0] 26)
      have hE1 := hE.below q
      have hB := hB.below q
      generalize hV : W.alloc (.cells #[.int .i64 0, .int .i64 0, .int .i64 0, .int .i64 0, .int .i64 0, .int .i64 0] 26) = W2 at hE1 hA hB ⊢
      clear hV q
      generalize hV : W.heap.size = ga at hA ⊢
      clear hV
      exact hN2 _ _ _ _ (n_3_1_0_1.out W2 x1 m2 x3 gb ga hE1 h1 h2 h3 hB hA)
  replace n_3_1_0_0 := Lib.hid n_3_1_0_0
  have n_4_0_0_0 : ∀ (W : World) (x1 : Int) (m2 : Nat) (x3 : Int) (x4 : Int) (hE : EN W0 W g A c l i true) (h1 : 0 ≤ x1 ∧ x1 < 50) (h2 : m2 < 13) (h3 : 0 ≤ x3 ∧ x3 < 4) (h4 : 0 ≤ x4 ∧ x4 < 1000000000000), N 7 #[true, true, true, true, false, true, true, false, false, true, true, true, true, true, true, true, false, false, false, false] ⟨#[.pointer (some ⟨g, 0, none⟩), .int .i64 n, undef, undef, .pointer (some ⟨gr, 0, none⟩), undef, .int .i64 n, .int .i64 (n + 1), .pointer (some ⟨g, 0, none⟩), .int .i64 x1, undef, .pointer (some ⟨g, 0, none⟩), .int .i64 (m2 : Int), undef, undef, .pointer (some ⟨g, 0, none⟩), .int .i64 x3, .int .i64 (1 + x3), .pointer (some ⟨g, 0, none⟩), .int .i64 x4, .int .i64 (1 + x4), .pointer (some ⟨g, 0, none⟩), undef, undef, undef, undef, undef, undef, undef, undef, undef, undef, undef, undef], []⟩ W := by
    intro W x1 m2 x3 x4 hE h1 h2 h3 h4
    refine hN1 _ _ _ _ ?_
    refine wpAnyX_ready (rs := [4, 16, 18]) (by kernel_rfl) (by simp) (AllX.cons rfl (fun K hK => ?_) (AllX.cons rfl (fun K hK => ?_) (AllX.cons rfl (fun K hK => ?_) AllX.nil)))
    · go_simp
      refine hK.out _ _ (fun _ => trivial) ?_
      clear hK K
      have q := (Below.refl W.heap.size W).alloc (Nat.le_refl _) (.cells #[.int .i64 1, .int .i64 1, .int .i64 1, .int .i64 2, .int .i64 3, .int .i64 3, .int .i64 4, .int .i64 5, .int .i64 5, .int .i64 6, .int .i64 7, .int .i64 8, .int .i64 9] 3)
      have hB := BK.new hE (.cells #[.int .i64 1, .int .i64 1, .int .i64 1, .int .i64 2, .int .i64 3, .int .i64 3, .int .i64 4, .int .i64 5, .int .i64 5, .int .i64 6, .int .i64 7, .int .i64 8, .int .i64 9] 3)
      have hE1 := hE.below q
      generalize hV : W.alloc (.cells #[.int .i64 1, .int .i64 1, .int .i64 1, .int .i64 2, .int .i64 3, .int .i64 3, .int .i64 4, .int .i64 5, .int .i64 5, .int .i64 6, .int .i64 7, .int .i64 8, .int .i64 9] 3) = W2 at hE1 hB ⊢
      clear hV q
      generalize hV : W.heap.size = gb at hB ⊢
      clear hV
      refine wpAnyX_take (i := 7) (v := .pointer (some ⟨gb, m2, none⟩)) rfl (by kernel_rfl) (by kernel_rfl) (by kernel_rfl) (by kernel_rfl) (fun _ _ _ h => h) trivial (Or.inl ⟨by rfl, fun w hS => by go_simp; first | done | (intro h13; omega)⟩) ?_
      go_simp
      exact hN2 _ _ _ _ (n_4_1_0_0.out W2 x1 m2 x3 x4 gb hE1 h1 h2 h3 h4 hB)
    · obtain ⟨j, hS, hAd⟩ := hE.src
      go_simp
      go_wp2_with (go_at_call 27; refine (HN.out 9 j W hS (by omega) (by omega)).mono ?_; rintro e W2 ⟨x5, j2, rfl, hx0, hx1, hS2, hT2, hF2⟩)
      refine hK.out _ _ (fun _ => trivial) ?_
      clear hK K
      have hE := hE.turn hAd hS2 hT2 hF2
      have h5 := And.intro hx0 hx1
      exact hN2 _ _ _ _ (n_5_0_0_0.out W2 x1 m2 x3 x4 x5 hE h1 h2 h3 h4 h5)
    · go_simp
      refine hK.out _ _ (fun _ => trivial) ?_
      clear hK K
      have q := (Below.refl W.heap.size W).alloc (Nat.le_refl _) (.cells #[.int .i64 0, .int .i64 0, .int .i64 0, .int .i64 0, .int .i64 0, .int .i64 0] 26)
      have hA := BK.new hE (.cells #[.int .i64 0, .int .i64 0, .int .i64 0, .int .i64 0, .int .i64 0, .int .i64 0] 26)
      have hE1 := hE.below q
      generalize hV : W.alloc (.cells #[.int .i64 0, .int .i64 0, .int .i64 0, .int .i64 0, .int .i64 0, .int .i64 0] 26) = W2 at hE1 hA ⊢
      clear hV q
      generalize hV : W.heap.size = ga at hA ⊢
      clear hV
      exact hN2 _ _ _ _ (n_4_0_0_1.out W2 x1 m2 x3 x4 ga hE1 h1 h2 h3 h4 hA)
  replace n_4_0_0_0 := Lib.hid n_4_0_0_0
  have n_2_1_0_1 : ∀ (W : World) (x1 : Int) (m2 : Nat) (gb : Nat) (ga : Nat) (hE : EN W0 W g A c l i true) (h1 : 0 ≤ x1 ∧ x1 < 50) (h2 : m2 < 13) (hB : BK W0 W gb (.cells #[.int .i64 1, .int .i64 1, .int .i64 1, .int .i64 2, .int .i64 3, .int .i64 3, .int .i64 4, .int .i64 5, .int .i64 5, .int .i64 6, .int .i64 7, .int .i64 8, .int .i64 9] 3)) (hA : BK W0 W ga (.cells #[.int .i64 0, .int .i64 0, .int .i64 0, .int .i64 0, .int .i64 0, .int .i64 0] 26)), N 8 #[true, true, true, true, true, true, true, true, false, true, false, false, true, false, false, true, false, false, true, false] ⟨#[.pointer (some ⟨g, 0, none⟩), .int .i64 n, undef, undef, .pointer (some ⟨gr, 0, none⟩), .pointer (some ⟨ga, 0, none⟩), .int .i64 n, .int .i64 (n + 1), .pointer (some ⟨g, 0, none⟩), .int .i64 x1, .slice (some ⟨gb, 0, none⟩) 13 13, .pointer (some ⟨g, 0, none⟩), .int .i64 (m2 : Int), .pointer (some ⟨gb, m2, none⟩), undef, .pointer (some ⟨g, 0, none⟩), undef, undef, .pointer (some ⟨g, 0, none⟩), undef, undef, .pointer (some ⟨g, 0, none⟩), undef, undef, undef, undef, undef, undef, undef, undef, undef, undef, undef, undef], []⟩ W := by
    intro W x1 m2 gb ga hE h1 h2 hB hA
    refine hN1 _ _ _ _ ?_
    refine wpAnyX_ready (rs := [8, 10]) (by kernel_rfl) (by simp) (AllX.cons rfl (fun K hK => ?_) (AllX.cons rfl (fun K hK => ?_) AllX.nil))
    · obtain ⟨lv, hL, hc⟩ := hB.kind h2
      go_simp
      refine hK.out _ _ (fun _ => trivial) ?_
      clear hK K
      exact hN2 _ _ _ _ (n_2_1_1_1.out W x1 m2 gb lv ga hE h1 h2 hB hL hA)
    · obtain ⟨j, hS, hAd⟩ := hE.src
      go_simp
      go_wp2_with (go_at_call 27; refine (HN.out 4 j W hS (by omega) (by omega)).mono ?_; rintro e W2 ⟨x3, j2, rfl, hx0, hx1, hS2, hT2, hF2⟩)
      refine hK.out _ _ (fun _ => trivial) ?_
      clear hK K
      have hE := hE.turn hAd hS2 hT2 hF2
      have hB := hB.turn hT2 hg0
      have hA := hA.turn hT2 hg0
      have h3 := And.intro hx0 hx1
      refine wpAnyX_take (i := 11) (v := .int .i64 (1 + x3)) rfl (by kernel_rfl) (by kernel_rfl) (by kernel_rfl) (by kernel_rfl) (fun _ _ _ h => h) trivial (Or.inl ⟨by rfl, fun w hS => by go_simp; exact IntWalk.i64_in _ (by omega)⟩) ?_
      go_simp
      exact hN2 _ _ _ _ (n_3_1_0_1.out W2 x1 m2 x3 gb ga hE h1 h2 h3 hB hA)
  replace n_2_1_0_1 := Lib.hid n_2_1_0_1
  have n_2_1_1_0 : ∀ (W : World) (x1 : Int) (m2 : Nat) (gb : Nat) (lv : Int) (hE : EN W0 W g A c l i true) (h1 : 0 ≤ x1 ∧ x1 < 50) (h2 : m2 < 13) (hB : BK W0 W gb (.cells #[.int .i64 1, .int .i64 1, .int .i64 1, .int .i64 2, .int .i64 3, .int .i64 3, .int .i64 4, .int .i64 5, .int .i64 5, .int .i64 6, .int .i64 7, .int .i64 8, .int .i64 9] 3)) (hL : 1 ≤ lv ∧ lv ≤ 9), N 8 #[true, true, true, true, true, true, true, true, true, true, false, false, true, false, false, true, false, false, false, false] ⟨#[.pointer (some ⟨g, 0, none⟩), .int .i64 n, undef, undef, .pointer (some ⟨gr, 0, none⟩), undef, .int .i64 n, .int .i64 (n + 1), .pointer (some ⟨g, 0, none⟩), .int .i64 x1, .slice (some ⟨gb, 0, none⟩) 13 13, .pointer (some ⟨g, 0, none⟩), .int .i64 (m2 : Int), .pointer (some ⟨gb, m2, none⟩), .int .i64 lv, .pointer (some ⟨g, 0, none⟩), undef, undef, .pointer (some ⟨g, 0, none⟩), undef, undef, .pointer (some ⟨g, 0, none⟩), undef, undef, undef, undef, undef, undef, undef, undef, undef, undef, undef, undef], []⟩ W := by
    intro W x1 m2 gb lv hE h1 h2 hB hL
    refine hN1 _ _ _ _ ?_
    refine wpAnyX_ready (rs := [10, 18]) (by kernel_rfl) (by simp) (AllX.cons rfl (fun K hK => ?_) (AllX.cons rfl (fun K hK => ?_) AllX.nil))
    · obtain ⟨j, hS, hAd⟩ := hE.src
      go_simp
      go_wp2_with (go_at_call 27; refine (HN.out 4 j W hS (by omega) (by omega)).mono ?_; rintro e W2 ⟨x3, j2, rfl, hx0, hx1, hS2, hT2, hF2⟩)
      refine hK.out _ _ (fun _ => trivial) ?_
      clear hK K
      have hE := hE.turn hAd hS2 hT2 hF2
      have hB := hB.turn hT2 hg0
      have h3 := And.intro hx0 hx1
      refine wpAnyX_take (i := 11) (v := .int .i64 (1 + x3)) rfl (by kernel_rfl) (by kernel_rfl) (by kernel_rfl) (by kernel_rfl) (fun _ _ _ h => h) trivial (Or.inl ⟨by rfl, fun w hS => by go_simp; exact IntWalk.i64_in _ (by omega)⟩) ?_
      go_simp
      exact hN2 _ _ _ _ (n_3_1_1_0.out W2 x1 m2 x3 gb lv hE h1 h2 h3 hB hL)
    · go_simp
      refine hK.out _ _ (fun _ => trivial) ?_
      clear hK K
      have q := (Below.refl W.heap.size W).alloc (Nat.le_refl _) (.cells #[.int .i64 0, .int .i64 0, .int .i64 0, .int .i64 0, .int .i64 0, .int .i64 0] 26)
      have hA := BK.new hE (.cells #[.int .i64 0, .int .i64 0, .int .i64 0, .int .i64 0, .int .i64 0, .int .i64 0] 26)
      have hE1 := hE.below q
      have hB := hB.below q
      generalize hV : W.alloc (.cells #[.int .i64 0, .int .i64 0, .int .i64 0, .int .i64 0, .int .i64 0, .int .i64 0] 26) = W2 at hE1 hA hB ⊢
      clear hV q
      generalize hV : W.heap.size = ga at hA ⊢
      clear hV
      exact hN2 _ _ _ _ (n_2_1_1_1.out W2 x1 m2 gb lv ga hE1 h1 h2 hB hL hA)
  replace n_2_1_1_0 := Lib.hid n_2_1_1_0
  have n_3_0_0_1 : ∀ (W : World) (x1 : Int) (m2 : Nat) (x3 : Int) (ga : Nat) (hE : EN W0 W g A c l i true) (h1 : 0 ≤ x1 ∧ x1 < 50) (h2 : m2 < 13) (h3 : 0 ≤ x3 ∧ x3 < 4) (hA : BK W0 W ga (.cells #[.int .i64 0, .int .i64 0, .int .i64 0, .int .i64 0, .int .i64 0, .int .i64 0] 26)), N 8 #[true, true, true, true, false, true, true, false, false, true, true, true, true, false, false, true, false, false, true, false] ⟨#[.pointer (some ⟨g, 0, none⟩), .int .i64 n, undef, undef, .pointer (some ⟨gr, 0, none⟩), .pointer (some ⟨ga, 0, none⟩), .int .i64 n, .int .i64 (n + 1), .pointer (some ⟨g, 0, none⟩), .int .i64 x1, undef, .pointer (some ⟨g, 0, none⟩), .int .i64 (m2 : Int), undef, undef, .pointer (some ⟨g, 0, none⟩), .int .i64 x3, .int .i64 (1 + x3), .pointer (some ⟨g, 0, none⟩), undef, undef, .pointer (some ⟨g, 0, none⟩), undef, undef, undef, undef, undef, undef, undef, undef, undef, undef, undef, undef], []⟩ W := by
    intro W x1 m2 x3 ga hE h1 h2 h3 hA
    refine hN1 _ _ _ _ ?_
    refine wpAnyX_ready (rs := [4, 13]) (by kernel_rfl) (by simp) (AllX.cons rfl (fun K hK => ?_) (AllX.cons rfl (fun K hK => ?_) AllX.nil))
    · go_simp
      refine hK.out _ _ (fun _ => trivial) ?_
      clear hK K
      have q := (Below.refl W.heap.size W).alloc (Nat.le_refl _) (.cells #[.int .i64 1, .int .i64 1, .int .i64 1, .int .i64 2, .int .i64 3, .int .i64 3, .int .i64 4, .int .i64 5, .int .i64 5, .int .i64 6, .int .i64 7, .int .i64 8, .int .i64 9] 3)
      have hB := BK.new hE (.cells #[.int .i64 1, .int .i64 1, .int .i64 1, .int .i64 2, .int .i64 3, .int .i64 3, .int .i64 4, .int .i64 5, .int .i64 5, .int .i64 6, .int .i64 7, .int .i64 8, .int .i64 9] 3)
      have hE1 := hE.below q
      have hA := hA.below q
      generalize hV : W.alloc (.cells #[.int .i64 1, .int .i64 1, .int .i64 1, .int .i64 2, .int .i64 3, .int .i64 3, .int .i64 4, .int .i64 5, .int .i64 5, .int .i64 6, .int .i64 7, .int .i64 8, .int .i64 9] 3) = W2 at hE1 hB hA ⊢
      clear hV q
      generalize hV : W.heap.size = gb at hB ⊢
      clear hV
      refine wpAnyX_take (i := 7) (v := .pointer (some ⟨gb, m2, none⟩)) rfl (by kernel_rfl) (by kernel_rfl) (by kernel_rfl) (by kernel_rfl) (fun _ _ _ h => h) trivial (Or.inl ⟨by rfl, fun w hS => by go_simp; first | done | (intro h13; omega)⟩) ?_
      go_simp
      exact hN2 _ _ _ _ (n_3_1_0_1.out W2 x1 m2 x3 gb ga hE1 h1 h2 h3 hB hA)
    · obtain ⟨j, hS, hAd⟩ := hE.src
      go_simp
      go_wp2_with (go_at_call 28; refine (HSM.out j W hS).mono ?_; rintro e W2 ⟨x4, j2, rfl, hx0, hx1, hS2, hT2, hF2⟩)
      refine hK.out _ _ (fun _ => trivial) ?_
      clear hK K
      have hE := hE.turn hAd hS2 hT2 hF2
      have hA := hA.turn hT2 hg0
      have h4 := And.intro hx0 hx1
      refine wpAnyX_take (i := 14) (v := .int .i64 (1 + x4)) rfl (by kernel_rfl) (by kernel_rfl) (by kernel_rfl) (by kernel_rfl) (fun _ _ _ h => h) trivial (Or.inl ⟨by rfl, fun w hS => by go_simp; exact IntWalk.i64_in _ (by omega)⟩) ?_
      go_simp
      exact hN2 _ _ _ _ (n_4_0_0_1.out W2 x1 m2 x3 x4 ga hE h1 h2 h3 h4 hA)
  replace n_3_0_0_1 := Lib.hid n_3_0_0_1
  have n_2_1_0_0 : ∀ (W : World) (x1 : Int) (m2 : Nat) (gb : Nat) (hE : EN W0 W g A c l i true) (h1 : 0 ≤ x1 ∧ x1 < 50) (h2 : m2 < 13) (hB : BK W0 W gb (.cells #[.int .i64 1, .int .i64 1, .int .i64 1, .int .i64 2, .int .i64 3, .int .i64 3, .int .i64 4, .int .i64 5, .int .i64 5, .int .i64 6, .int .i64 7, .int .i64 8, .int .i64 9] 3)), N 9 #[true, true, true, true, true, true, true, true, false, true, false, false, true, false, false, true, false, false, false, false] ⟨#[.pointer (some ⟨g, 0, none⟩), .int .i64 n, undef, undef, .pointer (some ⟨gr, 0, none⟩), undef, .int .i64 n, .int .i64 (n + 1), .pointer (some ⟨g, 0, none⟩), .int .i64 x1, .slice (some ⟨gb, 0, none⟩) 13 13, .pointer (some ⟨g, 0, none⟩), .int .i64 (m2 : Int), .pointer (some ⟨gb, m2, none⟩), undef, .pointer (some ⟨g, 0, none⟩), undef, undef, .pointer (some ⟨g, 0, none⟩), undef, undef, .pointer (some ⟨g, 0, none⟩), undef, undef, undef, undef, undef, undef, undef, undef, undef, undef, undef, undef], []⟩ W := by
    intro W x1 m2 gb hE h1 h2 hB
    refine hN1 _ _ _ _ ?_
    refine wpAnyX_ready (rs := [8, 10, 18]) (by kernel_rfl) (by simp) (AllX.cons rfl (fun K hK => ?_) (AllX.cons rfl (fun K hK => ?_) (AllX.cons rfl (fun K hK => ?_) AllX.nil)))
    · obtain ⟨lv, hL, hc⟩ := hB.kind h2
      go_simp
      refine hK.out _ _ (fun _ => trivial) ?_
      clear hK K
      exact hN2 _ _ _ _ (n_2_1_1_0.out W x1 m2 gb lv hE h1 h2 hB hL)
    · obtain ⟨j, hS, hAd⟩ := hE.src
      go_simp
      go_wp2_with (go_at_call 27; refine (HN.out 4 j W hS (by omega) (by omega)).mono ?_; rintro e W2 ⟨x3, j2, rfl, hx0, hx1, hS2, hT2, hF2⟩)
      refine hK.out _ _ (fun _ => trivial) ?_
      clear hK K
      have hE := hE.turn hAd hS2 hT2 hF2
      have hB := hB.turn hT2 hg0
      have h3 := And.intro hx0 hx1
      refine wpAnyX_take (i := 11) (v := .int .i64 (1 + x3)) rfl (by kernel_rfl) (by kernel_rfl) (by kernel_rfl) (by kernel_rfl) (fun _ _ _ h => h) trivial (Or.inl ⟨by rfl, fun w hS => by go_simp; exact IntWalk.i64_in _ (by omega)⟩) ?_
      go_simp
      exact hN2 _ _ _ _ (n_3_1_0_0.out W2 x1 m2 x3 gb hE h1 h2 h3 hB)
    · go_simp
      refine hK.out _ _ (fun _ => trivial) ?_
      clear hK K
      have q := (Below.refl W.heap.size W).alloc (Nat.le_refl _) (.cells #[.int .i64 0, .int .i64 0, .int .i64 0, .int .i64 0, .int .i64 0, .int .i64 0] 26)
      have hA := BK.new hE (.cells #[.int .i64 0, .int .i64 0, .int .i64 0, .int .i64 0, .int .i64 0, .int .i64 0] 26)
      have hE1 := hE.below q
      have hB := hB.below q
      generalize hV : W.alloc (.cells #[.int .i64 0, .int .i64 0, .int .i64 0, .int .i64 0, .int .i64 0, .int .i64 0] 26) = W2 at hE1 hA hB ⊢
      clear hV q
      generalize hV : W.heap.size = ga at hA ⊢
      clear hV
      exact hN2 _ _ _ _ (n_2_1_0_1.out W2 x1 m2 gb ga hE1 h1 h2 hB hA)
  replace n_2_1_0_0 := Lib.hid n_2_1_0_0
  have n_3_0_0_0 : ∀ (W : World) (x1 : Int) (m2 : Nat) (x3 : Int) (hE : EN W0 W g A c l i true) (h1 : 0 ≤ x1 ∧ x1 < 50) (h2 : m2 < 13) (h3 : 0 ≤ x3 ∧ x3 < 4), N 9 #[true, true, true, true, false, true, true, false, false, true, true, true, true, false, false, true, false, false, false, false] ⟨#[.pointer (some ⟨g, 0, none⟩), .int .i64 n, undef, undef, .pointer (some ⟨gr, 0, none⟩), undef, .int .i64 n, .int .i64 (n + 1), .pointer (some ⟨g, 0, none⟩), .int .i64 x1, undef, .pointer (some ⟨g, 0, none⟩), .int .i64 (m2 : Int), undef, undef, .pointer (some ⟨g, 0, none⟩), .int .i64 x3, .int .i64 (1 + x3), .pointer (some ⟨g, 0, none⟩), undef, undef, .pointer (some ⟨g, 0, none⟩), undef, undef, undef, undef, undef, undef, undef, undef, undef, undef, undef, undef], []⟩ W := by
    intro W x1 m2 x3 hE h1 h2 h3
    refine hN1 _ _ _ _ ?_
    refine wpAnyX_ready (rs := [4, 13, 18]) (by kernel_rfl) (by simp) (AllX.cons rfl (fun K hK => ?_) (AllX.cons rfl (fun K hK => ?_) (AllX.cons rfl (fun K hK => ?_) AllX.nil)))
    · go_simp
      refine hK.out _ _ (fun _ => trivial) ?_
      clear hK K
      have q := (Below.refl W.heap.size W).alloc (Nat.le_refl _) (.cells #[.int .i64 1, .int .i64 1, .int .i64 1, .int .i64 2, .int .i64 3, .int .i64 3, .int .i64 4, .int .i64 5, .int .i64 5, .int .i64 6, .int .i64 7, .int .i64 8, .int .i64 9] 3)
      have hB := BK.new hE (.cells #[.int .i64 1, .int .i64 1, .int .i64 1, .int .i64 2, .int .i64 3, .int .i64 3, .int .i64 4, .int .i64 5, .int .i64 5, .int .i64 6, .int .i64 7, .int .i64 8, .int .i64 9] 3)
      have hE1 := hE.below q
      generalize hV : W.alloc (.cells #[.int .i64 1, .int .i64 1, .int .i64 1, .int .i64 2, .int .i64 3, .int .i64 3, .int .i64 4, .int .i64 5, .int .i64 5, .int .i64 6, .int .i64 7, .int .i64 8, .int .i64 9] 3) = W2 at hE1 hB ⊢
      clear hV q
      generalize hV : W.heap.size = gb at hB ⊢
      clear hV
      refine wpAnyX_take (i := 7) (v := .pointer (some ⟨gb, m2, none⟩)) rfl (by kernel_rfl) (by kernel_rfl) (by kernel_rfl) (by kernel_rfl) (fun _ _ _ h => h) trivial (Or.inl ⟨by rfl, fun w hS => by go_simp; first | done | (intro h13; omega)⟩) ?_
      go_simp
      exact hN2 _ _ _ _ (n_3_1_0_0.out W2 x1 m2 x3 gb hE1 h1 h2 h3 hB)
    · obtain ⟨j, hS, hAd⟩ := hE.src
      go_simp
      go_wp2_with (go_at_call 28; refine (HSM.out j W hS).mono ?_; rintro e W2 ⟨x4, j2, rfl, hx0, hx1, hS2, hT2, hF2⟩)
      refine hK.out _ _ (fun _ => trivial) ?_
      clear hK K
      have hE := hE.turn hAd hS2 hT2 hF2
      have h4 := And.intro hx0 hx1
      refine wpAnyX_take (i := 14) (v := .int .i64 (1 + x4)) rfl (by kernel_rfl) (by kernel_rfl) (by kernel_rfl) (by kernel_rfl) (fun _ _ _ h => h) trivial (Or.inl ⟨by rfl, fun w hS => by go_simp; exact IntWalk.i64_in _ (by omega)⟩) ?_
      go_simp
      exact hN2 _ _ _ _ (n_4_0_0_0.out W2 x1 m2 x3 x4 hE h1 h2 h3 h4)
    · go_simp
      refine hK.out _ _ (fun _ => trivial) ?_
      clear hK K
      have q := (Below.refl W.heap.size W).alloc (Nat.le_refl _) (.cells #[.int .i64 0, .int .i64 0, .int .i64 0, .int .i64 0, .int .i64 0, .int .i64 0] 26)
      have hA := BK.new hE (.cells #[.int .i64 0, .int .i64 0, .int .i64 0, .int .i64 0, .int .i64 0, .int .i64 0] 26)
      have hE1 := hE.below q
      generalize hV : W.alloc (.cells #[.int .i64 0, .int .i64 0, .int .i64 0, .int .i64 0, .int .i64 0, .int .i64 0] 26) = W2 at hE1 hA ⊢
      clear hV q
      generalize hV : W.heap.size = ga at hA ⊢
      clear hV
      exact hN2 _ _ _ _ (n_3_0_0_1.out W2 x1 m2 x3 ga hE1 h1 h2 h3 hA)
  replace n_3_0_0_0 := Lib.hid n_3_0_0_0
  have n_1_1_0_1 : ∀ (W : World) (x1 : Int) (gb : Nat) (ga : Nat) (hE : EN W0 W g A c l i true) (h1 : 0 ≤ x1 ∧ x1 < 50) (hB : BK W0 W gb (.cells #[.int .i64 1, .int .i64 1, .int .i64 1, .int .i64 2, .int .i64 3, .int .i64 3, .int .i64 4, .int .i64 5, .int .i64 5, .int .i64 6, .int .i64 7, .int .i64 8, .int .i64 9] 3)) (hA : BK W0 W ga (.cells #[.int .i64 0, .int .i64 0, .int .i64 0, .int .i64 0, .int .i64 0, .int .i64 0] 26)), N 10 #[true, true, true, true, true, true, false, false, false, true, false, false, true, false, false, true, false, false, true, false] ⟨#[.pointer (some ⟨g, 0, none⟩), .int .i64 n, undef, undef, .pointer (some ⟨gr, 0, none⟩), .pointer (some ⟨ga, 0, none⟩), .int .i64 n, .int .i64 (n + 1), .pointer (some ⟨g, 0, none⟩), .int .i64 x1, .slice (some ⟨gb, 0, none⟩) 13 13, .pointer (some ⟨g, 0, none⟩), undef, undef, undef, .pointer (some ⟨g, 0, none⟩), undef, undef, .pointer (some ⟨g, 0, none⟩), undef, undef, .pointer (some ⟨g, 0, none⟩), undef, undef, undef, undef, undef, undef, undef, undef, undef, undef, undef, undef], []⟩ W := by
    intro W x1 gb ga hE h1 hB hA
    refine hN1 _ _ _ _ ?_
    refine wpAnyX_one (i := 6) (by kernel_rfl) rfl (fun K hK => ?_)
    obtain ⟨j, hS, hAd⟩ := hE.src
    go_simp
    go_wp2_with (go_at_call 27; refine (HN.out 13 j W hS (by omega) (by omega)).mono ?_; rintro e W2 ⟨x2, j2, rfl, hx0, hx1, hS2, hT2, hF2⟩)
    refine hK.out _ _ (fun _ => trivial) ?_
    clear hK K
    have hE := hE.turn hAd hS2 hT2 hF2
    have hB := hB.turn hT2 hg0
    have hA := hA.turn hT2 hg0
    obtain ⟨m2, rfl⟩ := Int.eq_ofNat_of_zero_le hx0
    have h2 : m2 < 13 := by omega
    refine wpAnyX_take (i := 7) (v := .pointer (some ⟨gb, m2, none⟩)) rfl (by kernel_rfl) (by kernel_rfl) (by kernel_rfl) (by kernel_rfl) (fun _ _ _ h => h) trivial (Or.inl ⟨by rfl, fun w hS => by go_simp; first | done | (intro h13; omega)⟩) ?_
    go_simp
    exact hN2 _ _ _ _ (n_2_1_0_1.out W2 x1 m2 gb ga hE h1 h2 hB hA)
  replace n_1_1_0_1 := Lib.hid n_1_1_0_1
  have n_2_0_0_1 : ∀ (W : World) (x1 : Int) (m2 : Nat) (ga : Nat) (hE : EN W0 W g A c l i true) (h1 : 0 ≤ x1 ∧ x1 < 50) (h2 : m2 < 13) (hA : BK W0 W ga (.cells #[.int .i64 0, .int .i64 0, .int .i64 0, .int .i64 0, .int .i64 0, .int .i64 0] 26)), N 10 #[true, true, true, true, false, true, true, false, false, true, false, false, true, false, false, true, false, false, true, false] ⟨#[.pointer (some ⟨g, 0, none⟩), .int .i64 n, undef, undef, .pointer (some ⟨gr, 0, none⟩), .pointer (some ⟨ga, 0, none⟩), .int .i64 n, .int .i64 (n + 1), .pointer (some ⟨g, 0, none⟩), .int .i64 x1, undef, .pointer (some ⟨g, 0, none⟩), .int .i64 (m2 : Int), undef, undef, .pointer (some ⟨g, 0, none⟩), undef, undef, .pointer (some ⟨g, 0, none⟩), undef, undef, .pointer (some ⟨g, 0, none⟩), undef, undef, undef, undef, undef, undef, undef, undef, undef, undef, undef, undef], []⟩ W := by
    intro W x1 m2 ga hE h1 h2 hA
    refine hN1 _ _ _ _ ?_
    refine wpAnyX_ready (rs := [4, 10]) (by kernel_rfl) (by simp) (AllX.cons rfl (fun K hK => ?_) (AllX.cons rfl (fun K hK => ?_) AllX.nil))
    · go_simp
      refine hK.out _ _ (fun _ => trivial) ?_
      clear hK K
      have q := (Below.refl W.heap.size W).alloc (Nat.le_refl _) (.cells #[.int .i64 1, .int .i64 1, .int .i64 1, .int .i64 2, .int .i64 3, .int .i64 3, .int .i64 4, .int .i64 5, .int .i64 5, .int .i64 6, .int .i64 7, .int .i64 8, .int .i64 9] 3)
      have hB := BK.new hE (.cells #[.int .i64 1, .int .i64 1, .int .i64 1, .int .i64 2, .int .i64 3, .int .i64 3, .int .i64 4, .int .i64 5, .int .i64 5, .int .i64 6, .int .i64 7, .int .i64 8, .int .i64 9] 3)
      have hE1 := hE.below q
      have hA := hA.below q
      generalize hV : W.alloc (.cells #[.int .i64 1, .int .i64 1, .int .i64 1, .int .i64 2, .int .i64 3, .int .i64 3, .int .i64 4, .int .i64 5, .int .i64 5, .int .i64 6, .int .i64 7, .int .i64 8, .int .i64 9] 3) = W2 at hE1 hB hA ⊢
      clear hV q
      generalize hV : W.heap.size = gb at hB ⊢
      clear hV
      refine wpAnyX_take (i := 7) (v := .pointer (some ⟨gb, m2, none⟩)) rfl (by kernel_rfl) (by kernel_rfl) (by kernel_rfl) (by kernel_rfl) (fun _ _ _ h => h) trivial (Or.inl ⟨by rfl, fun w hS => by go_simp; first | done | (intro h13; omega)⟩) ?_
      go_simp
      exact hN2 _ _ _ _ (n_2_1_0_1.out W2 x1 m2 gb ga hE1 h1 h2 hB hA)
    · obtain ⟨j, hS, hAd⟩ := hE.src
      go_simp
      go_wp2_with (go_at_call 27; refine (HN.out 4 j W hS (by omega) (by omega)).mono ?_; rintro e W2 ⟨x3, j2, rfl, hx0, hx1, hS2, hT2, hF2⟩)
      refine hK.out _ _ (fun _ => trivial) ?_
      clear hK K
      have hE := hE.turn hAd hS2 hT2 hF2
      have hA := hA.turn hT2 hg0
      have h3 := And.intro hx0 hx1
      refine wpAnyX_take (i := 11) (v := .int .i64 (1 + x3)) rfl (by kernel_rfl) (by kernel_rfl) (by kernel_rfl) (by kernel_rfl) (fun _ _ _ h => h) trivial (Or.inl ⟨by rfl, fun w hS => by go_simp; exact IntWalk.i64_in _ (by omega)⟩) ?_
      go_simp
      exact hN2 _ _ _ _ (n_3_0_0_1.out W2 x1 m2 x3 ga hE h1 h2 h3 hA)
  replace n_2_0_0_1 := Lib.hid n_2_0_0_1
  have n_0_1_0_1 : ∀ (W : World) (gb : Nat) (ga : Nat) (hE : EN W0 W g A c l i false) (hB : BK W0 W gb (.cells #[.int .i64 1, .int .i64 1, .int .i64 1, .int .i64 2, .int .i64 3, .int .i64 3, .int .i64 4, .int .i64 5, .int .i64 5, .int .i64 6, .int .i64 7, .int .i64 8, .int .i64 9] 3)) (hA : BK W0 W ga (.cells #[.int .i64 0, .int .i64 0, .int .i64 0, .int .i64 0, .int .i64 0, .int .i64 0] 26)), N 11 #[true, true, true, false, true, true, false, false, false, true, false, false, true, false, false, true, false, false, true, false] ⟨#[.pointer (some ⟨g, 0, none⟩), .int .i64 n, undef, undef, .pointer (some ⟨gr, 0, none⟩), .pointer (some ⟨ga, 0, none⟩), .int .i64 n, .int .i64 (n + 1), .pointer (some ⟨g, 0, none⟩), undef, .slice (some ⟨gb, 0, none⟩) 13 13, .pointer (some ⟨g, 0, none⟩), undef, undef, undef, .pointer (some ⟨g, 0, none⟩), undef, undef, .pointer (some ⟨g, 0, none⟩), undef, undef, .pointer (some ⟨g, 0, none⟩), undef, undef, undef, undef, undef, undef, undef, undef, undef, undef, undef, undef], []⟩ W := by
    intro W gb ga hE hB hA
    refine hN1 _ _ _ _ ?_
    refine wpAnyX_one (i := 3) (by kernel_rfl) rfl (fun K hK => ?_)
    obtain ⟨j, hS, hAd⟩ := hE.src
    go_simp
    go_wp2_with (go_at_call 27; refine (HN.out 50 j W hS (by omega) (by omega)).mono ?_; rintro e W2 ⟨x1, j2, rfl, hx0, hx1, hS2, hT2, hF2⟩)
    refine hK.out _ _ (fun _ => trivial) ?_
    clear hK K
    have hE := hE.turn hAd hS2 hT2 hF2
    have hB := hB.turn hT2 hg0
    have hA := hA.turn hT2 hg0
    have h1 := And.intro hx0 hx1
    exact hN2 _ _ _ _ (n_1_1_0_1.out W2 x1 gb ga hE h1 hB hA)
  replace n_0_1_0_1 := Lib.hid n_0_1_0_1
  have n_1_0_0_1 : ∀ (W : World) (x1 : Int) (ga : Nat) (hE : EN W0 W g A c l i true) (h1 : 0 ≤ x1 ∧ x1 < 50) (hA : BK W0 W ga (.cells #[.int .i64 0, .int .i64 0, .int .i64 0, .int .i64 0, .int .i64 0, .int .i64 0] 26)), N 11 #[true, true, true, true, false, true, false, false, false, true, false, false, true, false, false, true, false, false, true, false] ⟨#[.pointer (some ⟨g, 0, none⟩), .int .i64 n, undef, undef, .pointer (some ⟨gr, 0, none⟩), .pointer (some ⟨ga, 0, none⟩), .int .i64 n, .int .i64 (n + 1), .pointer (some ⟨g, 0, none⟩), .int .i64 x1, undef, .pointer (some ⟨g, 0, none⟩), undef, undef, undef, .pointer (some ⟨g, 0, none⟩), undef, undef, .pointer (some ⟨g, 0, none⟩), undef, undef, .pointer (some ⟨g, 0, none⟩), undef, undef, undef, undef, undef, undef, undef, undef, undef, undef, undef, undef], []⟩ W := by
    intro W x1 ga hE h1 hA
    refine hN1 _ _ _ _ ?_
    refine wpAnyX_ready (rs := [4, 6]) (by kernel_rfl) (by simp) (AllX.cons rfl (fun K hK => ?_) (AllX.cons rfl (fun K hK => ?_) AllX.nil))
    · go_simp
      refine hK.out _ _ (fun _ => trivial) ?_
      clear hK K
      have q := (Below.refl W.heap.size W).alloc (Nat.le_refl _) (.cells #[.int .i64 1, .int .i64 1, .int .i64 1, .int .i64 2, .int .i64 3, .int .i64 3, .int .i64 4, .int .i64 5, .int .i64 5, .int .i64 6, .int .i64 7, .int .i64 8, .int .i64 9] 3)
      have hB := BK.new hE (.cells #[.int .i64 1, .int .i64 1, .int .i64 1, .int .i64 2, .int .i64 3, .int .i64 3, .int .i64 4, .int .i64 5, .int .i64 5, .int .i64 6, .int .i64 7, .int .i64 8, .int .i64 9] 3)
      have hE1 := hE.below q
      have hA := hA.below q
      generalize hV : W.alloc (.cells #[.int .i64 1, .int .i64 1, .int .i64 1, .int .i64 2, .int .i64 3, .int .i64 3, .int .i64 4, .int .i64 5, .int .i64 5, .int .i64 6, .int .i64 7, .int .i64 8, .int .i64 9] 3) = W2 at hE1 hB hA ⊢
      clear hV q
      generalize hV : W.heap.size = gb at hB ⊢
      clear hV
      exact hN2 _ _ _ _ (n_1_1_0_1.out W2 x1 gb ga hE1 h1 hB hA)
    · obtain ⟨j, hS, hAd⟩ := hE.src
      go_simp
      go_wp2_with (go_at_call 27; refine (HN.out 13 j W hS (by omega) (by omega)).mono ?_; rintro e W2 ⟨x2, j2, rfl, hx0, hx1, hS2, hT2, hF2⟩)
      refine hK.out _ _ (fun _ => trivial) ?_
      clear hK K
      have hE := hE.turn hAd hS2 hT2 hF2
      have hA := hA.turn hT2 hg0
      obtain ⟨m2, rfl⟩ := Int.eq_ofNat_of_zero_le hx0
      have h2 : m2 < 13 := by omega
      exact hN2 _ _ _ _ (n_2_0_0_1.out W2 x1 m2 ga hE h1 h2 hA)
  replace n_1_0_0_1 := Lib.hid n_1_0_0_1
  have n_1_1_0_0 : ∀ (W : World) (x1 : Int) (gb : Nat) (hE : EN W0 W g A c l i true) (h1 : 0 ≤ x1 ∧ x1 < 50) (hB : BK W0 W gb (.cells #[.int .i64 1, .int .i64 1, .int .i64 1, .int .i64 2, .int .i64 3, .int .i64 3, .int .i64 4, .int .i64 5, .int .i64 5, .int .i64 6, .int .i64 7, .int .i64 8, .int .i64 9] 3)), N 11 #[true, true, true, true, true, true, false, false, false, true, false, false, true, false, false, true, false, false, false, false] ⟨#[.pointer (some ⟨g, 0, none⟩), .int .i64 n, undef, undef, .pointer (some ⟨gr, 0, none⟩), undef, .int .i64 n, .int .i64 (n + 1), .pointer (some ⟨g, 0, none⟩), .int .i64 x1, .slice (some ⟨gb, 0, none⟩) 13 13, .pointer (some ⟨g, 0, none⟩), undef, undef, undef, .pointer (some ⟨g, 0, none⟩), undef, undef, .pointer (some ⟨g, 0, none⟩), undef, undef, .pointer (some ⟨g, 0, none⟩), undef, undef, undef, undef, undef, undef, undef, undef, undef, undef, undef, undef], []⟩ W := by
    intro W x1 gb hE h1 hB
    refine hN1 _ _ _ _ ?_
    refine wpAnyX_ready (rs := [6, 18]) (by kernel_rfl) (by simp) (AllX.cons rfl (fun K hK => ?_) (AllX.cons rfl (fun K hK => ?_) AllX.nil))
    · obtain ⟨j, hS, hAd⟩ := hE.src
      go_simp
      go_wp2_with (go_at_call 27; refine (HN.out 13 j W hS (by omega) (by omega)).mono ?_; rintro e W2 ⟨x2, j2, rfl, hx0, hx1, hS2, hT2, hF2⟩)
      refine hK.out _ _ (fun _ => trivial) ?_
      clear hK K
      have hE := hE.turn hAd hS2 hT2 hF2
      have hB := hB.turn hT2 hg0
      obtain ⟨m2, rfl⟩ := Int.eq_ofNat_of_zero_le hx0
      have h2 : m2 < 13 := by omega
      refine wpAnyX_take (i := 7) (v := .pointer (some ⟨gb, m2, none⟩)) rfl (by kernel_rfl) (by kernel_rfl) (by kernel_rfl) (by kernel_rfl) (fun _ _ _ h => h) trivial (Or.inl ⟨by rfl, fun w hS => by go_simp; first | done | (intro h13; omega)⟩) ?_
      go_simp
      exact hN2 _ _ _ _ (n_2_1_0_0.out W2 x1 m2 gb hE h1 h2 hB)
    · go_simp
      refine hK.out _ _ (fun _ => trivial) ?_
      clear hK K
      have q := (Below.refl W.heap.size W).alloc (Nat.le_refl _) (.cells #[.int .i64 0, .int .i64 0, .int .i64 0, .int .i64 0, .int .i64 0, .int .i64 0] 26)
      have hA := BK.new hE (.cells #[.int .i64 0, .int .i64 0, .int .i64 0, .int .i64 0, .int .i64 0, .int .i64 0] 26)
      have hE1 := hE.below q
      have hB := hB.below q
      generalize hV : W.alloc (.cells #[.int .i64 0, .int .i64 0, .int .i64 0, .int .i64 0, .int .i64 0, .int .i64 0] 26) = W2 at hE1 hA hB ⊢
      clear hV q
      generalize hV : W.heap.size = ga at hA ⊢
      clear hV
      exact hN2 _ _ _ _ (n_1_1_0_1.out W2 x1 gb ga hE1 h1 hB hA)
  replace n_1_1_0_0 := Lib.hid n_1_1_0_0
  have n_2_0_0_0 : ∀ (W : World) (x1 : Int) (m2 : Nat) (hE : EN W0 W g A c l i true) (h1 : 0 ≤ x1 ∧ x1 < 50) (h2 : m2 < 13), N 11 #[true, true, true, true, false, true, true, false, false, true, false, false, true, false, false, true, false, false, false, false] ⟨#[.pointer (some ⟨g, 0, none⟩), .int .i64 n, undef, undef, .pointer (some ⟨gr, 0, none⟩), undef, .int .i64 n, .int .i64 (n + 1), .pointer (some ⟨g, 0, none⟩), .int .i64 x1, undef, .pointer (some ⟨g, 0, none⟩), .int .i64 (m2 : Int), undef, undef, .pointer (some ⟨g, 0, none⟩), undef, undef, .pointer (some ⟨g, 0, none⟩), undef, undef, .pointer (some ⟨g, 0, none⟩), undef, undef, undef, undef, undef, undef, undef, undef, undef, undef, undef, undef], []⟩ W := by
    intro W x1 m2 hE h1 h2
    refine hN1 _ _ _ _ ?_
    refine wpAnyX_ready (rs := [4, 10, 18]) (by kernel_rfl) (by simp) (AllX.cons rfl (fun K hK => ?_) (AllX.cons rfl (fun K hK => ?_) (AllX.cons rfl (fun K hK => ?_) AllX.nil)))
    · go_simp
      refine hK.out _ _ (fun _ => trivial) ?_
      clear hK K
      have q := (Below.refl W.heap.size W).alloc (Nat.le_refl _) (.cells #[.int .i64 1, .int .i64 1, .int .i64 1, .int .i64 2, .int .i64 3, .int .i64 3, .int .i64 4, .int .i64 5, .int .i64 5, .int .i64 6, .int .i64 7, .int .i64 8, .int .i64 9] 3)
      have hB := BK.new hE (.cells #[.int .i64 1, .int .i64 1, .int .i64 1, .int .i64 2, .int .i64 3, .int .i64 3, .int .i64 4, .int .i64 5, .int .i64 5, .int .i64 6, .int .i64 7, .int .i64 8, .int .i64 9] 3)
      have hE1 := hE.below q
      generalize hV : W.alloc (.cells #[.int .i64 1, .int .i64 1, .int .i64 1, .int .i64 2, .int .i64 3, .int .i64 3, .int .i64 4, .int .i64 5, .int .i64 5, .int .i64 6, .int .i64 7, .int .i64 8, .int .i64 9] 3) = W2 at hE1 hB ⊢
      clear hV q
      generalize hV : W.heap.size = gb at hB ⊢
      clear hV
      refine wpAnyX_take (i := 7) (v := .pointer (some ⟨gb, m2, none⟩)) rfl (by kernel_rfl) (by kernel_rfl) (by kernel_rfl) (by kernel_rfl) (fun _ _ _ h => h) trivial (Or.inl ⟨by rfl, fun w hS => by go_simp; first | done | (intro h13; omega)⟩) ?_
      go_simp
      exact hN2 _ _ _ _ (n_2_1_0_0.out W2 x1 m2 gb hE1 h1 h2 hB)
    · obtain ⟨j, hS, hAd⟩ := hE.src
      go_simp
      go_wp2_with (go_at_call 27; refine (HN.out 4 j W hS (by omega) (by omega)).mono ?_; rintro e W2 ⟨x3, j2, rfl, hx0, hx1, hS2, hT2, hF2⟩)
      refine hK.out _ _ (fun _ => trivial) ?_
      clear hK K
      have hE := hE.turn hAd hS2 hT2 hF2
      have h3 := And.intro hx0 hx1
      refine wpAnyX_take (i := 11) (v := .int .i64 (1 + x3)) rfl (by kernel_rfl) (by kernel_rfl) (by kernel_rfl) (by kernel_rfl) (fun _ _ _ h => h) trivial (Or.inl ⟨by rfl, fun w hS => by go_simp; exact IntWalk.i64_in _ (by omega)⟩) ?_
      go_simp
      exact hN2 _ _ _ _ (n_3_0_0_0.out W2 x1 m2 x3 hE h1 h2 h3)
    · go_simp
      refine hK.out _ _ (fun _ => trivial) ?_
      clear hK K
      have q := (Below.refl W.heap.size W).alloc (Nat.le_refl _) (.cells #[.int .i64 0, .int .i64 0, .int .i64 0, .int .i64 0, .int .i64 0, .int .i64 0] 26)
      have hA := BK.new hE (.cells #[.int .i64 0, .int .i64 0, .int .i64 0, .int .i64 0, .int .i64 0, .int .i64 0] 26)
      have hE1 := hE.below q
      generalize hV : W.alloc (.cells #[.int .i64 0, .int .i64 0, .int .i64 0, .int .i64 0, .int .i64 0, .int .i64 0] 26) = W2 at hE1 hA ⊢
      clear hV q
      generalize hV : W.heap.size = ga at hA ⊢
      clear hV
      exact hN2 _ _ _ _ (n_2_0_0_1.out W2 x1 m2 ga hE1 h1 h2 hA)
  replace n_2_0_0_0 := Lib.hid n_2_0_0_0
  have n_0_0_0_1 : ∀ (W : World) (ga : Nat) (hE : EN W0 W g A c l i false) (hA : BK W0 W ga (.cells #[.int .i64 0, .int .i64 0, .int .i64 0, .int .i64 0, .int .i64 0, .int .i64 0] 26)), N 12 #[true, true, true, false, false, true, false, false, false, true, false, false, true, false, false, true, false, false, true, false] ⟨#[.pointer (some ⟨g, 0, none⟩), .int .i64 n, undef, undef, .pointer (some ⟨gr, 0, none⟩), .pointer (some ⟨ga, 0, none⟩), .int .i64 n, .int .i64 (n + 1), .pointer (some ⟨g, 0, none⟩), undef, undef, .pointer (some ⟨g, 0, none⟩), undef, undef, undef, .pointer (some ⟨g, 0, none⟩), undef, undef, .pointer (some ⟨g, 0, none⟩), undef, undef, .pointer (some ⟨g, 0, none⟩), undef, undef, undef, undef, undef, undef, undef, undef, undef, undef, undef, undef], []⟩ W := by
    intro W ga hE hA
    refine hN1 _ _ _ _ ?_
    refine wpAnyX_ready (rs := [3, 4]) (by kernel_rfl) (by simp) (AllX.cons rfl (fun K hK => ?_) (AllX.cons rfl (fun K hK => ?_) AllX.nil))
    · obtain ⟨j, hS, hAd⟩ := hE.src
      go_simp
      go_wp2_with (go_at_call 27; refine (HN.out 50 j W hS (by omega) (by omega)).mono ?_; rintro e W2 ⟨x1, j2, rfl, hx0, hx1, hS2, hT2, hF2⟩)
      refine hK.out _ _ (fun _ => trivial) ?_
      clear hK K
      have hE := hE.turn hAd hS2 hT2 hF2
      have hA := hA.turn hT2 hg0
      have h1 := And.intro hx0 hx1
      exact hN2 _ _ _ _ (n_1_0_0_1.out W2 x1 ga hE h1 hA)
    · go_simp
      refine hK.out _ _ (fun _ => trivial) ?_
      clear hK K
      have q := (Below.refl W.heap.size W).alloc (Nat.le_refl _) (.cells #[.int .i64 1, .int .i64 1, .int .i64 1, .int .i64 2, .int .i64 3, .int .i64 3, .int .i64 4, .int .i64 5, .int .i64 5, .int .i64 6, .int .i64 7, .int .i64 8, .int .i64 9] 3)
      have hB := BK.new hE (.cells #[.int .i64 1, .int .i64 1, .int .i64 1, .int .i64 2, .int .i64 3, .int .i64 3, .int .i64 4, .int .i64 5, .int .i64 5, .int .i64 6, .int .i64 7, .int .i64 8, .int .i64 9] 3)
      have hE1 := hE.below q
      have hA := hA.below q
      generalize hV : W.alloc (.cells #[.int .i64 1, .int .i64 1, .int .i64 1, .int .i64 2, .int .i64 3, .int .i64 3, .int .i64 4, .int .i64 5, .int .i64 5, .int .i64 6, .int .i64 7, .int .i64 8, .int .i64 9] 3) = W2 at hE1 hB hA ⊢
      clear hV q
      generalize hV : W.heap.size = gb at hB ⊢
      clear hV
      exact hN2 _ _ _ _ (n_0_1_0_1.out W2 gb ga hE1 hB hA)
  replace n_0_0_0_1 := Lib.hid n_0_0_0_1
  have n_0_1_0_0 : ∀ (W : World) (gb : Nat) (hE : EN W0 W g A c l i false) (hB : BK W0 W gb (.cells #[.int .i64 1, .int .i64 1, .int .i64 1, .int .i64 2, .int .i64 3, .int .i64 3, .int .i64 4, .int .i64 5, .int .i64 5, .int .i64 6, .int .i64 7, .int .i64 8, .int .i64 9] 3)), N 12 #[true, true, true, false, true, true, false, false, false, true, false, false, true, false, false, true, false, false, false, false] ⟨#[.pointer (some ⟨g, 0, none⟩), .int .i64 n, undef, undef, .pointer (some ⟨gr, 0, none⟩), undef, .int .i64 n, .int .i64 (n + 1), .pointer (some ⟨g, 0, none⟩), undef, .slice (some ⟨gb, 0, none⟩) 13 13, .pointer (some ⟨g, 0, none⟩), undef, undef, undef, .pointer (some ⟨g, 0, none⟩), undef, undef, .pointer (some ⟨g, 0, none⟩), undef, undef, .pointer (some ⟨g, 0, none⟩), undef, undef, undef, undef, undef, undef, undef, undef, undef, undef, undef, undef], []⟩ W := by
    intro W gb hE hB
    refine hN1 _ _ _ _ ?_
    refine wpAnyX_ready (rs := [3, 18]) (by kernel_rfl) (by simp) (AllX.cons rfl (fun K hK => ?_) (AllX.cons rfl (fun K hK => ?_) AllX.nil))
    · obtain ⟨j, hS, hAd⟩ := hE.src
      go_simp
      go_wp2_with (go_at_call 27; refine (HN.out 50 j W hS (by omega) (by omega)).mono ?_; rintro e W2 ⟨x1, j2, rfl, hx0, hx1, hS2, hT2, hF2⟩)
      refine hK.out _ _ (fun _ => trivial) ?_
      clear hK K
      have hE := hE.turn hAd hS2 hT2 hF2
      have hB := hB.turn hT2 hg0
      have h1 := And.intro hx0 hx1
      exact hN2 _ _ _ _ (n_1_1_0_0.out W2 x1 gb hE h1 hB)
    · go_simp
      refine hK.out _ _ (fun _ => trivial) ?_
      clear hK K
      have q := (Below.refl W.heap.size W).alloc (Nat.le_refl _) (.cells #[.int .i64 0, .int .i64 0, .int .i64 0, .int .i64 0, .int .i64 0, .int .i64 0] 26)
      have hA := BK.new hE (.cells #[.int .i64 0, .int .i64 0, .int .i64 0, .int .i64 0, .int .i64 0, .int .i64 0] 26)
      have hE1 := hE.below q
      have hB := hB.below q
      generalize hV : W.alloc (.cells #[.int .i64 0, .int .i64 0, .int .i64 0, .int .i64 0, .int .i64 0, .int .i64 0] 26) = W2 at hE1 hA hB ⊢
      clear hV q
      generalize hV : W.heap.size = ga at hA ⊢
      clear hV
      exact hN2 _ _ _ _ (n_0_1_0_1.out W2 gb ga hE1 hB hA)
  replace n_0_1_0_0 := Lib.hid n_0_1_0_0
  have n_1_0_0_0 : ∀ (W : World) (x1 : Int) (hE : EN W0 W g A c l i true) (h1 : 0 ≤ x1 ∧ x1 < 50), N 12 #[true, true, true, true, false, true, false, false, false, true, false, false, true, false, false, true, false, false, false, false] ⟨#[.pointer (some ⟨g, 0, none⟩), .int .i64 n, undef, undef, .pointer (some ⟨gr, 0, none⟩), undef, .int .i64 n, .int .i64 (n + 1), .pointer (some ⟨g, 0, none⟩), .int .i64 x1, undef, .pointer (some ⟨g, 0, none⟩), undef, undef, undef, .pointer (some ⟨g, 0, none⟩), undef, undef, .pointer (some ⟨g, 0, none⟩), undef, undef, .pointer (some ⟨g, 0, none⟩), undef, undef, undef, undef, undef, undef, undef, undef, undef, undef, undef, undef], []⟩ W := by
    intro W x1 hE h1
    refine hN1 _ _ _ _ ?_
    refine wpAnyX_ready (rs := [4, 6, 18]) (by kernel_rfl) (by simp) (AllX.cons rfl (fun K hK => ?_) (AllX.cons rfl (fun K hK => ?_) (AllX.cons rfl (fun K hK => ?_) AllX.nil)))
    · go_simp
      refine hK.out _ _ (fun _ => trivial) ?_
      clear hK K
      have q := (Below.refl W.heap.size W).alloc (Nat.le_refl _) (.cells #[.int .i64 1, .int .i64 1, .int .i64 1, .int .i64 2, .int .i64 3, .int .i64 3, .int .i64 4, .int .i64 5, .int .i64 5, .int .i64 6, .int .i64 7, .int .i64 8, .int .i64 9] 3)
      have hB := BK.new hE (.cells #[.int .i64 1, .int .i64 1, .int .i64 1, .int .i64 2, .int .i64 3, .int .i64 3, .int .i64 4, .int .i64 5, .int .i64 5, .int .i64 6, .int .i64 7, .int .i64 8, .int .i64 9] 3)
      have hE1 := hE.below q
      generalize hV : W.alloc (.cells #[.int .i64 1, .int .i64 1, .int .i64 1, .int .i64 2, .int .i64 3, .int .i64 3, .int .i64 4, .int .i64 5, .int .i64 5, .int .i64 6, .int .i64 7, .int .i64 8, .int .i64 9] 3) = W2 at hE1 hB ⊢
      clear hV q
      generalize hV : W.heap.size = gb at hB ⊢
      clear hV
      exact hN2 _ _ _ _ (n_1_1_0_0.out W2 x1 gb hE1 h1 hB)
    · obtain ⟨j, hS, hAd⟩ := hE.src
      go_simp
      go_wp2_with (go_at_call 27; refine (HN.out 13 j W hS (by omega) (by omega)).mono ?_; rintro e W2 ⟨x2, j2, rfl, hx0, hx1, hS2, hT2, hF2⟩)
      refine hK.out _ _ (fun _ => trivial) ?_
      clear hK K
      have hE := hE.turn hAd hS2 hT2 hF2
      obtain ⟨m2, rfl⟩ := Int.eq_ofNat_of_zero_le hx0
      have h2 : m2 < 13 := by omega
      exact hN2 _ _ _ _ (n_2_0_0_0.out W2 x1 m2 hE h1 h2)
    · go_simp
      refine hK.out _ _ (fun _ => trivial) ?_
      clear hK K
      have q := (Below.refl W.heap.size W).alloc (Nat.le_refl _) (.cells #[.int .i64 0, .int .i64 0, .int .i64 0, .int .i64 0, .int .i64 0, .int .i64 0] 26)
      have hA := BK.new hE (.cells #[.int .i64 0, .int .i64 0, .int .i64 0, .int .i64 0, .int .i64 0, .int .i64 0] 26)
      have hE1 := hE.below q
      generalize hV : W.alloc (.cells #[.int .i64 0, .int .i64 0, .int .i64 0, .int .i64 0, .int .i64 0, .int .i64 0] 26) = W2 at hE1 hA ⊢
      clear hV q
      generalize hV : W.heap.size = ga at hA ⊢
      clear hV
      exact hN2 _ _ _ _ (n_1_0_0_1.out W2 x1 ga hE1 h1 hA)
  replace n_1_0_0_0 := Lib.hid n_1_0_0_0
  have n_0_0_0_0 : ∀ (W : World) (hE : EN W0 W g A c l i false), N 13 #[true, true, true, false, false, true, false, false, false, true, false, false, true, false, false, true, false, false, false, false] ⟨#[.pointer (some ⟨g, 0, none⟩), .int .i64 n, undef, undef, .pointer (some ⟨gr, 0, none⟩), undef, .int .i64 n, .int .i64 (n + 1), .pointer (some ⟨g, 0, none⟩), undef, undef, .pointer (some ⟨g, 0, none⟩), undef, undef, undef, .pointer (some ⟨g, 0, none⟩), undef, undef, .pointer (some ⟨g, 0, none⟩), undef, undef, .pointer (some ⟨g, 0, none⟩), undef, undef, undef, undef, undef, undef, undef, undef, undef, undef, undef, undef], []⟩ W := by
    intro W hE
    refine hN1 _ _ _ _ ?_
    refine wpAnyX_ready (rs := [3, 4, 18]) (by kernel_rfl) (by simp) (AllX.cons rfl (fun K hK => ?_) (AllX.cons rfl (fun K hK => ?_) (AllX.cons rfl (fun K hK => ?_) AllX.nil)))
    · obtain ⟨j, hS, hAd⟩ := hE.src
      go_simp
      go_wp2_with (go_at_call 27; refine (HN.out 50 j W hS (by omega) (by omega)).mono ?_; rintro e W2 ⟨x1, j2, rfl, hx0, hx1, hS2, hT2, hF2⟩)
      refine hK.out _ _ (fun _ => trivial) ?_
      clear hK K
      have hE := hE.turn hAd hS2 hT2 hF2
      have h1 := And.intro hx0 hx1
      exact hN2 _ _ _ _ (n_1_0_0_0.out W2 x1 hE h1)
    · go_simp
      refine hK.out _ _ (fun _ => trivial) ?_
      clear hK K
      have q := (Below.refl W.heap.size W).alloc (Nat.le_refl _) (.cells #[.int .i64 1, .int .i64 1, .int .i64 1, .int .i64 2, .int .i64 3, .int .i64 3, .int .i64 4, .int .i64 5, .int .i64 5, .int .i64 6, .int .i64 7, .int .i64 8, .int .i64 9] 3)
      have hB := BK.new hE (.cells #[.int .i64 1, .int .i64 1, .int .i64 1, .int .i64 2, .int .i64 3, .int .i64 3, .int .i64 4, .int .i64 5, .int .i64 5, .int .i64 6, .int .i64 7, .int .i64 8, .int .i64 9] 3)
      have hE1 := hE.below q
      generalize hV : W.alloc (.cells #[.int .i64 1, .int .i64 1, .int .i64 1, .int .i64 2, .int .i64 3, .int .i64 3, .int .i64 4, .int .i64 5, .int .i64 5, .int .i64 6, .int .i64 7, .int .i64 8, .int .i64 9] 3) = W2 at hE1 hB ⊢
      clear hV q
      generalize hV : W.heap.size = gb at hB ⊢
      clear hV
      exact hN2 _ _ _ _ (n_0_1_0_0.out W2 gb hE1 hB)
    · go_simp
      refine hK.out _ _ (fun _ => trivial) ?_
      clear hK K
      have q := (Below.refl W.heap.size W).alloc (Nat.le_refl _) (.cells #[.int .i64 0, .int .i64 0, .int .i64 0, .int .i64 0, .int .i64 0, .int .i64 0] 26)
      have hA := BK.new hE (.cells #[.int .i64 0, .int .i64 0, .int .i64 0, .int .i64 0, .int .i64 0, .int .i64 0] 26)
      have hE1 := hE.below q
      generalize hV : W.alloc (.cells #[.int .i64 0, .int .i64 0, .int .i64 0, .int .i64 0, .int .i64 0, .int .i64 0] 26) = W2 at hE1 hA ⊢
      clear hV q
      generalize hV : W.heap.size = ga at hA ⊢
      clear hV
      exact hN2 _ _ _ _ (n_0_0_0_1.out W2 ga hE1 hA)
  replace n_0_0_0_0 := Lib.hid n_0_0_0_0
  exact hN2 _ _ _ _ (n_0_0_0_0.out _ HE0.out)

end Go.Proofs.Ytefphkefgfoklaa
