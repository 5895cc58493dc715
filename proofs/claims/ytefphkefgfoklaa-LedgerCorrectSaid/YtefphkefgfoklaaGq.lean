/- The contract of the reference's balance. -/
import Derived.Test.YtefphkefgfoklaaGp
namespace Go.Proofs.Ytefphkefgfoklaa
open Go.RowKit
set_option linter.unusedVariables false

/-- what the effects of a list may be -/
structure Effs (l : List En) : Prop where
  back : ∀ e ∈ l, e.kind = 9 → 1 ≤ e.amt ∧ e.amt ≤ (l.length : Int)
  bd : ∀ e ∈ l, -64000000000000 ≤ effA l e ∧ effA l e ≤ 64000000000000
  len : l.length ≤ 2001
theorem foldB_within (L : List En) (lot : Int) : ∀ (r : List En) (b : Ba) (m : Int), b.within m → (∀ e ∈ r, -64000000000000 ≤ effA L e ∧ effA L e ≤ 64000000000000) → (foldB L lot r b).within (m + r.length * 64000000000000)
  | [], b, m, h, _ => by simpa [foldB] using h
  | e :: r, b, m, h, hb => by
    rw [foldB_cons]
    have h1 : (post L lot b e).within (m + 64000000000000) := by
      unfold post
      split
      · exact bump_within h (hb e (by simp)) (by omega)
      · exact h.mono (by omega)
    have := foldB_within L lot r _ _ h1 (fun x hx => hb x (by simp [hx]))
    exact this.mono (by simp only [List.length_cons]; omega)
theorem foldB_take {l : List En} (lot : Int) {k : Nat} (h : k < l.length) : foldB l lot (l.take (k + 1)) .zero = post l lot (foldB l lot (l.take k) .zero) (l[k]?.getD default) := by
  rw [take_snoc h, foldB_append]; rfl
theorem set5 {w : World} {g : Nat} {t : TypeId} {a0 a1 a2 a3 a4 b0 b1 b2 b3 b4 : Value} (h : w.heap[g]? = some (.cells #[a0, a1, a2, a3, a4] t (0, 0))) :
    (((((w.setCell ⟨g, 0, none⟩ b0).setCell ⟨g, 1, none⟩ b1).setCell ⟨g, 2, none⟩ b2).setCell ⟨g, 3, none⟩ b3).setCell ⟨g, 4, none⟩ b4).heap[g]? = some (.cells #[b0, b1, b2, b3, b4] t (0, 0)) := by
  have h1 := heap_setCell_same w g 0 _ t b0 h
  have h2 := heap_setCell_same _ g 1 _ t b1 h1
  have h3 := heap_setCell_same _ g 2 _ t b2 h2
  have h4 := heap_setCell_same _ g 3 _ t b3 h3
  have h5 := heap_setCell_same _ g 4 _ t b4 h4
  exact h5
theorem below_set5 {B : Nat} {u w : World} {g : Nat} {b0 b1 b2 b3 b4 : Value} (h : Below B u w) (hg : B ≤ g) : Below B u (((((w.setCell ⟨g, 0, none⟩ b0).setCell ⟨g, 1, none⟩ b1).setCell ⟨g, 2, none⟩ b2).setCell ⟨g, 3, none⟩ b3).setCell ⟨g, 4, none⟩ b4) :=
  ((((h.setCell (p := ⟨g, 0, none⟩) hg _).setCell (p := ⟨g, 1, none⟩) hg _).setCell (p := ⟨g, 2, none⟩) hg _).setCell (p := ⟨g, 3, none⟩) hg _).setCell (p := ⟨g, 4, none⟩) hg _
theorem heap_set5 {w : World} {g k : Nat} {b0 b1 b2 b3 b4 : Value} (h : k ≠ g) : (((((w.setCell ⟨g, 0, none⟩ b0).setCell ⟨g, 1, none⟩ b1).setCell ⟨g, 2, none⟩ b2).setCell ⟨g, 3, none⟩ b3).setCell ⟨g, 4, none⟩ b4).heap[k]? = w.heap[k]? := by
  rw [heap_setCell_other _ ⟨g, 4, none⟩ _ _ h, heap_setCell_other _ ⟨g, 3, none⟩ _ _ h, heap_setCell_other _ ⟨g, 2, none⟩ _ _ h, heap_setCell_other _ ⟨g, 1, none⟩ _ _ h, heap_setCell_other _ ⟨g, 0, none⟩ _ _ h]
/-- the cells of a block of five -/
theorem cells5 {w : World} {g : Nat} {t : TypeId} {a0 a1 a2 a3 a4 : Value} (h : w.heap[g]? = some (.cells #[a0, a1, a2, a3, a4] t (0, 0))) :
    (w.cell? ⟨g, 0, none⟩ = some a0 ∧ w.cell? ⟨g, 1, none⟩ = some a1 ∧ w.cell? ⟨g, 2, none⟩ = some a2 ∧ w.cell? ⟨g, 3, none⟩ = some a3 ∧ w.cell? ⟨g, 4, none⟩ = some a4) ∧
    (w.frozen? ⟨g, 0, none⟩ = false ∧ w.frozen? ⟨g, 1, none⟩ = false ∧ w.frozen? ⟨g, 2, none⟩ = false ∧ w.frozen? ⟨g, 3, none⟩ = false ∧ w.frozen? ⟨g, 4, none⟩ = false) := by
  refine ⟨⟨?_, ?_, ?_, ?_, ?_⟩, ?_, ?_, ?_, ?_, ?_⟩
  all_goals first | (rw [cell_of_row _ _ _ _ _ _ h]; rfl) | exact frozen_of_row _ _ _ _ _ h
def BalRel (w : World) (l : List En) (lot : Int) (g h : Nat) (m : Nat) (i : Value) (wr : World) : Prop :=
  ∃ k : Nat, k + m = l.length ∧ i = .int .i64 (k : Int) ∧ wr.heap[h]? = some (.cells (baArr lot (foldB l lot (l.take k) .zero)) 37 (0, 0)) ∧ wr.heap[g]? = some (.cells #[.int .i64 0, .int .i64 0, .int .i64 0, .int .i64 0, .int .i64 0] 37 (0, 0)) ∧ Below w.heap.size w wr
set_option maxRecDepth 100000 in
set_option maxHeartbeats 4000000 in
theorem refBalance_any (A : Option Addr) (c : Nat) (l : List En) (lot : Int) (w : World) (h : SlE w A l) (he : Effs l) :
    Calls Try.prog 39 #[.slice A l.length c, .int .i64 lot] w fun e w' => e = .returned (baV lot (balF l lot)) ∧ Below w.heap.size w w' := by
  have q0 : Below w.heap.size w ((w.alloc (.cells #[.int .i64 0, .int .i64 0, .int .i64 0, .int .i64 0, .int .i64 0] 37)).alloc (.cells #[.int .i64 lot, .int .i64 0, .int .i64 0, .int .i64 0, .int .i64 0] 37)) := ((Below.refl _ _).alloc (Nat.le_refl _) _).alloc (by simp) _
  have g1 := heap_alloc2_new w (.cells #[.int .i64 0, .int .i64 0, .int .i64 0, .int .i64 0, .int .i64 0] 37) (.cells #[.int .i64 lot, .int .i64 0, .int .i64 0, .int .i64 0, .int .i64 0] 37)
  have g0 := heap_alloc2_old w (.cells #[.int .i64 0, .int .i64 0, .int .i64 0, .int .i64 0, .int .i64 0] 37) (.cells #[.int .i64 lot, .int .i64 0, .int .i64 0, .int .i64 0, .int .i64 0] 37)
  have HS : Hid (BalRel w l lot w.heap.size (w.heap.size + 1) l.length (.int .i64 0) ((w.alloc (.cells #[.int .i64 0, .int .i64 0, .int .i64 0, .int .i64 0, .int .i64 0] 37)).alloc (.cells #[.int .i64 lot, .int .i64 0, .int .i64 0, .int .i64 0, .int .i64 0] 37))) := ⟨0, by omega, rfl, g1, g0, q0⟩
  have HH := Lib.hid h
  have HE := Lib.hid he
  have hl2 := he.len
  clear q0 g0 g1 h he
  go_enter Try.func39, Try.ntmps39
  go_wp2
  go_loopg [6] l.length (fun m i wr => BalRel w l lot w.heap.size (w.heap.size + 1) m i wr)
  case atStart => exact HS.out
  case round =>
    obtain ⟨k, hk, rfl, hg1, hg0, hb⟩ := hrel
    have HK := Lib.hid hk
    have hk2 : k ≤ l.length := by omega
    have hBr := hb.size
    have HB := Lib.hid hb
    clear hk hb HS
    by_cases hlt : k < l.length
    · have hx : l[k]? = some (l[k]?.getD default) := by rw [List.getElem?_eq_getElem hlt]; rfl
      have H3 := foldB_take lot hlt
      have hW := foldB_within l lot (l.take k) .zero 0 (by unfold Ba.within Ba.zero; simp) (fun e he => HE.out.bd e (List.mem_of_mem_take he))
      have hmem : l[k]?.getD default ∈ l := List.mem_of_getElem? hx
      have hbk := HE.out.back _ hmem
      have hbd := HE.out.bd _ hmem
      have htl : (l.take k).length ≤ 2001 := by rw [List.length_take]; omega
      obtain ⟨b, off, rfl, e0, e1, e2, e3, e4, e5⟩ := (HH.out.rd.below HB.out).en hx
      have hbl := block_lt_of_cell e0
      generalize hxx : l[k]?.getD default = x at *
      have HBA := Lib.hid (fun W => refAfter_any lot (foldB l lot (l.take k) .zero) (effK l x) (effA l x) W (hW.mono (by omega)) ⟨by omega, by omega⟩)
      clear hxx hmem htl hx
      generalize foldB l lot (l.take k) .zero = bl at *
      by_cases hn : x.lot = lot
      · have HP : Hid (foldB l lot (l.take (k + 1)) .zero = bump bl (effK l x) (effA l x)) := H3.trans (by unfold post; rw [if_pos hn])
        have hn1 : (x.lot == lot) = true := by simpa using hn
        have HN := Lib.hid hn
        obtain ⟨⟨d0, d1, d2, d3, d4⟩, z0, z1, z2, z3, z4⟩ := cells5 hg1
        have hhl := (Array.getElem?_eq_some_iff.1 hg1).1
        have HG1 := Lib.hid hg1
        have HG0 := Lib.hid hg0
        unfold baV at HBA
        clear hn H3 hg1 hg0 hW
        by_cases h9 : x.kind = 9
        · have hk1 : (x.kind == 9) = true := by simpa using h9
          obtain ⟨hb1, hb2⟩ := hbk h9
          obtain ⟨j, hj⟩ : ∃ j : Nat, x.amt = (j : Int) + 1 := ⟨(x.amt - 1).toNat, by omega⟩
          have hjl : j < l.length := by omega
          have hold := nth_get hjl
          rw [← hj] at hold
          have hEK : effK l x = (nth l x.amt).kind := by unfold effK; rw [if_pos h9]
          have hEA : effA l x = -(nth l x.amt).amt := by unfold effA; rw [if_pos h9]
          rw [hEA] at hbd
          obtain ⟨b', off', hbb, f0, f1, f2, f3, f4, f5⟩ := (HH.out.rd.below HB.out).en hold
          injection hbb with hbb
          injection hbb with e1' e2' _
          subst e1'; subst e2'
          rw [hEK, hEA] at HBA HP
          rw [hj] at e4
          generalize nth l x.amt = od at *
          have s1 : IntKind.i64.wrap (-od.amt) = -od.amt := IntWalk.i64_in _ (by omega)
          have HJ := Lib.hid hj
          clear hold hEK hEA hbk hj h9 hb1 hb2 hbd
          have b1 : Below wr.heap.size wr (wr.alloc (.cells #[.int .i64 od.num, .int .i64 od.day, .int .i64 od.kind, .int .i64 od.lot, .int .i64 od.amt, .int .i64 od.cause] 26)) := (Below.refl _ _).alloc (Nat.le_refl _) _
          have B1 := Lib.hid b1
          clear b1
          go_wp2_with (go_at_call 15; refine (HBA.out _).mono ?_; rintro e w2 ⟨rfl, hb2⟩; have hb3 : Below wr.heap.size wr w2 := B1.out.trans (hb2.mono B1.out.size); have hgw := (hb3.block _ hhl).trans HG1.out; have HGW := Lib.hid hgw; obtain ⟨⟨d0, d1, d2, d3, d4⟩, z0, z1, z2, z3, z4⟩ := cells5 hgw; have HB3 := Lib.hid hb3; clear hgw hb2 hb3)
          go_roundg (l.length - (k + 1))
          case measure => have := HK.out; omega
          case rel => exact ⟨k + 1, by have := HK.out; omega, by go_num, by rw [HP.out]; exact set5 HGW.out, by rw [heap_set5 (by omega)]; exact (HB3.out.block _ (by omega)).trans HG0.out, below_set5 (HB.out.trans (HB3.out.mono hBr)) (by omega)⟩
        · have hk1 : (x.kind == 9) = false := by simpa using h9
          have hEK : effK l x = x.kind := by unfold effK; rw [if_neg h9]
          have hEA : effA l x = x.amt := by unfold effA; rw [if_neg h9]
          rw [hEK, hEA] at HBA HP
          clear hEK hEA hbk h9 hbd
          have s1 : (k : Int) < l.length := by omega
          go_wp2_with fail
          refine wp_region_tail 11 (by kernel_rfl) (by kernel_rfl) ?_
          simp only [List.take_succ_cons, List.take_zero, List.drop_succ_cons, List.drop_zero]
          repeat still_step
          refine wpStill_nil ?_
          go_wp2_with (go_at_call 15; refine (HBA.out _).mono ?_; rintro e w2 ⟨rfl, hb2⟩; have hb3 : Below wr.heap.size wr w2 := ((Below.refl _ _).drew).trans hb2; have hgw := (hb3.block _ hhl).trans HG1.out; have HGW := Lib.hid hgw; obtain ⟨⟨d0, d1, d2, d3, d4⟩, z0, z1, z2, z3, z4⟩ := cells5 hgw; have HB3 := Lib.hid hb3; clear hgw hb2 hb3)
          go_roundg (l.length - (k + 1))
          case measure => have := HK.out; omega
          case rel => exact ⟨k + 1, by have := HK.out; omega, by go_num, by rw [HP.out]; exact set5 HGW.out, by rw [heap_set5 (by omega)]; exact (HB3.out.block _ (by omega)).trans HG0.out, below_set5 (HB.out.trans (HB3.out.mono hBr)) (by omega)⟩
      · have HP : Hid (foldB l lot (l.take (k + 1)) .zero = bl) := H3.trans (by unfold post; rw [if_neg hn])
        have hn1 : (x.lot == lot) = false := by simpa using hn
        have HG1 := Lib.hid hg1
        have HG0 := Lib.hid hg0
        clear hn H3 hg1 hg0 hW hbk hbd
        go_wp2_with fail
        go_roundg (l.length - (k + 1))
        case measure => have := HK.out; omega
        case rel => exact ⟨k + 1, by have := HK.out; omega, by go_num, by rw [HP.out]; exact HG1.out, HG0.out, HB.out⟩
    · have ht : l.take k = l := List.take_of_length_le (by omega)
      rw [ht] at hg1
      have hbf : foldB l lot l .zero = balF l lot := rfl
      rw [hbf] at hg1
      generalize hbl : balF l lot = bl at hg1
      have HBL := Lib.hid hbl
      clear hbl
      obtain ⟨⟨d0, d1, d2, d3, d4⟩, z0, z1, z2, z3, z4⟩ := cells5 hg1
      obtain ⟨⟨c0, c1, c2, c3, c4⟩, y0, y1, y2, y3, y4⟩ := cells5 hg0
      have hhl := (Array.getElem?_eq_some_iff.1 hg1).1
      clear hg1 hg0 ht hbf
      go_wp2
      exact bodyPost_ret (v := baV lot bl) (by simp [results, baV, Try.results39, go_sem, c0, c1, c2, c3, c4]) rfl ⟨by rw [HBL.out], below_set5 HB.out (Nat.le_refl _)⟩
end Go.Proofs.Ytefphkefgfoklaa
