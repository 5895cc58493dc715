/- The contracts of the reference's functions of arrivals. -/
import Derived.Test.YtecmpkcjeaiknaaTp
import Derived.Test.YtecmpkcjeaiknaaLast
namespace Go.Proofs.Ytecmpkcjeaiknaa
open Go.RowKit
set_option linter.unusedVariables false
def ArrYRet (y : Arr) (x : Value) (w : World) (e : Ending) (w' : World) : Prop := ∃ v1 v2 v3, e = .returned (.tuple #[arrV y v1 v2 v3, x]) ∧ SlcsAt w' v1 y.lot.slc ∧ IntsAt w' v2 y.seals ∧ IntsAt w' v3 y.found ∧ Below w.heap.size w w'
theorem wp_store_box {P : Program} {op : Oper} {a : Act} {w : World} {K : Act → World → Prop} {Q : Exit → Act → World → Prop} (ty : TypeId) (x y : Operand) (ho : op.op = .store ty x y)
    (b o : Nat) (v : Value) (cells : Array Value) (hx : a.eval x = .pointer (some ⟨b, o, none⟩)) (hy : a.eval y = v) (hv : v.cells = cells)
    (cs cs' : List Value) (t : TypeId) (hB : w.heap[b]? = some (.cells cs.toArray t (0, 0))) (hl : o + cells.size ≤ cs.length) (e : cs.take o ++ cells.toList ++ cs.drop (o + cells.toList.length) = cs') (hi : (P.info? ty).map (·.size) = some cells.size) (h1 : cells.toList.all (·.oneCell') = true)
    (h : ∀ W, W.heap[b]? = some (.cells cs'.toArray t (0, 0)) → But b w W → K (a.put op.dst undef) W) : op.wp P a w K Q := by
  unfold Oper.wp execOp
  simp only [ho, hx, hy, Instr.storeAt, Instr.sureAddr, Sem.run_bind, Sem.run_pure, Result.andThen_ok, run_storeVar_any w b o ty v cells hv (there_of_row hB hl) hi (by rw [← Array.all_toList]; exact h1)]
  refine h _ ?_ (But.sets b _ o w)
  have := setCells_row b t cells.toList o w cs hB (by simpa using hl)
  rw [this, e]

set_option maxRecDepth 100000 in
set_option maxHeartbeats 4000000 in
theorem refEnquire_any (y : Arr) (v1 v2 v3 : Value) (w : World) (h1 : SlcsAt w v1 y.lot.slc) (h2 : IntsAt w v2 y.seals) (h3 : IntsAt w v3 y.found) :
    Calls Try.prog 13 #[arrV y v1 v2 v3] w (ArrYRet (enqF y) (.int .i64 (ansF y)) w) := by
  obtain ⟨y0, y1, y2, y3, ⟨l0, l1, l2, l3, sl⟩, ss, sf⟩ := y
  obtain ⟨A1, c1, rfl⟩ := h1.shape
  obtain ⟨A2, c2, rfl⟩ := h2.shape
  obtain ⟨A3, c3, rfl⟩ := h3.shape
  have H1 := Lib.hid h1
  have H2 := Lib.hid h2
  have H3 := Lib.hid h3
  clear h1 h2 h3
  by_cases e2 : y3 = 2
  · subst e2
    have HD := Lib.hid (show enqF ⟨y0, y1, y2, 2, ⟨l0, l1, l2, l3, sl⟩, ss, sf⟩ = ⟨y0, y1, y2, 4, ⟨l0, l1, l2, l3, sl⟩, ss, sf⟩ ∧ ansF ⟨y0, y1, y2, 2, ⟨l0, l1, l2, l3, sl⟩, ss, sf⟩ = 4 by constructor <;> rfl)
    have HA := Lib.hid (((Agr.refl (Off w.heap.size (w.heap.size + 2)) w).alloc (.cells #[.int .i64 y0, .int .i64 y1, .int .i64 y2, .int .i64 2, .int .i64 l0, .string l1, .int .i64 l2, .int .i64 l3, .slice A1 sl.length c1, .slice A2 ss.length c2, .slice A3 sf.length c3] 27)).alloc (.cells #[.int .i64 0, .int .i64 0, .int .i64 0, .int .i64 0, .int .i64 0, .string ⟨#[]⟩, .int .i64 0, .int .i64 0, .slice none 0 0, .slice none 0 0, .slice none 0 0] 27))
    have HB1 := Lib.hid (box_alloc (p := (.cells #[.int .i64 0, .int .i64 0, .int .i64 0, .int .i64 0, .int .i64 0, .string ⟨#[]⟩, .int .i64 0, .int .i64 0, .slice none 0 0, .slice none 0 0, .slice none 0 0] 27)) (new_at (w := w) (o := (.cells #[.int .i64 y0, .int .i64 y1, .int .i64 y2, .int .i64 2, .int .i64 l0, .string l1, .int .i64 l2, .int .i64 l3, .slice A1 sl.length c1, .slice A2 ss.length c2, .slice A3 sf.length c3] 27)) (g := w.heap.size) (by simp)))
    have HB2 := Lib.hid (new_at (w := (w.alloc (.cells #[.int .i64 y0, .int .i64 y1, .int .i64 y2, .int .i64 2, .int .i64 l0, .string l1, .int .i64 l2, .int .i64 l3, .slice A1 sl.length c1, .slice A2 ss.length c2, .slice A3 sf.length c3] 27))) (o := (.cells #[.int .i64 0, .int .i64 0, .int .i64 0, .int .i64 0, .int .i64 0, .string ⟨#[]⟩, .int .i64 0, .int .i64 0, .slice none 0 0, .slice none 0 0, .slice none 0 0] 27)) (g := w.heap.size + 1) (by simp))
    have HZ := Lib.hid (show w.heap.size + 2 ≤ ((w.alloc (.cells #[.int .i64 y0, .int .i64 y1, .int .i64 y2, .int .i64 2, .int .i64 l0, .string l1, .int .i64 l2, .int .i64 l3, .slice A1 sl.length c1, .slice A2 ss.length c2, .slice A3 sf.length c3] 27)).alloc (.cells #[.int .i64 0, .int .i64 0, .int .i64 0, .int .i64 0, .int .i64 0, .string ⟨#[]⟩, .int .i64 0, .int .i64 0, .slice none 0 0, .slice none 0 0, .slice none 0 0] 27)).heap.size by simp)
    unfold arrV
    go_enter Try.func13, Try.ntmps13
    go_wp2_with (first
      | (refine at_load 3 (.tmp 4) rfl ?_; refine wpList_load_one rfl 3 (.tmp 4) rfl (w.heap.size) 3 rfl [.int .i64 y0, .int .i64 y1, .int .i64 y2, .int .i64 2, .int .i64 l0, .string l1, .int .i64 l2, .int .i64 l3, .slice A1 sl.length c1, .slice A2 ss.length c2, .slice A3 sf.length c3] (.int .i64 2) _ HB1.out rfl _ Try.underlying3 rfl ?_)
      | (refine at_store 3 (.tmp 8) (.const (.int .i64 4)) rfl ?_; refine wpList_store_box rfl 3 (.tmp 8) (.const (.int .i64 4)) rfl (w.heap.size) 3 ((.int .i64 4)) #[.int .i64 4] rfl rfl rfl [.int .i64 y0, .int .i64 y1, .int .i64 y2, .int .i64 2, .int .i64 l0, .string l1, .int .i64 l2, .int .i64 l3, .slice A1 sl.length c1, .slice A2 ss.length c2, .slice A3 sf.length c3] [.int .i64 y0, .int .i64 y1, .int .i64 y2, .int .i64 4, .int .i64 l0, .string l1, .int .i64 l2, .int .i64 l3, .slice A1 sl.length c1, .slice A2 ss.length c2, .slice A3 sf.length c3] _ HB1.out (Nat.le_of_ble_eq_true rfl) rfl (by kernel_rfl) rfl ?_; intro W1 hb hP; have HT := Lib.hid (hP.agr (not_off (by omega) : ¬ (Off w.heap.size (w.heap.size + 2)) (w.heap.size))); have HA := Lib.hid (HA.out.trans HT.out); have HB2 := Lib.hid ((hP.block (w.heap.size + 1) (by omega)).trans HB2.out); have HB1 := Lib.hid hb; have HZ := Lib.hid (Nat.le_trans HZ.out HT.out.size); clear hb hP HT)
      | (refine at_load 27 (.tmp 1) rfl ?_; refine wpList_load_box rfl 27 (.tmp 1) rfl (w.heap.size) 0 rfl [.int .i64 y0, .int .i64 y1, .int .i64 y2, .int .i64 4, .int .i64 l0, .string l1, .int .i64 l2, .int .i64 l3, .slice A1 sl.length c1, .slice A2 ss.length c2, .slice A3 sf.length c3] [.int .i64 y0, .int .i64 y1, .int .i64 y2, .int .i64 4, .int .i64 l0, .string l1, .int .i64 l2, .int .i64 l3, .slice A1 sl.length c1, .slice A2 ss.length c2, .slice A3 sf.length c3] _ HB1.out _ Try.underlying27 rfl 11 rfl rfl (by kernel_rfl) ?_)
      | (refine at_store 27 (.tmp 2) (.tmp 9) rfl ?_; refine wpList_store_box rfl 27 (.tmp 2) (.tmp 9) rfl (w.heap.size + 1) 0 (.agg #[.int .i64 y0, .int .i64 y1, .int .i64 y2, .int .i64 4, .int .i64 l0, .string l1, .int .i64 l2, .int .i64 l3, .slice A1 sl.length c1, .slice A2 ss.length c2, .slice A3 sf.length c3]) #[.int .i64 y0, .int .i64 y1, .int .i64 y2, .int .i64 4, .int .i64 l0, .string l1, .int .i64 l2, .int .i64 l3, .slice A1 sl.length c1, .slice A2 ss.length c2, .slice A3 sf.length c3] rfl rfl rfl [.int .i64 0, .int .i64 0, .int .i64 0, .int .i64 0, .int .i64 0, .string ⟨#[]⟩, .int .i64 0, .int .i64 0, .slice none 0 0, .slice none 0 0, .slice none 0 0] [.int .i64 y0, .int .i64 y1, .int .i64 y2, .int .i64 4, .int .i64 l0, .string l1, .int .i64 l2, .int .i64 l3, .slice A1 sl.length c1, .slice A2 ss.length c2, .slice A3 sf.length c3] _ HB2.out (Nat.le_of_ble_eq_true rfl) rfl (by kernel_rfl) rfl ?_; intro W2 hb hP; have HT := Lib.hid (hP.agr (not_off (by omega) : ¬ (Off w.heap.size (w.heap.size + 2)) (w.heap.size + 1))); have HA := Lib.hid (HA.out.trans HT.out); have HB1 := Lib.hid ((hP.block (w.heap.size) (by omega)).trans HB1.out); have HB2 := Lib.hid hb; have HZ := Lib.hid (Nat.le_trans HZ.out HT.out.size); clear hb hP HT))
    refine ret2 (k := 2) (j := 3) (g := w.heap.size + 1) (T := 27) (cs := #[.int .i64 y0, .int .i64 y1, .int .i64 y2, .int .i64 4, .int .i64 l0, .string l1, .int .i64 l2, .int .i64 l3, .slice A1 sl.length c1, .slice A2 ss.length c2, .slice A3 sf.length c3]) Try.results13 ?_ ?_ Try.underlying27 (by kernel_rfl) ?_ ?_
    · rfl
    · exact HB2.out
    · rfl
    · exact by rw [HD.out.1, HD.out.2]; exact ⟨.slice A1 sl.length c1, .slice A2 ss.length c2, .slice A3 sf.length c3, rfl, (H1.out.old HA.out (Nat.le_refl _)), (H2.out.old HA.out (Nat.le_refl _)), (H3.out.old HA.out (Nat.le_refl _)), HA.out.toB (Nat.le_refl _)⟩
  have b2 : (y3 == 2) = false := by simpa using e2
  by_cases e4 : y3 = 4
  · subst e4
    have HD := Lib.hid (show enqF ⟨y0, y1, y2, 4, ⟨l0, l1, l2, l3, sl⟩, ss, sf⟩ = ⟨y0, y1, y2, 4, ⟨l0, l1, l2, l3, sl⟩, ss, sf⟩ ∧ ansF ⟨y0, y1, y2, 4, ⟨l0, l1, l2, l3, sl⟩, ss, sf⟩ = 4 by constructor <;> rfl)
    have HA := Lib.hid (((Agr.refl (Off w.heap.size (w.heap.size + 2)) w).alloc (.cells #[.int .i64 y0, .int .i64 y1, .int .i64 y2, .int .i64 4, .int .i64 l0, .string l1, .int .i64 l2, .int .i64 l3, .slice A1 sl.length c1, .slice A2 ss.length c2, .slice A3 sf.length c3] 27)).alloc (.cells #[.int .i64 0, .int .i64 0, .int .i64 0, .int .i64 0, .int .i64 0, .string ⟨#[]⟩, .int .i64 0, .int .i64 0, .slice none 0 0, .slice none 0 0, .slice none 0 0] 27))
    have HB1 := Lib.hid (box_alloc (p := (.cells #[.int .i64 0, .int .i64 0, .int .i64 0, .int .i64 0, .int .i64 0, .string ⟨#[]⟩, .int .i64 0, .int .i64 0, .slice none 0 0, .slice none 0 0, .slice none 0 0] 27)) (new_at (w := w) (o := (.cells #[.int .i64 y0, .int .i64 y1, .int .i64 y2, .int .i64 4, .int .i64 l0, .string l1, .int .i64 l2, .int .i64 l3, .slice A1 sl.length c1, .slice A2 ss.length c2, .slice A3 sf.length c3] 27)) (g := w.heap.size) (by simp)))
    have HB2 := Lib.hid (new_at (w := (w.alloc (.cells #[.int .i64 y0, .int .i64 y1, .int .i64 y2, .int .i64 4, .int .i64 l0, .string l1, .int .i64 l2, .int .i64 l3, .slice A1 sl.length c1, .slice A2 ss.length c2, .slice A3 sf.length c3] 27))) (o := (.cells #[.int .i64 0, .int .i64 0, .int .i64 0, .int .i64 0, .int .i64 0, .string ⟨#[]⟩, .int .i64 0, .int .i64 0, .slice none 0 0, .slice none 0 0, .slice none 0 0] 27)) (g := w.heap.size + 1) (by simp))
    have HZ := Lib.hid (show w.heap.size + 2 ≤ ((w.alloc (.cells #[.int .i64 y0, .int .i64 y1, .int .i64 y2, .int .i64 4, .int .i64 l0, .string l1, .int .i64 l2, .int .i64 l3, .slice A1 sl.length c1, .slice A2 ss.length c2, .slice A3 sf.length c3] 27)).alloc (.cells #[.int .i64 0, .int .i64 0, .int .i64 0, .int .i64 0, .int .i64 0, .string ⟨#[]⟩, .int .i64 0, .int .i64 0, .slice none 0 0, .slice none 0 0, .slice none 0 0] 27)).heap.size by simp)
    unfold arrV
    go_enter Try.func13, Try.ntmps13
    go_wp2_with (first
      | (refine at_load 3 (.tmp 4) rfl ?_; refine wpList_load_one rfl 3 (.tmp 4) rfl (w.heap.size) 3 rfl [.int .i64 y0, .int .i64 y1, .int .i64 y2, .int .i64 4, .int .i64 l0, .string l1, .int .i64 l2, .int .i64 l3, .slice A1 sl.length c1, .slice A2 ss.length c2, .slice A3 sf.length c3] (.int .i64 4) _ HB1.out rfl _ Try.underlying3 rfl ?_)
      | (refine at_load 27 (.tmp 1) rfl ?_; refine wpList_load_box rfl 27 (.tmp 1) rfl (w.heap.size) 0 rfl [.int .i64 y0, .int .i64 y1, .int .i64 y2, .int .i64 4, .int .i64 l0, .string l1, .int .i64 l2, .int .i64 l3, .slice A1 sl.length c1, .slice A2 ss.length c2, .slice A3 sf.length c3] [.int .i64 y0, .int .i64 y1, .int .i64 y2, .int .i64 4, .int .i64 l0, .string l1, .int .i64 l2, .int .i64 l3, .slice A1 sl.length c1, .slice A2 ss.length c2, .slice A3 sf.length c3] _ HB1.out _ Try.underlying27 rfl 11 rfl rfl (by kernel_rfl) ?_)
      | (refine at_store 27 (.tmp 2) (.tmp 12) rfl ?_; refine wpList_store_box rfl 27 (.tmp 2) (.tmp 12) rfl (w.heap.size + 1) 0 (.agg #[.int .i64 y0, .int .i64 y1, .int .i64 y2, .int .i64 4, .int .i64 l0, .string l1, .int .i64 l2, .int .i64 l3, .slice A1 sl.length c1, .slice A2 ss.length c2, .slice A3 sf.length c3]) #[.int .i64 y0, .int .i64 y1, .int .i64 y2, .int .i64 4, .int .i64 l0, .string l1, .int .i64 l2, .int .i64 l3, .slice A1 sl.length c1, .slice A2 ss.length c2, .slice A3 sf.length c3] rfl rfl rfl [.int .i64 0, .int .i64 0, .int .i64 0, .int .i64 0, .int .i64 0, .string ⟨#[]⟩, .int .i64 0, .int .i64 0, .slice none 0 0, .slice none 0 0, .slice none 0 0] [.int .i64 y0, .int .i64 y1, .int .i64 y2, .int .i64 4, .int .i64 l0, .string l1, .int .i64 l2, .int .i64 l3, .slice A1 sl.length c1, .slice A2 ss.length c2, .slice A3 sf.length c3] _ HB2.out (Nat.le_of_ble_eq_true rfl) rfl (by kernel_rfl) rfl ?_; intro W1 hb hP; have HT := Lib.hid (hP.agr (not_off (by omega) : ¬ (Off w.heap.size (w.heap.size + 2)) (w.heap.size + 1))); have HA := Lib.hid (HA.out.trans HT.out); have HB1 := Lib.hid ((hP.block (w.heap.size) (by omega)).trans HB1.out); have HB2 := Lib.hid hb; have HZ := Lib.hid (Nat.le_trans HZ.out HT.out.size); clear hb hP HT))
    refine ret2 (k := 2) (j := 3) (g := w.heap.size + 1) (T := 27) (cs := #[.int .i64 y0, .int .i64 y1, .int .i64 y2, .int .i64 4, .int .i64 l0, .string l1, .int .i64 l2, .int .i64 l3, .slice A1 sl.length c1, .slice A2 ss.length c2, .slice A3 sf.length c3]) Try.results13 ?_ ?_ Try.underlying27 (by kernel_rfl) ?_ ?_
    · rfl
    · exact HB2.out
    · rfl
    · exact by rw [HD.out.1, HD.out.2]; exact ⟨.slice A1 sl.length c1, .slice A2 ss.length c2, .slice A3 sf.length c3, rfl, (H1.out.old HA.out (Nat.le_refl _)), (H2.out.old HA.out (Nat.le_refl _)), (H3.out.old HA.out (Nat.le_refl _)), HA.out.toB (Nat.le_refl _)⟩
  have b4 : (y3 == 4) = false := by simpa using e4
  by_cases e3 : y3 = 3
  · subst e3
    have HD := Lib.hid (show enqF ⟨y0, y1, y2, 3, ⟨l0, l1, l2, l3, sl⟩, ss, sf⟩ = ⟨y0, y1, y2, 3, ⟨l0, l1, l2, l3, sl⟩, ss, sf⟩ ∧ ansF ⟨y0, y1, y2, 3, ⟨l0, l1, l2, l3, sl⟩, ss, sf⟩ = 3 by constructor <;> rfl)
    have HA := Lib.hid (((Agr.refl (Off w.heap.size (w.heap.size + 2)) w).alloc (.cells #[.int .i64 y0, .int .i64 y1, .int .i64 y2, .int .i64 3, .int .i64 l0, .string l1, .int .i64 l2, .int .i64 l3, .slice A1 sl.length c1, .slice A2 ss.length c2, .slice A3 sf.length c3] 27)).alloc (.cells #[.int .i64 0, .int .i64 0, .int .i64 0, .int .i64 0, .int .i64 0, .string ⟨#[]⟩, .int .i64 0, .int .i64 0, .slice none 0 0, .slice none 0 0, .slice none 0 0] 27))
    have HB1 := Lib.hid (box_alloc (p := (.cells #[.int .i64 0, .int .i64 0, .int .i64 0, .int .i64 0, .int .i64 0, .string ⟨#[]⟩, .int .i64 0, .int .i64 0, .slice none 0 0, .slice none 0 0, .slice none 0 0] 27)) (new_at (w := w) (o := (.cells #[.int .i64 y0, .int .i64 y1, .int .i64 y2, .int .i64 3, .int .i64 l0, .string l1, .int .i64 l2, .int .i64 l3, .slice A1 sl.length c1, .slice A2 ss.length c2, .slice A3 sf.length c3] 27)) (g := w.heap.size) (by simp)))
    have HB2 := Lib.hid (new_at (w := (w.alloc (.cells #[.int .i64 y0, .int .i64 y1, .int .i64 y2, .int .i64 3, .int .i64 l0, .string l1, .int .i64 l2, .int .i64 l3, .slice A1 sl.length c1, .slice A2 ss.length c2, .slice A3 sf.length c3] 27))) (o := (.cells #[.int .i64 0, .int .i64 0, .int .i64 0, .int .i64 0, .int .i64 0, .string ⟨#[]⟩, .int .i64 0, .int .i64 0, .slice none 0 0, .slice none 0 0, .slice none 0 0] 27)) (g := w.heap.size + 1) (by simp))
    have HZ := Lib.hid (show w.heap.size + 2 ≤ ((w.alloc (.cells #[.int .i64 y0, .int .i64 y1, .int .i64 y2, .int .i64 3, .int .i64 l0, .string l1, .int .i64 l2, .int .i64 l3, .slice A1 sl.length c1, .slice A2 ss.length c2, .slice A3 sf.length c3] 27)).alloc (.cells #[.int .i64 0, .int .i64 0, .int .i64 0, .int .i64 0, .int .i64 0, .string ⟨#[]⟩, .int .i64 0, .int .i64 0, .slice none 0 0, .slice none 0 0, .slice none 0 0] 27)).heap.size by simp)
    unfold arrV
    go_enter Try.func13, Try.ntmps13
    go_wp2_with (first
      | (refine at_load 3 (.tmp 4) rfl ?_; refine wpList_load_one rfl 3 (.tmp 4) rfl (w.heap.size) 3 rfl [.int .i64 y0, .int .i64 y1, .int .i64 y2, .int .i64 3, .int .i64 l0, .string l1, .int .i64 l2, .int .i64 l3, .slice A1 sl.length c1, .slice A2 ss.length c2, .slice A3 sf.length c3] (.int .i64 3) _ HB1.out rfl _ Try.underlying3 rfl ?_)
      | (refine at_load 27 (.tmp 1) rfl ?_; refine wpList_load_box rfl 27 (.tmp 1) rfl (w.heap.size) 0 rfl [.int .i64 y0, .int .i64 y1, .int .i64 y2, .int .i64 3, .int .i64 l0, .string l1, .int .i64 l2, .int .i64 l3, .slice A1 sl.length c1, .slice A2 ss.length c2, .slice A3 sf.length c3] [.int .i64 y0, .int .i64 y1, .int .i64 y2, .int .i64 3, .int .i64 l0, .string l1, .int .i64 l2, .int .i64 l3, .slice A1 sl.length c1, .slice A2 ss.length c2, .slice A3 sf.length c3] _ HB1.out _ Try.underlying27 rfl 11 rfl rfl (by kernel_rfl) ?_)
      | (refine at_store 27 (.tmp 2) (.tmp 15) rfl ?_; refine wpList_store_box rfl 27 (.tmp 2) (.tmp 15) rfl (w.heap.size + 1) 0 (.agg #[.int .i64 y0, .int .i64 y1, .int .i64 y2, .int .i64 3, .int .i64 l0, .string l1, .int .i64 l2, .int .i64 l3, .slice A1 sl.length c1, .slice A2 ss.length c2, .slice A3 sf.length c3]) #[.int .i64 y0, .int .i64 y1, .int .i64 y2, .int .i64 3, .int .i64 l0, .string l1, .int .i64 l2, .int .i64 l3, .slice A1 sl.length c1, .slice A2 ss.length c2, .slice A3 sf.length c3] rfl rfl rfl [.int .i64 0, .int .i64 0, .int .i64 0, .int .i64 0, .int .i64 0, .string ⟨#[]⟩, .int .i64 0, .int .i64 0, .slice none 0 0, .slice none 0 0, .slice none 0 0] [.int .i64 y0, .int .i64 y1, .int .i64 y2, .int .i64 3, .int .i64 l0, .string l1, .int .i64 l2, .int .i64 l3, .slice A1 sl.length c1, .slice A2 ss.length c2, .slice A3 sf.length c3] _ HB2.out (Nat.le_of_ble_eq_true rfl) rfl (by kernel_rfl) rfl ?_; intro W1 hb hP; have HT := Lib.hid (hP.agr (not_off (by omega) : ¬ (Off w.heap.size (w.heap.size + 2)) (w.heap.size + 1))); have HA := Lib.hid (HA.out.trans HT.out); have HB1 := Lib.hid ((hP.block (w.heap.size) (by omega)).trans HB1.out); have HB2 := Lib.hid hb; have HZ := Lib.hid (Nat.le_trans HZ.out HT.out.size); clear hb hP HT))
    refine ret2 (k := 2) (j := 3) (g := w.heap.size + 1) (T := 27) (cs := #[.int .i64 y0, .int .i64 y1, .int .i64 y2, .int .i64 3, .int .i64 l0, .string l1, .int .i64 l2, .int .i64 l3, .slice A1 sl.length c1, .slice A2 ss.length c2, .slice A3 sf.length c3]) Try.results13 ?_ ?_ Try.underlying27 (by kernel_rfl) ?_ ?_
    · rfl
    · exact HB2.out
    · rfl
    · exact by rw [HD.out.1, HD.out.2]; exact ⟨.slice A1 sl.length c1, .slice A2 ss.length c2, .slice A3 sf.length c3, rfl, (H1.out.old HA.out (Nat.le_refl _)), (H2.out.old HA.out (Nat.le_refl _)), (H3.out.old HA.out (Nat.le_refl _)), HA.out.toB (Nat.le_refl _)⟩
  have b3 : (y3 == 3) = false := by simpa using e3
  have HD := Lib.hid (show enqF ⟨y0, y1, y2, y3, ⟨l0, l1, l2, l3, sl⟩, ss, sf⟩ = ⟨y0, y1, y2, y3, ⟨l0, l1, l2, l3, sl⟩, ss, sf⟩ ∧ ansF ⟨y0, y1, y2, y3, ⟨l0, l1, l2, l3, sl⟩, ss, sf⟩ = 0 by unfold enqF ansF; simp [e2, e3, e4])
  clear e2 e3 e4
  have HA := Lib.hid (((Agr.refl (Off w.heap.size (w.heap.size + 2)) w).alloc (.cells #[.int .i64 y0, .int .i64 y1, .int .i64 y2, .int .i64 y3, .int .i64 l0, .string l1, .int .i64 l2, .int .i64 l3, .slice A1 sl.length c1, .slice A2 ss.length c2, .slice A3 sf.length c3] 27)).alloc (.cells #[.int .i64 0, .int .i64 0, .int .i64 0, .int .i64 0, .int .i64 0, .string ⟨#[]⟩, .int .i64 0, .int .i64 0, .slice none 0 0, .slice none 0 0, .slice none 0 0] 27))
  have HB1 := Lib.hid (box_alloc (p := (.cells #[.int .i64 0, .int .i64 0, .int .i64 0, .int .i64 0, .int .i64 0, .string ⟨#[]⟩, .int .i64 0, .int .i64 0, .slice none 0 0, .slice none 0 0, .slice none 0 0] 27)) (new_at (w := w) (o := (.cells #[.int .i64 y0, .int .i64 y1, .int .i64 y2, .int .i64 y3, .int .i64 l0, .string l1, .int .i64 l2, .int .i64 l3, .slice A1 sl.length c1, .slice A2 ss.length c2, .slice A3 sf.length c3] 27)) (g := w.heap.size) (by simp)))
  have HB2 := Lib.hid (new_at (w := (w.alloc (.cells #[.int .i64 y0, .int .i64 y1, .int .i64 y2, .int .i64 y3, .int .i64 l0, .string l1, .int .i64 l2, .int .i64 l3, .slice A1 sl.length c1, .slice A2 ss.length c2, .slice A3 sf.length c3] 27))) (o := (.cells #[.int .i64 0, .int .i64 0, .int .i64 0, .int .i64 0, .int .i64 0, .string ⟨#[]⟩, .int .i64 0, .int .i64 0, .slice none 0 0, .slice none 0 0, .slice none 0 0] 27)) (g := w.heap.size + 1) (by simp))
  have HZ := Lib.hid (show w.heap.size + 2 ≤ ((w.alloc (.cells #[.int .i64 y0, .int .i64 y1, .int .i64 y2, .int .i64 y3, .int .i64 l0, .string l1, .int .i64 l2, .int .i64 l3, .slice A1 sl.length c1, .slice A2 ss.length c2, .slice A3 sf.length c3] 27)).alloc (.cells #[.int .i64 0, .int .i64 0, .int .i64 0, .int .i64 0, .int .i64 0, .string ⟨#[]⟩, .int .i64 0, .int .i64 0, .slice none 0 0, .slice none 0 0, .slice none 0 0] 27)).heap.size by simp)
  unfold arrV
  go_enter Try.func13, Try.ntmps13
  go_wp2_with (first
    | (refine at_load 3 (.tmp 4) rfl ?_; refine wpList_load_one rfl 3 (.tmp 4) rfl (w.heap.size) 3 rfl [.int .i64 y0, .int .i64 y1, .int .i64 y2, .int .i64 y3, .int .i64 l0, .string l1, .int .i64 l2, .int .i64 l3, .slice A1 sl.length c1, .slice A2 ss.length c2, .slice A3 sf.length c3] (.int .i64 y3) _ HB1.out rfl _ Try.underlying3 rfl ?_)
    | (refine at_load 27 (.tmp 1) rfl ?_; refine wpList_load_box rfl 27 (.tmp 1) rfl (w.heap.size) 0 rfl [.int .i64 y0, .int .i64 y1, .int .i64 y2, .int .i64 y3, .int .i64 l0, .string l1, .int .i64 l2, .int .i64 l3, .slice A1 sl.length c1, .slice A2 ss.length c2, .slice A3 sf.length c3] [.int .i64 y0, .int .i64 y1, .int .i64 y2, .int .i64 y3, .int .i64 l0, .string l1, .int .i64 l2, .int .i64 l3, .slice A1 sl.length c1, .slice A2 ss.length c2, .slice A3 sf.length c3] _ HB1.out _ Try.underlying27 rfl 11 rfl rfl (by kernel_rfl) ?_)
    | (refine at_store 27 (.tmp 2) (.tmp 16) rfl ?_; refine wpList_store_box rfl 27 (.tmp 2) (.tmp 16) rfl (w.heap.size + 1) 0 (.agg #[.int .i64 y0, .int .i64 y1, .int .i64 y2, .int .i64 y3, .int .i64 l0, .string l1, .int .i64 l2, .int .i64 l3, .slice A1 sl.length c1, .slice A2 ss.length c2, .slice A3 sf.length c3]) #[.int .i64 y0, .int .i64 y1, .int .i64 y2, .int .i64 y3, .int .i64 l0, .string l1, .int .i64 l2, .int .i64 l3, .slice A1 sl.length c1, .slice A2 ss.length c2, .slice A3 sf.length c3] rfl rfl rfl [.int .i64 0, .int .i64 0, .int .i64 0, .int .i64 0, .int .i64 0, .string ⟨#[]⟩, .int .i64 0, .int .i64 0, .slice none 0 0, .slice none 0 0, .slice none 0 0] [.int .i64 y0, .int .i64 y1, .int .i64 y2, .int .i64 y3, .int .i64 l0, .string l1, .int .i64 l2, .int .i64 l3, .slice A1 sl.length c1, .slice A2 ss.length c2, .slice A3 sf.length c3] _ HB2.out (Nat.le_of_ble_eq_true rfl) rfl (by kernel_rfl) rfl ?_; intro W1 hb hP; have HT := Lib.hid (hP.agr (not_off (by omega) : ¬ (Off w.heap.size (w.heap.size + 2)) (w.heap.size + 1))); have HA := Lib.hid (HA.out.trans HT.out); have HB1 := Lib.hid ((hP.block (w.heap.size) (by omega)).trans HB1.out); have HB2 := Lib.hid hb; have HZ := Lib.hid (Nat.le_trans HZ.out HT.out.size); clear hb hP HT))
  refine ret2 (k := 2) (j := 3) (g := w.heap.size + 1) (T := 27) (cs := #[.int .i64 y0, .int .i64 y1, .int .i64 y2, .int .i64 y3, .int .i64 l0, .string l1, .int .i64 l2, .int .i64 l3, .slice A1 sl.length c1, .slice A2 ss.length c2, .slice A3 sf.length c3]) Try.results13 ?_ ?_ Try.underlying27 (by kernel_rfl) ?_ ?_
  · rfl
  · exact HB2.out
  · rfl
  · exact by rw [HD.out.1, HD.out.2]; exact ⟨.slice A1 sl.length c1, .slice A2 ss.length c2, .slice A3 sf.length c3, rfl, (H1.out.old HA.out (Nat.le_refl _)), (H2.out.old HA.out (Nat.le_refl _)), (H3.out.old HA.out (Nat.le_refl _)), HA.out.toB (Nat.le_refl _)⟩

set_option maxRecDepth 100000 in
set_option maxHeartbeats 4000000 in
theorem refArrive_any (y : Arr) (v1 v2 v3 : Value) (id : Int) (sv : Value) (sa : List Int) (w : World) (h1 : SlcsAt w v1 y.lot.slc) (h2 : IntsAt w v2 y.seals) (h3 : IntsAt w v3 y.found) (h5 : IntsAt w sv sa) :
    Calls Try.prog 11 #[arrV y v1 v2 v3, .int .i64 id, sv] w (ArrYRet (arrF y id sa) (.bool (arrB y)) w) := by
  obtain ⟨y0, y1, y2, y3, ⟨l0, l1, l2, l3, sl⟩, ss, sf⟩ := y
  obtain ⟨A1, c1, rfl⟩ := h1.shape
  obtain ⟨A2, c2, rfl⟩ := h2.shape
  obtain ⟨A3, c3, rfl⟩ := h3.shape
  have H1 := Lib.hid h1
  have H2 := Lib.hid h2
  have H3 := Lib.hid h3
  clear h1 h2 h3
  obtain ⟨A5, c5, rfl⟩ := h5.shape
  have H5 := Lib.hid h5
  clear h5
  by_cases e0 : y3 = 0
  · subst e0
    have HD := Lib.hid (show arrF ⟨y0, y1, y2, 0, ⟨l0, l1, l2, l3, sl⟩, ss, sf⟩ id sa = ⟨id, y1, y2, 1, ⟨l0, l1, l2, l3, sl⟩, ss, sa⟩ ∧ arrB ⟨y0, y1, y2, 0, ⟨l0, l1, l2, l3, sl⟩, ss, sf⟩ = true by constructor <;> rfl)
    have HA := Lib.hid (((Agr.refl (Off w.heap.size (w.heap.size + 2)) w).alloc (.cells #[.int .i64 y0, .int .i64 y1, .int .i64 y2, .int .i64 0, .int .i64 l0, .string l1, .int .i64 l2, .int .i64 l3, .slice A1 sl.length c1, .slice A2 ss.length c2, .slice A3 sf.length c3] 27)).alloc (.cells #[.int .i64 0, .int .i64 0, .int .i64 0, .int .i64 0, .int .i64 0, .string ⟨#[]⟩, .int .i64 0, .int .i64 0, .slice none 0 0, .slice none 0 0, .slice none 0 0] 27))
    have HB3 := Lib.hid (box_alloc (p := (.cells #[.int .i64 0, .int .i64 0, .int .i64 0, .int .i64 0, .int .i64 0, .string ⟨#[]⟩, .int .i64 0, .int .i64 0, .slice none 0 0, .slice none 0 0, .slice none 0 0] 27)) (new_at (w := w) (o := (.cells #[.int .i64 y0, .int .i64 y1, .int .i64 y2, .int .i64 0, .int .i64 l0, .string l1, .int .i64 l2, .int .i64 l3, .slice A1 sl.length c1, .slice A2 ss.length c2, .slice A3 sf.length c3] 27)) (g := w.heap.size) (by simp)))
    have HB6 := Lib.hid (new_at (w := (w.alloc (.cells #[.int .i64 y0, .int .i64 y1, .int .i64 y2, .int .i64 0, .int .i64 l0, .string l1, .int .i64 l2, .int .i64 l3, .slice A1 sl.length c1, .slice A2 ss.length c2, .slice A3 sf.length c3] 27))) (o := (.cells #[.int .i64 0, .int .i64 0, .int .i64 0, .int .i64 0, .int .i64 0, .string ⟨#[]⟩, .int .i64 0, .int .i64 0, .slice none 0 0, .slice none 0 0, .slice none 0 0] 27)) (g := w.heap.size + 1) (by simp))
    have HZ := Lib.hid (show w.heap.size + 2 ≤ ((w.alloc (.cells #[.int .i64 y0, .int .i64 y1, .int .i64 y2, .int .i64 0, .int .i64 l0, .string l1, .int .i64 l2, .int .i64 l3, .slice A1 sl.length c1, .slice A2 ss.length c2, .slice A3 sf.length c3] 27)).alloc (.cells #[.int .i64 0, .int .i64 0, .int .i64 0, .int .i64 0, .int .i64 0, .string ⟨#[]⟩, .int .i64 0, .int .i64 0, .slice none 0 0, .slice none 0 0, .slice none 0 0] 27)).heap.size by simp)
    unfold arrV
    go_enter Try.func11, Try.ntmps11
    go_wp2_with (first
      | (refine at_load 3 (.tmp 8) rfl ?_; refine wpList_load_one rfl 3 (.tmp 8) rfl (w.heap.size) 3 rfl [.int .i64 y0, .int .i64 y1, .int .i64 y2, .int .i64 0, .int .i64 l0, .string l1, .int .i64 l2, .int .i64 l3, .slice A1 sl.length c1, .slice A2 ss.length c2, .slice A3 sf.length c3] (.int .i64 0) _ HB3.out rfl _ Try.underlying3 rfl ?_)
      | (refine at_load 3 (.tmp 12) rfl ?_; refine wpList_load_one_w rfl 3 (.tmp 12) rfl (w.heap.size) 3 rfl [.int .i64 y0, .int .i64 y1, .int .i64 y2, .int .i64 0, .int .i64 l0, .string l1, .int .i64 l2, .int .i64 l3, .slice A1 sl.length c1, .slice A2 ss.length c2, .slice A3 sf.length c3] (.int .i64 0) _ HB3.out rfl _ Try.underlying3 rfl ?_)
      | (refine at_load 3 (.tmp 17) rfl ?_; refine wpList_load_one rfl 3 (.tmp 17) rfl (w.heap.size) 3 rfl [.int .i64 y0, .int .i64 y1, .int .i64 y2, .int .i64 0, .int .i64 l0, .string l1, .int .i64 l2, .int .i64 l3, .slice A1 sl.length c1, .slice A2 ss.length c2, .slice A3 sf.length c3] (.int .i64 0) _ HB3.out rfl _ Try.underlying3 rfl ?_)
      | (refine at_store 3 (.tmp 20) (.const (.int .i64 1)) rfl ?_; refine wpList_store_box rfl 3 (.tmp 20) (.const (.int .i64 1)) rfl (w.heap.size) 3 ((.int .i64 1)) #[.int .i64 1] rfl rfl rfl [.int .i64 y0, .int .i64 y1, .int .i64 y2, .int .i64 0, .int .i64 l0, .string l1, .int .i64 l2, .int .i64 l3, .slice A1 sl.length c1, .slice A2 ss.length c2, .slice A3 sf.length c3] [.int .i64 y0, .int .i64 y1, .int .i64 y2, .int .i64 1, .int .i64 l0, .string l1, .int .i64 l2, .int .i64 l3, .slice A1 sl.length c1, .slice A2 ss.length c2, .slice A3 sf.length c3] _ HB3.out (Nat.le_of_ble_eq_true rfl) rfl (by kernel_rfl) rfl ?_; intro W1 hb hP; have HT := Lib.hid (hP.agr (not_off (by omega) : ¬ (Off w.heap.size (w.heap.size + 2)) (w.heap.size))); have HA := Lib.hid (HA.out.trans HT.out); have HB6 := Lib.hid ((hP.block (w.heap.size + 1) (by omega)).trans HB6.out); have HB3 := Lib.hid hb; have HZ := Lib.hid (Nat.le_trans HZ.out HT.out.size); clear hb hP HT)
      | (refine at_store 3 (.tmp 24) (.tmp 22) rfl ?_; refine wpList_store_box rfl 3 (.tmp 24) (.tmp 22) rfl (w.heap.size) 0 ((.int .i64 id)) #[.int .i64 id] rfl rfl rfl [.int .i64 y0, .int .i64 y1, .int .i64 y2, .int .i64 1, .int .i64 l0, .string l1, .int .i64 l2, .int .i64 l3, .slice A1 sl.length c1, .slice A2 ss.length c2, .slice A3 sf.length c3] [.int .i64 id, .int .i64 y1, .int .i64 y2, .int .i64 1, .int .i64 l0, .string l1, .int .i64 l2, .int .i64 l3, .slice A1 sl.length c1, .slice A2 ss.length c2, .slice A3 sf.length c3] _ HB3.out (Nat.le_of_ble_eq_true rfl) rfl (by kernel_rfl) rfl ?_; intro W2 hb hP; have HT := Lib.hid (hP.agr (not_off (by omega) : ¬ (Off w.heap.size (w.heap.size + 2)) (w.heap.size))); have HA := Lib.hid (HA.out.trans HT.out); have HB6 := Lib.hid ((hP.block (w.heap.size + 1) (by omega)).trans HB6.out); have HB3 := Lib.hid hb; have HZ := Lib.hid (Nat.le_trans HZ.out HT.out.size); clear hb hP HT)
      | (refine at_store 25 (.tmp 25) (.tmp 23) rfl ?_; refine wpList_store_box rfl 25 (.tmp 25) (.tmp 23) rfl (w.heap.size) 10 ((.slice A5 sa.length c5)) #[.slice A5 sa.length c5] rfl rfl rfl [.int .i64 id, .int .i64 y1, .int .i64 y2, .int .i64 1, .int .i64 l0, .string l1, .int .i64 l2, .int .i64 l3, .slice A1 sl.length c1, .slice A2 ss.length c2, .slice A3 sf.length c3] [.int .i64 id, .int .i64 y1, .int .i64 y2, .int .i64 1, .int .i64 l0, .string l1, .int .i64 l2, .int .i64 l3, .slice A1 sl.length c1, .slice A2 ss.length c2, .slice A5 sa.length c5] _ HB3.out (Nat.le_of_ble_eq_true rfl) rfl (by kernel_rfl) rfl ?_; intro W3 hb hP; have HT := Lib.hid (hP.agr (not_off (by omega) : ¬ (Off w.heap.size (w.heap.size + 2)) (w.heap.size))); have HA := Lib.hid (HA.out.trans HT.out); have HB6 := Lib.hid ((hP.block (w.heap.size + 1) (by omega)).trans HB6.out); have HB3 := Lib.hid hb; have HZ := Lib.hid (Nat.le_trans HZ.out HT.out.size); clear hb hP HT)
      | (refine at_load 27 (.tmp 3) rfl ?_; refine wpList_load_box rfl 27 (.tmp 3) rfl (w.heap.size) 0 rfl [.int .i64 id, .int .i64 y1, .int .i64 y2, .int .i64 1, .int .i64 l0, .string l1, .int .i64 l2, .int .i64 l3, .slice A1 sl.length c1, .slice A2 ss.length c2, .slice A5 sa.length c5] [.int .i64 id, .int .i64 y1, .int .i64 y2, .int .i64 1, .int .i64 l0, .string l1, .int .i64 l2, .int .i64 l3, .slice A1 sl.length c1, .slice A2 ss.length c2, .slice A5 sa.length c5] _ HB3.out _ Try.underlying27 rfl 11 rfl rfl (by kernel_rfl) ?_)
      | (refine at_store 27 (.tmp 6) (.tmp 26) rfl ?_; refine wpList_store_box rfl 27 (.tmp 6) (.tmp 26) rfl (w.heap.size + 1) 0 (.agg #[.int .i64 id, .int .i64 y1, .int .i64 y2, .int .i64 1, .int .i64 l0, .string l1, .int .i64 l2, .int .i64 l3, .slice A1 sl.length c1, .slice A2 ss.length c2, .slice A5 sa.length c5]) #[.int .i64 id, .int .i64 y1, .int .i64 y2, .int .i64 1, .int .i64 l0, .string l1, .int .i64 l2, .int .i64 l3, .slice A1 sl.length c1, .slice A2 ss.length c2, .slice A5 sa.length c5] rfl rfl rfl [.int .i64 0, .int .i64 0, .int .i64 0, .int .i64 0, .int .i64 0, .string ⟨#[]⟩, .int .i64 0, .int .i64 0, .slice none 0 0, .slice none 0 0, .slice none 0 0] [.int .i64 id, .int .i64 y1, .int .i64 y2, .int .i64 1, .int .i64 l0, .string l1, .int .i64 l2, .int .i64 l3, .slice A1 sl.length c1, .slice A2 ss.length c2, .slice A5 sa.length c5] _ HB6.out (Nat.le_of_ble_eq_true rfl) rfl (by kernel_rfl) rfl ?_; intro W4 hb hP; have HT := Lib.hid (hP.agr (not_off (by omega) : ¬ (Off w.heap.size (w.heap.size + 2)) (w.heap.size + 1))); have HA := Lib.hid (HA.out.trans HT.out); have HB3 := Lib.hid ((hP.block (w.heap.size) (by omega)).trans HB3.out); have HB6 := Lib.hid hb; have HZ := Lib.hid (Nat.le_trans HZ.out HT.out.size); clear hb hP HT))
    refine ret2 (k := 6) (j := 7) (g := w.heap.size + 1) (T := 27) (cs := #[.int .i64 id, .int .i64 y1, .int .i64 y2, .int .i64 1, .int .i64 l0, .string l1, .int .i64 l2, .int .i64 l3, .slice A1 sl.length c1, .slice A2 ss.length c2, .slice A5 sa.length c5]) Try.results11 ?_ ?_ Try.underlying27 (by kernel_rfl) ?_ ?_
    · rfl
    · exact HB6.out
    · rfl
    · exact by rw [HD.out.1, HD.out.2]; exact ⟨.slice A1 sl.length c1, .slice A2 ss.length c2, .slice A5 sa.length c5, rfl, (H1.out.old HA.out (Nat.le_refl _)), (H2.out.old HA.out (Nat.le_refl _)), (H5.out.old HA.out (Nat.le_refl _)), HA.out.toB (Nat.le_refl _)⟩
  by_cases e1 : y3 = 2
  · subst e1
    have HD := Lib.hid (show arrF ⟨y0, y1, y2, 2, ⟨l0, l1, l2, l3, sl⟩, ss, sf⟩ id sa = ⟨id, y1, y2, 3, ⟨l0, l1, l2, l3, sl⟩, ss, sa⟩ ∧ arrB ⟨y0, y1, y2, 2, ⟨l0, l1, l2, l3, sl⟩, ss, sf⟩ = true by constructor <;> rfl)
    have HA := Lib.hid (((Agr.refl (Off w.heap.size (w.heap.size + 2)) w).alloc (.cells #[.int .i64 y0, .int .i64 y1, .int .i64 y2, .int .i64 2, .int .i64 l0, .string l1, .int .i64 l2, .int .i64 l3, .slice A1 sl.length c1, .slice A2 ss.length c2, .slice A3 sf.length c3] 27)).alloc (.cells #[.int .i64 0, .int .i64 0, .int .i64 0, .int .i64 0, .int .i64 0, .string ⟨#[]⟩, .int .i64 0, .int .i64 0, .slice none 0 0, .slice none 0 0, .slice none 0 0] 27))
    have HB3 := Lib.hid (box_alloc (p := (.cells #[.int .i64 0, .int .i64 0, .int .i64 0, .int .i64 0, .int .i64 0, .string ⟨#[]⟩, .int .i64 0, .int .i64 0, .slice none 0 0, .slice none 0 0, .slice none 0 0] 27)) (new_at (w := w) (o := (.cells #[.int .i64 y0, .int .i64 y1, .int .i64 y2, .int .i64 2, .int .i64 l0, .string l1, .int .i64 l2, .int .i64 l3, .slice A1 sl.length c1, .slice A2 ss.length c2, .slice A3 sf.length c3] 27)) (g := w.heap.size) (by simp)))
    have HB6 := Lib.hid (new_at (w := (w.alloc (.cells #[.int .i64 y0, .int .i64 y1, .int .i64 y2, .int .i64 2, .int .i64 l0, .string l1, .int .i64 l2, .int .i64 l3, .slice A1 sl.length c1, .slice A2 ss.length c2, .slice A3 sf.length c3] 27))) (o := (.cells #[.int .i64 0, .int .i64 0, .int .i64 0, .int .i64 0, .int .i64 0, .string ⟨#[]⟩, .int .i64 0, .int .i64 0, .slice none 0 0, .slice none 0 0, .slice none 0 0] 27)) (g := w.heap.size + 1) (by simp))
    have HZ := Lib.hid (show w.heap.size + 2 ≤ ((w.alloc (.cells #[.int .i64 y0, .int .i64 y1, .int .i64 y2, .int .i64 2, .int .i64 l0, .string l1, .int .i64 l2, .int .i64 l3, .slice A1 sl.length c1, .slice A2 ss.length c2, .slice A3 sf.length c3] 27)).alloc (.cells #[.int .i64 0, .int .i64 0, .int .i64 0, .int .i64 0, .int .i64 0, .string ⟨#[]⟩, .int .i64 0, .int .i64 0, .slice none 0 0, .slice none 0 0, .slice none 0 0] 27)).heap.size by simp)
    unfold arrV
    go_enter Try.func11, Try.ntmps11
    go_wp2_with (first
      | (refine at_load 3 (.tmp 8) rfl ?_; refine wpList_load_one rfl 3 (.tmp 8) rfl (w.heap.size) 3 rfl [.int .i64 y0, .int .i64 y1, .int .i64 y2, .int .i64 2, .int .i64 l0, .string l1, .int .i64 l2, .int .i64 l3, .slice A1 sl.length c1, .slice A2 ss.length c2, .slice A3 sf.length c3] (.int .i64 2) _ HB3.out rfl _ Try.underlying3 rfl ?_)
      | (refine at_load 3 (.tmp 12) rfl ?_; refine wpList_load_one_w rfl 3 (.tmp 12) rfl (w.heap.size) 3 rfl [.int .i64 y0, .int .i64 y1, .int .i64 y2, .int .i64 2, .int .i64 l0, .string l1, .int .i64 l2, .int .i64 l3, .slice A1 sl.length c1, .slice A2 ss.length c2, .slice A3 sf.length c3] (.int .i64 2) _ HB3.out rfl _ Try.underlying3 rfl ?_)
      | (refine at_load 3 (.tmp 17) rfl ?_; refine wpList_load_one rfl 3 (.tmp 17) rfl (w.heap.size) 3 rfl [.int .i64 y0, .int .i64 y1, .int .i64 y2, .int .i64 2, .int .i64 l0, .string l1, .int .i64 l2, .int .i64 l3, .slice A1 sl.length c1, .slice A2 ss.length c2, .slice A3 sf.length c3] (.int .i64 2) _ HB3.out rfl _ Try.underlying3 rfl ?_)
      | (refine at_store 3 (.tmp 21) (.const (.int .i64 3)) rfl ?_; refine wpList_store_box rfl 3 (.tmp 21) (.const (.int .i64 3)) rfl (w.heap.size) 3 ((.int .i64 3)) #[.int .i64 3] rfl rfl rfl [.int .i64 y0, .int .i64 y1, .int .i64 y2, .int .i64 2, .int .i64 l0, .string l1, .int .i64 l2, .int .i64 l3, .slice A1 sl.length c1, .slice A2 ss.length c2, .slice A3 sf.length c3] [.int .i64 y0, .int .i64 y1, .int .i64 y2, .int .i64 3, .int .i64 l0, .string l1, .int .i64 l2, .int .i64 l3, .slice A1 sl.length c1, .slice A2 ss.length c2, .slice A3 sf.length c3] _ HB3.out (Nat.le_of_ble_eq_true rfl) rfl (by kernel_rfl) rfl ?_; intro W1 hb hP; have HT := Lib.hid (hP.agr (not_off (by omega) : ¬ (Off w.heap.size (w.heap.size + 2)) (w.heap.size))); have HA := Lib.hid (HA.out.trans HT.out); have HB6 := Lib.hid ((hP.block (w.heap.size + 1) (by omega)).trans HB6.out); have HB3 := Lib.hid hb; have HZ := Lib.hid (Nat.le_trans HZ.out HT.out.size); clear hb hP HT)
      | (refine at_store 3 (.tmp 24) (.tmp 22) rfl ?_; refine wpList_store_box rfl 3 (.tmp 24) (.tmp 22) rfl (w.heap.size) 0 ((.int .i64 id)) #[.int .i64 id] rfl rfl rfl [.int .i64 y0, .int .i64 y1, .int .i64 y2, .int .i64 3, .int .i64 l0, .string l1, .int .i64 l2, .int .i64 l3, .slice A1 sl.length c1, .slice A2 ss.length c2, .slice A3 sf.length c3] [.int .i64 id, .int .i64 y1, .int .i64 y2, .int .i64 3, .int .i64 l0, .string l1, .int .i64 l2, .int .i64 l3, .slice A1 sl.length c1, .slice A2 ss.length c2, .slice A3 sf.length c3] _ HB3.out (Nat.le_of_ble_eq_true rfl) rfl (by kernel_rfl) rfl ?_; intro W2 hb hP; have HT := Lib.hid (hP.agr (not_off (by omega) : ¬ (Off w.heap.size (w.heap.size + 2)) (w.heap.size))); have HA := Lib.hid (HA.out.trans HT.out); have HB6 := Lib.hid ((hP.block (w.heap.size + 1) (by omega)).trans HB6.out); have HB3 := Lib.hid hb; have HZ := Lib.hid (Nat.le_trans HZ.out HT.out.size); clear hb hP HT)
      | (refine at_store 25 (.tmp 25) (.tmp 23) rfl ?_; refine wpList_store_box rfl 25 (.tmp 25) (.tmp 23) rfl (w.heap.size) 10 ((.slice A5 sa.length c5)) #[.slice A5 sa.length c5] rfl rfl rfl [.int .i64 id, .int .i64 y1, .int .i64 y2, .int .i64 3, .int .i64 l0, .string l1, .int .i64 l2, .int .i64 l3, .slice A1 sl.length c1, .slice A2 ss.length c2, .slice A3 sf.length c3] [.int .i64 id, .int .i64 y1, .int .i64 y2, .int .i64 3, .int .i64 l0, .string l1, .int .i64 l2, .int .i64 l3, .slice A1 sl.length c1, .slice A2 ss.length c2, .slice A5 sa.length c5] _ HB3.out (Nat.le_of_ble_eq_true rfl) rfl (by kernel_rfl) rfl ?_; intro W3 hb hP; have HT := Lib.hid (hP.agr (not_off (by omega) : ¬ (Off w.heap.size (w.heap.size + 2)) (w.heap.size))); have HA := Lib.hid (HA.out.trans HT.out); have HB6 := Lib.hid ((hP.block (w.heap.size + 1) (by omega)).trans HB6.out); have HB3 := Lib.hid hb; have HZ := Lib.hid (Nat.le_trans HZ.out HT.out.size); clear hb hP HT)
      | (refine at_load 27 (.tmp 3) rfl ?_; refine wpList_load_box rfl 27 (.tmp 3) rfl (w.heap.size) 0 rfl [.int .i64 id, .int .i64 y1, .int .i64 y2, .int .i64 3, .int .i64 l0, .string l1, .int .i64 l2, .int .i64 l3, .slice A1 sl.length c1, .slice A2 ss.length c2, .slice A5 sa.length c5] [.int .i64 id, .int .i64 y1, .int .i64 y2, .int .i64 3, .int .i64 l0, .string l1, .int .i64 l2, .int .i64 l3, .slice A1 sl.length c1, .slice A2 ss.length c2, .slice A5 sa.length c5] _ HB3.out _ Try.underlying27 rfl 11 rfl rfl (by kernel_rfl) ?_)
      | (refine at_store 27 (.tmp 6) (.tmp 26) rfl ?_; refine wpList_store_box rfl 27 (.tmp 6) (.tmp 26) rfl (w.heap.size + 1) 0 (.agg #[.int .i64 id, .int .i64 y1, .int .i64 y2, .int .i64 3, .int .i64 l0, .string l1, .int .i64 l2, .int .i64 l3, .slice A1 sl.length c1, .slice A2 ss.length c2, .slice A5 sa.length c5]) #[.int .i64 id, .int .i64 y1, .int .i64 y2, .int .i64 3, .int .i64 l0, .string l1, .int .i64 l2, .int .i64 l3, .slice A1 sl.length c1, .slice A2 ss.length c2, .slice A5 sa.length c5] rfl rfl rfl [.int .i64 0, .int .i64 0, .int .i64 0, .int .i64 0, .int .i64 0, .string ⟨#[]⟩, .int .i64 0, .int .i64 0, .slice none 0 0, .slice none 0 0, .slice none 0 0] [.int .i64 id, .int .i64 y1, .int .i64 y2, .int .i64 3, .int .i64 l0, .string l1, .int .i64 l2, .int .i64 l3, .slice A1 sl.length c1, .slice A2 ss.length c2, .slice A5 sa.length c5] _ HB6.out (Nat.le_of_ble_eq_true rfl) rfl (by kernel_rfl) rfl ?_; intro W4 hb hP; have HT := Lib.hid (hP.agr (not_off (by omega) : ¬ (Off w.heap.size (w.heap.size + 2)) (w.heap.size + 1))); have HA := Lib.hid (HA.out.trans HT.out); have HB3 := Lib.hid ((hP.block (w.heap.size) (by omega)).trans HB3.out); have HB6 := Lib.hid hb; have HZ := Lib.hid (Nat.le_trans HZ.out HT.out.size); clear hb hP HT))
    refine ret2 (k := 6) (j := 7) (g := w.heap.size + 1) (T := 27) (cs := #[.int .i64 id, .int .i64 y1, .int .i64 y2, .int .i64 3, .int .i64 l0, .string l1, .int .i64 l2, .int .i64 l3, .slice A1 sl.length c1, .slice A2 ss.length c2, .slice A5 sa.length c5]) Try.results11 ?_ ?_ Try.underlying27 (by kernel_rfl) ?_ ?_
    · rfl
    · exact HB6.out
    · rfl
    · exact by rw [HD.out.1, HD.out.2]; exact ⟨.slice A1 sl.length c1, .slice A2 ss.length c2, .slice A5 sa.length c5, rfl, (H1.out.old HA.out (Nat.le_refl _)), (H2.out.old HA.out (Nat.le_refl _)), (H5.out.old HA.out (Nat.le_refl _)), HA.out.toB (Nat.le_refl _)⟩
  have b0 : (y3 != 0) = true := by simpa using e0
  have b1 : (y3 != 2) = true := by simpa using e1
  have HD := Lib.hid (show arrF ⟨y0, y1, y2, y3, ⟨l0, l1, l2, l3, sl⟩, ss, sf⟩ id sa = ⟨y0, y1, y2, y3, ⟨l0, l1, l2, l3, sl⟩, ss, sf⟩ ∧ arrB ⟨y0, y1, y2, y3, ⟨l0, l1, l2, l3, sl⟩, ss, sf⟩ = false by unfold arrF arrB; simp [e0, e1])
  clear e0 e1
  have HA := Lib.hid (((Agr.refl (Off w.heap.size (w.heap.size + 2)) w).alloc (.cells #[.int .i64 y0, .int .i64 y1, .int .i64 y2, .int .i64 y3, .int .i64 l0, .string l1, .int .i64 l2, .int .i64 l3, .slice A1 sl.length c1, .slice A2 ss.length c2, .slice A3 sf.length c3] 27)).alloc (.cells #[.int .i64 0, .int .i64 0, .int .i64 0, .int .i64 0, .int .i64 0, .string ⟨#[]⟩, .int .i64 0, .int .i64 0, .slice none 0 0, .slice none 0 0, .slice none 0 0] 27))
  have HB3 := Lib.hid (box_alloc (p := (.cells #[.int .i64 0, .int .i64 0, .int .i64 0, .int .i64 0, .int .i64 0, .string ⟨#[]⟩, .int .i64 0, .int .i64 0, .slice none 0 0, .slice none 0 0, .slice none 0 0] 27)) (new_at (w := w) (o := (.cells #[.int .i64 y0, .int .i64 y1, .int .i64 y2, .int .i64 y3, .int .i64 l0, .string l1, .int .i64 l2, .int .i64 l3, .slice A1 sl.length c1, .slice A2 ss.length c2, .slice A3 sf.length c3] 27)) (g := w.heap.size) (by simp)))
  have HB6 := Lib.hid (new_at (w := (w.alloc (.cells #[.int .i64 y0, .int .i64 y1, .int .i64 y2, .int .i64 y3, .int .i64 l0, .string l1, .int .i64 l2, .int .i64 l3, .slice A1 sl.length c1, .slice A2 ss.length c2, .slice A3 sf.length c3] 27))) (o := (.cells #[.int .i64 0, .int .i64 0, .int .i64 0, .int .i64 0, .int .i64 0, .string ⟨#[]⟩, .int .i64 0, .int .i64 0, .slice none 0 0, .slice none 0 0, .slice none 0 0] 27)) (g := w.heap.size + 1) (by simp))
  have HZ := Lib.hid (show w.heap.size + 2 ≤ ((w.alloc (.cells #[.int .i64 y0, .int .i64 y1, .int .i64 y2, .int .i64 y3, .int .i64 l0, .string l1, .int .i64 l2, .int .i64 l3, .slice A1 sl.length c1, .slice A2 ss.length c2, .slice A3 sf.length c3] 27)).alloc (.cells #[.int .i64 0, .int .i64 0, .int .i64 0, .int .i64 0, .int .i64 0, .string ⟨#[]⟩, .int .i64 0, .int .i64 0, .slice none 0 0, .slice none 0 0, .slice none 0 0] 27)).heap.size by simp)
  unfold arrV
  go_enter Try.func11, Try.ntmps11
  go_wp2_with (first
    | (refine at_load 3 (.tmp 8) rfl ?_; refine wpList_load_one rfl 3 (.tmp 8) rfl (w.heap.size) 3 rfl [.int .i64 y0, .int .i64 y1, .int .i64 y2, .int .i64 y3, .int .i64 l0, .string l1, .int .i64 l2, .int .i64 l3, .slice A1 sl.length c1, .slice A2 ss.length c2, .slice A3 sf.length c3] (.int .i64 y3) _ HB3.out rfl _ Try.underlying3 rfl ?_)
    | (refine at_load 3 (.tmp 12) rfl ?_; refine wpList_load_one_w rfl 3 (.tmp 12) rfl (w.heap.size) 3 rfl [.int .i64 y0, .int .i64 y1, .int .i64 y2, .int .i64 y3, .int .i64 l0, .string l1, .int .i64 l2, .int .i64 l3, .slice A1 sl.length c1, .slice A2 ss.length c2, .slice A3 sf.length c3] (.int .i64 y3) _ HB3.out rfl _ Try.underlying3 rfl ?_)
    | (refine at_load 27 (.tmp 3) rfl ?_; refine wpList_load_box rfl 27 (.tmp 3) rfl (w.heap.size) 0 rfl [.int .i64 y0, .int .i64 y1, .int .i64 y2, .int .i64 y3, .int .i64 l0, .string l1, .int .i64 l2, .int .i64 l3, .slice A1 sl.length c1, .slice A2 ss.length c2, .slice A3 sf.length c3] [.int .i64 y0, .int .i64 y1, .int .i64 y2, .int .i64 y3, .int .i64 l0, .string l1, .int .i64 l2, .int .i64 l3, .slice A1 sl.length c1, .slice A2 ss.length c2, .slice A3 sf.length c3] _ HB3.out _ Try.underlying27 rfl 11 rfl rfl (by kernel_rfl) ?_)
    | (refine at_store 27 (.tmp 6) (.tmp 16) rfl ?_; refine wpList_store_box rfl 27 (.tmp 6) (.tmp 16) rfl (w.heap.size + 1) 0 (.agg #[.int .i64 y0, .int .i64 y1, .int .i64 y2, .int .i64 y3, .int .i64 l0, .string l1, .int .i64 l2, .int .i64 l3, .slice A1 sl.length c1, .slice A2 ss.length c2, .slice A3 sf.length c3]) #[.int .i64 y0, .int .i64 y1, .int .i64 y2, .int .i64 y3, .int .i64 l0, .string l1, .int .i64 l2, .int .i64 l3, .slice A1 sl.length c1, .slice A2 ss.length c2, .slice A3 sf.length c3] rfl rfl rfl [.int .i64 0, .int .i64 0, .int .i64 0, .int .i64 0, .int .i64 0, .string ⟨#[]⟩, .int .i64 0, .int .i64 0, .slice none 0 0, .slice none 0 0, .slice none 0 0] [.int .i64 y0, .int .i64 y1, .int .i64 y2, .int .i64 y3, .int .i64 l0, .string l1, .int .i64 l2, .int .i64 l3, .slice A1 sl.length c1, .slice A2 ss.length c2, .slice A3 sf.length c3] _ HB6.out (Nat.le_of_ble_eq_true rfl) rfl (by kernel_rfl) rfl ?_; intro W1 hb hP; have HT := Lib.hid (hP.agr (not_off (by omega) : ¬ (Off w.heap.size (w.heap.size + 2)) (w.heap.size + 1))); have HA := Lib.hid (HA.out.trans HT.out); have HB3 := Lib.hid ((hP.block (w.heap.size) (by omega)).trans HB3.out); have HB6 := Lib.hid hb; have HZ := Lib.hid (Nat.le_trans HZ.out HT.out.size); clear hb hP HT))
  refine ret2 (k := 6) (j := 7) (g := w.heap.size + 1) (T := 27) (cs := #[.int .i64 y0, .int .i64 y1, .int .i64 y2, .int .i64 y3, .int .i64 l0, .string l1, .int .i64 l2, .int .i64 l3, .slice A1 sl.length c1, .slice A2 ss.length c2, .slice A3 sf.length c3]) Try.results11 ?_ ?_ Try.underlying27 (by kernel_rfl) ?_ ?_
  · rfl
  · exact HB6.out
  · rfl
  · exact by rw [HD.out.1, HD.out.2]; exact ⟨.slice A1 sl.length c1, .slice A2 ss.length c2, .slice A3 sf.length c3, rfl, (H1.out.old HA.out (Nat.le_refl _)), (H2.out.old HA.out (Nat.le_refl _)), (H3.out.old HA.out (Nat.le_refl _)), HA.out.toB (Nat.le_refl _)⟩

set_option maxRecDepth 100000 in
set_option maxHeartbeats 4000000 in
theorem refAnnounce_any (y : Arr) (v1 v2 v3 : Value) (lot : Lot) (lv : Value) (trip off : Int) (sv : Value) (sa : List Int) (w : World) (h1 : SlcsAt w v1 y.lot.slc) (h2 : IntsAt w v2 y.seals) (h3 : IntsAt w v3 y.found) (h4 : SlcsAt w lv lot.slc) (h5 : IntsAt w sv sa) :
    Calls Try.prog 9 #[arrV y v1 v2 v3, lotV lot lv, .int .i64 trip, .int .i64 off, sv] w (ArrYRet (annF y lot trip off sa) (.bool (annB y)) w) := by
  obtain ⟨y0, y1, y2, y3, ⟨l0, l1, l2, l3, sl⟩, ss, sf⟩ := y
  obtain ⟨A1, c1, rfl⟩ := h1.shape
  obtain ⟨A2, c2, rfl⟩ := h2.shape
  obtain ⟨A3, c3, rfl⟩ := h3.shape
  have H1 := Lib.hid h1
  have H2 := Lib.hid h2
  have H3 := Lib.hid h3
  clear h1 h2 h3
  obtain ⟨m0, m1, m2, m3, ml⟩ := lot
  obtain ⟨A4, c4, rfl⟩ := h4.shape
  obtain ⟨A5, c5, rfl⟩ := h5.shape
  have H4 := Lib.hid h4
  have H5 := Lib.hid h5
  clear h4 h5
  by_cases e0 : y3 = 0
  · subst e0
    have HD := Lib.hid (show annF ⟨y0, y1, y2, 0, ⟨l0, l1, l2, l3, sl⟩, ss, sf⟩ ⟨m0, m1, m2, m3, ml⟩ trip off sa = ⟨m0, trip, off, 2, ⟨m0, m1, m2, m3, ml⟩, sa, sf⟩ ∧ annB ⟨y0, y1, y2, 0, ⟨l0, l1, l2, l3, sl⟩, ss, sf⟩ = true by constructor <;> rfl)
    have HA := Lib.hid ((((Agr.refl (Off w.heap.size (w.heap.size + 3)) w).alloc (.cells #[.int .i64 y0, .int .i64 y1, .int .i64 y2, .int .i64 0, .int .i64 l0, .string l1, .int .i64 l2, .int .i64 l3, .slice A1 sl.length c1, .slice A2 ss.length c2, .slice A3 sf.length c3] 27)).alloc (.cells #[.int .i64 m0, .string m1, .int .i64 m2, .int .i64 m3, .slice A4 ml.length c4] 24)).alloc (.cells #[.int .i64 0, .int .i64 0, .int .i64 0, .int .i64 0, .int .i64 0, .string ⟨#[]⟩, .int .i64 0, .int .i64 0, .slice none 0 0, .slice none 0 0, .slice none 0 0] 27))
    have HB5 := Lib.hid (box_alloc (p := (.cells #[.int .i64 0, .int .i64 0, .int .i64 0, .int .i64 0, .int .i64 0, .string ⟨#[]⟩, .int .i64 0, .int .i64 0, .slice none 0 0, .slice none 0 0, .slice none 0 0] 27)) (box_alloc (p := (.cells #[.int .i64 m0, .string m1, .int .i64 m2, .int .i64 m3, .slice A4 ml.length c4] 24)) (new_at (w := w) (o := (.cells #[.int .i64 y0, .int .i64 y1, .int .i64 y2, .int .i64 0, .int .i64 l0, .string l1, .int .i64 l2, .int .i64 l3, .slice A1 sl.length c1, .slice A2 ss.length c2, .slice A3 sf.length c3] 27)) (g := w.heap.size) (by simp))))
    have HB6 := Lib.hid (box_alloc (p := (.cells #[.int .i64 0, .int .i64 0, .int .i64 0, .int .i64 0, .int .i64 0, .string ⟨#[]⟩, .int .i64 0, .int .i64 0, .slice none 0 0, .slice none 0 0, .slice none 0 0] 27)) (new_at (w := (w.alloc (.cells #[.int .i64 y0, .int .i64 y1, .int .i64 y2, .int .i64 0, .int .i64 l0, .string l1, .int .i64 l2, .int .i64 l3, .slice A1 sl.length c1, .slice A2 ss.length c2, .slice A3 sf.length c3] 27))) (o := (.cells #[.int .i64 m0, .string m1, .int .i64 m2, .int .i64 m3, .slice A4 ml.length c4] 24)) (g := w.heap.size + 1) (by simp)))
    have HB10 := Lib.hid (new_at (w := ((w.alloc (.cells #[.int .i64 y0, .int .i64 y1, .int .i64 y2, .int .i64 0, .int .i64 l0, .string l1, .int .i64 l2, .int .i64 l3, .slice A1 sl.length c1, .slice A2 ss.length c2, .slice A3 sf.length c3] 27)).alloc (.cells #[.int .i64 m0, .string m1, .int .i64 m2, .int .i64 m3, .slice A4 ml.length c4] 24))) (o := (.cells #[.int .i64 0, .int .i64 0, .int .i64 0, .int .i64 0, .int .i64 0, .string ⟨#[]⟩, .int .i64 0, .int .i64 0, .slice none 0 0, .slice none 0 0, .slice none 0 0] 27)) (g := w.heap.size + 2) (by simp))
    have HZ := Lib.hid (show w.heap.size + 3 ≤ (((w.alloc (.cells #[.int .i64 y0, .int .i64 y1, .int .i64 y2, .int .i64 0, .int .i64 l0, .string l1, .int .i64 l2, .int .i64 l3, .slice A1 sl.length c1, .slice A2 ss.length c2, .slice A3 sf.length c3] 27)).alloc (.cells #[.int .i64 m0, .string m1, .int .i64 m2, .int .i64 m3, .slice A4 ml.length c4] 24)).alloc (.cells #[.int .i64 0, .int .i64 0, .int .i64 0, .int .i64 0, .int .i64 0, .string ⟨#[]⟩, .int .i64 0, .int .i64 0, .slice none 0 0, .slice none 0 0, .slice none 0 0] 27)).heap.size by simp)
    unfold arrV lotV
    go_enter Try.func9, Try.ntmps9
    go_wp2_with (first
      | (refine at_load 3 (.tmp 12) rfl ?_; refine wpList_load_one rfl 3 (.tmp 12) rfl (w.heap.size) 3 rfl [.int .i64 y0, .int .i64 y1, .int .i64 y2, .int .i64 0, .int .i64 l0, .string l1, .int .i64 l2, .int .i64 l3, .slice A1 sl.length c1, .slice A2 ss.length c2, .slice A3 sf.length c3] (.int .i64 0) _ HB5.out rfl _ Try.underlying3 rfl ?_)
      | (refine at_load 3 (.tmp 16) rfl ?_; refine wpList_load_one_w rfl 3 (.tmp 16) rfl (w.heap.size) 3 rfl [.int .i64 y0, .int .i64 y1, .int .i64 y2, .int .i64 0, .int .i64 l0, .string l1, .int .i64 l2, .int .i64 l3, .slice A1 sl.length c1, .slice A2 ss.length c2, .slice A3 sf.length c3] (.int .i64 0) _ HB5.out rfl _ Try.underlying3 rfl ?_)
      | (refine at_load 3 (.tmp 21) rfl ?_; refine wpList_load_one rfl 3 (.tmp 21) rfl (w.heap.size) 3 rfl [.int .i64 y0, .int .i64 y1, .int .i64 y2, .int .i64 0, .int .i64 l0, .string l1, .int .i64 l2, .int .i64 l3, .slice A1 sl.length c1, .slice A2 ss.length c2, .slice A3 sf.length c3] (.int .i64 0) _ HB5.out rfl _ Try.underlying3 rfl ?_)
      | (refine at_store 3 (.tmp 24) (.const (.int .i64 2)) rfl ?_; refine wpList_store_box rfl 3 (.tmp 24) (.const (.int .i64 2)) rfl (w.heap.size) 3 ((.int .i64 2)) #[.int .i64 2] rfl rfl rfl [.int .i64 y0, .int .i64 y1, .int .i64 y2, .int .i64 0, .int .i64 l0, .string l1, .int .i64 l2, .int .i64 l3, .slice A1 sl.length c1, .slice A2 ss.length c2, .slice A3 sf.length c3] [.int .i64 y0, .int .i64 y1, .int .i64 y2, .int .i64 2, .int .i64 l0, .string l1, .int .i64 l2, .int .i64 l3, .slice A1 sl.length c1, .slice A2 ss.length c2, .slice A3 sf.length c3] _ HB5.out (Nat.le_of_ble_eq_true rfl) rfl (by kernel_rfl) rfl ?_; intro W1 hb hP; have HT := Lib.hid (hP.agr (not_off (by omega) : ¬ (Off w.heap.size (w.heap.size + 3)) (w.heap.size))); have HA := Lib.hid (HA.out.trans HT.out); have HB6 := Lib.hid ((hP.block (w.heap.size + 1) (by omega)).trans HB6.out); have HB10 := Lib.hid ((hP.block (w.heap.size + 2) (by omega)).trans HB10.out); have HB5 := Lib.hid hb; have HZ := Lib.hid (Nat.le_trans HZ.out HT.out.size); clear hb hP HT))
    refine wp_region_x 16 (by kernel_rfl) (fun W => W.heap[w.heap.size + 1]? = some (.cells #[.int .i64 m0, .string m1, .int .i64 m2, .int .i64 m3, .slice A4 ml.length c4] 24 (0, 0))) ?_
    have HA : Hid (Agr (Off w.heap.size (w.heap.size + 3)) w W1.drew) := Lib.hid (HA.out.trans ⟨rfl, rfl, rfl, Nat.le_refl _, fun _ _ _ => rfl⟩)
    have HB5 : Hid (W1.drew.heap[w.heap.size]? = some (.cells #[.int .i64 y0, .int .i64 y1, .int .i64 y2, .int .i64 2, .int .i64 l0, .string l1, .int .i64 l2, .int .i64 l3, .slice A1 sl.length c1, .slice A2 ss.length c2, .slice A3 sf.length c3] 27 (0, 0))) := Lib.hid HB5.out
    have HB6 : Hid (W1.drew.heap[w.heap.size + 1]? = some (.cells #[.int .i64 m0, .string m1, .int .i64 m2, .int .i64 m3, .slice A4 ml.length c4] 24 (0, 0))) := Lib.hid HB6.out
    have HB10 : Hid (W1.drew.heap[w.heap.size + 2]? = some (.cells #[.int .i64 0, .int .i64 0, .int .i64 0, .int .i64 0, .int .i64 0, .string ⟨#[]⟩, .int .i64 0, .int .i64 0, .slice none 0 0, .slice none 0 0, .slice none 0 0] 27 (0, 0))) := Lib.hid HB10.out
    have HZ : Hid (w.heap.size + 3 ≤ W1.drew.heap.size) := Lib.hid HZ.out
    generalize W1.drew = W2 at HA HB5 HB6 HB10 HZ ⊢
    refine wpAnyX_take (i := 0) (v := (.pointer (some ⟨w.heap.size + 1, 0, none⟩))) rfl (by kernel_rfl) (by kernel_rfl) (by kernel_rfl) (by kernel_rfl) (fun _ _ _ h => h) HB6.out (Or.inl ⟨by rfl, fun w hS => by go_simp⟩) ?_
    go_simp
    refine wpAnyX_take (i := 1) (v := (.int .i64 m0)) rfl (by kernel_rfl) (by kernel_rfl) (by kernel_rfl) (by kernel_rfl) (fun _ _ _ h => h) HB6.out (Or.inl ⟨by rfl, fun w hS => by obtain ⟨⟨k0, k1, k2, k3, k4⟩, -⟩ := cells5 hS; go_simp⟩) ?_
    go_simp
    refine wpAnyX_take (i := 2) (v := (.agg #[.int .i64 m0, .string m1, .int .i64 m2, .int .i64 m3, .slice A4 ml.length c4])) rfl (by kernel_rfl) (by kernel_rfl) (by kernel_rfl) (by kernel_rfl) (fun _ _ _ h => h) HB6.out (Or.inl ⟨by rfl, fun w hS => by obtain ⟨⟨k0, k1, k2, k3, k4⟩, -⟩ := cells5 hS; go_simp⟩) ?_
    go_simp
    refine wpAnyX_take (i := 3) (v := (.int .i64 trip)) rfl (by kernel_rfl) (by kernel_rfl) (by kernel_rfl) (by kernel_rfl) (fun _ _ _ h => h) HB6.out (Or.inl ⟨by rfl, fun w hS => by go_simp⟩) ?_
    go_simp
    refine wpAnyX_take (i := 4) (v := (.int .i64 off)) rfl (by kernel_rfl) (by kernel_rfl) (by kernel_rfl) (by kernel_rfl) (fun _ _ _ h => h) HB6.out (Or.inl ⟨by rfl, fun w hS => by go_simp⟩) ?_
    go_simp
    refine wpAnyX_take (i := 5) (v := (.slice A5 sa.length c5)) rfl (by kernel_rfl) (by kernel_rfl) (by kernel_rfl) (by kernel_rfl) (fun _ _ _ h => h) HB6.out (Or.inl ⟨by rfl, fun w hS => by go_simp⟩) ?_
    go_simp
    refine wpAnyX_take (i := 6) (v := (.pointer (some ⟨w.heap.size, 0, none⟩))) rfl (by kernel_rfl) (by kernel_rfl) (by kernel_rfl) (by kernel_rfl) (fun _ _ _ h => h) HB6.out (Or.inl ⟨by rfl, fun w hS => by go_simp⟩) ?_
    go_simp
    refine wpAnyX_one (i := 7) (by kernel_rfl) rfl (fun K hK => ?_)
    rw [if_pos (show Region.wanted _ _ = true from rfl)]
    refine wp_store_box 3 (.tmp 32) (.tmp 27) rfl (w.heap.size) 0 ((.int .i64 m0)) #[.int .i64 m0] rfl rfl rfl [.int .i64 y0, .int .i64 y1, .int .i64 y2, .int .i64 2, .int .i64 l0, .string l1, .int .i64 l2, .int .i64 l3, .slice A1 sl.length c1, .slice A2 ss.length c2, .slice A3 sf.length c3] [.int .i64 m0, .int .i64 y1, .int .i64 y2, .int .i64 2, .int .i64 l0, .string l1, .int .i64 l2, .int .i64 l3, .slice A1 sl.length c1, .slice A2 ss.length c2, .slice A3 sf.length c3] _ HB5.out (Nat.le_of_ble_eq_true rfl) rfl (by kernel_rfl) rfl ?_
    intro W3 hb hP
    have HT := Lib.hid (hP.agr (not_off (by omega) : ¬ (Off w.heap.size (w.heap.size + 3)) (w.heap.size)))
    have HA := Lib.hid (HA.out.trans HT.out)
    have HB6 := Lib.hid ((hP.block (w.heap.size + 1) (by omega)).trans HB6.out)
    have HB10 := Lib.hid ((hP.block (w.heap.size + 2) (by omega)).trans HB10.out)
    have HB5 := Lib.hid hb
    have HZ := Lib.hid (Nat.le_trans HZ.out HT.out.size)
    clear hb hP HT
    refine hK.out _ _ (fun _ => HB6.out) ?_
    clear hK K
    refine wpAnyX_take (i := 8) (v := (.pointer (some ⟨w.heap.size, 4, none⟩))) rfl (by kernel_rfl) (by kernel_rfl) (by kernel_rfl) (by kernel_rfl) (fun _ _ _ h => h) HB6.out (Or.inl ⟨by rfl, fun w hS => by go_simp⟩) ?_
    go_simp
    refine wpAnyX_one (i := 9) (by kernel_rfl) rfl (fun K hK => ?_)
    rw [if_pos (show Region.wanted _ _ = true from rfl)]
    refine wp_store_box 24 (.tmp 33) (.tmp 28) rfl (w.heap.size) 4 (.agg #[.int .i64 m0, .string m1, .int .i64 m2, .int .i64 m3, .slice A4 ml.length c4]) #[.int .i64 m0, .string m1, .int .i64 m2, .int .i64 m3, .slice A4 ml.length c4] rfl rfl rfl [.int .i64 m0, .int .i64 y1, .int .i64 y2, .int .i64 2, .int .i64 l0, .string l1, .int .i64 l2, .int .i64 l3, .slice A1 sl.length c1, .slice A2 ss.length c2, .slice A3 sf.length c3] [.int .i64 m0, .int .i64 y1, .int .i64 y2, .int .i64 2, .int .i64 m0, .string m1, .int .i64 m2, .int .i64 m3, .slice A4 ml.length c4, .slice A2 ss.length c2, .slice A3 sf.length c3] _ HB5.out (Nat.le_of_ble_eq_true rfl) rfl (by kernel_rfl) rfl ?_
    intro W4 hb hP
    have HT := Lib.hid (hP.agr (not_off (by omega) : ¬ (Off w.heap.size (w.heap.size + 3)) (w.heap.size)))
    have HA := Lib.hid (HA.out.trans HT.out)
    have HB6 := Lib.hid ((hP.block (w.heap.size + 1) (by omega)).trans HB6.out)
    have HB10 := Lib.hid ((hP.block (w.heap.size + 2) (by omega)).trans HB10.out)
    have HB5 := Lib.hid hb
    have HZ := Lib.hid (Nat.le_trans HZ.out HT.out.size)
    clear hb hP HT
    refine hK.out _ _ (fun _ => HB6.out) ?_
    clear hK K
    refine wpAnyX_take (i := 10) (v := (.pointer (some ⟨w.heap.size, 1, none⟩))) rfl (by kernel_rfl) (by kernel_rfl) (by kernel_rfl) (by kernel_rfl) (fun _ _ _ h => h) HB6.out (Or.inl ⟨by rfl, fun w hS => by go_simp⟩) ?_
    go_simp
    refine wpAnyX_one (i := 11) (by kernel_rfl) rfl (fun K hK => ?_)
    rw [if_pos (show Region.wanted _ _ = true from rfl)]
    refine wp_store_box 3 (.tmp 34) (.tmp 29) rfl (w.heap.size) 1 ((.int .i64 trip)) #[.int .i64 trip] rfl rfl rfl [.int .i64 m0, .int .i64 y1, .int .i64 y2, .int .i64 2, .int .i64 m0, .string m1, .int .i64 m2, .int .i64 m3, .slice A4 ml.length c4, .slice A2 ss.length c2, .slice A3 sf.length c3] [.int .i64 m0, .int .i64 trip, .int .i64 y2, .int .i64 2, .int .i64 m0, .string m1, .int .i64 m2, .int .i64 m3, .slice A4 ml.length c4, .slice A2 ss.length c2, .slice A3 sf.length c3] _ HB5.out (Nat.le_of_ble_eq_true rfl) rfl (by kernel_rfl) rfl ?_
    intro W5 hb hP
    have HT := Lib.hid (hP.agr (not_off (by omega) : ¬ (Off w.heap.size (w.heap.size + 3)) (w.heap.size)))
    have HA := Lib.hid (HA.out.trans HT.out)
    have HB6 := Lib.hid ((hP.block (w.heap.size + 1) (by omega)).trans HB6.out)
    have HB10 := Lib.hid ((hP.block (w.heap.size + 2) (by omega)).trans HB10.out)
    have HB5 := Lib.hid hb
    have HZ := Lib.hid (Nat.le_trans HZ.out HT.out.size)
    clear hb hP HT
    refine hK.out _ _ (fun _ => HB6.out) ?_
    clear hK K
    refine wpAnyX_take (i := 12) (v := (.pointer (some ⟨w.heap.size, 2, none⟩))) rfl (by kernel_rfl) (by kernel_rfl) (by kernel_rfl) (by kernel_rfl) (fun _ _ _ h => h) HB6.out (Or.inl ⟨by rfl, fun w hS => by go_simp⟩) ?_
    go_simp
    refine wpAnyX_one (i := 13) (by kernel_rfl) rfl (fun K hK => ?_)
    rw [if_pos (show Region.wanted _ _ = true from rfl)]
    refine wp_store_box 3 (.tmp 35) (.tmp 30) rfl (w.heap.size) 2 ((.int .i64 off)) #[.int .i64 off] rfl rfl rfl [.int .i64 m0, .int .i64 trip, .int .i64 y2, .int .i64 2, .int .i64 m0, .string m1, .int .i64 m2, .int .i64 m3, .slice A4 ml.length c4, .slice A2 ss.length c2, .slice A3 sf.length c3] [.int .i64 m0, .int .i64 trip, .int .i64 off, .int .i64 2, .int .i64 m0, .string m1, .int .i64 m2, .int .i64 m3, .slice A4 ml.length c4, .slice A2 ss.length c2, .slice A3 sf.length c3] _ HB5.out (Nat.le_of_ble_eq_true rfl) rfl (by kernel_rfl) rfl ?_
    intro W6 hb hP
    have HT := Lib.hid (hP.agr (not_off (by omega) : ¬ (Off w.heap.size (w.heap.size + 3)) (w.heap.size)))
    have HA := Lib.hid (HA.out.trans HT.out)
    have HB6 := Lib.hid ((hP.block (w.heap.size + 1) (by omega)).trans HB6.out)
    have HB10 := Lib.hid ((hP.block (w.heap.size + 2) (by omega)).trans HB10.out)
    have HB5 := Lib.hid hb
    have HZ := Lib.hid (Nat.le_trans HZ.out HT.out.size)
    clear hb hP HT
    refine hK.out _ _ (fun _ => HB6.out) ?_
    clear hK K
    refine wpAnyX_take (i := 14) (v := (.pointer (some ⟨w.heap.size, 9, none⟩))) rfl (by kernel_rfl) (by kernel_rfl) (by kernel_rfl) (by kernel_rfl) (fun _ _ _ h => h) HB6.out (Or.inl ⟨by rfl, fun w hS => by go_simp⟩) ?_
    go_simp
    refine wpAnyX_one (i := 15) (by kernel_rfl) rfl (fun K hK => ?_)
    rw [if_pos (show Region.wanted _ _ = true from rfl)]
    refine wp_store_box 25 (.tmp 36) (.tmp 31) rfl (w.heap.size) 9 ((.slice A5 sa.length c5)) #[.slice A5 sa.length c5] rfl rfl rfl [.int .i64 m0, .int .i64 trip, .int .i64 off, .int .i64 2, .int .i64 m0, .string m1, .int .i64 m2, .int .i64 m3, .slice A4 ml.length c4, .slice A2 ss.length c2, .slice A3 sf.length c3] [.int .i64 m0, .int .i64 trip, .int .i64 off, .int .i64 2, .int .i64 m0, .string m1, .int .i64 m2, .int .i64 m3, .slice A4 ml.length c4, .slice A5 sa.length c5, .slice A3 sf.length c3] _ HB5.out (Nat.le_of_ble_eq_true rfl) rfl (by kernel_rfl) rfl ?_
    intro W7 hb hP
    have HT := Lib.hid (hP.agr (not_off (by omega) : ¬ (Off w.heap.size (w.heap.size + 3)) (w.heap.size)))
    have HA := Lib.hid (HA.out.trans HT.out)
    have HB6 := Lib.hid ((hP.block (w.heap.size + 1) (by omega)).trans HB6.out)
    have HB10 := Lib.hid ((hP.block (w.heap.size + 2) (by omega)).trans HB10.out)
    have HB5 := Lib.hid hb
    have HZ := Lib.hid (Nat.le_trans HZ.out HT.out.size)
    clear hb hP HT
    refine hK.out _ _ (fun _ => HB6.out) ?_
    clear hK K
    refine wpAnyX_done (by kernel_rfl) ?_
    go_wp2_with (first
      | (refine at_load 27 (.tmp 5) rfl ?_; refine wpList_load_box rfl 27 (.tmp 5) rfl (w.heap.size) 0 rfl [.int .i64 m0, .int .i64 trip, .int .i64 off, .int .i64 2, .int .i64 m0, .string m1, .int .i64 m2, .int .i64 m3, .slice A4 ml.length c4, .slice A5 sa.length c5, .slice A3 sf.length c3] [.int .i64 m0, .int .i64 trip, .int .i64 off, .int .i64 2, .int .i64 m0, .string m1, .int .i64 m2, .int .i64 m3, .slice A4 ml.length c4, .slice A5 sa.length c5, .slice A3 sf.length c3] _ HB5.out _ Try.underlying27 rfl 11 rfl rfl (by kernel_rfl) ?_)
      | (refine at_store 27 (.tmp 10) (.tmp 37) rfl ?_; refine wpList_store_box rfl 27 (.tmp 10) (.tmp 37) rfl (w.heap.size + 2) 0 (.agg #[.int .i64 m0, .int .i64 trip, .int .i64 off, .int .i64 2, .int .i64 m0, .string m1, .int .i64 m2, .int .i64 m3, .slice A4 ml.length c4, .slice A5 sa.length c5, .slice A3 sf.length c3]) #[.int .i64 m0, .int .i64 trip, .int .i64 off, .int .i64 2, .int .i64 m0, .string m1, .int .i64 m2, .int .i64 m3, .slice A4 ml.length c4, .slice A5 sa.length c5, .slice A3 sf.length c3] rfl rfl rfl [.int .i64 0, .int .i64 0, .int .i64 0, .int .i64 0, .int .i64 0, .string ⟨#[]⟩, .int .i64 0, .int .i64 0, .slice none 0 0, .slice none 0 0, .slice none 0 0] [.int .i64 m0, .int .i64 trip, .int .i64 off, .int .i64 2, .int .i64 m0, .string m1, .int .i64 m2, .int .i64 m3, .slice A4 ml.length c4, .slice A5 sa.length c5, .slice A3 sf.length c3] _ HB10.out (Nat.le_of_ble_eq_true rfl) rfl (by kernel_rfl) rfl ?_; intro W8 hb hP; have HT := Lib.hid (hP.agr (not_off (by omega) : ¬ (Off w.heap.size (w.heap.size + 3)) (w.heap.size + 2))); have HA := Lib.hid (HA.out.trans HT.out); have HB5 := Lib.hid ((hP.block (w.heap.size) (by omega)).trans HB5.out); have HB6 := Lib.hid ((hP.block (w.heap.size + 1) (by omega)).trans HB6.out); have HB10 := Lib.hid hb; have HZ := Lib.hid (Nat.le_trans HZ.out HT.out.size); clear hb hP HT))
    refine ret2 (k := 10) (j := 11) (g := w.heap.size + 2) (T := 27) (cs := #[.int .i64 m0, .int .i64 trip, .int .i64 off, .int .i64 2, .int .i64 m0, .string m1, .int .i64 m2, .int .i64 m3, .slice A4 ml.length c4, .slice A5 sa.length c5, .slice A3 sf.length c3]) Try.results9 ?_ ?_ Try.underlying27 (by kernel_rfl) ?_ ?_
    · rfl
    · exact HB10.out
    · rfl
    · exact by rw [HD.out.1, HD.out.2]; exact ⟨.slice A4 ml.length c4, .slice A5 sa.length c5, .slice A3 sf.length c3, rfl, (H4.out.old HA.out (Nat.le_refl _)), (H5.out.old HA.out (Nat.le_refl _)), (H3.out.old HA.out (Nat.le_refl _)), HA.out.toB (Nat.le_refl _)⟩
  by_cases e1 : y3 = 1
  · subst e1
    have HD := Lib.hid (show annF ⟨y0, y1, y2, 1, ⟨l0, l1, l2, l3, sl⟩, ss, sf⟩ ⟨m0, m1, m2, m3, ml⟩ trip off sa = ⟨m0, trip, off, 3, ⟨m0, m1, m2, m3, ml⟩, sa, sf⟩ ∧ annB ⟨y0, y1, y2, 1, ⟨l0, l1, l2, l3, sl⟩, ss, sf⟩ = true by constructor <;> rfl)
    have HA := Lib.hid ((((Agr.refl (Off w.heap.size (w.heap.size + 3)) w).alloc (.cells #[.int .i64 y0, .int .i64 y1, .int .i64 y2, .int .i64 1, .int .i64 l0, .string l1, .int .i64 l2, .int .i64 l3, .slice A1 sl.length c1, .slice A2 ss.length c2, .slice A3 sf.length c3] 27)).alloc (.cells #[.int .i64 m0, .string m1, .int .i64 m2, .int .i64 m3, .slice A4 ml.length c4] 24)).alloc (.cells #[.int .i64 0, .int .i64 0, .int .i64 0, .int .i64 0, .int .i64 0, .string ⟨#[]⟩, .int .i64 0, .int .i64 0, .slice none 0 0, .slice none 0 0, .slice none 0 0] 27))
    have HB5 := Lib.hid (box_alloc (p := (.cells #[.int .i64 0, .int .i64 0, .int .i64 0, .int .i64 0, .int .i64 0, .string ⟨#[]⟩, .int .i64 0, .int .i64 0, .slice none 0 0, .slice none 0 0, .slice none 0 0] 27)) (box_alloc (p := (.cells #[.int .i64 m0, .string m1, .int .i64 m2, .int .i64 m3, .slice A4 ml.length c4] 24)) (new_at (w := w) (o := (.cells #[.int .i64 y0, .int .i64 y1, .int .i64 y2, .int .i64 1, .int .i64 l0, .string l1, .int .i64 l2, .int .i64 l3, .slice A1 sl.length c1, .slice A2 ss.length c2, .slice A3 sf.length c3] 27)) (g := w.heap.size) (by simp))))
    have HB6 := Lib.hid (box_alloc (p := (.cells #[.int .i64 0, .int .i64 0, .int .i64 0, .int .i64 0, .int .i64 0, .string ⟨#[]⟩, .int .i64 0, .int .i64 0, .slice none 0 0, .slice none 0 0, .slice none 0 0] 27)) (new_at (w := (w.alloc (.cells #[.int .i64 y0, .int .i64 y1, .int .i64 y2, .int .i64 1, .int .i64 l0, .string l1, .int .i64 l2, .int .i64 l3, .slice A1 sl.length c1, .slice A2 ss.length c2, .slice A3 sf.length c3] 27))) (o := (.cells #[.int .i64 m0, .string m1, .int .i64 m2, .int .i64 m3, .slice A4 ml.length c4] 24)) (g := w.heap.size + 1) (by simp)))
    have HB10 := Lib.hid (new_at (w := ((w.alloc (.cells #[.int .i64 y0, .int .i64 y1, .int .i64 y2, .int .i64 1, .int .i64 l0, .string l1, .int .i64 l2, .int .i64 l3, .slice A1 sl.length c1, .slice A2 ss.length c2, .slice A3 sf.length c3] 27)).alloc (.cells #[.int .i64 m0, .string m1, .int .i64 m2, .int .i64 m3, .slice A4 ml.length c4] 24))) (o := (.cells #[.int .i64 0, .int .i64 0, .int .i64 0, .int .i64 0, .int .i64 0, .string ⟨#[]⟩, .int .i64 0, .int .i64 0, .slice none 0 0, .slice none 0 0, .slice none 0 0] 27)) (g := w.heap.size + 2) (by simp))
    have HZ := Lib.hid (show w.heap.size + 3 ≤ (((w.alloc (.cells #[.int .i64 y0, .int .i64 y1, .int .i64 y2, .int .i64 1, .int .i64 l0, .string l1, .int .i64 l2, .int .i64 l3, .slice A1 sl.length c1, .slice A2 ss.length c2, .slice A3 sf.length c3] 27)).alloc (.cells #[.int .i64 m0, .string m1, .int .i64 m2, .int .i64 m3, .slice A4 ml.length c4] 24)).alloc (.cells #[.int .i64 0, .int .i64 0, .int .i64 0, .int .i64 0, .int .i64 0, .string ⟨#[]⟩, .int .i64 0, .int .i64 0, .slice none 0 0, .slice none 0 0, .slice none 0 0] 27)).heap.size by simp)
    unfold arrV lotV
    go_enter Try.func9, Try.ntmps9
    go_wp2_with (first
      | (refine at_load 3 (.tmp 12) rfl ?_; refine wpList_load_one rfl 3 (.tmp 12) rfl (w.heap.size) 3 rfl [.int .i64 y0, .int .i64 y1, .int .i64 y2, .int .i64 1, .int .i64 l0, .string l1, .int .i64 l2, .int .i64 l3, .slice A1 sl.length c1, .slice A2 ss.length c2, .slice A3 sf.length c3] (.int .i64 1) _ HB5.out rfl _ Try.underlying3 rfl ?_)
      | (refine at_load 3 (.tmp 16) rfl ?_; refine wpList_load_one_w rfl 3 (.tmp 16) rfl (w.heap.size) 3 rfl [.int .i64 y0, .int .i64 y1, .int .i64 y2, .int .i64 1, .int .i64 l0, .string l1, .int .i64 l2, .int .i64 l3, .slice A1 sl.length c1, .slice A2 ss.length c2, .slice A3 sf.length c3] (.int .i64 1) _ HB5.out rfl _ Try.underlying3 rfl ?_)
      | (refine at_load 3 (.tmp 21) rfl ?_; refine wpList_load_one rfl 3 (.tmp 21) rfl (w.heap.size) 3 rfl [.int .i64 y0, .int .i64 y1, .int .i64 y2, .int .i64 1, .int .i64 l0, .string l1, .int .i64 l2, .int .i64 l3, .slice A1 sl.length c1, .slice A2 ss.length c2, .slice A3 sf.length c3] (.int .i64 1) _ HB5.out rfl _ Try.underlying3 rfl ?_)
      | (refine at_store 3 (.tmp 25) (.const (.int .i64 3)) rfl ?_; refine wpList_store_box rfl 3 (.tmp 25) (.const (.int .i64 3)) rfl (w.heap.size) 3 ((.int .i64 3)) #[.int .i64 3] rfl rfl rfl [.int .i64 y0, .int .i64 y1, .int .i64 y2, .int .i64 1, .int .i64 l0, .string l1, .int .i64 l2, .int .i64 l3, .slice A1 sl.length c1, .slice A2 ss.length c2, .slice A3 sf.length c3] [.int .i64 y0, .int .i64 y1, .int .i64 y2, .int .i64 3, .int .i64 l0, .string l1, .int .i64 l2, .int .i64 l3, .slice A1 sl.length c1, .slice A2 ss.length c2, .slice A3 sf.length c3] _ HB5.out (Nat.le_of_ble_eq_true rfl) rfl (by kernel_rfl) rfl ?_; intro W1 hb hP; have HT := Lib.hid (hP.agr (not_off (by omega) : ¬ (Off w.heap.size (w.heap.size + 3)) (w.heap.size))); have HA := Lib.hid (HA.out.trans HT.out); have HB6 := Lib.hid ((hP.block (w.heap.size + 1) (by omega)).trans HB6.out); have HB10 := Lib.hid ((hP.block (w.heap.size + 2) (by omega)).trans HB10.out); have HB5 := Lib.hid hb; have HZ := Lib.hid (Nat.le_trans HZ.out HT.out.size); clear hb hP HT))
    refine wp_region_x 16 (by kernel_rfl) (fun W => W.heap[w.heap.size + 1]? = some (.cells #[.int .i64 m0, .string m1, .int .i64 m2, .int .i64 m3, .slice A4 ml.length c4] 24 (0, 0))) ?_
    have HA : Hid (Agr (Off w.heap.size (w.heap.size + 3)) w W1.drew) := Lib.hid (HA.out.trans ⟨rfl, rfl, rfl, Nat.le_refl _, fun _ _ _ => rfl⟩)
    have HB5 : Hid (W1.drew.heap[w.heap.size]? = some (.cells #[.int .i64 y0, .int .i64 y1, .int .i64 y2, .int .i64 3, .int .i64 l0, .string l1, .int .i64 l2, .int .i64 l3, .slice A1 sl.length c1, .slice A2 ss.length c2, .slice A3 sf.length c3] 27 (0, 0))) := Lib.hid HB5.out
    have HB6 : Hid (W1.drew.heap[w.heap.size + 1]? = some (.cells #[.int .i64 m0, .string m1, .int .i64 m2, .int .i64 m3, .slice A4 ml.length c4] 24 (0, 0))) := Lib.hid HB6.out
    have HB10 : Hid (W1.drew.heap[w.heap.size + 2]? = some (.cells #[.int .i64 0, .int .i64 0, .int .i64 0, .int .i64 0, .int .i64 0, .string ⟨#[]⟩, .int .i64 0, .int .i64 0, .slice none 0 0, .slice none 0 0, .slice none 0 0] 27 (0, 0))) := Lib.hid HB10.out
    have HZ : Hid (w.heap.size + 3 ≤ W1.drew.heap.size) := Lib.hid HZ.out
    generalize W1.drew = W2 at HA HB5 HB6 HB10 HZ ⊢
    refine wpAnyX_take (i := 0) (v := (.pointer (some ⟨w.heap.size + 1, 0, none⟩))) rfl (by kernel_rfl) (by kernel_rfl) (by kernel_rfl) (by kernel_rfl) (fun _ _ _ h => h) HB6.out (Or.inl ⟨by rfl, fun w hS => by go_simp⟩) ?_
    go_simp
    refine wpAnyX_take (i := 1) (v := (.int .i64 m0)) rfl (by kernel_rfl) (by kernel_rfl) (by kernel_rfl) (by kernel_rfl) (fun _ _ _ h => h) HB6.out (Or.inl ⟨by rfl, fun w hS => by obtain ⟨⟨k0, k1, k2, k3, k4⟩, -⟩ := cells5 hS; go_simp⟩) ?_
    go_simp
    refine wpAnyX_take (i := 2) (v := (.agg #[.int .i64 m0, .string m1, .int .i64 m2, .int .i64 m3, .slice A4 ml.length c4])) rfl (by kernel_rfl) (by kernel_rfl) (by kernel_rfl) (by kernel_rfl) (fun _ _ _ h => h) HB6.out (Or.inl ⟨by rfl, fun w hS => by obtain ⟨⟨k0, k1, k2, k3, k4⟩, -⟩ := cells5 hS; go_simp⟩) ?_
    go_simp
    refine wpAnyX_take (i := 3) (v := (.int .i64 trip)) rfl (by kernel_rfl) (by kernel_rfl) (by kernel_rfl) (by kernel_rfl) (fun _ _ _ h => h) HB6.out (Or.inl ⟨by rfl, fun w hS => by go_simp⟩) ?_
    go_simp
    refine wpAnyX_take (i := 4) (v := (.int .i64 off)) rfl (by kernel_rfl) (by kernel_rfl) (by kernel_rfl) (by kernel_rfl) (fun _ _ _ h => h) HB6.out (Or.inl ⟨by rfl, fun w hS => by go_simp⟩) ?_
    go_simp
    refine wpAnyX_take (i := 5) (v := (.slice A5 sa.length c5)) rfl (by kernel_rfl) (by kernel_rfl) (by kernel_rfl) (by kernel_rfl) (fun _ _ _ h => h) HB6.out (Or.inl ⟨by rfl, fun w hS => by go_simp⟩) ?_
    go_simp
    refine wpAnyX_take (i := 6) (v := (.pointer (some ⟨w.heap.size, 0, none⟩))) rfl (by kernel_rfl) (by kernel_rfl) (by kernel_rfl) (by kernel_rfl) (fun _ _ _ h => h) HB6.out (Or.inl ⟨by rfl, fun w hS => by go_simp⟩) ?_
    go_simp
    refine wpAnyX_one (i := 7) (by kernel_rfl) rfl (fun K hK => ?_)
    rw [if_pos (show Region.wanted _ _ = true from rfl)]
    refine wp_store_box 3 (.tmp 32) (.tmp 27) rfl (w.heap.size) 0 ((.int .i64 m0)) #[.int .i64 m0] rfl rfl rfl [.int .i64 y0, .int .i64 y1, .int .i64 y2, .int .i64 3, .int .i64 l0, .string l1, .int .i64 l2, .int .i64 l3, .slice A1 sl.length c1, .slice A2 ss.length c2, .slice A3 sf.length c3] [.int .i64 m0, .int .i64 y1, .int .i64 y2, .int .i64 3, .int .i64 l0, .string l1, .int .i64 l2, .int .i64 l3, .slice A1 sl.length c1, .slice A2 ss.length c2, .slice A3 sf.length c3] _ HB5.out (Nat.le_of_ble_eq_true rfl) rfl (by kernel_rfl) rfl ?_
    intro W3 hb hP
    have HT := Lib.hid (hP.agr (not_off (by omega) : ¬ (Off w.heap.size (w.heap.size + 3)) (w.heap.size)))
    have HA := Lib.hid (HA.out.trans HT.out)
    have HB6 := Lib.hid ((hP.block (w.heap.size + 1) (by omega)).trans HB6.out)
    have HB10 := Lib.hid ((hP.block (w.heap.size + 2) (by omega)).trans HB10.out)
    have HB5 := Lib.hid hb
    have HZ := Lib.hid (Nat.le_trans HZ.out HT.out.size)
    clear hb hP HT
    refine hK.out _ _ (fun _ => HB6.out) ?_
    clear hK K
    refine wpAnyX_take (i := 8) (v := (.pointer (some ⟨w.heap.size, 4, none⟩))) rfl (by kernel_rfl) (by kernel_rfl) (by kernel_rfl) (by kernel_rfl) (fun _ _ _ h => h) HB6.out (Or.inl ⟨by rfl, fun w hS => by go_simp⟩) ?_
    go_simp
    refine wpAnyX_one (i := 9) (by kernel_rfl) rfl (fun K hK => ?_)
    rw [if_pos (show Region.wanted _ _ = true from rfl)]
    refine wp_store_box 24 (.tmp 33) (.tmp 28) rfl (w.heap.size) 4 (.agg #[.int .i64 m0, .string m1, .int .i64 m2, .int .i64 m3, .slice A4 ml.length c4]) #[.int .i64 m0, .string m1, .int .i64 m2, .int .i64 m3, .slice A4 ml.length c4] rfl rfl rfl [.int .i64 m0, .int .i64 y1, .int .i64 y2, .int .i64 3, .int .i64 l0, .string l1, .int .i64 l2, .int .i64 l3, .slice A1 sl.length c1, .slice A2 ss.length c2, .slice A3 sf.length c3] [.int .i64 m0, .int .i64 y1, .int .i64 y2, .int .i64 3, .int .i64 m0, .string m1, .int .i64 m2, .int .i64 m3, .slice A4 ml.length c4, .slice A2 ss.length c2, .slice A3 sf.length c3] _ HB5.out (Nat.le_of_ble_eq_true rfl) rfl (by kernel_rfl) rfl ?_
    intro W4 hb hP
    have HT := Lib.hid (hP.agr (not_off (by omega) : ¬ (Off w.heap.size (w.heap.size + 3)) (w.heap.size)))
    have HA := Lib.hid (HA.out.trans HT.out)
    have HB6 := Lib.hid ((hP.block (w.heap.size + 1) (by omega)).trans HB6.out)
    have HB10 := Lib.hid ((hP.block (w.heap.size + 2) (by omega)).trans HB10.out)
    have HB5 := Lib.hid hb
    have HZ := Lib.hid (Nat.le_trans HZ.out HT.out.size)
    clear hb hP HT
    refine hK.out _ _ (fun _ => HB6.out) ?_
    clear hK K
    refine wpAnyX_take (i := 10) (v := (.pointer (some ⟨w.heap.size, 1, none⟩))) rfl (by kernel_rfl) (by kernel_rfl) (by kernel_rfl) (by kernel_rfl) (fun _ _ _ h => h) HB6.out (Or.inl ⟨by rfl, fun w hS => by go_simp⟩) ?_
    go_simp
    refine wpAnyX_one (i := 11) (by kernel_rfl) rfl (fun K hK => ?_)
    rw [if_pos (show Region.wanted _ _ = true from rfl)]
    refine wp_store_box 3 (.tmp 34) (.tmp 29) rfl (w.heap.size) 1 ((.int .i64 trip)) #[.int .i64 trip] rfl rfl rfl [.int .i64 m0, .int .i64 y1, .int .i64 y2, .int .i64 3, .int .i64 m0, .string m1, .int .i64 m2, .int .i64 m3, .slice A4 ml.length c4, .slice A2 ss.length c2, .slice A3 sf.length c3] [.int .i64 m0, .int .i64 trip, .int .i64 y2, .int .i64 3, .int .i64 m0, .string m1, .int .i64 m2, .int .i64 m3, .slice A4 ml.length c4, .slice A2 ss.length c2, .slice A3 sf.length c3] _ HB5.out (Nat.le_of_ble_eq_true rfl) rfl (by kernel_rfl) rfl ?_
    intro W5 hb hP
    have HT := Lib.hid (hP.agr (not_off (by omega) : ¬ (Off w.heap.size (w.heap.size + 3)) (w.heap.size)))
    have HA := Lib.hid (HA.out.trans HT.out)
    have HB6 := Lib.hid ((hP.block (w.heap.size + 1) (by omega)).trans HB6.out)
    have HB10 := Lib.hid ((hP.block (w.heap.size + 2) (by omega)).trans HB10.out)
    have HB5 := Lib.hid hb
    have HZ := Lib.hid (Nat.le_trans HZ.out HT.out.size)
    clear hb hP HT
    refine hK.out _ _ (fun _ => HB6.out) ?_
    clear hK K
    refine wpAnyX_take (i := 12) (v := (.pointer (some ⟨w.heap.size, 2, none⟩))) rfl (by kernel_rfl) (by kernel_rfl) (by kernel_rfl) (by kernel_rfl) (fun _ _ _ h => h) HB6.out (Or.inl ⟨by rfl, fun w hS => by go_simp⟩) ?_
    go_simp
    refine wpAnyX_one (i := 13) (by kernel_rfl) rfl (fun K hK => ?_)
    rw [if_pos (show Region.wanted _ _ = true from rfl)]
    refine wp_store_box 3 (.tmp 35) (.tmp 30) rfl (w.heap.size) 2 ((.int .i64 off)) #[.int .i64 off] rfl rfl rfl [.int .i64 m0, .int .i64 trip, .int .i64 y2, .int .i64 3, .int .i64 m0, .string m1, .int .i64 m2, .int .i64 m3, .slice A4 ml.length c4, .slice A2 ss.length c2, .slice A3 sf.length c3] [.int .i64 m0, .int .i64 trip, .int .i64 off, .int .i64 3, .int .i64 m0, .string m1, .int .i64 m2, .int .i64 m3, .slice A4 ml.length c4, .slice A2 ss.length c2, .slice A3 sf.length c3] _ HB5.out (Nat.le_of_ble_eq_true rfl) rfl (by kernel_rfl) rfl ?_
    intro W6 hb hP
    have HT := Lib.hid (hP.agr (not_off (by omega) : ¬ (Off w.heap.size (w.heap.size + 3)) (w.heap.size)))
    have HA := Lib.hid (HA.out.trans HT.out)
    have HB6 := Lib.hid ((hP.block (w.heap.size + 1) (by omega)).trans HB6.out)
    have HB10 := Lib.hid ((hP.block (w.heap.size + 2) (by omega)).trans HB10.out)
    have HB5 := Lib.hid hb
    have HZ := Lib.hid (Nat.le_trans HZ.out HT.out.size)
    clear hb hP HT
    refine hK.out _ _ (fun _ => HB6.out) ?_
    clear hK K
    refine wpAnyX_take (i := 14) (v := (.pointer (some ⟨w.heap.size, 9, none⟩))) rfl (by kernel_rfl) (by kernel_rfl) (by kernel_rfl) (by kernel_rfl) (fun _ _ _ h => h) HB6.out (Or.inl ⟨by rfl, fun w hS => by go_simp⟩) ?_
    go_simp
    refine wpAnyX_one (i := 15) (by kernel_rfl) rfl (fun K hK => ?_)
    rw [if_pos (show Region.wanted _ _ = true from rfl)]
    refine wp_store_box 25 (.tmp 36) (.tmp 31) rfl (w.heap.size) 9 ((.slice A5 sa.length c5)) #[.slice A5 sa.length c5] rfl rfl rfl [.int .i64 m0, .int .i64 trip, .int .i64 off, .int .i64 3, .int .i64 m0, .string m1, .int .i64 m2, .int .i64 m3, .slice A4 ml.length c4, .slice A2 ss.length c2, .slice A3 sf.length c3] [.int .i64 m0, .int .i64 trip, .int .i64 off, .int .i64 3, .int .i64 m0, .string m1, .int .i64 m2, .int .i64 m3, .slice A4 ml.length c4, .slice A5 sa.length c5, .slice A3 sf.length c3] _ HB5.out (Nat.le_of_ble_eq_true rfl) rfl (by kernel_rfl) rfl ?_
    intro W7 hb hP
    have HT := Lib.hid (hP.agr (not_off (by omega) : ¬ (Off w.heap.size (w.heap.size + 3)) (w.heap.size)))
    have HA := Lib.hid (HA.out.trans HT.out)
    have HB6 := Lib.hid ((hP.block (w.heap.size + 1) (by omega)).trans HB6.out)
    have HB10 := Lib.hid ((hP.block (w.heap.size + 2) (by omega)).trans HB10.out)
    have HB5 := Lib.hid hb
    have HZ := Lib.hid (Nat.le_trans HZ.out HT.out.size)
    clear hb hP HT
    refine hK.out _ _ (fun _ => HB6.out) ?_
    clear hK K
    refine wpAnyX_done (by kernel_rfl) ?_
    go_wp2_with (first
      | (refine at_load 27 (.tmp 5) rfl ?_; refine wpList_load_box rfl 27 (.tmp 5) rfl (w.heap.size) 0 rfl [.int .i64 m0, .int .i64 trip, .int .i64 off, .int .i64 3, .int .i64 m0, .string m1, .int .i64 m2, .int .i64 m3, .slice A4 ml.length c4, .slice A5 sa.length c5, .slice A3 sf.length c3] [.int .i64 m0, .int .i64 trip, .int .i64 off, .int .i64 3, .int .i64 m0, .string m1, .int .i64 m2, .int .i64 m3, .slice A4 ml.length c4, .slice A5 sa.length c5, .slice A3 sf.length c3] _ HB5.out _ Try.underlying27 rfl 11 rfl rfl (by kernel_rfl) ?_)
      | (refine at_store 27 (.tmp 10) (.tmp 37) rfl ?_; refine wpList_store_box rfl 27 (.tmp 10) (.tmp 37) rfl (w.heap.size + 2) 0 (.agg #[.int .i64 m0, .int .i64 trip, .int .i64 off, .int .i64 3, .int .i64 m0, .string m1, .int .i64 m2, .int .i64 m3, .slice A4 ml.length c4, .slice A5 sa.length c5, .slice A3 sf.length c3]) #[.int .i64 m0, .int .i64 trip, .int .i64 off, .int .i64 3, .int .i64 m0, .string m1, .int .i64 m2, .int .i64 m3, .slice A4 ml.length c4, .slice A5 sa.length c5, .slice A3 sf.length c3] rfl rfl rfl [.int .i64 0, .int .i64 0, .int .i64 0, .int .i64 0, .int .i64 0, .string ⟨#[]⟩, .int .i64 0, .int .i64 0, .slice none 0 0, .slice none 0 0, .slice none 0 0] [.int .i64 m0, .int .i64 trip, .int .i64 off, .int .i64 3, .int .i64 m0, .string m1, .int .i64 m2, .int .i64 m3, .slice A4 ml.length c4, .slice A5 sa.length c5, .slice A3 sf.length c3] _ HB10.out (Nat.le_of_ble_eq_true rfl) rfl (by kernel_rfl) rfl ?_; intro W8 hb hP; have HT := Lib.hid (hP.agr (not_off (by omega) : ¬ (Off w.heap.size (w.heap.size + 3)) (w.heap.size + 2))); have HA := Lib.hid (HA.out.trans HT.out); have HB5 := Lib.hid ((hP.block (w.heap.size) (by omega)).trans HB5.out); have HB6 := Lib.hid ((hP.block (w.heap.size + 1) (by omega)).trans HB6.out); have HB10 := Lib.hid hb; have HZ := Lib.hid (Nat.le_trans HZ.out HT.out.size); clear hb hP HT))
    refine ret2 (k := 10) (j := 11) (g := w.heap.size + 2) (T := 27) (cs := #[.int .i64 m0, .int .i64 trip, .int .i64 off, .int .i64 3, .int .i64 m0, .string m1, .int .i64 m2, .int .i64 m3, .slice A4 ml.length c4, .slice A5 sa.length c5, .slice A3 sf.length c3]) Try.results9 ?_ ?_ Try.underlying27 (by kernel_rfl) ?_ ?_
    · rfl
    · exact HB10.out
    · rfl
    · exact by rw [HD.out.1, HD.out.2]; exact ⟨.slice A4 ml.length c4, .slice A5 sa.length c5, .slice A3 sf.length c3, rfl, (H4.out.old HA.out (Nat.le_refl _)), (H5.out.old HA.out (Nat.le_refl _)), (H3.out.old HA.out (Nat.le_refl _)), HA.out.toB (Nat.le_refl _)⟩
  have b0 : (y3 != 0) = true := by simpa using e0
  have b1 : (y3 != 1) = true := by simpa using e1
  have HD := Lib.hid (show annF ⟨y0, y1, y2, y3, ⟨l0, l1, l2, l3, sl⟩, ss, sf⟩ ⟨m0, m1, m2, m3, ml⟩ trip off sa = ⟨y0, y1, y2, y3, ⟨l0, l1, l2, l3, sl⟩, ss, sf⟩ ∧ annB ⟨y0, y1, y2, y3, ⟨l0, l1, l2, l3, sl⟩, ss, sf⟩ = false by unfold annF annB; simp [e0, e1])
  clear e0 e1
  have HA := Lib.hid ((((Agr.refl (Off w.heap.size (w.heap.size + 3)) w).alloc (.cells #[.int .i64 y0, .int .i64 y1, .int .i64 y2, .int .i64 y3, .int .i64 l0, .string l1, .int .i64 l2, .int .i64 l3, .slice A1 sl.length c1, .slice A2 ss.length c2, .slice A3 sf.length c3] 27)).alloc (.cells #[.int .i64 m0, .string m1, .int .i64 m2, .int .i64 m3, .slice A4 ml.length c4] 24)).alloc (.cells #[.int .i64 0, .int .i64 0, .int .i64 0, .int .i64 0, .int .i64 0, .string ⟨#[]⟩, .int .i64 0, .int .i64 0, .slice none 0 0, .slice none 0 0, .slice none 0 0] 27))
  have HB5 := Lib.hid (box_alloc (p := (.cells #[.int .i64 0, .int .i64 0, .int .i64 0, .int .i64 0, .int .i64 0, .string ⟨#[]⟩, .int .i64 0, .int .i64 0, .slice none 0 0, .slice none 0 0, .slice none 0 0] 27)) (box_alloc (p := (.cells #[.int .i64 m0, .string m1, .int .i64 m2, .int .i64 m3, .slice A4 ml.length c4] 24)) (new_at (w := w) (o := (.cells #[.int .i64 y0, .int .i64 y1, .int .i64 y2, .int .i64 y3, .int .i64 l0, .string l1, .int .i64 l2, .int .i64 l3, .slice A1 sl.length c1, .slice A2 ss.length c2, .slice A3 sf.length c3] 27)) (g := w.heap.size) (by simp))))
  have HB6 := Lib.hid (box_alloc (p := (.cells #[.int .i64 0, .int .i64 0, .int .i64 0, .int .i64 0, .int .i64 0, .string ⟨#[]⟩, .int .i64 0, .int .i64 0, .slice none 0 0, .slice none 0 0, .slice none 0 0] 27)) (new_at (w := (w.alloc (.cells #[.int .i64 y0, .int .i64 y1, .int .i64 y2, .int .i64 y3, .int .i64 l0, .string l1, .int .i64 l2, .int .i64 l3, .slice A1 sl.length c1, .slice A2 ss.length c2, .slice A3 sf.length c3] 27))) (o := (.cells #[.int .i64 m0, .string m1, .int .i64 m2, .int .i64 m3, .slice A4 ml.length c4] 24)) (g := w.heap.size + 1) (by simp)))
  have HB10 := Lib.hid (new_at (w := ((w.alloc (.cells #[.int .i64 y0, .int .i64 y1, .int .i64 y2, .int .i64 y3, .int .i64 l0, .string l1, .int .i64 l2, .int .i64 l3, .slice A1 sl.length c1, .slice A2 ss.length c2, .slice A3 sf.length c3] 27)).alloc (.cells #[.int .i64 m0, .string m1, .int .i64 m2, .int .i64 m3, .slice A4 ml.length c4] 24))) (o := (.cells #[.int .i64 0, .int .i64 0, .int .i64 0, .int .i64 0, .int .i64 0, .string ⟨#[]⟩, .int .i64 0, .int .i64 0, .slice none 0 0, .slice none 0 0, .slice none 0 0] 27)) (g := w.heap.size + 2) (by simp))
  have HZ := Lib.hid (show w.heap.size + 3 ≤ (((w.alloc (.cells #[.int .i64 y0, .int .i64 y1, .int .i64 y2, .int .i64 y3, .int .i64 l0, .string l1, .int .i64 l2, .int .i64 l3, .slice A1 sl.length c1, .slice A2 ss.length c2, .slice A3 sf.length c3] 27)).alloc (.cells #[.int .i64 m0, .string m1, .int .i64 m2, .int .i64 m3, .slice A4 ml.length c4] 24)).alloc (.cells #[.int .i64 0, .int .i64 0, .int .i64 0, .int .i64 0, .int .i64 0, .string ⟨#[]⟩, .int .i64 0, .int .i64 0, .slice none 0 0, .slice none 0 0, .slice none 0 0] 27)).heap.size by simp)
  unfold arrV lotV
  go_enter Try.func9, Try.ntmps9
  go_wp2_with (first
    | (refine at_load 3 (.tmp 12) rfl ?_; refine wpList_load_one rfl 3 (.tmp 12) rfl (w.heap.size) 3 rfl [.int .i64 y0, .int .i64 y1, .int .i64 y2, .int .i64 y3, .int .i64 l0, .string l1, .int .i64 l2, .int .i64 l3, .slice A1 sl.length c1, .slice A2 ss.length c2, .slice A3 sf.length c3] (.int .i64 y3) _ HB5.out rfl _ Try.underlying3 rfl ?_)
    | (refine at_load 3 (.tmp 16) rfl ?_; refine wpList_load_one_w rfl 3 (.tmp 16) rfl (w.heap.size) 3 rfl [.int .i64 y0, .int .i64 y1, .int .i64 y2, .int .i64 y3, .int .i64 l0, .string l1, .int .i64 l2, .int .i64 l3, .slice A1 sl.length c1, .slice A2 ss.length c2, .slice A3 sf.length c3] (.int .i64 y3) _ HB5.out rfl _ Try.underlying3 rfl ?_)
    | (refine at_load 27 (.tmp 5) rfl ?_; refine wpList_load_box rfl 27 (.tmp 5) rfl (w.heap.size) 0 rfl [.int .i64 y0, .int .i64 y1, .int .i64 y2, .int .i64 y3, .int .i64 l0, .string l1, .int .i64 l2, .int .i64 l3, .slice A1 sl.length c1, .slice A2 ss.length c2, .slice A3 sf.length c3] [.int .i64 y0, .int .i64 y1, .int .i64 y2, .int .i64 y3, .int .i64 l0, .string l1, .int .i64 l2, .int .i64 l3, .slice A1 sl.length c1, .slice A2 ss.length c2, .slice A3 sf.length c3] _ HB5.out _ Try.underlying27 rfl 11 rfl rfl (by kernel_rfl) ?_)
    | (refine at_store 27 (.tmp 10) (.tmp 20) rfl ?_; refine wpList_store_box rfl 27 (.tmp 10) (.tmp 20) rfl (w.heap.size + 2) 0 (.agg #[.int .i64 y0, .int .i64 y1, .int .i64 y2, .int .i64 y3, .int .i64 l0, .string l1, .int .i64 l2, .int .i64 l3, .slice A1 sl.length c1, .slice A2 ss.length c2, .slice A3 sf.length c3]) #[.int .i64 y0, .int .i64 y1, .int .i64 y2, .int .i64 y3, .int .i64 l0, .string l1, .int .i64 l2, .int .i64 l3, .slice A1 sl.length c1, .slice A2 ss.length c2, .slice A3 sf.length c3] rfl rfl rfl [.int .i64 0, .int .i64 0, .int .i64 0, .int .i64 0, .int .i64 0, .string ⟨#[]⟩, .int .i64 0, .int .i64 0, .slice none 0 0, .slice none 0 0, .slice none 0 0] [.int .i64 y0, .int .i64 y1, .int .i64 y2, .int .i64 y3, .int .i64 l0, .string l1, .int .i64 l2, .int .i64 l3, .slice A1 sl.length c1, .slice A2 ss.length c2, .slice A3 sf.length c3] _ HB10.out (Nat.le_of_ble_eq_true rfl) rfl (by kernel_rfl) rfl ?_; intro W1 hb hP; have HT := Lib.hid (hP.agr (not_off (by omega) : ¬ (Off w.heap.size (w.heap.size + 3)) (w.heap.size + 2))); have HA := Lib.hid (HA.out.trans HT.out); have HB5 := Lib.hid ((hP.block (w.heap.size) (by omega)).trans HB5.out); have HB6 := Lib.hid ((hP.block (w.heap.size + 1) (by omega)).trans HB6.out); have HB10 := Lib.hid hb; have HZ := Lib.hid (Nat.le_trans HZ.out HT.out.size); clear hb hP HT))
  refine ret2 (k := 10) (j := 11) (g := w.heap.size + 2) (T := 27) (cs := #[.int .i64 y0, .int .i64 y1, .int .i64 y2, .int .i64 y3, .int .i64 l0, .string l1, .int .i64 l2, .int .i64 l3, .slice A1 sl.length c1, .slice A2 ss.length c2, .slice A3 sf.length c3]) Try.results9 ?_ ?_ Try.underlying27 (by kernel_rfl) ?_ ?_
  · rfl
  · exact HB10.out
  · rfl
  · exact by rw [HD.out.1, HD.out.2]; exact ⟨.slice A1 sl.length c1, .slice A2 ss.length c2, .slice A3 sf.length c3, rfl, (H1.out.old HA.out (Nat.le_refl _)), (H2.out.old HA.out (Nat.le_refl _)), (H3.out.old HA.out (Nat.le_refl _)), HA.out.toB (Nat.le_refl _)⟩

end Go.Proofs.Ytecmpkcjeaiknaa
