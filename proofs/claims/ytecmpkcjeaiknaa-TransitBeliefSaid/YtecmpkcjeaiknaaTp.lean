/- The reference's SameLot and SameArrival at two values that read as one. -/
import Derived.Test.YtecmpkcjeaiknaaTo
namespace Go.Proofs.Ytecmpkcjeaiknaa
open Go.RowKit
set_option linter.unusedVariables false

set_option maxRecDepth 100000 in
set_option maxHeartbeats 4000000 in
theorem sameLot_any (l : Lot) (v v' : Value) (w : World) (h : SlcsAt w v l.slc) (h' : SlcsAt w v' l.slc) : Calls Try.prog 29 #[lotV l v, lotV l v'] w fun e w' => e = .returned (.bool true) ∧ Below w.heap.size w w' := by
  have H := Lib.hid h
  have H2 := Lib.hid h'
  clear h h'
  have HA := Lib.hid (((Agr.refl (Off w.heap.size (w.heap.size + 2)) w).alloc (.cells #[.int .i64 l.id, .string l.code, .int .i64 l.qty, .int .i64 l.proc, v] 24)).alloc (.cells #[.int .i64 l.id, .string l.code, .int .i64 l.qty, .int .i64 l.proc, v'] 24))
  have HB2 := Lib.hid (box_alloc (p := (.cells #[.int .i64 l.id, .string l.code, .int .i64 l.qty, .int .i64 l.proc, v'] 24)) (new_at (w := w) (o := (.cells #[.int .i64 l.id, .string l.code, .int .i64 l.qty, .int .i64 l.proc, v] 24)) (g := w.heap.size) (by simp)))
  have HB3 := Lib.hid (new_at (w := (w.alloc (.cells #[.int .i64 l.id, .string l.code, .int .i64 l.qty, .int .i64 l.proc, v] 24))) (o := (.cells #[.int .i64 l.id, .string l.code, .int .i64 l.qty, .int .i64 l.proc, v'] 24)) (g := w.heap.size + 1) (by simp))
  have HZ := Lib.hid (show w.heap.size + 2 ≤ ((w.alloc (.cells #[.int .i64 l.id, .string l.code, .int .i64 l.qty, .int .i64 l.proc, v] 24)).alloc (.cells #[.int .i64 l.id, .string l.code, .int .i64 l.qty, .int .i64 l.proc, v'] 24)).heap.size by simp)
  unfold lotV
  go_enter Try.func29, Try.ntmps29
  go_wp2_with (first
    | (refine at_load 3 (.tmp 5) rfl ?_; refine wpList_load_one rfl 3 (.tmp 5) rfl (w.heap.size) 0 rfl [.int .i64 l.id, .string l.code, .int .i64 l.qty, .int .i64 l.proc, v] (.int .i64 l.id) _ HB2.out rfl _ Try.underlying3 rfl ?_)
    | (refine at_load 3 (.tmp 7) rfl ?_; refine wpList_load_one rfl 3 (.tmp 7) rfl (w.heap.size + 1) 0 rfl [.int .i64 l.id, .string l.code, .int .i64 l.qty, .int .i64 l.proc, v'] (.int .i64 l.id) _ HB3.out rfl _ Try.underlying3 rfl ?_)
    | (refine at_load 9 (.tmp 11) rfl ?_; refine wpList_load_one_w rfl 9 (.tmp 11) rfl (w.heap.size) 1 rfl [.int .i64 l.id, .string l.code, .int .i64 l.qty, .int .i64 l.proc, v] (.string l.code) _ HB2.out rfl _ Try.underlying9 rfl ?_)
    | (refine at_load 9 (.tmp 13) rfl ?_; refine wpList_load_one_w rfl 9 (.tmp 13) rfl (w.heap.size + 1) 1 rfl [.int .i64 l.id, .string l.code, .int .i64 l.qty, .int .i64 l.proc, v'] (.string l.code) _ HB3.out rfl _ Try.underlying9 rfl ?_)
    | (refine at_load 3 (.tmp 18) rfl ?_; refine wpList_load_one_w rfl 3 (.tmp 18) rfl (w.heap.size) 2 rfl [.int .i64 l.id, .string l.code, .int .i64 l.qty, .int .i64 l.proc, v] (.int .i64 l.qty) _ HB2.out rfl _ Try.underlying3 rfl ?_)
    | (refine at_load 3 (.tmp 20) rfl ?_; refine wpList_load_one_w rfl 3 (.tmp 20) rfl (w.heap.size + 1) 2 rfl [.int .i64 l.id, .string l.code, .int .i64 l.qty, .int .i64 l.proc, v'] (.int .i64 l.qty) _ HB3.out rfl _ Try.underlying3 rfl ?_)
    | (refine at_load 3 (.tmp 25) rfl ?_; refine wpList_load_one_w rfl 3 (.tmp 25) rfl (w.heap.size) 3 rfl [.int .i64 l.id, .string l.code, .int .i64 l.qty, .int .i64 l.proc, v] (.int .i64 l.proc) _ HB2.out rfl _ Try.underlying3 rfl ?_)
    | (refine at_load 3 (.tmp 27) rfl ?_; refine wpList_load_one_w rfl 3 (.tmp 27) rfl (w.heap.size + 1) 3 rfl [.int .i64 l.id, .string l.code, .int .i64 l.qty, .int .i64 l.proc, v'] (.int .i64 l.proc) _ HB3.out rfl _ Try.underlying3 rfl ?_)
    | (refine at_load 22 (.tmp 32) rfl ?_; refine wpList_load_one_w rfl 22 (.tmp 32) rfl (w.heap.size) 4 rfl [.int .i64 l.id, .string l.code, .int .i64 l.qty, .int .i64 l.proc, v] (v) _ HB2.out rfl _ Try.underlying22 rfl ?_)
    | (refine at_load 22 (.tmp 34) rfl ?_; refine wpList_load_one_w rfl 22 (.tmp 34) rfl (w.heap.size + 1) 4 rfl [.int .i64 l.id, .string l.code, .int .i64 l.qty, .int .i64 l.proc, v'] (v') _ HB3.out rfl _ Try.underlying22 rfl ?_)
    | (go_at_call 43; have HQ := HZ.out; refine (sameSlices_any v v' l.slc _ (H.out.old HA.out (Nat.le_refl _)) (H2.out.old HA.out (Nat.le_refl _))).mono ?_; rintro e W1 ⟨rfl, hq⟩; have hb := hq.below ((w.alloc (.cells #[.int .i64 l.id, .string l.code, .int .i64 l.qty, .int .i64 l.proc, v] 24)).alloc (.cells #[.int .i64 l.id, .string l.code, .int .i64 l.qty, .int .i64 l.proc, v'] 24)).heap.size; clear hq; have HT := Lib.hid ((Agr.refl (Off w.heap.size (w.heap.size + 2)) ((w.alloc (.cells #[.int .i64 l.id, .string l.code, .int .i64 l.qty, .int .i64 l.proc, v] 24)).alloc (.cells #[.int .i64 l.id, .string l.code, .int .i64 l.qty, .int .i64 l.proc, v'] 24))).below hb); have HA := Lib.hid (HA.out.trans HT.out); have HB2 := Lib.hid (box_below HB2.out hb); have HB3 := Lib.hid (box_below HB3.out hb); have HZ := Lib.hid (Nat.le_trans HZ.out HT.out.size); clear hb HT HQ))
  go_ret
  exact ⟨rfl, HA.out.toB (Nat.le_refl _)⟩

set_option maxRecDepth 100000 in
set_option maxHeartbeats 4000000 in
theorem sameArr_any (y : Arr) (a1 a2 a3 b1 b2 b3 : Value) (w : World) (h1 : SlcsAt w a1 y.lot.slc) (h2 : IntsAt w a2 y.seals) (h3 : IntsAt w a3 y.found) (k1 : SlcsAt w b1 y.lot.slc) (k2 : IntsAt w b2 y.seals) (k3 : IntsAt w b3 y.found) : Calls Try.prog 14 #[arrV y a1 a2 a3, arrV y b1 b2 b3] w fun e w' => e = .returned (.bool true) ∧ Below w.heap.size w w' := by
  have H1 := Lib.hid h1
  have H2 := Lib.hid h2
  have H3 := Lib.hid h3
  have K1 := Lib.hid k1
  have K2 := Lib.hid k2
  have K3 := Lib.hid k3
  clear h1 h2 h3 k1 k2 k3
  have HA := Lib.hid (((Agr.refl (Off w.heap.size (w.heap.size + 2)) w).alloc (.cells #[.int .i64 y.id, .int .i64 y.trip, .int .i64 y.off, .int .i64 y.st, .int .i64 y.lot.id, .string y.lot.code, .int .i64 y.lot.qty, .int .i64 y.lot.proc, a1, a2, a3] 27)).alloc (.cells #[.int .i64 y.id, .int .i64 y.trip, .int .i64 y.off, .int .i64 y.st, .int .i64 y.lot.id, .string y.lot.code, .int .i64 y.lot.qty, .int .i64 y.lot.proc, b1, b2, b3] 27))
  have HB2 := Lib.hid (box_alloc (p := (.cells #[.int .i64 y.id, .int .i64 y.trip, .int .i64 y.off, .int .i64 y.st, .int .i64 y.lot.id, .string y.lot.code, .int .i64 y.lot.qty, .int .i64 y.lot.proc, b1, b2, b3] 27)) (new_at (w := w) (o := (.cells #[.int .i64 y.id, .int .i64 y.trip, .int .i64 y.off, .int .i64 y.st, .int .i64 y.lot.id, .string y.lot.code, .int .i64 y.lot.qty, .int .i64 y.lot.proc, a1, a2, a3] 27)) (g := w.heap.size) (by simp)))
  have HB3 := Lib.hid (new_at (w := (w.alloc (.cells #[.int .i64 y.id, .int .i64 y.trip, .int .i64 y.off, .int .i64 y.st, .int .i64 y.lot.id, .string y.lot.code, .int .i64 y.lot.qty, .int .i64 y.lot.proc, a1, a2, a3] 27))) (o := (.cells #[.int .i64 y.id, .int .i64 y.trip, .int .i64 y.off, .int .i64 y.st, .int .i64 y.lot.id, .string y.lot.code, .int .i64 y.lot.qty, .int .i64 y.lot.proc, b1, b2, b3] 27)) (g := w.heap.size + 1) (by simp))
  have HZ := Lib.hid (show w.heap.size + 2 ≤ ((w.alloc (.cells #[.int .i64 y.id, .int .i64 y.trip, .int .i64 y.off, .int .i64 y.st, .int .i64 y.lot.id, .string y.lot.code, .int .i64 y.lot.qty, .int .i64 y.lot.proc, a1, a2, a3] 27)).alloc (.cells #[.int .i64 y.id, .int .i64 y.trip, .int .i64 y.off, .int .i64 y.st, .int .i64 y.lot.id, .string y.lot.code, .int .i64 y.lot.qty, .int .i64 y.lot.proc, b1, b2, b3] 27)).heap.size by simp)
  have FIRST : True := trivial
  unfold arrV
  go_enter Try.func14, Try.ntmps14
  go_wp2_with (first
    | (refine at_load 3 (.tmp 5) rfl ?_; refine wpList_load_one rfl 3 (.tmp 5) rfl (w.heap.size) 0 rfl [.int .i64 y.id, .int .i64 y.trip, .int .i64 y.off, .int .i64 y.st, .int .i64 y.lot.id, .string y.lot.code, .int .i64 y.lot.qty, .int .i64 y.lot.proc, a1, a2, a3] (.int .i64 y.id) _ HB2.out rfl _ Try.underlying3 rfl ?_)
    | (refine at_load 3 (.tmp 7) rfl ?_; refine wpList_load_one rfl 3 (.tmp 7) rfl (w.heap.size + 1) 0 rfl [.int .i64 y.id, .int .i64 y.trip, .int .i64 y.off, .int .i64 y.st, .int .i64 y.lot.id, .string y.lot.code, .int .i64 y.lot.qty, .int .i64 y.lot.proc, b1, b2, b3] (.int .i64 y.id) _ HB3.out rfl _ Try.underlying3 rfl ?_)
    | (refine at_load 3 (.tmp 11) rfl ?_; refine wpList_load_one_w rfl 3 (.tmp 11) rfl (w.heap.size) 1 rfl [.int .i64 y.id, .int .i64 y.trip, .int .i64 y.off, .int .i64 y.st, .int .i64 y.lot.id, .string y.lot.code, .int .i64 y.lot.qty, .int .i64 y.lot.proc, a1, a2, a3] (.int .i64 y.trip) _ HB2.out rfl _ Try.underlying3 rfl ?_)
    | (refine at_load 3 (.tmp 13) rfl ?_; refine wpList_load_one_w rfl 3 (.tmp 13) rfl (w.heap.size + 1) 1 rfl [.int .i64 y.id, .int .i64 y.trip, .int .i64 y.off, .int .i64 y.st, .int .i64 y.lot.id, .string y.lot.code, .int .i64 y.lot.qty, .int .i64 y.lot.proc, b1, b2, b3] (.int .i64 y.trip) _ HB3.out rfl _ Try.underlying3 rfl ?_)
    | (refine at_load 3 (.tmp 18) rfl ?_; refine wpList_load_one_w rfl 3 (.tmp 18) rfl (w.heap.size) 2 rfl [.int .i64 y.id, .int .i64 y.trip, .int .i64 y.off, .int .i64 y.st, .int .i64 y.lot.id, .string y.lot.code, .int .i64 y.lot.qty, .int .i64 y.lot.proc, a1, a2, a3] (.int .i64 y.off) _ HB2.out rfl _ Try.underlying3 rfl ?_)
    | (refine at_load 3 (.tmp 20) rfl ?_; refine wpList_load_one_w rfl 3 (.tmp 20) rfl (w.heap.size + 1) 2 rfl [.int .i64 y.id, .int .i64 y.trip, .int .i64 y.off, .int .i64 y.st, .int .i64 y.lot.id, .string y.lot.code, .int .i64 y.lot.qty, .int .i64 y.lot.proc, b1, b2, b3] (.int .i64 y.off) _ HB3.out rfl _ Try.underlying3 rfl ?_)
    | (refine at_load 3 (.tmp 25) rfl ?_; refine wpList_load_one_w rfl 3 (.tmp 25) rfl (w.heap.size) 3 rfl [.int .i64 y.id, .int .i64 y.trip, .int .i64 y.off, .int .i64 y.st, .int .i64 y.lot.id, .string y.lot.code, .int .i64 y.lot.qty, .int .i64 y.lot.proc, a1, a2, a3] (.int .i64 y.st) _ HB2.out rfl _ Try.underlying3 rfl ?_)
    | (refine at_load 3 (.tmp 27) rfl ?_; refine wpList_load_one_w rfl 3 (.tmp 27) rfl (w.heap.size + 1) 3 rfl [.int .i64 y.id, .int .i64 y.trip, .int .i64 y.off, .int .i64 y.st, .int .i64 y.lot.id, .string y.lot.code, .int .i64 y.lot.qty, .int .i64 y.lot.proc, b1, b2, b3] (.int .i64 y.st) _ HB3.out rfl _ Try.underlying3 rfl ?_)
    | (refine at_load 24 (.tmp 32) rfl ?_; refine wpList_load_box_w rfl 24 (.tmp 32) rfl (w.heap.size) 4 rfl [.int .i64 y.id, .int .i64 y.trip, .int .i64 y.off, .int .i64 y.st, .int .i64 y.lot.id, .string y.lot.code, .int .i64 y.lot.qty, .int .i64 y.lot.proc, a1, a2, a3] [.int .i64 y.lot.id, .string y.lot.code, .int .i64 y.lot.qty, .int .i64 y.lot.proc, a1] _ HB2.out _ Try.underlying24 rfl 5 rfl rfl (by kernel_rfl) ?_)
    | (refine at_load 24 (.tmp 34) rfl ?_; refine wpList_load_box_w rfl 24 (.tmp 34) rfl (w.heap.size + 1) 4 rfl [.int .i64 y.id, .int .i64 y.trip, .int .i64 y.off, .int .i64 y.st, .int .i64 y.lot.id, .string y.lot.code, .int .i64 y.lot.qty, .int .i64 y.lot.proc, b1, b2, b3] [.int .i64 y.lot.id, .string y.lot.code, .int .i64 y.lot.qty, .int .i64 y.lot.proc, b1] _ HB3.out _ Try.underlying24 rfl 5 rfl rfl (by kernel_rfl) ?_)
    | (go_at_call 29; have HQ := HZ.out; refine (sameLot_any y.lot a1 b1 _ (H1.out.old HA.out (Nat.le_refl _)) (K1.out.old HA.out (Nat.le_refl _))).mono ?_; rintro e W1 ⟨rfl, hb⟩; have HT := Lib.hid ((Agr.refl (Off w.heap.size (w.heap.size + 2)) ((w.alloc (.cells #[.int .i64 y.id, .int .i64 y.trip, .int .i64 y.off, .int .i64 y.st, .int .i64 y.lot.id, .string y.lot.code, .int .i64 y.lot.qty, .int .i64 y.lot.proc, a1, a2, a3] 27)).alloc (.cells #[.int .i64 y.id, .int .i64 y.trip, .int .i64 y.off, .int .i64 y.st, .int .i64 y.lot.id, .string y.lot.code, .int .i64 y.lot.qty, .int .i64 y.lot.proc, b1, b2, b3] 27))).below hb); have HA := Lib.hid (HA.out.trans HT.out); have HB2 := Lib.hid (box_below HB2.out hb); have HB3 := Lib.hid (box_below HB3.out hb); have HZ := Lib.hid (Nat.le_trans HZ.out HT.out.size); clear hb HT HQ)
    | (refine at_load 25 (.tmp 39) rfl ?_; refine wpList_load_one_w rfl 25 (.tmp 39) rfl (w.heap.size) 9 rfl [.int .i64 y.id, .int .i64 y.trip, .int .i64 y.off, .int .i64 y.st, .int .i64 y.lot.id, .string y.lot.code, .int .i64 y.lot.qty, .int .i64 y.lot.proc, a1, a2, a3] (a2) _ HB2.out rfl _ Try.underlying25 rfl ?_)
    | (refine at_load 25 (.tmp 41) rfl ?_; refine wpList_load_one_w rfl 25 (.tmp 41) rfl (w.heap.size + 1) 9 rfl [.int .i64 y.id, .int .i64 y.trip, .int .i64 y.off, .int .i64 y.st, .int .i64 y.lot.id, .string y.lot.code, .int .i64 y.lot.qty, .int .i64 y.lot.proc, b1, b2, b3] (b2) _ HB3.out rfl _ Try.underlying25 rfl ?_)
    | (go_at_call 21; have HQ := HZ.out; clear FIRST; refine (sameInts_any _ _ y.seals _ (H2.out.old HA.out (Nat.le_refl _)) (K2.out.old HA.out (Nat.le_refl _))).mono ?_; rintro e W2 ⟨rfl, hq⟩; have hb := hq.below W1.heap.size; clear hq; have HT := Lib.hid ((Agr.refl (Off w.heap.size (w.heap.size + 2)) W1).below hb); have HA := Lib.hid (HA.out.trans HT.out); have HB2 := Lib.hid (box_below HB2.out hb); have HB3 := Lib.hid (box_below HB3.out hb); have HZ := Lib.hid (Nat.le_trans HZ.out HT.out.size); clear hb HT HQ)
    | (refine at_load 25 (.tmp 46) rfl ?_; refine wpList_load_one_w rfl 25 (.tmp 46) rfl (w.heap.size) 10 rfl [.int .i64 y.id, .int .i64 y.trip, .int .i64 y.off, .int .i64 y.st, .int .i64 y.lot.id, .string y.lot.code, .int .i64 y.lot.qty, .int .i64 y.lot.proc, a1, a2, a3] (a3) _ HB2.out rfl _ Try.underlying25 rfl ?_)
    | (refine at_load 25 (.tmp 48) rfl ?_; refine wpList_load_one_w rfl 25 (.tmp 48) rfl (w.heap.size + 1) 10 rfl [.int .i64 y.id, .int .i64 y.trip, .int .i64 y.off, .int .i64 y.st, .int .i64 y.lot.id, .string y.lot.code, .int .i64 y.lot.qty, .int .i64 y.lot.proc, b1, b2, b3] (b3) _ HB3.out rfl _ Try.underlying25 rfl ?_)
    | (go_at_call 21; have HQ := HZ.out; refine (sameInts_any _ _ y.found _ (H3.out.old HA.out (Nat.le_refl _)) (K3.out.old HA.out (Nat.le_refl _))).mono ?_; rintro e W3 ⟨rfl, hq⟩; have hb := hq.below W2.heap.size; clear hq; have HT := Lib.hid ((Agr.refl (Off w.heap.size (w.heap.size + 2)) W2).below hb); have HA := Lib.hid (HA.out.trans HT.out); have HB2 := Lib.hid (box_below HB2.out hb); have HB3 := Lib.hid (box_below HB3.out hb); have HZ := Lib.hid (Nat.le_trans HZ.out HT.out.size); clear hb HT HQ))
  go_ret
  exact ⟨rfl, HA.out.toB (Nat.le_refl _)⟩

end Go.Proofs.Ytecmpkcjeaiknaa
