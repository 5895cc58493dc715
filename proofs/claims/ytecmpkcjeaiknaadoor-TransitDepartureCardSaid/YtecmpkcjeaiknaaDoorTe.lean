/- The contracts of copyDeparture and copyArrival. -/
import Derived.Test.YtecmpkcjeaiknaaDoorTput
namespace Go.Proofs.YtecmpkcjeaiknaaDoor
open Go.RowKit
set_option linter.unusedVariables false

/-- a departure whose seals lie in new memory -/
def DepRet (x : Dep) (w : World) (e : Ending) (w' : World) : Prop := ∃ s, e = .returned (depV x s) ∧ IntsS (Hi w.heap.size) w' s x.seals ∧ Below w.heap.size w w'
/-- an arrival whose slices lie in new memory -/
def ArrNew (y : Arr) (B : Nat) (w' : World) (v : Value) : Prop := ∃ v1 v2 v3, v = arrV y v1 v2 v3 ∧ SlcsS (Hi B) w' v1 y.lot.slc ∧ IntsS (Hi B) w' v2 y.seals ∧ IntsS (Hi B) w' v3 y.found
def ArrRet (y : Arr) (w : World) (e : Ending) (w' : World) : Prop := ∃ v1 v2 v3, e = .returned (arrV y v1 v2 v3) ∧ SlcsS (Hi w.heap.size) w' v1 y.lot.slc ∧ IntsS (Hi w.heap.size) w' v2 y.seals ∧ IntsS (Hi w.heap.size) w' v3 y.found ∧ Below w.heap.size w w'

set_option maxRecDepth 100000 in
set_option maxHeartbeats 4000000 in
theorem copyDep_any (x : Dep) (s : Value) (w : World) (h : IntsAt w s x.seals) : Calls Tryd.prog 19 #[depV x s] w (DepRet x w) := by
  obtain ⟨x0, x1, x2, x3, x4, x5, x6, x7, x8, x9, ss⟩ := x
  have H := Lib.hid h
  clear h
  have HA := Lib.hid (((Agr.refl (Off w.heap.size (w.heap.size + 2)) w).alloc (.cells #[.int .i64 x0, .int .i64 x1, .int .i64 x2, .int .i64 x3, .int .i64 x4, .int .i64 x5, .int .i64 x6, .int .i64 x7, .int .i64 x8, .int .i64 x9, s] 24)).alloc (.cells #[.int .i64 0, .int .i64 0, .int .i64 0, .int .i64 0, .int .i64 0, .int .i64 0, .int .i64 0, .int .i64 0, .int .i64 0, .int .i64 0, .slice none 0 0] 24))
  have HBb := Lib.hid (box_alloc (p := (.cells #[.int .i64 0, .int .i64 0, .int .i64 0, .int .i64 0, .int .i64 0, .int .i64 0, .int .i64 0, .int .i64 0, .int .i64 0, .int .i64 0, .slice none 0 0] 24)) (new_at (w := w) (o := (.cells #[.int .i64 x0, .int .i64 x1, .int .i64 x2, .int .i64 x3, .int .i64 x4, .int .i64 x5, .int .i64 x6, .int .i64 x7, .int .i64 x8, .int .i64 x9, s] 24)) (g := w.heap.size) (by simp)))
  have HBr := Lib.hid (new_at (w := (w.alloc (.cells #[.int .i64 x0, .int .i64 x1, .int .i64 x2, .int .i64 x3, .int .i64 x4, .int .i64 x5, .int .i64 x6, .int .i64 x7, .int .i64 x8, .int .i64 x9, s] 24))) (o := (.cells #[.int .i64 0, .int .i64 0, .int .i64 0, .int .i64 0, .int .i64 0, .int .i64 0, .int .i64 0, .int .i64 0, .int .i64 0, .int .i64 0, .slice none 0 0] 24)) (g := w.heap.size + 1) (by simp))
  have HZ := Lib.hid (show w.heap.size + 2 ≤ ((w.alloc (.cells #[.int .i64 x0, .int .i64 x1, .int .i64 x2, .int .i64 x3, .int .i64 x4, .int .i64 x5, .int .i64 x6, .int .i64 x7, .int .i64 x8, .int .i64 x9, s] 24)).alloc (.cells #[.int .i64 0, .int .i64 0, .int .i64 0, .int .i64 0, .int .i64 0, .int .i64 0, .int .i64 0, .int .i64 0, .int .i64 0, .int .i64 0, .slice none 0 0] 24)).heap.size by simp)
  have nebr : w.heap.size ≠ w.heap.size + 1 := by omega
  have nerb : w.heap.size + 1 ≠ w.heap.size := by omega
  unfold depV
  go_enter Tryd.func19, Tryd.ntmps19
  have HX := Lib.hid (H.out.old (HA.out.trans (Agr.refl (Off w.heap.size (w.heap.size + 2)) ((w.alloc (.cells #[.int .i64 x0, .int .i64 x1, .int .i64 x2, .int .i64 x3, .int .i64 x4, .int .i64 x5, .int .i64 x6, .int .i64 x7, .int .i64 x8, .int .i64 x9, s] 24)).alloc (.cells #[.int .i64 0, .int .i64 0, .int .i64 0, .int .i64 0, .int .i64 0, .int .i64 0, .int .i64 0, .int .i64 0, .int .i64 0, .int .i64 0, .slice none 0 0] 24)))) (Nat.le_refl _))
  have HQ := Lib.hid (Nat.le_trans HZ.out (Agr.refl (Off w.heap.size (w.heap.size + 2)) ((w.alloc (.cells #[.int .i64 x0, .int .i64 x1, .int .i64 x2, .int .i64 x3, .int .i64 x4, .int .i64 x5, .int .i64 x6, .int .i64 x7, .int .i64 x8, .int .i64 x9, s] 24)).alloc (.cells #[.int .i64 0, .int .i64 0, .int .i64 0, .int .i64 0, .int .i64 0, .int .i64 0, .int .i64 0, .int .i64 0, .int .i64 0, .int .i64 0, .slice none 0 0] 24))).size)
  go_wp2_with fail
  refine (cloneI HX.out).mono ?_
  rintro e w2 ⟨v, rfl, ho, -, hb⟩
  obtain ⟨A1, c1, rfl, -, -, -⟩ := ho.shape
  have HS := Lib.hid ((IntsS.own ho HX.out.len).low HQ.out)
  have HT := Lib.hid ((Agr.refl (Off w.heap.size (w.heap.size + 2)) ((w.alloc (.cells #[.int .i64 x0, .int .i64 x1, .int .i64 x2, .int .i64 x3, .int .i64 x4, .int .i64 x5, .int .i64 x6, .int .i64 x7, .int .i64 x8, .int .i64 x9, s] 24)).alloc (.cells #[.int .i64 0, .int .i64 0, .int .i64 0, .int .i64 0, .int .i64 0, .int .i64 0, .int .i64 0, .int .i64 0, .int .i64 0, .int .i64 0, .slice none 0 0] 24))).below hb)
  have HA := Lib.hid (HA.out.trans HT.out)
  have HBb := Lib.hid (show w2.heap[w.heap.size]? = some (.cells #[.int .i64 x0, .int .i64 x1, .int .i64 x2, .int .i64 x3, .int .i64 x4, .int .i64 x5, .int .i64 x6, .int .i64 x7, .int .i64 x8, .int .i64 x9, s] 24 (0, 0)) from box_below HBb.out hb)
  have HBr := Lib.hid (show w2.heap[w.heap.size + 1]? = some (.cells #[.int .i64 0, .int .i64 0, .int .i64 0, .int .i64 0, .int .i64 0, .int .i64 0, .int .i64 0, .int .i64 0, .int .i64 0, .int .i64 0, .slice none 0 0] 24 (0, 0)) from box_below HBr.out hb)
  have HZ := Lib.hid (Nat.le_trans HZ.out HT.out.size)
  clear hb ho HX HQ HT
  obtain ⟨⟨kb0, kb1, kb2, kb3, kb4, kb5, kb6, kb7, kb8, kb9, kb10⟩, fb0, fb1, fb2, fb3, fb4, fb5, fb6, fb7, fb8, fb9, fb10⟩ := cells11 HBb.out
  obtain ⟨⟨kr0, kr1, kr2, kr3, kr4, kr5, kr6, kr7, kr8, kr9, kr10⟩, fr0, fr1, fr2, fr3, fr4, fr5, fr6, fr7, fr8, fr9, fr10⟩ := cells11 HBr.out
  go_wp2
  have hA : Agr (Off w.heap.size (w.heap.size + 2)) w2 _ := (agr_p11_0 (g := w.heap.size + 1) ((Agr.refl (Off w.heap.size (w.heap.size + 2)) w2).set (g := w.heap.size) (not_off (by omega)) 10 (.slice A1 ss.length c1)) (not_off (by omega)) (.int .i64 x0) (.int .i64 x1) (.int .i64 x2) (.int .i64 x3) (.int .i64 x4) (.int .i64 x5) (.int .i64 x6) (.int .i64 x7) (.int .i64 x8) (.int .i64 x9) (.slice A1 ss.length c1))
  refine ret1 (k := 2) (g := w.heap.size + 1) (T := 24) (cs := #[.int .i64 x0, .int .i64 x1, .int .i64 x2, .int .i64 x3, .int .i64 x4, .int .i64 x5, .int .i64 x6, .int .i64 x7, .int .i64 x8, .int .i64 x9, .slice A1 ss.length c1]) Tryd.results19 ?_ ?_ Tryd.underlying24 (by kernel_rfl) ?_ ?_
  · rfl
  · exact (box_p11_0_11 (box_other (p := w.heap.size) (j := 10) (v := .slice A1 ss.length c1) HBr.out (by omega)) (.int .i64 x0) (.int .i64 x1) (.int .i64 x2) (.int .i64 x3) (.int .i64 x4) (.int .i64 x5) (.int .i64 x6) (.int .i64 x7) (.int .i64 x8) (.int .i64 x9) (.slice A1 ss.length c1))
  · rfl
  · exact ⟨_, rfl, (HS.out.step hA (Nat.le_refl _)).low (by omega), (HA.out.trans hA).toB (Nat.le_refl _)⟩

set_option maxRecDepth 100000 in
set_option maxHeartbeats 4000000 in
theorem copyArr_any (y : Arr) (v1 v2 v3 : Value) (w : World) (h1 : SlcsAt w v1 y.lot.slc) (h2 : IntsAt w v2 y.seals) (h3 : IntsAt w v3 y.found) : Calls Tryd.prog 28 #[arrV y v1 v2 v3] w (ArrRet y w) := by
  obtain ⟨y0, y1, y2, y3, ⟨l0, l1, l2, l3, sl⟩, ss, sf⟩ := y
  have H1 := Lib.hid h1
  have H2 := Lib.hid h2
  have H3 := Lib.hid h3
  clear h1 h2 h3
  have HA := Lib.hid (((Agr.refl (Off w.heap.size (w.heap.size + 2)) w).alloc (.cells #[.int .i64 y0, .int .i64 y1, .int .i64 y2, .int .i64 y3, .int .i64 l0, .string l1, .int .i64 l2, .int .i64 l3, v1, v2, v3] 45)).alloc (.cells #[.int .i64 0, .int .i64 0, .int .i64 0, .int .i64 0, .int .i64 0, .string ⟨#[]⟩, .int .i64 0, .int .i64 0, .slice none 0 0, .slice none 0 0, .slice none 0 0] 45))
  have HBb := Lib.hid (box_alloc (p := (.cells #[.int .i64 0, .int .i64 0, .int .i64 0, .int .i64 0, .int .i64 0, .string ⟨#[]⟩, .int .i64 0, .int .i64 0, .slice none 0 0, .slice none 0 0, .slice none 0 0] 45)) (new_at (w := w) (o := (.cells #[.int .i64 y0, .int .i64 y1, .int .i64 y2, .int .i64 y3, .int .i64 l0, .string l1, .int .i64 l2, .int .i64 l3, v1, v2, v3] 45)) (g := w.heap.size) (by simp)))
  have HBr := Lib.hid (new_at (w := (w.alloc (.cells #[.int .i64 y0, .int .i64 y1, .int .i64 y2, .int .i64 y3, .int .i64 l0, .string l1, .int .i64 l2, .int .i64 l3, v1, v2, v3] 45))) (o := (.cells #[.int .i64 0, .int .i64 0, .int .i64 0, .int .i64 0, .int .i64 0, .string ⟨#[]⟩, .int .i64 0, .int .i64 0, .slice none 0 0, .slice none 0 0, .slice none 0 0] 45)) (g := w.heap.size + 1) (by simp))
  have HZ := Lib.hid (show w.heap.size + 2 ≤ ((w.alloc (.cells #[.int .i64 y0, .int .i64 y1, .int .i64 y2, .int .i64 y3, .int .i64 l0, .string l1, .int .i64 l2, .int .i64 l3, v1, v2, v3] 45)).alloc (.cells #[.int .i64 0, .int .i64 0, .int .i64 0, .int .i64 0, .int .i64 0, .string ⟨#[]⟩, .int .i64 0, .int .i64 0, .slice none 0 0, .slice none 0 0, .slice none 0 0] 45)).heap.size by simp)
  have nebr : w.heap.size ≠ w.heap.size + 1 := by omega
  have nerb : w.heap.size + 1 ≠ w.heap.size := by omega
  unfold arrV
  go_enter Tryd.func28, Tryd.ntmps28
  have HX := Lib.hid (H1.out.old (HA.out.trans (Agr.refl (Off w.heap.size (w.heap.size + 2)) ((w.alloc (.cells #[.int .i64 y0, .int .i64 y1, .int .i64 y2, .int .i64 y3, .int .i64 l0, .string l1, .int .i64 l2, .int .i64 l3, v1, v2, v3] 45)).alloc (.cells #[.int .i64 0, .int .i64 0, .int .i64 0, .int .i64 0, .int .i64 0, .string ⟨#[]⟩, .int .i64 0, .int .i64 0, .slice none 0 0, .slice none 0 0, .slice none 0 0] 45)))) (Nat.le_refl _))
  have HQ := Lib.hid (Nat.le_trans HZ.out (Agr.refl (Off w.heap.size (w.heap.size + 2)) ((w.alloc (.cells #[.int .i64 y0, .int .i64 y1, .int .i64 y2, .int .i64 y3, .int .i64 l0, .string l1, .int .i64 l2, .int .i64 l3, v1, v2, v3] 45)).alloc (.cells #[.int .i64 0, .int .i64 0, .int .i64 0, .int .i64 0, .int .i64 0, .string ⟨#[]⟩, .int .i64 0, .int .i64 0, .slice none 0 0, .slice none 0 0, .slice none 0 0] 45))).size)
  go_wp2_with fail
  refine (cloneS HX.out).mono ?_
  rintro e w2 ⟨v, rfl, ho, -, hb⟩
  obtain ⟨A1, c1, rfl, -, -, -⟩ := ho.shape
  have HS1 := Lib.hid ((SlcsS.own ho HX.out.len).low HQ.out)
  have HT := Lib.hid ((Agr.refl (Off w.heap.size (w.heap.size + 2)) ((w.alloc (.cells #[.int .i64 y0, .int .i64 y1, .int .i64 y2, .int .i64 y3, .int .i64 l0, .string l1, .int .i64 l2, .int .i64 l3, v1, v2, v3] 45)).alloc (.cells #[.int .i64 0, .int .i64 0, .int .i64 0, .int .i64 0, .int .i64 0, .string ⟨#[]⟩, .int .i64 0, .int .i64 0, .slice none 0 0, .slice none 0 0, .slice none 0 0] 45))).below hb)
  have HA := Lib.hid (HA.out.trans HT.out)
  have HBb := Lib.hid (show w2.heap[w.heap.size]? = some (.cells #[.int .i64 y0, .int .i64 y1, .int .i64 y2, .int .i64 y3, .int .i64 l0, .string l1, .int .i64 l2, .int .i64 l3, v1, v2, v3] 45 (0, 0)) from box_below HBb.out hb)
  have HBr := Lib.hid (show w2.heap[w.heap.size + 1]? = some (.cells #[.int .i64 0, .int .i64 0, .int .i64 0, .int .i64 0, .int .i64 0, .string ⟨#[]⟩, .int .i64 0, .int .i64 0, .slice none 0 0, .slice none 0 0, .slice none 0 0] 45 (0, 0)) from box_below HBr.out hb)
  have HZ := Lib.hid (Nat.le_trans HZ.out HT.out.size)
  clear hb ho HX HQ HT
  obtain ⟨⟨kb0, kb1, kb2, kb3, kb4, kb5, kb6, kb7, kb8, kb9, kb10⟩, fb0, fb1, fb2, fb3, fb4, fb5, fb6, fb7, fb8, fb9, fb10⟩ := cells11 HBb.out
  have HX := Lib.hid (H2.out.old (HA.out.trans ((Agr.refl (Off w.heap.size (w.heap.size + 2)) w2).set (g := w.heap.size) (not_off (by omega)) 8 (.slice A1 sl.length c1))) (Nat.le_refl _))
  have HQ := Lib.hid (Nat.le_trans HZ.out ((Agr.refl (Off w.heap.size (w.heap.size + 2)) w2).set (g := w.heap.size) (not_off (by omega)) 8 (.slice A1 sl.length c1)).size)
  go_wp2_with fail
  refine (cloneI HX.out).mono ?_
  rintro e w3 ⟨v, rfl, ho, -, hb⟩
  obtain ⟨A2, c2, rfl, -, -, -⟩ := ho.shape
  have HS2 := Lib.hid ((IntsS.own ho HX.out.len).low HQ.out)
  have HT := Lib.hid (((Agr.refl (Off w.heap.size (w.heap.size + 2)) w2).set (g := w.heap.size) (not_off (by omega)) 8 (.slice A1 sl.length c1)).below hb)
  have HA := Lib.hid (HA.out.trans HT.out)
  have HS1 := Lib.hid (HS1.out.step HT.out (Nat.le_refl _))
  have HBb := Lib.hid (show w3.heap[w.heap.size]? = some (.cells #[.int .i64 y0, .int .i64 y1, .int .i64 y2, .int .i64 y3, .int .i64 l0, .string l1, .int .i64 l2, .int .i64 l3, .slice A1 sl.length c1, v2, v3] 45 (0, 0)) from box_below (box_set HBb.out 8 (.slice A1 sl.length c1)) hb)
  have HBr := Lib.hid (show w3.heap[w.heap.size + 1]? = some (.cells #[.int .i64 0, .int .i64 0, .int .i64 0, .int .i64 0, .int .i64 0, .string ⟨#[]⟩, .int .i64 0, .int .i64 0, .slice none 0 0, .slice none 0 0, .slice none 0 0] 45 (0, 0)) from box_below (box_other (p := w.heap.size) (j := 8) (v := .slice A1 sl.length c1) HBr.out (by omega)) hb)
  have HZ := Lib.hid (Nat.le_trans HZ.out HT.out.size)
  clear hb ho HX HQ HT
  clear kb0 kb1 kb2 kb3 kb4 kb5 kb6 kb7 kb8 kb9 kb10 fb0 fb1 fb2 fb3 fb4 fb5 fb6 fb7 fb8 fb9 fb10
  obtain ⟨⟨kb0, kb1, kb2, kb3, kb4, kb5, kb6, kb7, kb8, kb9, kb10⟩, fb0, fb1, fb2, fb3, fb4, fb5, fb6, fb7, fb8, fb9, fb10⟩ := cells11 HBb.out
  have HX := Lib.hid (H3.out.old (HA.out.trans ((Agr.refl (Off w.heap.size (w.heap.size + 2)) w3).set (g := w.heap.size) (not_off (by omega)) 9 (.slice A2 ss.length c2))) (Nat.le_refl _))
  have HQ := Lib.hid (Nat.le_trans HZ.out ((Agr.refl (Off w.heap.size (w.heap.size + 2)) w3).set (g := w.heap.size) (not_off (by omega)) 9 (.slice A2 ss.length c2)).size)
  go_wp2_with fail
  refine (cloneI HX.out).mono ?_
  rintro e w4 ⟨v, rfl, ho, -, hb⟩
  obtain ⟨A3, c3, rfl, -, -, -⟩ := ho.shape
  have HS3 := Lib.hid ((IntsS.own ho HX.out.len).low HQ.out)
  have HT := Lib.hid (((Agr.refl (Off w.heap.size (w.heap.size + 2)) w3).set (g := w.heap.size) (not_off (by omega)) 9 (.slice A2 ss.length c2)).below hb)
  have HA := Lib.hid (HA.out.trans HT.out)
  have HS1 := Lib.hid (HS1.out.step HT.out (Nat.le_refl _))
  have HS2 := Lib.hid (HS2.out.step HT.out (Nat.le_refl _))
  have HBb := Lib.hid (show w4.heap[w.heap.size]? = some (.cells #[.int .i64 y0, .int .i64 y1, .int .i64 y2, .int .i64 y3, .int .i64 l0, .string l1, .int .i64 l2, .int .i64 l3, .slice A1 sl.length c1, .slice A2 ss.length c2, v3] 45 (0, 0)) from box_below (box_set HBb.out 9 (.slice A2 ss.length c2)) hb)
  have HBr := Lib.hid (show w4.heap[w.heap.size + 1]? = some (.cells #[.int .i64 0, .int .i64 0, .int .i64 0, .int .i64 0, .int .i64 0, .string ⟨#[]⟩, .int .i64 0, .int .i64 0, .slice none 0 0, .slice none 0 0, .slice none 0 0] 45 (0, 0)) from box_below (box_other (p := w.heap.size) (j := 9) (v := .slice A2 ss.length c2) HBr.out (by omega)) hb)
  have HZ := Lib.hid (Nat.le_trans HZ.out HT.out.size)
  clear hb ho HX HQ HT
  clear kb0 kb1 kb2 kb3 kb4 kb5 kb6 kb7 kb8 kb9 kb10 fb0 fb1 fb2 fb3 fb4 fb5 fb6 fb7 fb8 fb9 fb10
  obtain ⟨⟨kb0, kb1, kb2, kb3, kb4, kb5, kb6, kb7, kb8, kb9, kb10⟩, fb0, fb1, fb2, fb3, fb4, fb5, fb6, fb7, fb8, fb9, fb10⟩ := cells11 HBb.out
  obtain ⟨⟨kr0, kr1, kr2, kr3, kr4, kr5, kr6, kr7, kr8, kr9, kr10⟩, fr0, fr1, fr2, fr3, fr4, fr5, fr6, fr7, fr8, fr9, fr10⟩ := cells11 HBr.out
  go_wp2
  have hA : Agr (Off w.heap.size (w.heap.size + 2)) w4 _ := (agr_p11_0 (g := w.heap.size + 1) ((Agr.refl (Off w.heap.size (w.heap.size + 2)) w4).set (g := w.heap.size) (not_off (by omega)) 10 (.slice A3 sf.length c3)) (not_off (by omega)) (.int .i64 y0) (.int .i64 y1) (.int .i64 y2) (.int .i64 y3) (.int .i64 l0) (.string l1) (.int .i64 l2) (.int .i64 l3) (.slice A1 sl.length c1) (.slice A2 ss.length c2) (.slice A3 sf.length c3))
  refine ret1 (k := 2) (g := w.heap.size + 1) (T := 45) (cs := #[.int .i64 y0, .int .i64 y1, .int .i64 y2, .int .i64 y3, .int .i64 l0, .string l1, .int .i64 l2, .int .i64 l3, .slice A1 sl.length c1, .slice A2 ss.length c2, .slice A3 sf.length c3]) Tryd.results28 ?_ ?_ Tryd.underlying45 (by kernel_rfl) ?_ ?_
  · rfl
  · exact (box_p11_0_11 (box_other (p := w.heap.size) (j := 10) (v := .slice A3 sf.length c3) HBr.out (by omega)) (.int .i64 y0) (.int .i64 y1) (.int .i64 y2) (.int .i64 y3) (.int .i64 l0) (.string l1) (.int .i64 l2) (.int .i64 l3) (.slice A1 sl.length c1) (.slice A2 ss.length c2) (.slice A3 sf.length c3))
  · rfl
  · exact ⟨_, _, _, rfl, (HS1.out.step hA (Nat.le_refl _)).low (by omega), (HS2.out.step hA (Nat.le_refl _)).low (by omega), (HS3.out.step hA (Nat.le_refl _)).low (by omega), (HA.out.trans hA).toB (Nat.le_refl _)⟩

end Go.Proofs.YtecmpkcjeaiknaaDoor
