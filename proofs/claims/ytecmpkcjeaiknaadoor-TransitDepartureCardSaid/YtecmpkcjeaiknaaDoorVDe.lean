/- The walk of TransitDeparture, raw = true. -/
import Derived.Test.YtecmpkcjeaiknaaDoorDd
namespace Go.Proofs.YtecmpkcjeaiknaaDoor
open Go.RowKit
set_option linter.unusedVariables false

set_option maxRecDepth 100000 in
set_option maxHeartbeats 40000000 in
theorem walkDep_true (x : Dep) (v : Value) (a b c : Int) (granted : Bool) (w : World) (h : IntsAt w v x.seals) (ht : Cal.MTab w) :
    Calls Tryd.prog 3 #[depV x v, .int .i64 a, .int .i64 b, .int .i64 c, .bool granted, .bool true] w fun e w' => e = .returned (.bool true) ∧ Below w.heap.size w w' := by
    obtain ⟨A1, c1, rfl⟩ := h.shape
    have H := Lib.hid h
    have HMT := Lib.hid ht
    clear h ht
    obtain ⟨δ1, hδ1⟩ : ∃ z, z = adjF (x) b := ⟨_, rfl⟩
    have Eδ1 := Lib.hid hδ1
    clear hδ1
    obtain ⟨β1, hβ1⟩ : ∃ z, z = adjB (x) b := ⟨_, rfl⟩
    have Eβ1 := Lib.hid hβ1
    clear hβ1
    obtain ⟨δ2, hδ2⟩ : ∃ z, z = resultF (x) a := ⟨_, rfl⟩
    have Eδ2 := Lib.hid hδ2
    clear hδ2
    obtain ⟨β2, hβ2⟩ : ∃ z, z = und (x) := ⟨_, rfl⟩
    have Eβ2 := Lib.hid hβ2
    clear hβ2
    obtain ⟨δ3, hδ3⟩ : ∃ z, z = missF (x) := ⟨_, rfl⟩
    have Eδ3 := Lib.hid hδ3
    clear hδ3
    obtain ⟨δ4, hδ4⟩ : ∃ z, z = decideF (x) a b granted := ⟨_, rfl⟩
    have Eδ4 := Lib.hid hδ4
    clear hδ4
    obtain ⟨ov, hov⟩ : ∃ z, z = odF [3, 10] (x) c := ⟨_, rfl⟩
    have Eov := Lib.hid hov
    clear hov
    obtain ⟨σ, hσ⟩ : ∃ z, z = startF a b c x.day x.ver x.ask x.seals := ⟨_, rfl⟩
    have Eσ := Lib.hid hσ
    clear hσ
    have HA := Lib.hid ((Agr.refl (Off w.heap.size (w.heap.size + 1)) w).alloc (.cells #[.int .i64 x.lot, .int .i64 x.trip, .int .i64 x.off, .int .i64 x.guar, .int .i64 x.day, .int .i64 x.st, .int .i64 x.ver, .int .i64 x.ask, .int .i64 x.held, .int .i64 x.ctl, .slice A1 x.seals.length c1] 24))
    have HB6 := Lib.hid (new_at (w := w) (o := (.cells #[.int .i64 x.lot, .int .i64 x.trip, .int .i64 x.off, .int .i64 x.guar, .int .i64 x.day, .int .i64 x.st, .int .i64 x.ver, .int .i64 x.ask, .int .i64 x.held, .int .i64 x.ctl, .slice A1 x.seals.length c1] 24)) (g := w.heap.size) (by simp))
    have HZ := Lib.hid (show w.heap.size + 1 ≤ (w.alloc (.cells #[.int .i64 x.lot, .int .i64 x.trip, .int .i64 x.off, .int .i64 x.guar, .int .i64 x.day, .int .i64 x.st, .int .i64 x.ver, .int .i64 x.ask, .int .i64 x.held, .int .i64 x.ctl, .slice A1 x.seals.length c1] 24)).heap.size by simp)
    have G1 : True := trivial
    have G2 : True := trivial
    have G3 : True := trivial
    have G4 : True := trivial
    have G5 : True := trivial
    unfold depV
    go_enter Tryd.func3, Tryd.ntmps3
    go_wp2_with (first
      | (refine at_load 24 (.tmp 6) rfl ?_; refine wpList_load_box rfl 24 (.tmp 6) rfl (w.heap.size) 0 rfl [.int .i64 x.lot, .int .i64 x.trip, .int .i64 x.off, .int .i64 x.guar, .int .i64 x.day, .int .i64 x.st, .int .i64 x.ver, .int .i64 x.ask, .int .i64 x.held, .int .i64 x.ctl, .slice A1 x.seals.length c1] [.int .i64 x.lot, .int .i64 x.trip, .int .i64 x.off, .int .i64 x.guar, .int .i64 x.day, .int .i64 x.st, .int .i64 x.ver, .int .i64 x.ask, .int .i64 x.held, .int .i64 x.ctl, .slice A1 x.seals.length c1] _ HB6.out _ Tryd.underlying24 rfl 11 rfl rfl (by kernel_rfl) ?_)
      | (go_at_call 5; have HQ := HZ.out; refine (adjust_any x (.slice A1 x.seals.length c1) b _ (H.out.old HA.out (Nat.le_refl _))).mono ?_; rintro e W1 ⟨u1, rfl, h1, hb⟩; rw [← Eδ1.out, ← Eβ1.out]; rw [← Eδ1.out] at h1; replace h1 := h1.at_; obtain ⟨X1, x1_, rfl⟩ := h1.shape; have HX1 := Lib.hid (IntsS.of (S := fun _ => True) h1 (fun _ _ => trivial)); clear h1; unfold depV; have HT := Lib.hid ((Agr.refl (fun _ => True) (w.alloc (.cells #[.int .i64 x.lot, .int .i64 x.trip, .int .i64 x.off, .int .i64 x.guar, .int .i64 x.day, .int .i64 x.st, .int .i64 x.ver, .int .i64 x.ask, .int .i64 x.held, .int .i64 x.ctl, .slice A1 x.seals.length c1] 24))).below hb); have HA := Lib.hid (HA.out.trans (HT.out.mono (fun i h => trivial))); have HB6 := Lib.hid (box_below HB6.out hb); have HZ := Lib.hid (Nat.le_trans HZ.out HT.out.size); clear hb HT HQ)
      | (refine at_store 24 (.tmp 13) (.tmp 60) rfl ?_; refine wpList_store_box rfl 24 (.tmp 13) (.tmp 60) rfl (W1.heap.size) 0 (.agg #[.int .i64 δ1.lot, .int .i64 δ1.trip, .int .i64 δ1.off, .int .i64 δ1.guar, .int .i64 δ1.day, .int .i64 δ1.st, .int .i64 δ1.ver, .int .i64 δ1.ask, .int .i64 δ1.held, .int .i64 δ1.ctl, .slice X1 δ1.seals.length x1_]) #[.int .i64 δ1.lot, .int .i64 δ1.trip, .int .i64 δ1.off, .int .i64 δ1.guar, .int .i64 δ1.day, .int .i64 δ1.st, .int .i64 δ1.ver, .int .i64 δ1.ask, .int .i64 δ1.held, .int .i64 δ1.ctl, .slice X1 δ1.seals.length x1_] rfl rfl rfl [.int .i64 0, .int .i64 0, .int .i64 0, .int .i64 0, .int .i64 0, .int .i64 0, .int .i64 0, .int .i64 0, .int .i64 0, .int .i64 0, .slice none 0 0] [.int .i64 δ1.lot, .int .i64 δ1.trip, .int .i64 δ1.off, .int .i64 δ1.guar, .int .i64 δ1.day, .int .i64 δ1.st, .int .i64 δ1.ver, .int .i64 δ1.ask, .int .i64 δ1.held, .int .i64 δ1.ctl, .slice X1 δ1.seals.length x1_] _ (heap_alloc_new W1 (.cells #[.int .i64 0, .int .i64 0, .int .i64 0, .int .i64 0, .int .i64 0, .int .i64 0, .int .i64 0, .int .i64 0, .int .i64 0, .int .i64 0, .slice none 0 0] 24)) (Nat.le_of_ble_eq_true rfl) rfl (by kernel_rfl) rfl ?_; intro W2 hb hP; have hQ := hP.fresh; have hz13 := HZ.out; have HT := Lib.hid ((Agr.refl (fun _ => True) W1).below hQ); have HA := Lib.hid (HA.out.trans (HT.out.mono (fun i h => trivial))); have HX1 := Lib.hid (HX1.out.agr HT.out); have HB6 := Lib.hid (box_below HB6.out hQ); have HB13 := Lib.hid hb; have HZ := Lib.hid (Nat.le_trans HZ.out HT.out.size); clear hb hP hQ HT)
      | (refine at_load 24 (.tmp 6) rfl ?_; refine wpList_load_box rfl 24 (.tmp 6) rfl (w.heap.size) 0 rfl [.int .i64 x.lot, .int .i64 x.trip, .int .i64 x.off, .int .i64 x.guar, .int .i64 x.day, .int .i64 x.st, .int .i64 x.ver, .int .i64 x.ask, .int .i64 x.held, .int .i64 x.ctl, .slice A1 x.seals.length c1] [.int .i64 x.lot, .int .i64 x.trip, .int .i64 x.off, .int .i64 x.guar, .int .i64 x.day, .int .i64 x.st, .int .i64 x.ver, .int .i64 x.ask, .int .i64 x.held, .int .i64 x.ctl, .slice A1 x.seals.length c1] _ HB6.out _ Tryd.underlying24 rfl 11 rfl rfl (by kernel_rfl) ?_)
      | (go_at_call 6; have HQ := HZ.out; refine (refadjust_any x (.slice A1 x.seals.length c1) b _ (H.out.old HA.out (Nat.le_refl _))).mono ?_; rintro e W3 ⟨u1, rfl, h1, hb⟩; rw [← Eδ1.out, ← Eβ1.out]; rw [← Eδ1.out] at h1; obtain ⟨X2, x2_, rfl⟩ := h1.shape; have HX2 := Lib.hid (IntsS.of (S := fun _ => True) h1 (fun _ _ => trivial)); clear h1; unfold depV; have HT := Lib.hid ((Agr.refl (fun _ => True) W2).below hb); have HA := Lib.hid (HA.out.trans (HT.out.mono (fun i h => trivial))); have HX1 := Lib.hid (HX1.out.agr HT.out); have HB6 := Lib.hid (box_below HB6.out hb); have HB13 := Lib.hid (box_below HB13.out hb); have HZ := Lib.hid (Nat.le_trans HZ.out HT.out.size); clear hb HT HQ)
      | (refine at_store 24 (.tmp 15) (.tmp 66) rfl ?_; refine wpList_store_box rfl 24 (.tmp 15) (.tmp 66) rfl (W3.heap.size) 0 (.agg #[.int .i64 δ1.lot, .int .i64 δ1.trip, .int .i64 δ1.off, .int .i64 δ1.guar, .int .i64 δ1.day, .int .i64 δ1.st, .int .i64 δ1.ver, .int .i64 δ1.ask, .int .i64 δ1.held, .int .i64 δ1.ctl, .slice X2 δ1.seals.length x2_]) #[.int .i64 δ1.lot, .int .i64 δ1.trip, .int .i64 δ1.off, .int .i64 δ1.guar, .int .i64 δ1.day, .int .i64 δ1.st, .int .i64 δ1.ver, .int .i64 δ1.ask, .int .i64 δ1.held, .int .i64 δ1.ctl, .slice X2 δ1.seals.length x2_] rfl rfl rfl [.int .i64 0, .int .i64 0, .int .i64 0, .int .i64 0, .int .i64 0, .int .i64 0, .int .i64 0, .int .i64 0, .int .i64 0, .int .i64 0, .slice none 0 0] [.int .i64 δ1.lot, .int .i64 δ1.trip, .int .i64 δ1.off, .int .i64 δ1.guar, .int .i64 δ1.day, .int .i64 δ1.st, .int .i64 δ1.ver, .int .i64 δ1.ask, .int .i64 δ1.held, .int .i64 δ1.ctl, .slice X2 δ1.seals.length x2_] _ (heap_alloc_new W3 (.cells #[.int .i64 0, .int .i64 0, .int .i64 0, .int .i64 0, .int .i64 0, .int .i64 0, .int .i64 0, .int .i64 0, .int .i64 0, .int .i64 0, .slice none 0 0] 24)) (Nat.le_of_ble_eq_true rfl) rfl (by kernel_rfl) rfl ?_; intro W4 hb hP; have hQ := hP.fresh; have hz15 := HZ.out; have HT := Lib.hid ((Agr.refl (fun _ => True) W3).below hQ); have HA := Lib.hid (HA.out.trans (HT.out.mono (fun i h => trivial))); have HX1 := Lib.hid (HX1.out.agr HT.out); have HX2 := Lib.hid (HX2.out.agr HT.out); have HB6 := Lib.hid (box_below HB6.out hQ); have HB13 := Lib.hid (box_below HB13.out hQ); have HB15 := Lib.hid hb; have HZ := Lib.hid (Nat.le_trans HZ.out HT.out.size); clear hb hP hQ HT)
      | (refine at_load 24 (.tmp 6) rfl ?_; refine wpList_load_box rfl 24 (.tmp 6) rfl (w.heap.size) 0 rfl [.int .i64 x.lot, .int .i64 x.trip, .int .i64 x.off, .int .i64 x.guar, .int .i64 x.day, .int .i64 x.st, .int .i64 x.ver, .int .i64 x.ask, .int .i64 x.held, .int .i64 x.ctl, .slice A1 x.seals.length c1] [.int .i64 x.lot, .int .i64 x.trip, .int .i64 x.off, .int .i64 x.guar, .int .i64 x.day, .int .i64 x.st, .int .i64 x.ver, .int .i64 x.ask, .int .i64 x.held, .int .i64 x.ctl, .slice A1 x.seals.length c1] _ HB6.out _ Tryd.underlying24 rfl 11 rfl rfl (by kernel_rfl) ?_)
      | (go_at_call 7; have HQ := HZ.out; refine (result2_any x (.slice A1 x.seals.length c1) a _ (H.out.old HA.out (Nat.le_refl _))).mono ?_; rintro e W5 ⟨u1, rfl, h1, hb⟩; rw [← Eδ2.out, ← Eβ2.out]; rw [← Eδ2.out] at h1; replace h1 := h1.at_; obtain ⟨X3, x3_, rfl⟩ := h1.shape; have HX3 := Lib.hid (IntsS.of (S := fun _ => True) h1 (fun _ _ => trivial)); clear h1; unfold depV; have HT := Lib.hid ((Agr.refl (fun _ => True) W4).below hb); have HA := Lib.hid (HA.out.trans (HT.out.mono (fun i h => trivial))); have HX1 := Lib.hid (HX1.out.agr HT.out); have HX2 := Lib.hid (HX2.out.agr HT.out); have HB6 := Lib.hid (box_below HB6.out hb); have HB13 := Lib.hid (box_below HB13.out hb); have HB15 := Lib.hid (box_below HB15.out hb); have HZ := Lib.hid (Nat.le_trans HZ.out HT.out.size); clear hb HT HQ)
      | (refine at_store 24 (.tmp 17) (.tmp 72) rfl ?_; refine wpList_store_box rfl 24 (.tmp 17) (.tmp 72) rfl (W5.heap.size) 0 (.agg #[.int .i64 δ2.lot, .int .i64 δ2.trip, .int .i64 δ2.off, .int .i64 δ2.guar, .int .i64 δ2.day, .int .i64 δ2.st, .int .i64 δ2.ver, .int .i64 δ2.ask, .int .i64 δ2.held, .int .i64 δ2.ctl, .slice X3 δ2.seals.length x3_]) #[.int .i64 δ2.lot, .int .i64 δ2.trip, .int .i64 δ2.off, .int .i64 δ2.guar, .int .i64 δ2.day, .int .i64 δ2.st, .int .i64 δ2.ver, .int .i64 δ2.ask, .int .i64 δ2.held, .int .i64 δ2.ctl, .slice X3 δ2.seals.length x3_] rfl rfl rfl [.int .i64 0, .int .i64 0, .int .i64 0, .int .i64 0, .int .i64 0, .int .i64 0, .int .i64 0, .int .i64 0, .int .i64 0, .int .i64 0, .slice none 0 0] [.int .i64 δ2.lot, .int .i64 δ2.trip, .int .i64 δ2.off, .int .i64 δ2.guar, .int .i64 δ2.day, .int .i64 δ2.st, .int .i64 δ2.ver, .int .i64 δ2.ask, .int .i64 δ2.held, .int .i64 δ2.ctl, .slice X3 δ2.seals.length x3_] _ (heap_alloc_new W5 (.cells #[.int .i64 0, .int .i64 0, .int .i64 0, .int .i64 0, .int .i64 0, .int .i64 0, .int .i64 0, .int .i64 0, .int .i64 0, .int .i64 0, .slice none 0 0] 24)) (Nat.le_of_ble_eq_true rfl) rfl (by kernel_rfl) rfl ?_; intro W6 hb hP; have hQ := hP.fresh; have hz17 := HZ.out; have HT := Lib.hid ((Agr.refl (fun _ => True) W5).below hQ); have HA := Lib.hid (HA.out.trans (HT.out.mono (fun i h => trivial))); have HX1 := Lib.hid (HX1.out.agr HT.out); have HX2 := Lib.hid (HX2.out.agr HT.out); have HX3 := Lib.hid (HX3.out.agr HT.out); have HB6 := Lib.hid (box_below HB6.out hQ); have HB13 := Lib.hid (box_below HB13.out hQ); have HB15 := Lib.hid (box_below HB15.out hQ); have HB17 := Lib.hid hb; have HZ := Lib.hid (Nat.le_trans HZ.out HT.out.size); clear hb hP hQ HT)
      | (refine at_load 24 (.tmp 6) rfl ?_; refine wpList_load_box rfl 24 (.tmp 6) rfl (w.heap.size) 0 rfl [.int .i64 x.lot, .int .i64 x.trip, .int .i64 x.off, .int .i64 x.guar, .int .i64 x.day, .int .i64 x.st, .int .i64 x.ver, .int .i64 x.ask, .int .i64 x.held, .int .i64 x.ctl, .slice A1 x.seals.length c1] [.int .i64 x.lot, .int .i64 x.trip, .int .i64 x.off, .int .i64 x.guar, .int .i64 x.day, .int .i64 x.st, .int .i64 x.ver, .int .i64 x.ask, .int .i64 x.held, .int .i64 x.ctl, .slice A1 x.seals.length c1] _ HB6.out _ Tryd.underlying24 rfl 11 rfl rfl (by kernel_rfl) ?_)
      | (go_at_call 8; have HQ := HZ.out; refine (refresult2_any x (.slice A1 x.seals.length c1) a _ (H.out.old HA.out (Nat.le_refl _))).mono ?_; rintro e W7 ⟨u1, rfl, h1, hb⟩; rw [← Eδ2.out, ← Eβ2.out]; rw [← Eδ2.out] at h1; obtain ⟨X4, x4_, rfl⟩ := h1.shape; have HX4 := Lib.hid (IntsS.of (S := fun _ => True) h1 (fun _ _ => trivial)); clear h1; unfold depV; have HT := Lib.hid ((Agr.refl (fun _ => True) W6).below hb); have HA := Lib.hid (HA.out.trans (HT.out.mono (fun i h => trivial))); have HX1 := Lib.hid (HX1.out.agr HT.out); have HX2 := Lib.hid (HX2.out.agr HT.out); have HX3 := Lib.hid (HX3.out.agr HT.out); have HB6 := Lib.hid (box_below HB6.out hb); have HB13 := Lib.hid (box_below HB13.out hb); have HB15 := Lib.hid (box_below HB15.out hb); have HB17 := Lib.hid (box_below HB17.out hb); have HZ := Lib.hid (Nat.le_trans HZ.out HT.out.size); clear hb HT HQ)
      | (refine at_store 24 (.tmp 19) (.tmp 78) rfl ?_; refine wpList_store_box rfl 24 (.tmp 19) (.tmp 78) rfl (W7.heap.size) 0 (.agg #[.int .i64 δ2.lot, .int .i64 δ2.trip, .int .i64 δ2.off, .int .i64 δ2.guar, .int .i64 δ2.day, .int .i64 δ2.st, .int .i64 δ2.ver, .int .i64 δ2.ask, .int .i64 δ2.held, .int .i64 δ2.ctl, .slice X4 δ2.seals.length x4_]) #[.int .i64 δ2.lot, .int .i64 δ2.trip, .int .i64 δ2.off, .int .i64 δ2.guar, .int .i64 δ2.day, .int .i64 δ2.st, .int .i64 δ2.ver, .int .i64 δ2.ask, .int .i64 δ2.held, .int .i64 δ2.ctl, .slice X4 δ2.seals.length x4_] rfl rfl rfl [.int .i64 0, .int .i64 0, .int .i64 0, .int .i64 0, .int .i64 0, .int .i64 0, .int .i64 0, .int .i64 0, .int .i64 0, .int .i64 0, .slice none 0 0] [.int .i64 δ2.lot, .int .i64 δ2.trip, .int .i64 δ2.off, .int .i64 δ2.guar, .int .i64 δ2.day, .int .i64 δ2.st, .int .i64 δ2.ver, .int .i64 δ2.ask, .int .i64 δ2.held, .int .i64 δ2.ctl, .slice X4 δ2.seals.length x4_] _ (heap_alloc_new W7 (.cells #[.int .i64 0, .int .i64 0, .int .i64 0, .int .i64 0, .int .i64 0, .int .i64 0, .int .i64 0, .int .i64 0, .int .i64 0, .int .i64 0, .slice none 0 0] 24)) (Nat.le_of_ble_eq_true rfl) rfl (by kernel_rfl) rfl ?_; intro W8 hb hP; have hQ := hP.fresh; have hz19 := HZ.out; have HT := Lib.hid ((Agr.refl (fun _ => True) W7).below hQ); have HA := Lib.hid (HA.out.trans (HT.out.mono (fun i h => trivial))); have HX1 := Lib.hid (HX1.out.agr HT.out); have HX2 := Lib.hid (HX2.out.agr HT.out); have HX3 := Lib.hid (HX3.out.agr HT.out); have HX4 := Lib.hid (HX4.out.agr HT.out); have HB6 := Lib.hid (box_below HB6.out hQ); have HB13 := Lib.hid (box_below HB13.out hQ); have HB15 := Lib.hid (box_below HB15.out hQ); have HB17 := Lib.hid (box_below HB17.out hQ); have HB19 := Lib.hid hb; have HZ := Lib.hid (Nat.le_trans HZ.out HT.out.size); clear hb hP hQ HT)
      | (refine at_load 24 (.tmp 6) rfl ?_; refine wpList_load_box rfl 24 (.tmp 6) rfl (w.heap.size) 0 rfl [.int .i64 x.lot, .int .i64 x.trip, .int .i64 x.off, .int .i64 x.guar, .int .i64 x.day, .int .i64 x.st, .int .i64 x.ver, .int .i64 x.ask, .int .i64 x.held, .int .i64 x.ctl, .slice A1 x.seals.length c1] [.int .i64 x.lot, .int .i64 x.trip, .int .i64 x.off, .int .i64 x.guar, .int .i64 x.day, .int .i64 x.st, .int .i64 x.ver, .int .i64 x.ask, .int .i64 x.held, .int .i64 x.ctl, .slice A1 x.seals.length c1] _ HB6.out _ Tryd.underlying24 rfl 11 rfl rfl (by kernel_rfl) ?_)
      | (go_at_call 9; have HQ := HZ.out; refine (missing2_any x (.slice A1 x.seals.length c1) _ (H.out.old HA.out (Nat.le_refl _))).mono ?_; rintro e W9 ⟨u1, rfl, h1, hb⟩; rw [← Eδ3.out, ← Eβ2.out]; rw [← Eδ3.out] at h1; replace h1 := h1.at_; obtain ⟨X5, x5_, rfl⟩ := h1.shape; have HX5 := Lib.hid (IntsS.of (S := fun _ => True) h1 (fun _ _ => trivial)); clear h1; unfold depV; have HT := Lib.hid ((Agr.refl (fun _ => True) W8).below hb); have HA := Lib.hid (HA.out.trans (HT.out.mono (fun i h => trivial))); have HX1 := Lib.hid (HX1.out.agr HT.out); have HX2 := Lib.hid (HX2.out.agr HT.out); have HX3 := Lib.hid (HX3.out.agr HT.out); have HX4 := Lib.hid (HX4.out.agr HT.out); have HB6 := Lib.hid (box_below HB6.out hb); have HB13 := Lib.hid (box_below HB13.out hb); have HB15 := Lib.hid (box_below HB15.out hb); have HB17 := Lib.hid (box_below HB17.out hb); have HB19 := Lib.hid (box_below HB19.out hb); have HZ := Lib.hid (Nat.le_trans HZ.out HT.out.size); clear hb HT HQ)
      | (refine at_store 24 (.tmp 21) (.tmp 83) rfl ?_; refine wpList_store_box rfl 24 (.tmp 21) (.tmp 83) rfl (W9.heap.size) 0 (.agg #[.int .i64 δ3.lot, .int .i64 δ3.trip, .int .i64 δ3.off, .int .i64 δ3.guar, .int .i64 δ3.day, .int .i64 δ3.st, .int .i64 δ3.ver, .int .i64 δ3.ask, .int .i64 δ3.held, .int .i64 δ3.ctl, .slice X5 δ3.seals.length x5_]) #[.int .i64 δ3.lot, .int .i64 δ3.trip, .int .i64 δ3.off, .int .i64 δ3.guar, .int .i64 δ3.day, .int .i64 δ3.st, .int .i64 δ3.ver, .int .i64 δ3.ask, .int .i64 δ3.held, .int .i64 δ3.ctl, .slice X5 δ3.seals.length x5_] rfl rfl rfl [.int .i64 0, .int .i64 0, .int .i64 0, .int .i64 0, .int .i64 0, .int .i64 0, .int .i64 0, .int .i64 0, .int .i64 0, .int .i64 0, .slice none 0 0] [.int .i64 δ3.lot, .int .i64 δ3.trip, .int .i64 δ3.off, .int .i64 δ3.guar, .int .i64 δ3.day, .int .i64 δ3.st, .int .i64 δ3.ver, .int .i64 δ3.ask, .int .i64 δ3.held, .int .i64 δ3.ctl, .slice X5 δ3.seals.length x5_] _ (heap_alloc_new W9 (.cells #[.int .i64 0, .int .i64 0, .int .i64 0, .int .i64 0, .int .i64 0, .int .i64 0, .int .i64 0, .int .i64 0, .int .i64 0, .int .i64 0, .slice none 0 0] 24)) (Nat.le_of_ble_eq_true rfl) rfl (by kernel_rfl) rfl ?_; intro W10 hb hP; have hQ := hP.fresh; have hz21 := HZ.out; have HT := Lib.hid ((Agr.refl (fun _ => True) W9).below hQ); have HA := Lib.hid (HA.out.trans (HT.out.mono (fun i h => trivial))); have HX1 := Lib.hid (HX1.out.agr HT.out); have HX2 := Lib.hid (HX2.out.agr HT.out); have HX3 := Lib.hid (HX3.out.agr HT.out); have HX4 := Lib.hid (HX4.out.agr HT.out); have HX5 := Lib.hid (HX5.out.agr HT.out); have HB6 := Lib.hid (box_below HB6.out hQ); have HB13 := Lib.hid (box_below HB13.out hQ); have HB15 := Lib.hid (box_below HB15.out hQ); have HB17 := Lib.hid (box_below HB17.out hQ); have HB19 := Lib.hid (box_below HB19.out hQ); have HB21 := Lib.hid hb; have HZ := Lib.hid (Nat.le_trans HZ.out HT.out.size); clear hb hP hQ HT)
      | (refine at_load 24 (.tmp 6) rfl ?_; refine wpList_load_box rfl 24 (.tmp 6) rfl (w.heap.size) 0 rfl [.int .i64 x.lot, .int .i64 x.trip, .int .i64 x.off, .int .i64 x.guar, .int .i64 x.day, .int .i64 x.st, .int .i64 x.ver, .int .i64 x.ask, .int .i64 x.held, .int .i64 x.ctl, .slice A1 x.seals.length c1] [.int .i64 x.lot, .int .i64 x.trip, .int .i64 x.off, .int .i64 x.guar, .int .i64 x.day, .int .i64 x.st, .int .i64 x.ver, .int .i64 x.ask, .int .i64 x.held, .int .i64 x.ctl, .slice A1 x.seals.length c1] _ HB6.out _ Tryd.underlying24 rfl 11 rfl rfl (by kernel_rfl) ?_)
      | (go_at_call 10; have HQ := HZ.out; refine (refmissing2_any x (.slice A1 x.seals.length c1) _ (H.out.old HA.out (Nat.le_refl _))).mono ?_; rintro e W11 ⟨u1, rfl, h1, hb⟩; rw [← Eδ3.out, ← Eβ2.out]; rw [← Eδ3.out] at h1; obtain ⟨X6, x6_, rfl⟩ := h1.shape; have HX6 := Lib.hid (IntsS.of (S := fun _ => True) h1 (fun _ _ => trivial)); clear h1; unfold depV; have HT := Lib.hid ((Agr.refl (fun _ => True) W10).below hb); have HA := Lib.hid (HA.out.trans (HT.out.mono (fun i h => trivial))); have HX1 := Lib.hid (HX1.out.agr HT.out); have HX2 := Lib.hid (HX2.out.agr HT.out); have HX3 := Lib.hid (HX3.out.agr HT.out); have HX4 := Lib.hid (HX4.out.agr HT.out); have HX5 := Lib.hid (HX5.out.agr HT.out); have HB6 := Lib.hid (box_below HB6.out hb); have HB13 := Lib.hid (box_below HB13.out hb); have HB15 := Lib.hid (box_below HB15.out hb); have HB17 := Lib.hid (box_below HB17.out hb); have HB19 := Lib.hid (box_below HB19.out hb); have HB21 := Lib.hid (box_below HB21.out hb); have HZ := Lib.hid (Nat.le_trans HZ.out HT.out.size); clear hb HT HQ)
      | (refine at_store 24 (.tmp 23) (.tmp 88) rfl ?_; refine wpList_store_box rfl 24 (.tmp 23) (.tmp 88) rfl (W11.heap.size) 0 (.agg #[.int .i64 δ3.lot, .int .i64 δ3.trip, .int .i64 δ3.off, .int .i64 δ3.guar, .int .i64 δ3.day, .int .i64 δ3.st, .int .i64 δ3.ver, .int .i64 δ3.ask, .int .i64 δ3.held, .int .i64 δ3.ctl, .slice X6 δ3.seals.length x6_]) #[.int .i64 δ3.lot, .int .i64 δ3.trip, .int .i64 δ3.off, .int .i64 δ3.guar, .int .i64 δ3.day, .int .i64 δ3.st, .int .i64 δ3.ver, .int .i64 δ3.ask, .int .i64 δ3.held, .int .i64 δ3.ctl, .slice X6 δ3.seals.length x6_] rfl rfl rfl [.int .i64 0, .int .i64 0, .int .i64 0, .int .i64 0, .int .i64 0, .int .i64 0, .int .i64 0, .int .i64 0, .int .i64 0, .int .i64 0, .slice none 0 0] [.int .i64 δ3.lot, .int .i64 δ3.trip, .int .i64 δ3.off, .int .i64 δ3.guar, .int .i64 δ3.day, .int .i64 δ3.st, .int .i64 δ3.ver, .int .i64 δ3.ask, .int .i64 δ3.held, .int .i64 δ3.ctl, .slice X6 δ3.seals.length x6_] _ (heap_alloc_new W11 (.cells #[.int .i64 0, .int .i64 0, .int .i64 0, .int .i64 0, .int .i64 0, .int .i64 0, .int .i64 0, .int .i64 0, .int .i64 0, .int .i64 0, .slice none 0 0] 24)) (Nat.le_of_ble_eq_true rfl) rfl (by kernel_rfl) rfl ?_; intro W12 hb hP; have hQ := hP.fresh; have hz23 := HZ.out; have HT := Lib.hid ((Agr.refl (fun _ => True) W11).below hQ); have HA := Lib.hid (HA.out.trans (HT.out.mono (fun i h => trivial))); have HX1 := Lib.hid (HX1.out.agr HT.out); have HX2 := Lib.hid (HX2.out.agr HT.out); have HX3 := Lib.hid (HX3.out.agr HT.out); have HX4 := Lib.hid (HX4.out.agr HT.out); have HX5 := Lib.hid (HX5.out.agr HT.out); have HX6 := Lib.hid (HX6.out.agr HT.out); have HB6 := Lib.hid (box_below HB6.out hQ); have HB13 := Lib.hid (box_below HB13.out hQ); have HB15 := Lib.hid (box_below HB15.out hQ); have HB17 := Lib.hid (box_below HB17.out hQ); have HB19 := Lib.hid (box_below HB19.out hQ); have HB21 := Lib.hid (box_below HB21.out hQ); have HB23 := Lib.hid hb; have HZ := Lib.hid (Nat.le_trans HZ.out HT.out.size); clear hb hP hQ HT))
    refine wp_region_x 83 (by kernel_rfl) (fun W => Below W12.drew.heap.size W12.drew W) ?_
    have HX1 : Hid (IntsAt W12.drew (.slice X1 δ1.seals.length x1_) δ1.seals) := Lib.hid (HX1.out.at_.below (Below.refl _ _).drew)
    have HX2 : Hid (IntsAt W12.drew (.slice X2 δ1.seals.length x2_) δ1.seals) := Lib.hid (HX2.out.at_.below (Below.refl _ _).drew)
    have HX3 : Hid (IntsAt W12.drew (.slice X3 δ2.seals.length x3_) δ2.seals) := Lib.hid (HX3.out.at_.below (Below.refl _ _).drew)
    have HX4 : Hid (IntsAt W12.drew (.slice X4 δ2.seals.length x4_) δ2.seals) := Lib.hid (HX4.out.at_.below (Below.refl _ _).drew)
    have HX5 : Hid (IntsAt W12.drew (.slice X5 δ3.seals.length x5_) δ3.seals) := Lib.hid (HX5.out.at_.below (Below.refl _ _).drew)
    have HX6 : Hid (IntsAt W12.drew (.slice X6 δ3.seals.length x6_) δ3.seals) := Lib.hid (HX6.out.at_.below (Below.refl _ _).drew)
    have HA : Hid (Agr (Off w.heap.size (w.heap.size + 1)) w W12.drew) := Lib.hid (HA.out.trans ⟨rfl, rfl, rfl, Nat.le_refl _, fun _ _ _ => rfl⟩)
    have HB6 : Hid (W12.drew.heap[w.heap.size]? = some (.cells #[.int .i64 x.lot, .int .i64 x.trip, .int .i64 x.off, .int .i64 x.guar, .int .i64 x.day, .int .i64 x.st, .int .i64 x.ver, .int .i64 x.ask, .int .i64 x.held, .int .i64 x.ctl, .slice A1 x.seals.length c1] 24 (0, 0))) := Lib.hid HB6.out
    have HB13 : Hid (W12.drew.heap[W1.heap.size]? = some (.cells #[.int .i64 δ1.lot, .int .i64 δ1.trip, .int .i64 δ1.off, .int .i64 δ1.guar, .int .i64 δ1.day, .int .i64 δ1.st, .int .i64 δ1.ver, .int .i64 δ1.ask, .int .i64 δ1.held, .int .i64 δ1.ctl, .slice X1 δ1.seals.length x1_] 24 (0, 0))) := Lib.hid HB13.out
    have HB15 : Hid (W12.drew.heap[W3.heap.size]? = some (.cells #[.int .i64 δ1.lot, .int .i64 δ1.trip, .int .i64 δ1.off, .int .i64 δ1.guar, .int .i64 δ1.day, .int .i64 δ1.st, .int .i64 δ1.ver, .int .i64 δ1.ask, .int .i64 δ1.held, .int .i64 δ1.ctl, .slice X2 δ1.seals.length x2_] 24 (0, 0))) := Lib.hid HB15.out
    have HB17 : Hid (W12.drew.heap[W5.heap.size]? = some (.cells #[.int .i64 δ2.lot, .int .i64 δ2.trip, .int .i64 δ2.off, .int .i64 δ2.guar, .int .i64 δ2.day, .int .i64 δ2.st, .int .i64 δ2.ver, .int .i64 δ2.ask, .int .i64 δ2.held, .int .i64 δ2.ctl, .slice X3 δ2.seals.length x3_] 24 (0, 0))) := Lib.hid HB17.out
    have HB19 : Hid (W12.drew.heap[W7.heap.size]? = some (.cells #[.int .i64 δ2.lot, .int .i64 δ2.trip, .int .i64 δ2.off, .int .i64 δ2.guar, .int .i64 δ2.day, .int .i64 δ2.st, .int .i64 δ2.ver, .int .i64 δ2.ask, .int .i64 δ2.held, .int .i64 δ2.ctl, .slice X4 δ2.seals.length x4_] 24 (0, 0))) := Lib.hid HB19.out
    have HB21 : Hid (W12.drew.heap[W9.heap.size]? = some (.cells #[.int .i64 δ3.lot, .int .i64 δ3.trip, .int .i64 δ3.off, .int .i64 δ3.guar, .int .i64 δ3.day, .int .i64 δ3.st, .int .i64 δ3.ver, .int .i64 δ3.ask, .int .i64 δ3.held, .int .i64 δ3.ctl, .slice X5 δ3.seals.length x5_] 24 (0, 0))) := Lib.hid HB21.out
    have HB23 : Hid (W12.drew.heap[W11.heap.size]? = some (.cells #[.int .i64 δ3.lot, .int .i64 δ3.trip, .int .i64 δ3.off, .int .i64 δ3.guar, .int .i64 δ3.day, .int .i64 δ3.st, .int .i64 δ3.ver, .int .i64 δ3.ask, .int .i64 δ3.held, .int .i64 δ3.ctl, .slice X6 δ3.seals.length x6_] 24 (0, 0))) := Lib.hid HB23.out
    generalize W12.drew = Wd at HA HB6 HB13 HB15 HB17 HB19 HB21 HB23 HX1 HX2 HX3 HX4 HX5 HX6 ⊢
    have HSB := Lib.hid (Below.refl Wd.heap.size Wd)
    have HV := Lib.hid (H.out.old HA.out (Nat.le_refl _))
    have HM := Lib.hid (HMT.out.below (HA.out.toB (Nat.le_refl _)))
    refine wpAnyX_take1 (i := 0) (v := (.agg #[.int .i64 x.lot, .int .i64 x.trip, .int .i64 x.off, .int .i64 x.guar, .int .i64 x.day, .int .i64 x.st, .int .i64 x.ver, .int .i64 x.ask, .int .i64 x.held, .int .i64 x.ctl, .slice A1 x.seals.length c1])) rfl (by as_aux_lemma => kernel_rfl) (fun _ _ _ h => h) HSB.out (yieldsIf_load_mid (by rfl) 24 (.tmp 6) rfl (w.heap.size) 0 rfl [.int .i64 x.lot, .int .i64 x.trip, .int .i64 x.off, .int .i64 x.guar, .int .i64 x.day, .int .i64 x.st, .int .i64 x.ver, .int .i64 x.ask, .int .i64 x.held, .int .i64 x.ctl, .slice A1 x.seals.length c1] _ (fun w hS => range_row (box_below HB6.out hS)) Tryd.underlying24 rfl (by kernel_rfl)) ?_
    go_simp
    refine wpAnyX_take1 (i := 1) (v := (.int .i64 a)) rfl (by as_aux_lemma => kernel_rfl) (fun _ _ _ h => h) HSB.out (Or.inl ⟨by rfl, fun w hS => by go_simp⟩) ?_
    go_simp
    refine wpAnyX_take1 (i := 2) (v := (.int .i64 b)) rfl (by as_aux_lemma => kernel_rfl) (fun _ _ _ h => h) HSB.out (Or.inl ⟨by rfl, fun w hS => by go_simp⟩) ?_
    go_simp
    refine wpAnyX_take1 (i := 3) (v := (.bool granted)) rfl (by as_aux_lemma => kernel_rfl) (fun _ _ _ h => h) HSB.out (Or.inl ⟨by rfl, fun w hS => by go_simp⟩) ?_
    go_simp
    refine wpAnyX_take1 (i := 5) (v := (.agg #[.int .i64 x.lot, .int .i64 x.trip, .int .i64 x.off, .int .i64 x.guar, .int .i64 x.day, .int .i64 x.st, .int .i64 x.ver, .int .i64 x.ask, .int .i64 x.held, .int .i64 x.ctl, .slice A1 x.seals.length c1])) rfl (by as_aux_lemma => kernel_rfl) (fun _ _ _ h => h) HSB.out (yieldsIf_load_mid (by rfl) 24 (.tmp 6) rfl (w.heap.size) 0 rfl [.int .i64 x.lot, .int .i64 x.trip, .int .i64 x.off, .int .i64 x.guar, .int .i64 x.day, .int .i64 x.st, .int .i64 x.ver, .int .i64 x.ask, .int .i64 x.held, .int .i64 x.ctl, .slice A1 x.seals.length c1] _ (fun w hS => range_row (box_below HB6.out hS)) Tryd.underlying24 rfl (by kernel_rfl)) ?_
    go_simp
    refine wpAnyX_take1 (i := 6) (v := (.int .i64 a)) rfl (by as_aux_lemma => kernel_rfl) (fun _ _ _ h => h) HSB.out (Or.inl ⟨by rfl, fun w hS => by go_simp⟩) ?_
    go_simp
    refine wpAnyX_take1 (i := 7) (v := (.int .i64 b)) rfl (by as_aux_lemma => kernel_rfl) (fun _ _ _ h => h) HSB.out (Or.inl ⟨by rfl, fun w hS => by go_simp⟩) ?_
    go_simp
    refine wpAnyX_take1 (i := 8) (v := (.bool granted)) rfl (by as_aux_lemma => kernel_rfl) (fun _ _ _ h => h) HSB.out (Or.inl ⟨by rfl, fun w hS => by go_simp⟩) ?_
    go_simp
    refine wpAnyX_one (i := 4) (by as_aux_lemma => kernel_rfl) rfl (fun K hK => ?_)
    go_simp
    go_wp2_with (go_at_call 12; refine (decide_any x (.slice A1 x.seals.length c1) a b granted _ (HV.out.below HSB.out)).mono ?_; rintro e U1 ⟨u1, rfl, h1, hb⟩; rw [← Eδ4.out]; rw [← Eδ4.out] at h1; replace h1 := h1.at_; obtain ⟨X7, x7_, rfl⟩ := h1.shape; have HX7 := Lib.hid h1; clear h1; unfold depV; have HSB := Lib.hid (HSB.out.trans (hb.mono HSB.out.size)); clear hb)
    refine hK.out _ _ (fun _ => HSB.out) ?_
    clear hK K
    refine wpAnyX_one (i := 9) (by as_aux_lemma => kernel_rfl) rfl (fun K hK => ?_)
    go_simp
    go_wp2_with (go_at_call 13; refine (refDecide_any x (.slice A1 x.seals.length c1) a b granted _ (HV.out.below HSB.out)).mono ?_; rintro e U2 ⟨u1, rfl, h1, hb⟩; rw [← Eδ4.out]; rw [← Eδ4.out] at h1; obtain ⟨X8, x8_, rfl⟩ := h1.shape; have HX8 := Lib.hid h1; clear h1; unfold depV; have HX7 := Lib.hid (HX7.out.below hb); have HSB := Lib.hid (HSB.out.trans (hb.mono HSB.out.size)); clear hb)
    refine hK.out _ _ (fun _ => HSB.out) ?_
    clear hK K
    refine wpAnyX_one (i := 10) (by as_aux_lemma => kernel_rfl) rfl (fun K hK => ?_)
    go_simp
    go_wp2_with (go_at_call 11; refine (sameDep_any δ4 _ _ _ HX7.out HX8.out).mono ?_; rintro e U3 ⟨rfl, hb⟩; have HX7 := Lib.hid (HX7.out.below hb); have HX8 := Lib.hid (HX8.out.below hb); have HSB := Lib.hid (HSB.out.trans (hb.mono HSB.out.size)); clear hb)
    refine hK.out _ _ (fun _ => HSB.out) ?_
    clear hK K
    refine wpAnyX_take1 (i := 11) (v := (.bool true)) rfl (by as_aux_lemma => kernel_rfl) (fun _ _ _ h => h) HSB.out (Or.inl ⟨by rfl, fun w hS => by go_simp⟩) ?_
    go_simp
    refine wpAnyX_take1 (i := 12) (v := (.agg #[.int .i64 δ1.lot, .int .i64 δ1.trip, .int .i64 δ1.off, .int .i64 δ1.guar, .int .i64 δ1.day, .int .i64 δ1.st, .int .i64 δ1.ver, .int .i64 δ1.ask, .int .i64 δ1.held, .int .i64 δ1.ctl, .slice X1 δ1.seals.length x1_])) rfl (by as_aux_lemma => kernel_rfl) (fun _ _ _ h => h) HSB.out (yieldsIf_load_mid (by rfl) 24 (.tmp 13) rfl (W1.heap.size) 0 rfl [.int .i64 δ1.lot, .int .i64 δ1.trip, .int .i64 δ1.off, .int .i64 δ1.guar, .int .i64 δ1.day, .int .i64 δ1.st, .int .i64 δ1.ver, .int .i64 δ1.ask, .int .i64 δ1.held, .int .i64 δ1.ctl, .slice X1 δ1.seals.length x1_] _ (fun w hS => range_row (box_below HB13.out hS)) Tryd.underlying24 rfl (by kernel_rfl)) ?_
    go_simp
    refine wpAnyX_take1 (i := 13) (v := (.agg #[.int .i64 δ1.lot, .int .i64 δ1.trip, .int .i64 δ1.off, .int .i64 δ1.guar, .int .i64 δ1.day, .int .i64 δ1.st, .int .i64 δ1.ver, .int .i64 δ1.ask, .int .i64 δ1.held, .int .i64 δ1.ctl, .slice X2 δ1.seals.length x2_])) rfl (by as_aux_lemma => kernel_rfl) (fun _ _ _ h => h) HSB.out (yieldsIf_load_mid (by rfl) 24 (.tmp 15) rfl (W3.heap.size) 0 rfl [.int .i64 δ1.lot, .int .i64 δ1.trip, .int .i64 δ1.off, .int .i64 δ1.guar, .int .i64 δ1.day, .int .i64 δ1.st, .int .i64 δ1.ver, .int .i64 δ1.ask, .int .i64 δ1.held, .int .i64 δ1.ctl, .slice X2 δ1.seals.length x2_] _ (fun w hS => range_row (box_below HB15.out hS)) Tryd.underlying24 rfl (by kernel_rfl)) ?_
    go_simp
    refine wpAnyX_one (i := 14) (by as_aux_lemma => kernel_rfl) rfl (fun K hK => ?_)
    go_simp
    go_wp2_with (go_at_call 11; refine (sameDep_any δ1 _ _ _ (HX1.out.below HSB.out) (HX2.out.below HSB.out)).mono ?_; rintro e U4 ⟨rfl, hb⟩; have HSB := Lib.hid (HSB.out.trans (hb.mono HSB.out.size)); clear hb)
    refine hK.out _ _ (fun _ => HSB.out) ?_
    clear hK K
    refine wpAnyX_take1 (i := 15) (v := (.bool true)) rfl (by as_aux_lemma => kernel_rfl) (fun _ _ _ h => h) HSB.out (Or.inl ⟨by rfl, fun w hS => by go_simp⟩) ?_
    go_simp
    refine wpAnyX_take1 (i := 16) (v := (.bool true)) rfl (by as_aux_lemma => kernel_rfl) (fun _ _ _ h => h) HSB.out (Or.inl ⟨by rfl, fun w hS => by go_simp⟩) ?_
    go_simp
    refine wpAnyX_take1 (i := 17) (v := (.bool β1)) rfl (by as_aux_lemma => kernel_rfl) (fun _ _ _ h => h) HSB.out (Or.inl ⟨by rfl, fun w hS => by go_simp⟩) ?_
    go_simp
    refine wpAnyX_take1 (i := 18) (v := (.bool β1)) rfl (by as_aux_lemma => kernel_rfl) (fun _ _ _ h => h) HSB.out (Or.inl ⟨by rfl, fun w hS => by go_simp⟩) ?_
    go_simp
    refine wpAnyX_take1 (i := 19) (v := (.bool true)) rfl (by as_aux_lemma => kernel_rfl) (fun _ _ _ h => h) HSB.out (Or.inl ⟨by rfl, fun w hS => by go_simp⟩) ?_
    go_simp
    refine wpAnyX_take1 (i := 20) (v := (.bool true)) rfl (by as_aux_lemma => kernel_rfl) (fun _ _ _ h => h) HSB.out (Or.inl ⟨by rfl, fun w hS => by go_simp⟩) ?_
    go_simp
    refine wpAnyX_take1 (i := 21) (v := (.bool true)) rfl (by as_aux_lemma => kernel_rfl) (fun _ _ _ h => h) HSB.out (Or.inl ⟨by rfl, fun w hS => by go_simp⟩) ?_
    go_simp
    refine wpAnyX_take1 (i := 22) (v := (.agg #[.int .i64 δ2.lot, .int .i64 δ2.trip, .int .i64 δ2.off, .int .i64 δ2.guar, .int .i64 δ2.day, .int .i64 δ2.st, .int .i64 δ2.ver, .int .i64 δ2.ask, .int .i64 δ2.held, .int .i64 δ2.ctl, .slice X3 δ2.seals.length x3_])) rfl (by as_aux_lemma => kernel_rfl) (fun _ _ _ h => h) HSB.out (yieldsIf_load_mid (by rfl) 24 (.tmp 17) rfl (W5.heap.size) 0 rfl [.int .i64 δ2.lot, .int .i64 δ2.trip, .int .i64 δ2.off, .int .i64 δ2.guar, .int .i64 δ2.day, .int .i64 δ2.st, .int .i64 δ2.ver, .int .i64 δ2.ask, .int .i64 δ2.held, .int .i64 δ2.ctl, .slice X3 δ2.seals.length x3_] _ (fun w hS => range_row (box_below HB17.out hS)) Tryd.underlying24 rfl (by kernel_rfl)) ?_
    go_simp
    refine wpAnyX_take1 (i := 23) (v := (.agg #[.int .i64 δ2.lot, .int .i64 δ2.trip, .int .i64 δ2.off, .int .i64 δ2.guar, .int .i64 δ2.day, .int .i64 δ2.st, .int .i64 δ2.ver, .int .i64 δ2.ask, .int .i64 δ2.held, .int .i64 δ2.ctl, .slice X4 δ2.seals.length x4_])) rfl (by as_aux_lemma => kernel_rfl) (fun _ _ _ h => h) HSB.out (yieldsIf_load_mid (by rfl) 24 (.tmp 19) rfl (W7.heap.size) 0 rfl [.int .i64 δ2.lot, .int .i64 δ2.trip, .int .i64 δ2.off, .int .i64 δ2.guar, .int .i64 δ2.day, .int .i64 δ2.st, .int .i64 δ2.ver, .int .i64 δ2.ask, .int .i64 δ2.held, .int .i64 δ2.ctl, .slice X4 δ2.seals.length x4_] _ (fun w hS => range_row (box_below HB19.out hS)) Tryd.underlying24 rfl (by kernel_rfl)) ?_
    go_simp
    refine wpAnyX_one (i := 24) (by as_aux_lemma => kernel_rfl) rfl (fun K hK => ?_)
    go_simp
    go_wp2_with (go_at_call 11; refine (sameDep_any δ2 _ _ _ (HX3.out.below HSB.out) (HX4.out.below HSB.out)).mono ?_; rintro e U5 ⟨rfl, hb⟩; have HSB := Lib.hid (HSB.out.trans (hb.mono HSB.out.size)); clear hb)
    refine hK.out _ _ (fun _ => HSB.out) ?_
    clear hK K
    refine wpAnyX_take1 (i := 25) (v := (.bool true)) rfl (by as_aux_lemma => kernel_rfl) (fun _ _ _ h => h) HSB.out (Or.inl ⟨by rfl, fun w hS => by go_simp⟩) ?_
    go_simp
    refine wpAnyX_take1 (i := 26) (v := (.bool true)) rfl (by as_aux_lemma => kernel_rfl) (fun _ _ _ h => h) HSB.out (Or.inl ⟨by rfl, fun w hS => by go_simp⟩) ?_
    go_simp
    refine wpAnyX_take1 (i := 27) (v := (.bool β2)) rfl (by as_aux_lemma => kernel_rfl) (fun _ _ _ h => h) HSB.out (Or.inl ⟨by rfl, fun w hS => by go_simp⟩) ?_
    go_simp
    refine wpAnyX_take1 (i := 28) (v := (.bool β2)) rfl (by as_aux_lemma => kernel_rfl) (fun _ _ _ h => h) HSB.out (Or.inl ⟨by rfl, fun w hS => by go_simp⟩) ?_
    go_simp
    refine wpAnyX_take1 (i := 29) (v := (.bool true)) rfl (by as_aux_lemma => kernel_rfl) (fun _ _ _ h => h) HSB.out (Or.inl ⟨by rfl, fun w hS => by go_simp⟩) ?_
    go_simp
    refine wpAnyX_take1 (i := 30) (v := (.bool true)) rfl (by as_aux_lemma => kernel_rfl) (fun _ _ _ h => h) HSB.out (Or.inl ⟨by rfl, fun w hS => by go_simp⟩) ?_
    go_simp
    refine wpAnyX_take1 (i := 31) (v := (.bool true)) rfl (by as_aux_lemma => kernel_rfl) (fun _ _ _ h => h) HSB.out (Or.inl ⟨by rfl, fun w hS => by go_simp⟩) ?_
    go_simp
    refine wpAnyX_take1 (i := 32) (v := (.agg #[.int .i64 δ3.lot, .int .i64 δ3.trip, .int .i64 δ3.off, .int .i64 δ3.guar, .int .i64 δ3.day, .int .i64 δ3.st, .int .i64 δ3.ver, .int .i64 δ3.ask, .int .i64 δ3.held, .int .i64 δ3.ctl, .slice X5 δ3.seals.length x5_])) rfl (by as_aux_lemma => kernel_rfl) (fun _ _ _ h => h) HSB.out (yieldsIf_load_mid (by rfl) 24 (.tmp 21) rfl (W9.heap.size) 0 rfl [.int .i64 δ3.lot, .int .i64 δ3.trip, .int .i64 δ3.off, .int .i64 δ3.guar, .int .i64 δ3.day, .int .i64 δ3.st, .int .i64 δ3.ver, .int .i64 δ3.ask, .int .i64 δ3.held, .int .i64 δ3.ctl, .slice X5 δ3.seals.length x5_] _ (fun w hS => range_row (box_below HB21.out hS)) Tryd.underlying24 rfl (by kernel_rfl)) ?_
    go_simp
    refine wpAnyX_take1 (i := 33) (v := (.agg #[.int .i64 δ3.lot, .int .i64 δ3.trip, .int .i64 δ3.off, .int .i64 δ3.guar, .int .i64 δ3.day, .int .i64 δ3.st, .int .i64 δ3.ver, .int .i64 δ3.ask, .int .i64 δ3.held, .int .i64 δ3.ctl, .slice X6 δ3.seals.length x6_])) rfl (by as_aux_lemma => kernel_rfl) (fun _ _ _ h => h) HSB.out (yieldsIf_load_mid (by rfl) 24 (.tmp 23) rfl (W11.heap.size) 0 rfl [.int .i64 δ3.lot, .int .i64 δ3.trip, .int .i64 δ3.off, .int .i64 δ3.guar, .int .i64 δ3.day, .int .i64 δ3.st, .int .i64 δ3.ver, .int .i64 δ3.ask, .int .i64 δ3.held, .int .i64 δ3.ctl, .slice X6 δ3.seals.length x6_] _ (fun w hS => range_row (box_below HB23.out hS)) Tryd.underlying24 rfl (by kernel_rfl)) ?_
    go_simp
    refine wpAnyX_one (i := 34) (by as_aux_lemma => kernel_rfl) rfl (fun K hK => ?_)
    go_simp
    go_wp2_with (go_at_call 11; refine (sameDep_any δ3 _ _ _ (HX5.out.below HSB.out) (HX6.out.below HSB.out)).mono ?_; rintro e U6 ⟨rfl, hb⟩; have HSB := Lib.hid (HSB.out.trans (hb.mono HSB.out.size)); clear hb)
    refine hK.out _ _ (fun _ => HSB.out) ?_
    clear hK K
    refine wpAnyX_take1 (i := 35) (v := (.bool true)) rfl (by as_aux_lemma => kernel_rfl) (fun _ _ _ h => h) HSB.out (Or.inl ⟨by rfl, fun w hS => by go_simp⟩) ?_
    go_simp
    refine wpAnyX_take1 (i := 36) (v := (.bool true)) rfl (by as_aux_lemma => kernel_rfl) (fun _ _ _ h => h) HSB.out (Or.inl ⟨by rfl, fun w hS => by go_simp⟩) ?_
    go_simp
    refine wpAnyX_take1 (i := 37) (v := (.bool β2)) rfl (by as_aux_lemma => kernel_rfl) (fun _ _ _ h => h) HSB.out (Or.inl ⟨by rfl, fun w hS => by go_simp⟩) ?_
    go_simp
    refine wpAnyX_take1 (i := 38) (v := (.bool β2)) rfl (by as_aux_lemma => kernel_rfl) (fun _ _ _ h => h) HSB.out (Or.inl ⟨by rfl, fun w hS => by go_simp⟩) ?_
    go_simp
    refine wpAnyX_take1 (i := 39) (v := (.bool true)) rfl (by as_aux_lemma => kernel_rfl) (fun _ _ _ h => h) HSB.out (Or.inl ⟨by rfl, fun w hS => by go_simp⟩) ?_
    go_simp
    refine wpAnyX_take1 (i := 40) (v := (.bool true)) rfl (by as_aux_lemma => kernel_rfl) (fun _ _ _ h => h) HSB.out (Or.inl ⟨by rfl, fun w hS => by go_simp⟩) ?_
    go_simp
    refine wpAnyX_take1 (i := 41) (v := (.bool true)) rfl (by as_aux_lemma => kernel_rfl) (fun _ _ _ h => h) HSB.out (Or.inl ⟨by rfl, fun w hS => by go_simp⟩) ?_
    go_simp
    refine wpAnyX_take1 (i := 42) (v := (.agg #[.int .i64 x.lot, .int .i64 x.trip, .int .i64 x.off, .int .i64 x.guar, .int .i64 x.day, .int .i64 x.st, .int .i64 x.ver, .int .i64 x.ask, .int .i64 x.held, .int .i64 x.ctl, .slice A1 x.seals.length c1])) rfl (by as_aux_lemma => kernel_rfl) (fun _ _ _ h => h) HSB.out (yieldsIf_load_mid (by rfl) 24 (.tmp 6) rfl (w.heap.size) 0 rfl [.int .i64 x.lot, .int .i64 x.trip, .int .i64 x.off, .int .i64 x.guar, .int .i64 x.day, .int .i64 x.st, .int .i64 x.ver, .int .i64 x.ask, .int .i64 x.held, .int .i64 x.ctl, .slice A1 x.seals.length c1] _ (fun w hS => range_row (box_below HB6.out hS)) Tryd.underlying24 rfl (by kernel_rfl)) ?_
    go_simp
    refine wpAnyX_take1 (i := 43) (v := (.int .i64 c)) rfl (by as_aux_lemma => kernel_rfl) (fun _ _ _ h => h) HSB.out (Or.inl ⟨by rfl, fun w hS => by go_simp⟩) ?_
    go_simp
    refine wpAnyX_take1 (i := 46) (v := (.agg #[.int .i64 x.lot, .int .i64 x.trip, .int .i64 x.off, .int .i64 x.guar, .int .i64 x.day, .int .i64 x.st, .int .i64 x.ver, .int .i64 x.ask, .int .i64 x.held, .int .i64 x.ctl, .slice A1 x.seals.length c1])) rfl (by as_aux_lemma => kernel_rfl) (fun _ _ _ h => h) HSB.out (yieldsIf_load_mid (by rfl) 24 (.tmp 6) rfl (w.heap.size) 0 rfl [.int .i64 x.lot, .int .i64 x.trip, .int .i64 x.off, .int .i64 x.guar, .int .i64 x.day, .int .i64 x.st, .int .i64 x.ver, .int .i64 x.ask, .int .i64 x.held, .int .i64 x.ctl, .slice A1 x.seals.length c1] _ (fun w hS => range_row (box_below HB6.out hS)) Tryd.underlying24 rfl (by kernel_rfl)) ?_
    go_simp
    refine wpAnyX_take1 (i := 47) (v := (.int .i64 c)) rfl (by as_aux_lemma => kernel_rfl) (fun _ _ _ h => h) HSB.out (Or.inl ⟨by rfl, fun w hS => by go_simp⟩) ?_
    go_simp
    apply share3 (F := fun W g1 g2 => Below Wd.heap.size Wd W)
    · intro T49
      refine wpAnyX_ready (rs := [44, 48]) (by as_aux_lemma => kernel_rfl) (by simp) (AllX.cons rfl (fun K hK => ?_) (AllX.cons rfl (fun K hK => ?_) AllX.nil))
      · go_simp
        have hb := (Below.refl U6.heap.size U6).alloc (Nat.le_refl _) (.cells #[.int .i64 3, .int .i64 10] 3)
        have HSB := Lib.hid (HSB.out.trans (hb.mono HSB.out.size))
        have HR44 := Lib.hid (((ints_lit (S := fun _ => True) (l := [3, 10]) (heap_alloc_new U6 (.cells #[.int .i64 3, .int .i64 10] 3)) trivial (by decide)).at_).rd_)
        refine hK.out _ _ (fun _ => HSB.out) ?_
        clear hK K hb
        generalize hV : U6.alloc (.cells #[.int .i64 3, .int .i64 10] 3) = U7 at HSB HR44  ⊢
        generalize hG : U6.heap.size = g44 at HR44 ⊢
        clear hV hG
        refine wpAnyX_ready (rs := [45, 48]) (by as_aux_lemma => kernel_rfl) (by simp) (AllX.cons rfl (fun K hK => ?_) (AllX.cons rfl (fun K hK => ?_) AllX.nil))
        · go_simp
          go_wp2_with (go_at_call 14; refine (overdue_any x (.slice A1 x.seals.length c1) c (some ⟨g44, 0, none⟩) 2 [3, 10] _ (HM.out.below HSB.out) HR44.out (by decide)).mono ?_; rintro e U8 ⟨rfl, hb⟩; rw [← Eov.out]; have HR44 := Lib.hid (HR44.out.below hb); have HSB := Lib.hid (HSB.out.trans (hb.mono HSB.out.size)); clear hb)
          refine hK.out _ _ (fun _ => HSB.out) ?_
          clear hK K
          refine wpAnyX_one (i := 48) (by as_aux_lemma => kernel_rfl) rfl (fun K hK => ?_)
          go_simp
          have hb := (Below.refl U8.heap.size U8).alloc (Nat.le_refl _) (.cells #[.int .i64 3, .int .i64 10] 3)
          have HSB := Lib.hid (HSB.out.trans (hb.mono HSB.out.size))
          have HR48 := Lib.hid (((ints_lit (S := fun _ => True) (l := [3, 10]) (heap_alloc_new U8 (.cells #[.int .i64 3, .int .i64 10] 3)) trivial (by decide)).at_).rd_)
          refine hK.out _ _ (fun _ => HSB.out) ?_
          clear hK K hb
          generalize hV : U8.alloc (.cells #[.int .i64 3, .int .i64 10] 3) = U9 at HSB HR48  ⊢
          generalize hG : U8.heap.size = g48 at HR48 ⊢
          clear hV hG
          refine wpAnyX_one (i := 49) (by as_aux_lemma => kernel_rfl) rfl (fun K hK => ?_)
          go_simp
          go_wp2_with (go_at_call 15; refine (refOverdue_any x (.slice A1 x.seals.length c1) c (some ⟨g48, 0, none⟩) 2 [3, 10] _ HR48.out (by decide)).mono ?_; rintro e U10 ⟨rfl, hb⟩; rw [← Eov.out]; have HR48 := Lib.hid (HR48.out.below hb); have HSB := Lib.hid (HSB.out.trans (hb.mono HSB.out.size)); clear hb)
          refine hK.out _ _ (fun _ => HSB.out) ?_
          clear hK K
          exact T49 U10 g44 g48 HSB.out
        · go_simp
          have hb := (Below.refl U7.heap.size U7).alloc (Nat.le_refl _) (.cells #[.int .i64 3, .int .i64 10] 3)
          have HR44 := Lib.hid (HR44.out.below hb)
          have HSB := Lib.hid (HSB.out.trans (hb.mono HSB.out.size))
          have HR48 := Lib.hid (((ints_lit (S := fun _ => True) (l := [3, 10]) (heap_alloc_new U7 (.cells #[.int .i64 3, .int .i64 10] 3)) trivial (by decide)).at_).rd_)
          refine hK.out _ _ (fun _ => HSB.out) ?_
          clear hK K hb
          generalize hV : U7.alloc (.cells #[.int .i64 3, .int .i64 10] 3) = U11 at HSB HR48 HR44 ⊢
          generalize hG : U7.heap.size = g48 at HR48 ⊢
          clear hV hG
          refine wpAnyX_one (i := 45) (by as_aux_lemma => kernel_rfl) rfl (fun K hK => ?_)
          go_simp
          go_wp2_with (go_at_call 14; refine (overdue_any x (.slice A1 x.seals.length c1) c (some ⟨g44, 0, none⟩) 2 [3, 10] _ (HM.out.below HSB.out) HR44.out (by decide)).mono ?_; rintro e U12 ⟨rfl, hb⟩; rw [← Eov.out]; have HR44 := Lib.hid (HR44.out.below hb); have HR48 := Lib.hid (HR48.out.below hb); have HSB := Lib.hid (HSB.out.trans (hb.mono HSB.out.size)); clear hb)
          refine hK.out _ _ (fun _ => HSB.out) ?_
          clear hK K
          refine wpAnyX_one (i := 49) (by as_aux_lemma => kernel_rfl) rfl (fun K hK => ?_)
          go_simp
          go_wp2_with (go_at_call 15; refine (refOverdue_any x (.slice A1 x.seals.length c1) c (some ⟨g48, 0, none⟩) 2 [3, 10] _ HR48.out (by decide)).mono ?_; rintro e U13 ⟨rfl, hb⟩; rw [← Eov.out]; have HR48 := Lib.hid (HR48.out.below hb); have HSB := Lib.hid (HSB.out.trans (hb.mono HSB.out.size)); clear hb)
          refine hK.out _ _ (fun _ => HSB.out) ?_
          clear hK K
          exact T49 U13 g44 g48 HSB.out
      · go_simp
        have hb := (Below.refl U6.heap.size U6).alloc (Nat.le_refl _) (.cells #[.int .i64 3, .int .i64 10] 3)
        have HSB := Lib.hid (HSB.out.trans (hb.mono HSB.out.size))
        have HR48 := Lib.hid (((ints_lit (S := fun _ => True) (l := [3, 10]) (heap_alloc_new U6 (.cells #[.int .i64 3, .int .i64 10] 3)) trivial (by decide)).at_).rd_)
        refine hK.out _ _ (fun _ => HSB.out) ?_
        clear hK K hb
        generalize hV : U6.alloc (.cells #[.int .i64 3, .int .i64 10] 3) = U14 at HSB HR48  ⊢
        generalize hG : U6.heap.size = g48 at HR48 ⊢
        clear hV hG
        refine wpAnyX_one (i := 44) (by as_aux_lemma => kernel_rfl) rfl (fun K hK => ?_)
        go_simp
        have hb := (Below.refl U14.heap.size U14).alloc (Nat.le_refl _) (.cells #[.int .i64 3, .int .i64 10] 3)
        have HR48 := Lib.hid (HR48.out.below hb)
        have HSB := Lib.hid (HSB.out.trans (hb.mono HSB.out.size))
        have HR44 := Lib.hid (((ints_lit (S := fun _ => True) (l := [3, 10]) (heap_alloc_new U14 (.cells #[.int .i64 3, .int .i64 10] 3)) trivial (by decide)).at_).rd_)
        refine hK.out _ _ (fun _ => HSB.out) ?_
        clear hK K hb
        generalize hV : U14.alloc (.cells #[.int .i64 3, .int .i64 10] 3) = U15 at HSB HR44 HR48 ⊢
        generalize hG : U14.heap.size = g44 at HR44 ⊢
        clear hV hG
        refine wpAnyX_one (i := 45) (by as_aux_lemma => kernel_rfl) rfl (fun K hK => ?_)
        go_simp
        go_wp2_with (go_at_call 14; refine (overdue_any x (.slice A1 x.seals.length c1) c (some ⟨g44, 0, none⟩) 2 [3, 10] _ (HM.out.below HSB.out) HR44.out (by decide)).mono ?_; rintro e U16 ⟨rfl, hb⟩; rw [← Eov.out]; have HR48 := Lib.hid (HR48.out.below hb); have HR44 := Lib.hid (HR44.out.below hb); have HSB := Lib.hid (HSB.out.trans (hb.mono HSB.out.size)); clear hb)
        refine hK.out _ _ (fun _ => HSB.out) ?_
        clear hK K
        refine wpAnyX_one (i := 49) (by as_aux_lemma => kernel_rfl) rfl (fun K hK => ?_)
        go_simp
        go_wp2_with (go_at_call 15; refine (refOverdue_any x (.slice A1 x.seals.length c1) c (some ⟨g48, 0, none⟩) 2 [3, 10] _ HR48.out (by decide)).mono ?_; rintro e U17 ⟨rfl, hb⟩; rw [← Eov.out]; have HR48 := Lib.hid (HR48.out.below hb); have HSB := Lib.hid (HSB.out.trans (hb.mono HSB.out.size)); clear hb)
        refine hK.out _ _ (fun _ => HSB.out) ?_
        clear hK K
        exact T49 U17 g44 g48 HSB.out
    · intro Wt g44 g48 hB
      have HSB := Lib.hid hB
      clear hB
      refine wpAnyX_take1 (i := 50) (v := (.bool true)) rfl (by as_aux_lemma => kernel_rfl) (fun _ _ _ h => h) HSB.out (Or.inl ⟨by rfl, fun w hS => by go_simp⟩) ?_
      go_simp
      refine wpAnyX_take1 (i := 51) (v := (.bool true)) rfl (by as_aux_lemma => kernel_rfl) (fun _ _ _ h => h) HSB.out (Or.inl ⟨by rfl, fun w hS => by go_simp⟩) ?_
      go_simp
      refine wpAnyX_take1 (i := 52) (v := (.bool true)) rfl (by as_aux_lemma => kernel_rfl) (fun _ _ _ h => h) HSB.out (Or.inl ⟨by rfl, fun w hS => by go_simp⟩) ?_
      go_simp
      refine wpAnyX_take1 (i := 53) (v := (.int .i64 a)) rfl (by as_aux_lemma => kernel_rfl) (fun _ _ _ h => h) HSB.out (Or.inl ⟨by rfl, fun w hS => by go_simp⟩) ?_
      go_simp
      refine wpAnyX_take1 (i := 54) (v := (.int .i64 b)) rfl (by as_aux_lemma => kernel_rfl) (fun _ _ _ h => h) HSB.out (Or.inl ⟨by rfl, fun w hS => by go_simp⟩) ?_
      go_simp
      refine wpAnyX_take1 (i := 55) (v := (.int .i64 c)) rfl (by as_aux_lemma => kernel_rfl) (fun _ _ _ h => h) HSB.out (Or.inl ⟨by rfl, fun w hS => by go_simp⟩) ?_
      go_simp
      refine wpAnyX_take1 (i := 56) (v := (.pointer (some ⟨w.heap.size, 4, none⟩))) rfl (by as_aux_lemma => kernel_rfl) (fun _ _ _ h => h) HSB.out (Or.inl ⟨by rfl, fun w hS => by go_simp⟩) ?_
      go_simp
      refine wpAnyX_take1 (i := 57) (v := (.int .i64 x.day)) rfl (by as_aux_lemma => kernel_rfl) (fun _ _ _ h => h) HSB.out (yieldsIf_load_one (by rfl) 3 (.tmp 146) rfl (w.heap.size) 4 rfl [.int .i64 x.lot, .int .i64 x.trip, .int .i64 x.off, .int .i64 x.guar, .int .i64 x.day, .int .i64 x.st, .int .i64 x.ver, .int .i64 x.ask, .int .i64 x.held, .int .i64 x.ctl, .slice A1 x.seals.length c1] (.int .i64 x.day) _ (fun w hS => box_below HB6.out hS) rfl _ Tryd.underlying3 rfl) ?_
      go_simp
      refine wpAnyX_take1 (i := 58) (v := (.pointer (some ⟨w.heap.size, 6, none⟩))) rfl (by as_aux_lemma => kernel_rfl) (fun _ _ _ h => h) HSB.out (Or.inl ⟨by rfl, fun w hS => by go_simp⟩) ?_
      go_simp
      refine wpAnyX_take1 (i := 59) (v := (.int .i64 x.ver)) rfl (by as_aux_lemma => kernel_rfl) (fun _ _ _ h => h) HSB.out (yieldsIf_load_one (by rfl) 3 (.tmp 148) rfl (w.heap.size) 6 rfl [.int .i64 x.lot, .int .i64 x.trip, .int .i64 x.off, .int .i64 x.guar, .int .i64 x.day, .int .i64 x.st, .int .i64 x.ver, .int .i64 x.ask, .int .i64 x.held, .int .i64 x.ctl, .slice A1 x.seals.length c1] (.int .i64 x.ver) _ (fun w hS => box_below HB6.out hS) rfl _ Tryd.underlying3 rfl) ?_
      go_simp
      refine wpAnyX_take1 (i := 60) (v := (.pointer (some ⟨w.heap.size, 7, none⟩))) rfl (by as_aux_lemma => kernel_rfl) (fun _ _ _ h => h) HSB.out (Or.inl ⟨by rfl, fun w hS => by go_simp⟩) ?_
      go_simp
      refine wpAnyX_take1 (i := 61) (v := (.int .i64 x.ask)) rfl (by as_aux_lemma => kernel_rfl) (fun _ _ _ h => h) HSB.out (yieldsIf_load_one (by rfl) 3 (.tmp 150) rfl (w.heap.size) 7 rfl [.int .i64 x.lot, .int .i64 x.trip, .int .i64 x.off, .int .i64 x.guar, .int .i64 x.day, .int .i64 x.st, .int .i64 x.ver, .int .i64 x.ask, .int .i64 x.held, .int .i64 x.ctl, .slice A1 x.seals.length c1] (.int .i64 x.ask) _ (fun w hS => box_below HB6.out hS) rfl _ Tryd.underlying3 rfl) ?_
      go_simp
      refine wpAnyX_take1 (i := 62) (v := (.pointer (some ⟨w.heap.size, 10, none⟩))) rfl (by as_aux_lemma => kernel_rfl) (fun _ _ _ h => h) HSB.out (Or.inl ⟨by rfl, fun w hS => by go_simp⟩) ?_
      go_simp
      refine wpAnyX_take1 (i := 63) (v := (.slice A1 x.seals.length c1)) rfl (by as_aux_lemma => kernel_rfl) (fun _ _ _ h => h) HSB.out (yieldsIf_load_one (by rfl) 22 (.tmp 152) rfl (w.heap.size) 10 rfl [.int .i64 x.lot, .int .i64 x.trip, .int .i64 x.off, .int .i64 x.guar, .int .i64 x.day, .int .i64 x.st, .int .i64 x.ver, .int .i64 x.ask, .int .i64 x.held, .int .i64 x.ctl, .slice A1 x.seals.length c1] (.slice A1 x.seals.length c1) _ (fun w hS => box_below HB6.out hS) rfl _ Tryd.underlying22 rfl) ?_
      go_simp
      refine wpAnyX_take1 (i := 65) (v := (.int .i64 a)) rfl (by as_aux_lemma => kernel_rfl) (fun _ _ _ h => h) HSB.out (Or.inl ⟨by rfl, fun w hS => by go_simp⟩) ?_
      go_simp
      refine wpAnyX_take1 (i := 66) (v := (.int .i64 b)) rfl (by as_aux_lemma => kernel_rfl) (fun _ _ _ h => h) HSB.out (Or.inl ⟨by rfl, fun w hS => by go_simp⟩) ?_
      go_simp
      refine wpAnyX_take1 (i := 67) (v := (.int .i64 c)) rfl (by as_aux_lemma => kernel_rfl) (fun _ _ _ h => h) HSB.out (Or.inl ⟨by rfl, fun w hS => by go_simp⟩) ?_
      go_simp
      refine wpAnyX_take1 (i := 68) (v := (.pointer (some ⟨w.heap.size, 4, none⟩))) rfl (by as_aux_lemma => kernel_rfl) (fun _ _ _ h => h) HSB.out (Or.inl ⟨by rfl, fun w hS => by go_simp⟩) ?_
      go_simp
      refine wpAnyX_take1 (i := 69) (v := (.int .i64 x.day)) rfl (by as_aux_lemma => kernel_rfl) (fun _ _ _ h => h) HSB.out (yieldsIf_load_one (by rfl) 3 (.tmp 158) rfl (w.heap.size) 4 rfl [.int .i64 x.lot, .int .i64 x.trip, .int .i64 x.off, .int .i64 x.guar, .int .i64 x.day, .int .i64 x.st, .int .i64 x.ver, .int .i64 x.ask, .int .i64 x.held, .int .i64 x.ctl, .slice A1 x.seals.length c1] (.int .i64 x.day) _ (fun w hS => box_below HB6.out hS) rfl _ Tryd.underlying3 rfl) ?_
      go_simp
      refine wpAnyX_take1 (i := 70) (v := (.pointer (some ⟨w.heap.size, 6, none⟩))) rfl (by as_aux_lemma => kernel_rfl) (fun _ _ _ h => h) HSB.out (Or.inl ⟨by rfl, fun w hS => by go_simp⟩) ?_
      go_simp
      refine wpAnyX_take1 (i := 71) (v := (.int .i64 x.ver)) rfl (by as_aux_lemma => kernel_rfl) (fun _ _ _ h => h) HSB.out (yieldsIf_load_one (by rfl) 3 (.tmp 160) rfl (w.heap.size) 6 rfl [.int .i64 x.lot, .int .i64 x.trip, .int .i64 x.off, .int .i64 x.guar, .int .i64 x.day, .int .i64 x.st, .int .i64 x.ver, .int .i64 x.ask, .int .i64 x.held, .int .i64 x.ctl, .slice A1 x.seals.length c1] (.int .i64 x.ver) _ (fun w hS => box_below HB6.out hS) rfl _ Tryd.underlying3 rfl) ?_
      go_simp
      refine wpAnyX_take1 (i := 72) (v := (.pointer (some ⟨w.heap.size, 7, none⟩))) rfl (by as_aux_lemma => kernel_rfl) (fun _ _ _ h => h) HSB.out (Or.inl ⟨by rfl, fun w hS => by go_simp⟩) ?_
      go_simp
      refine wpAnyX_take1 (i := 73) (v := (.int .i64 x.ask)) rfl (by as_aux_lemma => kernel_rfl) (fun _ _ _ h => h) HSB.out (yieldsIf_load_one (by rfl) 3 (.tmp 162) rfl (w.heap.size) 7 rfl [.int .i64 x.lot, .int .i64 x.trip, .int .i64 x.off, .int .i64 x.guar, .int .i64 x.day, .int .i64 x.st, .int .i64 x.ver, .int .i64 x.ask, .int .i64 x.held, .int .i64 x.ctl, .slice A1 x.seals.length c1] (.int .i64 x.ask) _ (fun w hS => box_below HB6.out hS) rfl _ Tryd.underlying3 rfl) ?_
      go_simp
      refine wpAnyX_take1 (i := 74) (v := (.pointer (some ⟨w.heap.size, 10, none⟩))) rfl (by as_aux_lemma => kernel_rfl) (fun _ _ _ h => h) HSB.out (Or.inl ⟨by rfl, fun w hS => by go_simp⟩) ?_
      go_simp
      refine wpAnyX_take1 (i := 75) (v := (.slice A1 x.seals.length c1)) rfl (by as_aux_lemma => kernel_rfl) (fun _ _ _ h => h) HSB.out (yieldsIf_load_one (by rfl) 22 (.tmp 164) rfl (w.heap.size) 10 rfl [.int .i64 x.lot, .int .i64 x.trip, .int .i64 x.off, .int .i64 x.guar, .int .i64 x.day, .int .i64 x.st, .int .i64 x.ver, .int .i64 x.ask, .int .i64 x.held, .int .i64 x.ctl, .slice A1 x.seals.length c1] (.slice A1 x.seals.length c1) _ (fun w hS => box_below HB6.out hS) rfl _ Tryd.underlying22 rfl) ?_
      go_simp
      refine wpAnyX_one (i := 64) (by as_aux_lemma => kernel_rfl) rfl (fun K hK => ?_)
      go_simp
      go_wp2_with (go_at_call 16; refine (start_any a b c x.day x.ver x.ask (.slice A1 x.seals.length c1) x.seals _ (HV.out.below HSB.out)).mono ?_; rintro e U18 ⟨u1, rfl, h1, hb⟩; rw [← Eσ.out]; rw [← Eσ.out] at h1; replace h1 := h1.at_; obtain ⟨X9, x9_, rfl⟩ := h1.shape; have HX9 := Lib.hid h1; clear h1; unfold depV; have HSB := Lib.hid (HSB.out.trans (hb.mono HSB.out.size)); clear hb)
      refine hK.out _ _ (fun _ => HSB.out) ?_
      clear hK K
      refine wpAnyX_one (i := 76) (by as_aux_lemma => kernel_rfl) rfl (fun K hK => ?_)
      go_simp
      go_wp2_with (go_at_call 17; refine (refStart_any a b c x.day x.ver x.ask (.slice A1 x.seals.length c1) x.seals _ (HV.out.below HSB.out)).mono ?_; rintro e U19 ⟨u1, rfl, h1, hb⟩; rw [← Eσ.out]; rw [← Eσ.out] at h1; obtain ⟨X10, x10_, rfl⟩ := h1.shape; have HX10 := Lib.hid h1; clear h1; unfold depV; have HX9 := Lib.hid (HX9.out.below hb); have HSB := Lib.hid (HSB.out.trans (hb.mono HSB.out.size)); clear hb)
      refine hK.out _ _ (fun _ => HSB.out) ?_
      clear hK K
      refine wpAnyX_one (i := 77) (by as_aux_lemma => kernel_rfl) rfl (fun K hK => ?_)
      go_simp
      go_wp2_with (go_at_call 11; refine (sameDep_any σ _ _ _ HX9.out HX10.out).mono ?_; rintro e U20 ⟨rfl, hb⟩; have HX9 := Lib.hid (HX9.out.below hb); have HX10 := Lib.hid (HX10.out.below hb); have HSB := Lib.hid (HSB.out.trans (hb.mono HSB.out.size)); clear hb)
      refine hK.out _ _ (fun _ => HSB.out) ?_
      clear hK K
      refine wpAnyX_take1 (i := 78) (v := (.bool true)) rfl (by as_aux_lemma => kernel_rfl) (fun _ _ _ h => h) HSB.out (Or.inl ⟨by rfl, fun w hS => by go_simp⟩) ?_
      go_simp
      refine wpAnyX_take1 (i := 79) (v := (.bool true)) rfl (by as_aux_lemma => kernel_rfl) (fun _ _ _ h => h) HSB.out (Or.inl ⟨by rfl, fun w hS => by go_simp⟩) ?_
      go_simp
      refine wpAnyX_one (i := 80) (by as_aux_lemma => kernel_rfl) rfl (fun K hK => ?_)
      go_simp
      go_wp2_with (go_at_call 18; refine (awake_any _).mono ?_; rintro e U21 ⟨rfl, hb⟩; have HSB := Lib.hid (HSB.out.trans (hb.mono HSB.out.size)); clear hb)
      refine hK.out _ _ (fun _ => HSB.out) ?_
      clear hK K
      refine wpAnyX_take1 (i := 81) (v := (.bool true)) rfl (by as_aux_lemma => kernel_rfl) (fun _ _ _ h => h) HSB.out (Or.inl ⟨by rfl, fun w hS => by go_simp⟩) ?_
      go_simp
      refine wpAnyX_take1 (i := 82) (v := (.bool true)) rfl (by as_aux_lemma => kernel_rfl) (fun _ _ _ h => h) HSB.out (Or.inl ⟨by rfl, fun w hS => by go_simp⟩) ?_
      go_simp
      refine wpAnyX_done (by kernel_rfl) ?_
      go_wp2
      go_ret
      exact ⟨rfl, HA.out.toB (Nat.le_refl _) |>.trans (HSB.out.mono HA.out.size)⟩
end Go.Proofs.YtecmpkcjeaiknaaDoor
