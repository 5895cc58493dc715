/- The walk of MoneyParse. -/
import Derived.Test.YtjgobaedeagojaaDoorOk
import Derived.Lib.ConvBytes
import Derived.Test.YtjgobaedeagojaaDoorLast
import Derived.Deep.DeepCutAuto
namespace Go.Proofs.YtjgobaedeagojaaDoor
open Go.ChangeShapes Go.WideShapes Go.RowKit
set_option linter.unusedVariables false

/-- block g begins with these bytes, and they may be written -/
def BRow (w : World) (g : Nat) (xs : Bs) : Prop := ∃ cs fz, w.heap[g]? = some (.cells cs 5 fz) ∧ (fz.2 = 0 ∨ cs.size ≤ fz.1) ∧ xs.length ≤ cs.size ∧ ∀ j, j < xs.length → cs[j]? = some (.int .u8 ((xs[j]?.getD 0).toNat : Int))
theorem BRow.below {w w' : World} {g : Nat} {xs : Bs} (h : BRow w g xs) (hb : Below w.heap.size w w') : BRow w' g xs := by
  obtain ⟨cs, fz, h1, h2⟩ := h
  exact ⟨cs, fz, (hb.block g (lt_of_block h1)).trans h1, h2⟩
theorem BRow.cell {w : World} {g : Nat} {xs : Bs} (h : BRow w g xs) {j : Nat} (hj : j < xs.length) : w.cell? ⟨g, j, none⟩ = some (.int .u8 ((xs[j]?.getD 0).toNat : Int)) := by
  obtain ⟨cs, fz, h1, h2, h3, h4⟩ := h
  rw [cell_of_row _ _ _ _ _ _ h1]
  exact h4 j hj
theorem BRow.frozen {w : World} {g : Nat} {xs : Bs} (h : BRow w g xs) {j : Nat} (hj : j < xs.length) : w.frozen? ⟨g, j, none⟩ = false := by
  obtain ⟨cs, ⟨lo, hi⟩, h1, h2, h3, h4⟩ := h
  simp only [World.frozen?, h1, Bool.and_eq_false_iff, decide_eq_false_iff_not]
  simp only at h2
  omega
theorem BRow.set {w : World} {g : Nat} {xs : Bs} (h : BRow w g xs) {k : Nat} (hk : k < xs.length) (c : UInt8) : BRow (w.setCell ⟨g, k, none⟩ (.int .u8 (c.toNat : Int))) g (xs.set k c) := by
  obtain ⟨cs, fz, h1, h2, h3, h4⟩ := h
  refine ⟨cs.setIfInBounds k (.int .u8 (c.toNat : Int)), fz, by simp [World.setCell, Array.getElem?_modify, h1], by simpa using h2, by simpa using h3, fun j hj => ?_⟩
  rw [Array.getElem?_setIfInBounds]
  by_cases e : k = j
  · subst e
    rw [if_pos rfl, if_pos (by omega), List.getElem?_set_self hk]
    rfl
  · rw [if_neg e, List.getElem?_set_ne e]
    exact h4 j (by simpa using hj)
theorem BRow.conv {w : World} {g : Nat} {xs : Bs} (h : BRow w g xs) (c : Nat) : (convert 37 9 (.slice (some ⟨g, 0, none⟩) xs.length c)).run Tryd.prog w = .ok (.string ⟨xs.toArray⟩) w :=
  run_convert_bytes_back w 37 9 5 ⟨g, 0, none⟩ c xs Tryd.underlying37 Tryd.underlying5 Tryd.underlying9 (fun j hj => by
    rw [Addr.add_lit, Nat.zero_add, h.cell hj, List.getElem?_eq_getElem hj]
    rfl)
theorem BRow.of_string (w : World) (xs : Bs) : BRow (Lib.bytesWorld w 5 ⟨xs.toArray⟩) w.heap.size xs := by
  refine ⟨_, _, Lib.bytesWorld_at_new w 5 ⟨xs.toArray⟩, .inr (Nat.le_refl _), ?_, fun j hj => ?_⟩
  · simp [Lib.bytesCells]
  · simp [Lib.bytesCells, Array.getElem?_append, hj]
theorem conv_bytes (w : World) (xs : Bs) : ∃ c W, (convert 9 37 (.string ⟨xs.toArray⟩)).run Tryd.prog w = .ok (.slice (some ⟨w.heap.size, 0, none⟩) xs.length c) W ∧ BRow W w.heap.size xs ∧ Below w.heap.size w W ∧ xs.length ≤ c ∧ W.heap.size = w.heap.size + 1 := by
  have hsz : (⟨xs.toArray⟩ : ByteArray).size = xs.length := by simp [ByteArray.size]
  refine ⟨grownCap w (⟨xs.toArray⟩ : ByteArray).size 0 5, Lib.bytesWorld w 5 ⟨xs.toArray⟩, ?_, BRow.of_string w xs, Lib.bytesWorld_below _ _ _, ?_, Lib.bytesWorld_size _ _ _⟩
  · have := Lib.run_convert_string_bytes w 9 37 5 (⟨xs.toArray⟩ : ByteArray) Tryd.underlying9 Tryd.underlying37 Tryd.underlying5
    rw [hsz] at this
    rw [hsz]
    exact this
  · have := grownCap_ge w (⟨xs.toArray⟩ : ByteArray).size 0 5
    rwa [hsz] at this
theorem pa_both (l : Bs) (hl : l.length ≤ 1000) (x : ByteArray) (hx : x = ⟨l.toArray⟩) : ∃ v e : Int, (∀ W, Given W → Calls Tryd.prog 17 #[.string x] W (ScRet W v e)) ∧ (∀ W, Calls Tryd.prog 18 #[.string x] W (ScRet W v e)) := by
  subst hx
  exact ⟨_, _, fun W h => parse_any l hl W h.tab h.err, fun W => refParse_any l hl W⟩
theorem ret_at (at_ : Int) (L : Nat) (hL : 0 < L) : ∃ K : Nat, K < L ∧ (at_.tmod (L : Int) + (L : Int)) % (L : Int) = (K : Int) ∧ (at_.tmod (L : Int) + (L : Int)).tmod (L : Int) = (K : Int) ∧ -(L : Int) < at_.tmod (L : Int) ∧ at_.tmod (L : Int) < (L : Int) := by
  have h1 := Int.emod_nonneg at_ (show (L : Int) ≠ 0 by omega)
  have h2 := Int.emod_lt_of_pos at_ (show (0 : Int) < (L : Int) by omega)
  have hb : -(L : Int) < at_.tmod (L : Int) ∧ at_.tmod (L : Int) < (L : Int) := by
    rw [Int.tmod_eq_emod]
    split <;> omega
  have h3 := Int.emod_nonneg (at_.tmod (L : Int) + (L : Int)) (show (L : Int) ≠ 0 by omega)
  have h4 := Int.emod_lt_of_pos (at_.tmod (L : Int) + (L : Int)) (show (0 : Int) < (L : Int) by omega)
  obtain ⟨K, hK⟩ := Int.eq_ofNat_of_zero_le h3
  refine ⟨K, by omega, hK, ?_, hb⟩
  rw [Int.tmod_eq_emod_of_nonneg (by omega)]
  exact hK
set_option maxRecDepth 100000 in
set_option maxHeartbeats 4000000 in
theorem walkParA (l : Bs) (n at_ : Int) (by_ : UInt8) (w : World) (HG : Hid (Given w)) (x : ByteArray) (hx : ∃ l2 : Bs, l2.length ≤ 1000 ∧ x = ⟨l2.toArray⟩) (hcut : (l.length ≤ 100 ∧ x = ⟨l.toArray⟩) ∨ (100 < l.length ∧ x = (⟨l.toArray⟩ : ByteArray).extract 0 100)) :
    Calls Tryd.prog 7 #[.string ⟨l.toArray⟩, .int .i64 n, .int .i64 at_, .int .u8 (by_.toNat : Int)] w fun e w' => e = .returned (.bool true) ∧ Below w.heap.size w w' := by
  have HAW := Lib.hid (fun W h => awake_any W h)
  obtain ⟨l2, hl2, hx2⟩ := hx
  obtain ⟨v2, e2, hs1, hs2⟩ := pa_both l2 hl2 x hx2
  have HS1 := Lib.hid hs1
  have HS2 := Lib.hid hs2
  unfold ScRet at HS1 HS2
  clear hs1 hs2 hx2
  have HA1 := Lib.hid (fun W => amount_any n W)
  have hb := amt_iff.2 (amF_bd n)
  generalize amF n = n1 at *
  have HF := Lib.hid (fun W (h : Given W) => format_any n1 W h.tab)
  have hl := fmt_ne hb
  generalize fmtF n1 = s at *
  obtain ⟨K, hK, r1, r2, r3, r4⟩ := ret_at at_ s.length (by omega)
  obtain ⟨ys, hys⟩ : ∃ ys, ys = s.set K by_ := ⟨_, rfl⟩
  have hyl : ys.length = s.length := by rw [hys]; simp
  have HP := Lib.hid (fun W (h : Given W) => parse_any ys (by omega) W h.tab h.err)
  have HRP := Lib.hid (fun W => refParse_any ys (by omega) W)
  unfold ScRet at HP HRP
  have HPE : Hid (paE ys = 0 ∨ paE ys = 4) := by show _ ∨ _; unfold paE; split <;> simp
  have HPF := Lib.hid (fun h => pa_fmt (s := ys) h)
  have HYS := Lib.hid hys
  clear hys hb
  generalize paV ys = v1 at *
  generalize paE ys = e1 at *
  rcases hcut with ⟨h100, rfl⟩ | ⟨h100, rfl⟩
  · have F1 : True := trivial
    have F2 : True := trivial
    go_enter Tryd.func7, Tryd.ntmps7
    go_upto_region 11 with (first
      | (go_at_call 9; (refine (HA1.out _).mono ?_; rintro e W1 ⟨rfl, rfl⟩))
      | (go_at_call 15; refine (HF.out _ HG.out).mono ?_; rintro e W1 ⟨rfl, hb1⟩; have HB1 := Lib.hid hb1; have HG1 := Lib.hid (HG.out.below hb1); clear hb1; obtain ⟨c0, Wb, hcv, hbr, hbb, hcc, hsz⟩ := conv_bytes W1 s; have HBR := Lib.hid (hbr.set hK by_); have hcK := hbr.cell hK; have hfK := hbr.frozen hK; have HBS := Lib.hid ((HB1.out.trans (hbb.mono HB1.out.size)).setCell (p := ⟨W1.heap.size, K, none⟩) HB1.out.size (.int .u8 (by_.toNat : Int))); have HRY : Hid (BRow (Wb.setCell ⟨W1.heap.size, K, none⟩ (.int .u8 (by_.toNat : Int))) W1.heap.size ys) := (by have h := HBR.out; rw [← HYS.out] at h; exact h); clear hbr hbb HBR HG1 HB1; have hcv2 := HRY.out.conv c0; rw [hyl] at hcv2)
      | (go_at_call 17; clear F1; refine (HP.out _ (HG.out.below HBS.out)).mono ?_; rintro e W3 ⟨rfl, hb3⟩; have HB3 := Lib.hid (HBS.out.trans (hb3.mono HBS.out.size)); have HR3 := Lib.hid (HRY.out.below hb3); clear hb3 hcv2 hcv hcK hfK HRY HBS; have hcv3 := HR3.out.conv c0; rw [hyl] at hcv3)
      | (go_at_call 18; clear F2; refine (HRP.out _).mono ?_; rintro e W4 ⟨rfl, hb4⟩; have HB4 := Lib.hid (HB3.out.trans (hb4.mono HB3.out.size)); have HR4 := Lib.hid (HR3.out.below hb4); clear hb4 hcv3 HR3 HB3)
      | (go_at_call 17; refine (HS1.out _ (HG.out.below HB4.out)).mono ?_; rintro e W5 ⟨rfl, hb5⟩; have HB5 := Lib.hid (HB4.out.trans (hb5.mono HB4.out.size)); have HR5 := Lib.hid (HR4.out.below hb5); clear hb5 HR4 HB4)
      | (go_at_call 18; refine (HS2.out _).mono ?_; rintro e W6 ⟨rfl, hb6⟩; have HB6 := Lib.hid (HB5.out.trans (hb6.mono HB5.out.size)); have HR6 := Lib.hid (HR5.out.below hb6); clear hb6 HR5 HB5))
    have HST : Hid (BRow W6 W1.heap.size ys) := HR6
    generalize W1.heap.size = G at *
    rcases HPE.out with he | he
    · have HF2 := Lib.hid (fun W (h : Given W) => format_any v1 W h.tab)
      rw [HPF.out he] at HF2
      subst he
      refine wp_region_x 33 (by kernel_rfl) (fun W => BRow W G ys) ?_
      refine wpAnyX_take (i := 0) (v := .int .i64 v1) rfl (by kernel_rfl) (by kernel_rfl) (by kernel_rfl) (by kernel_rfl) (fun _ _ _ h => h) (by first | exact HST7.out | exact HST.out) (Or.inl ⟨by rfl, fun w hS => by go_simp⟩) ?_
      go_simp
      refine wpAnyX_take (i := 1) (v := .int .i64 v1) rfl (by kernel_rfl) (by kernel_rfl) (by kernel_rfl) (by kernel_rfl) (fun _ _ _ h => h) (by first | exact HST7.out | exact HST.out) (Or.inl ⟨by rfl, fun w hS => by go_simp⟩) ?_
      go_simp
      refine wpAnyX_take (i := 2) (v := .bool true) rfl (by kernel_rfl) (by kernel_rfl) (by kernel_rfl) (by kernel_rfl) (fun _ _ _ h => h) (by first | exact HST7.out | exact HST.out) (Or.inl ⟨by rfl, fun w hS => by go_simp⟩) ?_
      go_simp
      refine wpAnyX_take (i := 3) (v := .bool true) rfl (by kernel_rfl) (by kernel_rfl) (by kernel_rfl) (by kernel_rfl) (fun _ _ _ h => h) (by first | exact HST7.out | exact HST.out) (Or.inl ⟨by rfl, fun w hS => by go_simp⟩) ?_
      go_simp
      refine wpAnyX_take (i := 4) (v := .int .i64 0) rfl (by kernel_rfl) (by kernel_rfl) (by kernel_rfl) (by kernel_rfl) (fun _ _ _ h => h) (by first | exact HST7.out | exact HST.out) (Or.inl ⟨by rfl, fun w hS => by go_simp⟩) ?_
      go_simp
      refine wpAnyX_take (i := 5) (v := .int .i64 0) rfl (by kernel_rfl) (by kernel_rfl) (by kernel_rfl) (by kernel_rfl) (fun _ _ _ h => h) (by first | exact HST7.out | exact HST.out) (Or.inl ⟨by rfl, fun w hS => by go_simp⟩) ?_
      go_simp
      refine wpAnyX_take (i := 6) (v := .bool true) rfl (by kernel_rfl) (by kernel_rfl) (by kernel_rfl) (by kernel_rfl) (fun _ _ _ h => h) (by first | exact HST7.out | exact HST.out) (Or.inl ⟨by rfl, fun w hS => by go_simp⟩) ?_
      go_simp
      refine wpAnyX_take (i := 7) (v := .bool true) rfl (by kernel_rfl) (by kernel_rfl) (by kernel_rfl) (by kernel_rfl) (fun _ _ _ h => h) (by first | exact HST7.out | exact HST.out) (Or.inl ⟨by rfl, fun w hS => by go_simp⟩) ?_
      go_simp
      refine wpAnyX_take (i := 8) (v := .bool true) rfl (by kernel_rfl) (by kernel_rfl) (by kernel_rfl) (by kernel_rfl) (fun _ _ _ h => h) (by first | exact HST7.out | exact HST.out) (Or.inl ⟨by rfl, fun w hS => by go_simp⟩) ?_
      go_simp
      refine wpAnyX_take (i := 9) (v := .int .i64 v2) rfl (by kernel_rfl) (by kernel_rfl) (by kernel_rfl) (by kernel_rfl) (fun _ _ _ h => h) (by first | exact HST7.out | exact HST.out) (Or.inl ⟨by rfl, fun w hS => by go_simp⟩) ?_
      go_simp
      refine wpAnyX_take (i := 10) (v := .int .i64 v2) rfl (by kernel_rfl) (by kernel_rfl) (by kernel_rfl) (by kernel_rfl) (fun _ _ _ h => h) (by first | exact HST7.out | exact HST.out) (Or.inl ⟨by rfl, fun w hS => by go_simp⟩) ?_
      go_simp
      refine wpAnyX_take (i := 11) (v := .bool true) rfl (by kernel_rfl) (by kernel_rfl) (by kernel_rfl) (by kernel_rfl) (fun _ _ _ h => h) (by first | exact HST7.out | exact HST.out) (Or.inl ⟨by rfl, fun w hS => by go_simp⟩) ?_
      go_simp
      refine wpAnyX_take (i := 12) (v := .bool true) rfl (by kernel_rfl) (by kernel_rfl) (by kernel_rfl) (by kernel_rfl) (fun _ _ _ h => h) (by first | exact HST7.out | exact HST.out) (Or.inl ⟨by rfl, fun w hS => by go_simp⟩) ?_
      go_simp
      refine wpAnyX_take (i := 13) (v := .bool true) rfl (by kernel_rfl) (by kernel_rfl) (by kernel_rfl) (by kernel_rfl) (fun _ _ _ h => h) (by first | exact HST7.out | exact HST.out) (Or.inl ⟨by rfl, fun w hS => by go_simp⟩) ?_
      go_simp
      refine wpAnyX_take (i := 14) (v := .int .i64 e2) rfl (by kernel_rfl) (by kernel_rfl) (by kernel_rfl) (by kernel_rfl) (fun _ _ _ h => h) (by first | exact HST7.out | exact HST.out) (Or.inl ⟨by rfl, fun w hS => by go_simp⟩) ?_
      go_simp
      refine wpAnyX_take (i := 15) (v := .int .i64 e2) rfl (by kernel_rfl) (by kernel_rfl) (by kernel_rfl) (by kernel_rfl) (fun _ _ _ h => h) (by first | exact HST7.out | exact HST.out) (Or.inl ⟨by rfl, fun w hS => by go_simp⟩) ?_
      go_simp
      refine wpAnyX_take (i := 16) (v := .bool true) rfl (by kernel_rfl) (by kernel_rfl) (by kernel_rfl) (by kernel_rfl) (fun _ _ _ h => h) (by first | exact HST7.out | exact HST.out) (Or.inl ⟨by rfl, fun w hS => by go_simp⟩) ?_
      go_simp
      refine wpAnyX_take (i := 17) (v := .bool true) rfl (by kernel_rfl) (by kernel_rfl) (by kernel_rfl) (by kernel_rfl) (fun _ _ _ h => h) (by first | exact HST7.out | exact HST.out) (Or.inl ⟨by rfl, fun w hS => by go_simp⟩) ?_
      go_simp
      refine wpAnyX_take (i := 18) (v := .bool true) rfl (by kernel_rfl) (by kernel_rfl) (by kernel_rfl) (by kernel_rfl) (fun _ _ _ h => h) (by first | exact HST7.out | exact HST.out) (Or.inl ⟨by rfl, fun w hS => by go_simp⟩) ?_
      go_simp
      refine wpAnyX_take (i := 19) (v := .int .i64 0) rfl (by kernel_rfl) (by kernel_rfl) (by kernel_rfl) (by kernel_rfl) (fun _ _ _ h => h) (by first | exact HST7.out | exact HST.out) (Or.inl ⟨by rfl, fun w hS => by go_simp⟩) ?_
      go_simp
      refine wpAnyX_take (i := 20) (v := .bool false) rfl (by kernel_rfl) (by kernel_rfl) (by kernel_rfl) (by kernel_rfl) (fun _ _ _ h => h) (by first | exact HST7.out | exact HST.out) (Or.inl ⟨by rfl, fun w hS => by go_simp⟩) ?_
      go_simp
      refine wpAnyX_take (i := 21) (v := .bool false) rfl (by kernel_rfl) (by kernel_rfl) (by kernel_rfl) (by kernel_rfl) (fun _ _ _ h => h) (by first | exact HST7.out | exact HST.out) (Or.inl ⟨by rfl, fun w hS => by go_simp⟩) ?_
      go_simp
      refine wpAnyX_take (i := 22) (v := .int .i64 v1) rfl (by kernel_rfl) (by kernel_rfl) (by kernel_rfl) (by kernel_rfl) (fun _ _ _ h => h) (by first | exact HST7.out | exact HST.out) (Or.inl ⟨by rfl, fun w hS => by go_simp⟩) ?_
      go_simp
      refine wpAnyX_take (i := 24) (v := .slice (some ⟨G, 0, none⟩) s.length c0) rfl (by kernel_rfl) (by kernel_rfl) (by kernel_rfl) (by kernel_rfl) (fun _ _ _ h => h) (by first | exact HST7.out | exact HST.out) (Or.inl ⟨by rfl, fun w hS => by go_simp⟩) ?_
      go_simp
      refine wpAnyX_take (i := 25) (v := .string ⟨ys.toArray⟩) rfl (by kernel_rfl) (by kernel_rfl) (by kernel_rfl) (by kernel_rfl) (fun _ _ _ h => h) (by first | exact HST7.out | exact HST.out) (Or.inl ⟨by rfl, fun w hS => by (have hcz := BRow.conv hS c0; rw [hyl] at hcz; go_simp)⟩) ?_
      go_simp
      refine wpAnyX_one (i := 23) (by kernel_rfl) rfl (fun K hK => ?_)
      go_simp
      go_wp2_with (go_at_call 15; refine (HF2.out _ (HG.out.below (Below.drew HB6.out))).mono ?_; rintro e W7 ⟨rfl, hb7⟩; have HST7 : Hid (BRow W7 G ys) := BRow.below (w := World.drew W6) HST.out hb7; have HB7 : Hid (Below w.heap.size w W7) := (Below.drew HB6.out).trans (hb7.mono HB6.out.size); clear hb7)
      refine hK.out _ _ (fun _ => HST7.out) ?_
      clear hK K
      refine wpAnyX_take (i := 26) (v := .bool true) rfl (by kernel_rfl) (by kernel_rfl) (by kernel_rfl) (by kernel_rfl) (fun _ _ _ h => h) (by first | exact HST7.out | exact HST.out) (Or.inl ⟨by rfl, fun w hS => by go_simp⟩) ?_
      go_simp
      refine wpAnyX_take (i := 27) (v := .bool true) rfl (by kernel_rfl) (by kernel_rfl) (by kernel_rfl) (by kernel_rfl) (fun _ _ _ h => h) (by first | exact HST7.out | exact HST.out) (Or.inl ⟨by rfl, fun w hS => by go_simp⟩) ?_
      go_simp
      refine wpAnyX_take (i := 28) (v := .bool true) rfl (by kernel_rfl) (by kernel_rfl) (by kernel_rfl) (by kernel_rfl) (fun _ _ _ h => h) (by first | exact HST7.out | exact HST.out) (Or.inl ⟨by rfl, fun w hS => by go_simp⟩) ?_
      go_simp
      refine wpAnyX_take (i := 29) (v := .bool true) rfl (by kernel_rfl) (by kernel_rfl) (by kernel_rfl) (by kernel_rfl) (fun _ _ _ h => h) (by first | exact HST7.out | exact HST.out) (Or.inl ⟨by rfl, fun w hS => by go_simp⟩) ?_
      go_simp
      refine wpAnyX_one (i := 30) (by kernel_rfl) rfl (fun K hK => ?_)
      go_simp
      go_wp2_with (go_at_call 12; refine (HAW.out _ (HG.out.below HB7.out)).mono ?_; rintro e W8 ⟨rfl, hb8⟩; have HST8 : Hid (BRow W8 G ys) := BRow.below HST7.out hb8; have HB8 : Hid (Below w.heap.size w W8) := HB7.out.trans (hb8.mono HB7.out.size); clear hb8)
      refine hK.out _ _ (fun _ => HST8.out) ?_
      clear hK K
      refine wpAnyX_take (i := 31) (v := .bool true) rfl (by kernel_rfl) (by kernel_rfl) (by kernel_rfl) (by kernel_rfl) (fun _ _ _ h => h) HST8.out (Or.inl ⟨by rfl, fun w hS => by go_simp⟩) ?_
      go_simp
      refine wpAnyX_take (i := 32) (v := .bool true) rfl (by kernel_rfl) (by kernel_rfl) (by kernel_rfl) (by kernel_rfl) (fun _ _ _ h => h) HST8.out (Or.inl ⟨by rfl, fun w hS => by go_simp⟩) ?_
      go_simp
      refine wpAnyX_done (by kernel_rfl) ?_
      go_wp2
      go_ret
      exact ⟨rfl, HB8.out⟩
    · subst he
      refine wp_region_x 33 (by kernel_rfl) (fun W => BRow W G ys) ?_
      refine wpAnyX_take (i := 0) (v := .int .i64 v1) rfl (by kernel_rfl) (by kernel_rfl) (by kernel_rfl) (by kernel_rfl) (fun _ _ _ h => h) (by first | exact HST7.out | exact HST.out) (Or.inl ⟨by rfl, fun w hS => by go_simp⟩) ?_
      go_simp
      refine wpAnyX_take (i := 1) (v := .int .i64 v1) rfl (by kernel_rfl) (by kernel_rfl) (by kernel_rfl) (by kernel_rfl) (fun _ _ _ h => h) (by first | exact HST7.out | exact HST.out) (Or.inl ⟨by rfl, fun w hS => by go_simp⟩) ?_
      go_simp
      refine wpAnyX_take (i := 2) (v := .bool true) rfl (by kernel_rfl) (by kernel_rfl) (by kernel_rfl) (by kernel_rfl) (fun _ _ _ h => h) (by first | exact HST7.out | exact HST.out) (Or.inl ⟨by rfl, fun w hS => by go_simp⟩) ?_
      go_simp
      refine wpAnyX_take (i := 3) (v := .bool true) rfl (by kernel_rfl) (by kernel_rfl) (by kernel_rfl) (by kernel_rfl) (fun _ _ _ h => h) (by first | exact HST7.out | exact HST.out) (Or.inl ⟨by rfl, fun w hS => by go_simp⟩) ?_
      go_simp
      refine wpAnyX_take (i := 4) (v := .int .i64 4) rfl (by kernel_rfl) (by kernel_rfl) (by kernel_rfl) (by kernel_rfl) (fun _ _ _ h => h) (by first | exact HST7.out | exact HST.out) (Or.inl ⟨by rfl, fun w hS => by go_simp⟩) ?_
      go_simp
      refine wpAnyX_take (i := 5) (v := .int .i64 4) rfl (by kernel_rfl) (by kernel_rfl) (by kernel_rfl) (by kernel_rfl) (fun _ _ _ h => h) (by first | exact HST7.out | exact HST.out) (Or.inl ⟨by rfl, fun w hS => by go_simp⟩) ?_
      go_simp
      refine wpAnyX_take (i := 6) (v := .bool true) rfl (by kernel_rfl) (by kernel_rfl) (by kernel_rfl) (by kernel_rfl) (fun _ _ _ h => h) (by first | exact HST7.out | exact HST.out) (Or.inl ⟨by rfl, fun w hS => by go_simp⟩) ?_
      go_simp
      refine wpAnyX_take (i := 7) (v := .bool true) rfl (by kernel_rfl) (by kernel_rfl) (by kernel_rfl) (by kernel_rfl) (fun _ _ _ h => h) (by first | exact HST7.out | exact HST.out) (Or.inl ⟨by rfl, fun w hS => by go_simp⟩) ?_
      go_simp
      refine wpAnyX_take (i := 8) (v := .bool true) rfl (by kernel_rfl) (by kernel_rfl) (by kernel_rfl) (by kernel_rfl) (fun _ _ _ h => h) (by first | exact HST7.out | exact HST.out) (Or.inl ⟨by rfl, fun w hS => by go_simp⟩) ?_
      go_simp
      refine wpAnyX_take (i := 9) (v := .int .i64 v2) rfl (by kernel_rfl) (by kernel_rfl) (by kernel_rfl) (by kernel_rfl) (fun _ _ _ h => h) (by first | exact HST7.out | exact HST.out) (Or.inl ⟨by rfl, fun w hS => by go_simp⟩) ?_
      go_simp
      refine wpAnyX_take (i := 10) (v := .int .i64 v2) rfl (by kernel_rfl) (by kernel_rfl) (by kernel_rfl) (by kernel_rfl) (fun _ _ _ h => h) (by first | exact HST7.out | exact HST.out) (Or.inl ⟨by rfl, fun w hS => by go_simp⟩) ?_
      go_simp
      refine wpAnyX_take (i := 11) (v := .bool true) rfl (by kernel_rfl) (by kernel_rfl) (by kernel_rfl) (by kernel_rfl) (fun _ _ _ h => h) (by first | exact HST7.out | exact HST.out) (Or.inl ⟨by rfl, fun w hS => by go_simp⟩) ?_
      go_simp
      refine wpAnyX_take (i := 12) (v := .bool true) rfl (by kernel_rfl) (by kernel_rfl) (by kernel_rfl) (by kernel_rfl) (fun _ _ _ h => h) (by first | exact HST7.out | exact HST.out) (Or.inl ⟨by rfl, fun w hS => by go_simp⟩) ?_
      go_simp
      refine wpAnyX_take (i := 13) (v := .bool true) rfl (by kernel_rfl) (by kernel_rfl) (by kernel_rfl) (by kernel_rfl) (fun _ _ _ h => h) (by first | exact HST7.out | exact HST.out) (Or.inl ⟨by rfl, fun w hS => by go_simp⟩) ?_
      go_simp
      refine wpAnyX_take (i := 14) (v := .int .i64 e2) rfl (by kernel_rfl) (by kernel_rfl) (by kernel_rfl) (by kernel_rfl) (fun _ _ _ h => h) (by first | exact HST7.out | exact HST.out) (Or.inl ⟨by rfl, fun w hS => by go_simp⟩) ?_
      go_simp
      refine wpAnyX_take (i := 15) (v := .int .i64 e2) rfl (by kernel_rfl) (by kernel_rfl) (by kernel_rfl) (by kernel_rfl) (fun _ _ _ h => h) (by first | exact HST7.out | exact HST.out) (Or.inl ⟨by rfl, fun w hS => by go_simp⟩) ?_
      go_simp
      refine wpAnyX_take (i := 16) (v := .bool true) rfl (by kernel_rfl) (by kernel_rfl) (by kernel_rfl) (by kernel_rfl) (fun _ _ _ h => h) (by first | exact HST7.out | exact HST.out) (Or.inl ⟨by rfl, fun w hS => by go_simp⟩) ?_
      go_simp
      refine wpAnyX_take (i := 17) (v := .bool true) rfl (by kernel_rfl) (by kernel_rfl) (by kernel_rfl) (by kernel_rfl) (fun _ _ _ h => h) (by first | exact HST7.out | exact HST.out) (Or.inl ⟨by rfl, fun w hS => by go_simp⟩) ?_
      go_simp
      refine wpAnyX_take (i := 18) (v := .bool true) rfl (by kernel_rfl) (by kernel_rfl) (by kernel_rfl) (by kernel_rfl) (fun _ _ _ h => h) (by first | exact HST7.out | exact HST.out) (Or.inl ⟨by rfl, fun w hS => by go_simp⟩) ?_
      go_simp
      refine wpAnyX_take (i := 19) (v := .int .i64 4) rfl (by kernel_rfl) (by kernel_rfl) (by kernel_rfl) (by kernel_rfl) (fun _ _ _ h => h) (by first | exact HST7.out | exact HST.out) (Or.inl ⟨by rfl, fun w hS => by go_simp⟩) ?_
      go_simp
      refine wpAnyX_take (i := 20) (v := .bool true) rfl (by kernel_rfl) (by kernel_rfl) (by kernel_rfl) (by kernel_rfl) (fun _ _ _ h => h) (by first | exact HST7.out | exact HST.out) (Or.inl ⟨by rfl, fun w hS => by go_simp⟩) ?_
      go_simp
      refine wpAnyX_take (i := 21) (v := .bool true) rfl (by kernel_rfl) (by kernel_rfl) (by kernel_rfl) (by kernel_rfl) (fun _ _ _ h => h) (by first | exact HST7.out | exact HST.out) (Or.inl ⟨by rfl, fun w hS => by go_simp⟩) ?_
      go_simp
      refine wpAnyX_take (i := 22) (v := undef) rfl (by kernel_rfl) (by kernel_rfl) (by kernel_rfl) (by kernel_rfl) (fun _ _ _ h => h) (by first | exact HST7.out | exact HST.out) (Or.inr ⟨by rfl, rfl⟩) ?_
      go_simp
      refine wpAnyX_take (i := 23) (v := undef) rfl (by kernel_rfl) (by kernel_rfl) (by kernel_rfl) (by kernel_rfl) (fun _ _ _ h => h) (by first | exact HST7.out | exact HST.out) (Or.inr ⟨by rfl, rfl⟩) ?_
      go_simp
      refine wpAnyX_take (i := 24) (v := undef) rfl (by kernel_rfl) (by kernel_rfl) (by kernel_rfl) (by kernel_rfl) (fun _ _ _ h => h) (by first | exact HST7.out | exact HST.out) (Or.inr ⟨by rfl, rfl⟩) ?_
      go_simp
      refine wpAnyX_take (i := 25) (v := undef) rfl (by kernel_rfl) (by kernel_rfl) (by kernel_rfl) (by kernel_rfl) (fun _ _ _ h => h) (by first | exact HST7.out | exact HST.out) (Or.inr ⟨by rfl, rfl⟩) ?_
      go_simp
      refine wpAnyX_take (i := 26) (v := undef) rfl (by kernel_rfl) (by kernel_rfl) (by kernel_rfl) (by kernel_rfl) (fun _ _ _ h => h) (by first | exact HST7.out | exact HST.out) (Or.inr ⟨by rfl, rfl⟩) ?_
      go_simp
      refine wpAnyX_take (i := 27) (v := .bool true) rfl (by kernel_rfl) (by kernel_rfl) (by kernel_rfl) (by kernel_rfl) (fun _ _ _ h => h) (by first | exact HST7.out | exact HST.out) (Or.inl ⟨by rfl, fun w hS => by go_simp⟩) ?_
      go_simp
      refine wpAnyX_take (i := 28) (v := .bool true) rfl (by kernel_rfl) (by kernel_rfl) (by kernel_rfl) (by kernel_rfl) (fun _ _ _ h => h) (by first | exact HST7.out | exact HST.out) (Or.inl ⟨by rfl, fun w hS => by go_simp⟩) ?_
      go_simp
      refine wpAnyX_take (i := 29) (v := .bool true) rfl (by kernel_rfl) (by kernel_rfl) (by kernel_rfl) (by kernel_rfl) (fun _ _ _ h => h) (by first | exact HST7.out | exact HST.out) (Or.inl ⟨by rfl, fun w hS => by go_simp⟩) ?_
      go_simp
      refine wpAnyX_one (i := 30) (by kernel_rfl) rfl (fun K hK => ?_)
      go_simp
      go_wp2_with (go_at_call 12; refine (HAW.out _ (HG.out.below (Below.drew HB6.out))).mono ?_; rintro e W8 ⟨rfl, hb8⟩; have HST8 : Hid (BRow W8 G ys) := BRow.below (w := World.drew W6) HST.out hb8; have HB8 : Hid (Below w.heap.size w W8) := (Below.drew HB6.out).trans (hb8.mono HB6.out.size); clear hb8)
      refine hK.out _ _ (fun _ => HST8.out) ?_
      clear hK K
      refine wpAnyX_take (i := 31) (v := .bool true) rfl (by kernel_rfl) (by kernel_rfl) (by kernel_rfl) (by kernel_rfl) (fun _ _ _ h => h) HST8.out (Or.inl ⟨by rfl, fun w hS => by go_simp⟩) ?_
      go_simp
      refine wpAnyX_take (i := 32) (v := .bool true) rfl (by kernel_rfl) (by kernel_rfl) (by kernel_rfl) (by kernel_rfl) (fun _ _ _ h => h) HST8.out (Or.inl ⟨by rfl, fun w hS => by go_simp⟩) ?_
      go_simp
      refine wpAnyX_done (by kernel_rfl) ?_
      go_wp2
      go_ret
      exact ⟨rfl, HB8.out⟩
  · have F1 : True := trivial
    have F2 : True := trivial
    go_enter Tryd.func7, Tryd.ntmps7
    go_upto_region 11 with (first
      | (go_at_call 9; (refine (HA1.out _).mono ?_; rintro e W1 ⟨rfl, rfl⟩))
      | (go_at_call 15; refine (HF.out _ HG.out).mono ?_; rintro e W1 ⟨rfl, hb1⟩; have HB1 := Lib.hid hb1; have HG1 := Lib.hid (HG.out.below hb1); clear hb1; obtain ⟨c0, Wb, hcv, hbr, hbb, hcc, hsz⟩ := conv_bytes W1 s; have HBR := Lib.hid (hbr.set hK by_); have hcK := hbr.cell hK; have hfK := hbr.frozen hK; have HBS := Lib.hid ((HB1.out.trans (hbb.mono HB1.out.size)).setCell (p := ⟨W1.heap.size, K, none⟩) HB1.out.size (.int .u8 (by_.toNat : Int))); have HRY : Hid (BRow (Wb.setCell ⟨W1.heap.size, K, none⟩ (.int .u8 (by_.toNat : Int))) W1.heap.size ys) := (by have h := HBR.out; rw [← HYS.out] at h; exact h); clear hbr hbb HBR HG1 HB1; have hcv2 := HRY.out.conv c0; rw [hyl] at hcv2)
      | (go_at_call 17; clear F1; refine (HP.out _ (HG.out.below HBS.out)).mono ?_; rintro e W3 ⟨rfl, hb3⟩; have HB3 := Lib.hid (HBS.out.trans (hb3.mono HBS.out.size)); have HR3 := Lib.hid (HRY.out.below hb3); clear hb3 hcv2 hcv hcK hfK HRY HBS; have hcv3 := HR3.out.conv c0; rw [hyl] at hcv3)
      | (go_at_call 18; clear F2; refine (HRP.out _).mono ?_; rintro e W4 ⟨rfl, hb4⟩; have HB4 := Lib.hid (HB3.out.trans (hb4.mono HB3.out.size)); have HR4 := Lib.hid (HR3.out.below hb4); clear hb4 hcv3 HR3 HB3)
      | (go_at_call 17; refine (HS1.out _ (HG.out.below HB4.out)).mono ?_; rintro e W5 ⟨rfl, hb5⟩; have HB5 := Lib.hid (HB4.out.trans (hb5.mono HB4.out.size)); have HR5 := Lib.hid (HR4.out.below hb5); clear hb5 HR4 HB4)
      | (go_at_call 18; refine (HS2.out _).mono ?_; rintro e W6 ⟨rfl, hb6⟩; have HB6 := Lib.hid (HB5.out.trans (hb6.mono HB5.out.size)); have HR6 := Lib.hid (HR5.out.below hb6); clear hb6 HR5 HB5))
    have HST : Hid (BRow W6 W1.heap.size ys) := HR6
    generalize W1.heap.size = G at *
    rcases HPE.out with he | he
    · have HF2 := Lib.hid (fun W (h : Given W) => format_any v1 W h.tab)
      rw [HPF.out he] at HF2
      subst he
      refine wp_region_x 33 (by kernel_rfl) (fun W => BRow W G ys) ?_
      refine wpAnyX_take (i := 0) (v := .int .i64 v1) rfl (by kernel_rfl) (by kernel_rfl) (by kernel_rfl) (by kernel_rfl) (fun _ _ _ h => h) (by first | exact HST7.out | exact HST.out) (Or.inl ⟨by rfl, fun w hS => by go_simp⟩) ?_
      go_simp
      refine wpAnyX_take (i := 1) (v := .int .i64 v1) rfl (by kernel_rfl) (by kernel_rfl) (by kernel_rfl) (by kernel_rfl) (fun _ _ _ h => h) (by first | exact HST7.out | exact HST.out) (Or.inl ⟨by rfl, fun w hS => by go_simp⟩) ?_
      go_simp
      refine wpAnyX_take (i := 2) (v := .bool true) rfl (by kernel_rfl) (by kernel_rfl) (by kernel_rfl) (by kernel_rfl) (fun _ _ _ h => h) (by first | exact HST7.out | exact HST.out) (Or.inl ⟨by rfl, fun w hS => by go_simp⟩) ?_
      go_simp
      refine wpAnyX_take (i := 3) (v := .bool true) rfl (by kernel_rfl) (by kernel_rfl) (by kernel_rfl) (by kernel_rfl) (fun _ _ _ h => h) (by first | exact HST7.out | exact HST.out) (Or.inl ⟨by rfl, fun w hS => by go_simp⟩) ?_
      go_simp
      refine wpAnyX_take (i := 4) (v := .int .i64 0) rfl (by kernel_rfl) (by kernel_rfl) (by kernel_rfl) (by kernel_rfl) (fun _ _ _ h => h) (by first | exact HST7.out | exact HST.out) (Or.inl ⟨by rfl, fun w hS => by go_simp⟩) ?_
      go_simp
      refine wpAnyX_take (i := 5) (v := .int .i64 0) rfl (by kernel_rfl) (by kernel_rfl) (by kernel_rfl) (by kernel_rfl) (fun _ _ _ h => h) (by first | exact HST7.out | exact HST.out) (Or.inl ⟨by rfl, fun w hS => by go_simp⟩) ?_
      go_simp
      refine wpAnyX_take (i := 6) (v := .bool true) rfl (by kernel_rfl) (by kernel_rfl) (by kernel_rfl) (by kernel_rfl) (fun _ _ _ h => h) (by first | exact HST7.out | exact HST.out) (Or.inl ⟨by rfl, fun w hS => by go_simp⟩) ?_
      go_simp
      refine wpAnyX_take (i := 7) (v := .bool true) rfl (by kernel_rfl) (by kernel_rfl) (by kernel_rfl) (by kernel_rfl) (fun _ _ _ h => h) (by first | exact HST7.out | exact HST.out) (Or.inl ⟨by rfl, fun w hS => by go_simp⟩) ?_
      go_simp
      refine wpAnyX_take (i := 8) (v := .bool true) rfl (by kernel_rfl) (by kernel_rfl) (by kernel_rfl) (by kernel_rfl) (fun _ _ _ h => h) (by first | exact HST7.out | exact HST.out) (Or.inl ⟨by rfl, fun w hS => by go_simp⟩) ?_
      go_simp
      refine wpAnyX_take (i := 9) (v := .int .i64 v2) rfl (by kernel_rfl) (by kernel_rfl) (by kernel_rfl) (by kernel_rfl) (fun _ _ _ h => h) (by first | exact HST7.out | exact HST.out) (Or.inl ⟨by rfl, fun w hS => by go_simp⟩) ?_
      go_simp
      refine wpAnyX_take (i := 10) (v := .int .i64 v2) rfl (by kernel_rfl) (by kernel_rfl) (by kernel_rfl) (by kernel_rfl) (fun _ _ _ h => h) (by first | exact HST7.out | exact HST.out) (Or.inl ⟨by rfl, fun w hS => by go_simp⟩) ?_
      go_simp
      refine wpAnyX_take (i := 11) (v := .bool true) rfl (by kernel_rfl) (by kernel_rfl) (by kernel_rfl) (by kernel_rfl) (fun _ _ _ h => h) (by first | exact HST7.out | exact HST.out) (Or.inl ⟨by rfl, fun w hS => by go_simp⟩) ?_
      go_simp
      refine wpAnyX_take (i := 12) (v := .bool true) rfl (by kernel_rfl) (by kernel_rfl) (by kernel_rfl) (by kernel_rfl) (fun _ _ _ h => h) (by first | exact HST7.out | exact HST.out) (Or.inl ⟨by rfl, fun w hS => by go_simp⟩) ?_
      go_simp
      refine wpAnyX_take (i := 13) (v := .bool true) rfl (by kernel_rfl) (by kernel_rfl) (by kernel_rfl) (by kernel_rfl) (fun _ _ _ h => h) (by first | exact HST7.out | exact HST.out) (Or.inl ⟨by rfl, fun w hS => by go_simp⟩) ?_
      go_simp
      refine wpAnyX_take (i := 14) (v := .int .i64 e2) rfl (by kernel_rfl) (by kernel_rfl) (by kernel_rfl) (by kernel_rfl) (fun _ _ _ h => h) (by first | exact HST7.out | exact HST.out) (Or.inl ⟨by rfl, fun w hS => by go_simp⟩) ?_
      go_simp
      refine wpAnyX_take (i := 15) (v := .int .i64 e2) rfl (by kernel_rfl) (by kernel_rfl) (by kernel_rfl) (by kernel_rfl) (fun _ _ _ h => h) (by first | exact HST7.out | exact HST.out) (Or.inl ⟨by rfl, fun w hS => by go_simp⟩) ?_
      go_simp
      refine wpAnyX_take (i := 16) (v := .bool true) rfl (by kernel_rfl) (by kernel_rfl) (by kernel_rfl) (by kernel_rfl) (fun _ _ _ h => h) (by first | exact HST7.out | exact HST.out) (Or.inl ⟨by rfl, fun w hS => by go_simp⟩) ?_
      go_simp
      refine wpAnyX_take (i := 17) (v := .bool true) rfl (by kernel_rfl) (by kernel_rfl) (by kernel_rfl) (by kernel_rfl) (fun _ _ _ h => h) (by first | exact HST7.out | exact HST.out) (Or.inl ⟨by rfl, fun w hS => by go_simp⟩) ?_
      go_simp
      refine wpAnyX_take (i := 18) (v := .bool true) rfl (by kernel_rfl) (by kernel_rfl) (by kernel_rfl) (by kernel_rfl) (fun _ _ _ h => h) (by first | exact HST7.out | exact HST.out) (Or.inl ⟨by rfl, fun w hS => by go_simp⟩) ?_
      go_simp
      refine wpAnyX_take (i := 19) (v := .int .i64 0) rfl (by kernel_rfl) (by kernel_rfl) (by kernel_rfl) (by kernel_rfl) (fun _ _ _ h => h) (by first | exact HST7.out | exact HST.out) (Or.inl ⟨by rfl, fun w hS => by go_simp⟩) ?_
      go_simp
      refine wpAnyX_take (i := 20) (v := .bool false) rfl (by kernel_rfl) (by kernel_rfl) (by kernel_rfl) (by kernel_rfl) (fun _ _ _ h => h) (by first | exact HST7.out | exact HST.out) (Or.inl ⟨by rfl, fun w hS => by go_simp⟩) ?_
      go_simp
      refine wpAnyX_take (i := 21) (v := .bool false) rfl (by kernel_rfl) (by kernel_rfl) (by kernel_rfl) (by kernel_rfl) (fun _ _ _ h => h) (by first | exact HST7.out | exact HST.out) (Or.inl ⟨by rfl, fun w hS => by go_simp⟩) ?_
      go_simp
      refine wpAnyX_take (i := 22) (v := .int .i64 v1) rfl (by kernel_rfl) (by kernel_rfl) (by kernel_rfl) (by kernel_rfl) (fun _ _ _ h => h) (by first | exact HST7.out | exact HST.out) (Or.inl ⟨by rfl, fun w hS => by go_simp⟩) ?_
      go_simp
      refine wpAnyX_take (i := 24) (v := .slice (some ⟨G, 0, none⟩) s.length c0) rfl (by kernel_rfl) (by kernel_rfl) (by kernel_rfl) (by kernel_rfl) (fun _ _ _ h => h) (by first | exact HST7.out | exact HST.out) (Or.inl ⟨by rfl, fun w hS => by go_simp⟩) ?_
      go_simp
      refine wpAnyX_take (i := 25) (v := .string ⟨ys.toArray⟩) rfl (by kernel_rfl) (by kernel_rfl) (by kernel_rfl) (by kernel_rfl) (fun _ _ _ h => h) (by first | exact HST7.out | exact HST.out) (Or.inl ⟨by rfl, fun w hS => by (have hcz := BRow.conv hS c0; rw [hyl] at hcz; go_simp)⟩) ?_
      go_simp
      refine wpAnyX_one (i := 23) (by kernel_rfl) rfl (fun K hK => ?_)
      go_simp
      go_wp2_with (go_at_call 15; refine (HF2.out _ (HG.out.below (Below.drew HB6.out))).mono ?_; rintro e W7 ⟨rfl, hb7⟩; have HST7 : Hid (BRow W7 G ys) := BRow.below (w := World.drew W6) HST.out hb7; have HB7 : Hid (Below w.heap.size w W7) := (Below.drew HB6.out).trans (hb7.mono HB6.out.size); clear hb7)
      refine hK.out _ _ (fun _ => HST7.out) ?_
      clear hK K
      refine wpAnyX_take (i := 26) (v := .bool true) rfl (by kernel_rfl) (by kernel_rfl) (by kernel_rfl) (by kernel_rfl) (fun _ _ _ h => h) (by first | exact HST7.out | exact HST.out) (Or.inl ⟨by rfl, fun w hS => by go_simp⟩) ?_
      go_simp
      refine wpAnyX_take (i := 27) (v := .bool true) rfl (by kernel_rfl) (by kernel_rfl) (by kernel_rfl) (by kernel_rfl) (fun _ _ _ h => h) (by first | exact HST7.out | exact HST.out) (Or.inl ⟨by rfl, fun w hS => by go_simp⟩) ?_
      go_simp
      refine wpAnyX_take (i := 28) (v := .bool true) rfl (by kernel_rfl) (by kernel_rfl) (by kernel_rfl) (by kernel_rfl) (fun _ _ _ h => h) (by first | exact HST7.out | exact HST.out) (Or.inl ⟨by rfl, fun w hS => by go_simp⟩) ?_
      go_simp
      refine wpAnyX_take (i := 29) (v := .bool true) rfl (by kernel_rfl) (by kernel_rfl) (by kernel_rfl) (by kernel_rfl) (fun _ _ _ h => h) (by first | exact HST7.out | exact HST.out) (Or.inl ⟨by rfl, fun w hS => by go_simp⟩) ?_
      go_simp
      refine wpAnyX_one (i := 30) (by kernel_rfl) rfl (fun K hK => ?_)
      go_simp
      go_wp2_with (go_at_call 12; refine (HAW.out _ (HG.out.below HB7.out)).mono ?_; rintro e W8 ⟨rfl, hb8⟩; have HST8 : Hid (BRow W8 G ys) := BRow.below HST7.out hb8; have HB8 : Hid (Below w.heap.size w W8) := HB7.out.trans (hb8.mono HB7.out.size); clear hb8)
      refine hK.out _ _ (fun _ => HST8.out) ?_
      clear hK K
      refine wpAnyX_take (i := 31) (v := .bool true) rfl (by kernel_rfl) (by kernel_rfl) (by kernel_rfl) (by kernel_rfl) (fun _ _ _ h => h) HST8.out (Or.inl ⟨by rfl, fun w hS => by go_simp⟩) ?_
      go_simp
      refine wpAnyX_take (i := 32) (v := .bool true) rfl (by kernel_rfl) (by kernel_rfl) (by kernel_rfl) (by kernel_rfl) (fun _ _ _ h => h) HST8.out (Or.inl ⟨by rfl, fun w hS => by go_simp⟩) ?_
      go_simp
      refine wpAnyX_done (by kernel_rfl) ?_
      go_wp2
      go_ret
      exact ⟨rfl, HB8.out⟩
    · subst he
      refine wp_region_x 33 (by kernel_rfl) (fun W => BRow W G ys) ?_
      refine wpAnyX_take (i := 0) (v := .int .i64 v1) rfl (by kernel_rfl) (by kernel_rfl) (by kernel_rfl) (by kernel_rfl) (fun _ _ _ h => h) (by first | exact HST7.out | exact HST.out) (Or.inl ⟨by rfl, fun w hS => by go_simp⟩) ?_
      go_simp
      refine wpAnyX_take (i := 1) (v := .int .i64 v1) rfl (by kernel_rfl) (by kernel_rfl) (by kernel_rfl) (by kernel_rfl) (fun _ _ _ h => h) (by first | exact HST7.out | exact HST.out) (Or.inl ⟨by rfl, fun w hS => by go_simp⟩) ?_
      go_simp
      refine wpAnyX_take (i := 2) (v := .bool true) rfl (by kernel_rfl) (by kernel_rfl) (by kernel_rfl) (by kernel_rfl) (fun _ _ _ h => h) (by first | exact HST7.out | exact HST.out) (Or.inl ⟨by rfl, fun w hS => by go_simp⟩) ?_
      go_simp
      refine wpAnyX_take (i := 3) (v := .bool true) rfl (by kernel_rfl) (by kernel_rfl) (by kernel_rfl) (by kernel_rfl) (fun _ _ _ h => h) (by first | exact HST7.out | exact HST.out) (Or.inl ⟨by rfl, fun w hS => by go_simp⟩) ?_
      go_simp
      refine wpAnyX_take (i := 4) (v := .int .i64 4) rfl (by kernel_rfl) (by kernel_rfl) (by kernel_rfl) (by kernel_rfl) (fun _ _ _ h => h) (by first | exact HST7.out | exact HST.out) (Or.inl ⟨by rfl, fun w hS => by go_simp⟩) ?_
      go_simp
      refine wpAnyX_take (i := 5) (v := .int .i64 4) rfl (by kernel_rfl) (by kernel_rfl) (by kernel_rfl) (by kernel_rfl) (fun _ _ _ h => h) (by first | exact HST7.out | exact HST.out) (Or.inl ⟨by rfl, fun w hS => by go_simp⟩) ?_
      go_simp
      refine wpAnyX_take (i := 6) (v := .bool true) rfl (by kernel_rfl) (by kernel_rfl) (by kernel_rfl) (by kernel_rfl) (fun _ _ _ h => h) (by first | exact HST7.out | exact HST.out) (Or.inl ⟨by rfl, fun w hS => by go_simp⟩) ?_
      go_simp
      refine wpAnyX_take (i := 7) (v := .bool true) rfl (by kernel_rfl) (by kernel_rfl) (by kernel_rfl) (by kernel_rfl) (fun _ _ _ h => h) (by first | exact HST7.out | exact HST.out) (Or.inl ⟨by rfl, fun w hS => by go_simp⟩) ?_
      go_simp
      refine wpAnyX_take (i := 8) (v := .bool true) rfl (by kernel_rfl) (by kernel_rfl) (by kernel_rfl) (by kernel_rfl) (fun _ _ _ h => h) (by first | exact HST7.out | exact HST.out) (Or.inl ⟨by rfl, fun w hS => by go_simp⟩) ?_
      go_simp
      refine wpAnyX_take (i := 9) (v := .int .i64 v2) rfl (by kernel_rfl) (by kernel_rfl) (by kernel_rfl) (by kernel_rfl) (fun _ _ _ h => h) (by first | exact HST7.out | exact HST.out) (Or.inl ⟨by rfl, fun w hS => by go_simp⟩) ?_
      go_simp
      refine wpAnyX_take (i := 10) (v := .int .i64 v2) rfl (by kernel_rfl) (by kernel_rfl) (by kernel_rfl) (by kernel_rfl) (fun _ _ _ h => h) (by first | exact HST7.out | exact HST.out) (Or.inl ⟨by rfl, fun w hS => by go_simp⟩) ?_
      go_simp
      refine wpAnyX_take (i := 11) (v := .bool true) rfl (by kernel_rfl) (by kernel_rfl) (by kernel_rfl) (by kernel_rfl) (fun _ _ _ h => h) (by first | exact HST7.out | exact HST.out) (Or.inl ⟨by rfl, fun w hS => by go_simp⟩) ?_
      go_simp
      refine wpAnyX_take (i := 12) (v := .bool true) rfl (by kernel_rfl) (by kernel_rfl) (by kernel_rfl) (by kernel_rfl) (fun _ _ _ h => h) (by first | exact HST7.out | exact HST.out) (Or.inl ⟨by rfl, fun w hS => by go_simp⟩) ?_
      go_simp
      refine wpAnyX_take (i := 13) (v := .bool true) rfl (by kernel_rfl) (by kernel_rfl) (by kernel_rfl) (by kernel_rfl) (fun _ _ _ h => h) (by first | exact HST7.out | exact HST.out) (Or.inl ⟨by rfl, fun w hS => by go_simp⟩) ?_
      go_simp
      refine wpAnyX_take (i := 14) (v := .int .i64 e2) rfl (by kernel_rfl) (by kernel_rfl) (by kernel_rfl) (by kernel_rfl) (fun _ _ _ h => h) (by first | exact HST7.out | exact HST.out) (Or.inl ⟨by rfl, fun w hS => by go_simp⟩) ?_
      go_simp
      refine wpAnyX_take (i := 15) (v := .int .i64 e2) rfl (by kernel_rfl) (by kernel_rfl) (by kernel_rfl) (by kernel_rfl) (fun _ _ _ h => h) (by first | exact HST7.out | exact HST.out) (Or.inl ⟨by rfl, fun w hS => by go_simp⟩) ?_
      go_simp
      refine wpAnyX_take (i := 16) (v := .bool true) rfl (by kernel_rfl) (by kernel_rfl) (by kernel_rfl) (by kernel_rfl) (fun _ _ _ h => h) (by first | exact HST7.out | exact HST.out) (Or.inl ⟨by rfl, fun w hS => by go_simp⟩) ?_
      go_simp
      refine wpAnyX_take (i := 17) (v := .bool true) rfl (by kernel_rfl) (by kernel_rfl) (by kernel_rfl) (by kernel_rfl) (fun _ _ _ h => h) (by first | exact HST7.out | exact HST.out) (Or.inl ⟨by rfl, fun w hS => by go_simp⟩) ?_
      go_simp
      refine wpAnyX_take (i := 18) (v := .bool true) rfl (by kernel_rfl) (by kernel_rfl) (by kernel_rfl) (by kernel_rfl) (fun _ _ _ h => h) (by first | exact HST7.out | exact HST.out) (Or.inl ⟨by rfl, fun w hS => by go_simp⟩) ?_
      go_simp
      refine wpAnyX_take (i := 19) (v := .int .i64 4) rfl (by kernel_rfl) (by kernel_rfl) (by kernel_rfl) (by kernel_rfl) (fun _ _ _ h => h) (by first | exact HST7.out | exact HST.out) (Or.inl ⟨by rfl, fun w hS => by go_simp⟩) ?_
      go_simp
      refine wpAnyX_take (i := 20) (v := .bool true) rfl (by kernel_rfl) (by kernel_rfl) (by kernel_rfl) (by kernel_rfl) (fun _ _ _ h => h) (by first | exact HST7.out | exact HST.out) (Or.inl ⟨by rfl, fun w hS => by go_simp⟩) ?_
      go_simp
      refine wpAnyX_take (i := 21) (v := .bool true) rfl (by kernel_rfl) (by kernel_rfl) (by kernel_rfl) (by kernel_rfl) (fun _ _ _ h => h) (by first | exact HST7.out | exact HST.out) (Or.inl ⟨by rfl, fun w hS => by go_simp⟩) ?_
      go_simp
      refine wpAnyX_take (i := 22) (v := undef) rfl (by kernel_rfl) (by kernel_rfl) (by kernel_rfl) (by kernel_rfl) (fun _ _ _ h => h) (by first | exact HST7.out | exact HST.out) (Or.inr ⟨by rfl, rfl⟩) ?_
      go_simp
      refine wpAnyX_take (i := 23) (v := undef) rfl (by kernel_rfl) (by kernel_rfl) (by kernel_rfl) (by kernel_rfl) (fun _ _ _ h => h) (by first | exact HST7.out | exact HST.out) (Or.inr ⟨by rfl, rfl⟩) ?_
      go_simp
      refine wpAnyX_take (i := 24) (v := undef) rfl (by kernel_rfl) (by kernel_rfl) (by kernel_rfl) (by kernel_rfl) (fun _ _ _ h => h) (by first | exact HST7.out | exact HST.out) (Or.inr ⟨by rfl, rfl⟩) ?_
      go_simp
      refine wpAnyX_take (i := 25) (v := undef) rfl (by kernel_rfl) (by kernel_rfl) (by kernel_rfl) (by kernel_rfl) (fun _ _ _ h => h) (by first | exact HST7.out | exact HST.out) (Or.inr ⟨by rfl, rfl⟩) ?_
      go_simp
      refine wpAnyX_take (i := 26) (v := undef) rfl (by kernel_rfl) (by kernel_rfl) (by kernel_rfl) (by kernel_rfl) (fun _ _ _ h => h) (by first | exact HST7.out | exact HST.out) (Or.inr ⟨by rfl, rfl⟩) ?_
      go_simp
      refine wpAnyX_take (i := 27) (v := .bool true) rfl (by kernel_rfl) (by kernel_rfl) (by kernel_rfl) (by kernel_rfl) (fun _ _ _ h => h) (by first | exact HST7.out | exact HST.out) (Or.inl ⟨by rfl, fun w hS => by go_simp⟩) ?_
      go_simp
      refine wpAnyX_take (i := 28) (v := .bool true) rfl (by kernel_rfl) (by kernel_rfl) (by kernel_rfl) (by kernel_rfl) (fun _ _ _ h => h) (by first | exact HST7.out | exact HST.out) (Or.inl ⟨by rfl, fun w hS => by go_simp⟩) ?_
      go_simp
      refine wpAnyX_take (i := 29) (v := .bool true) rfl (by kernel_rfl) (by kernel_rfl) (by kernel_rfl) (by kernel_rfl) (fun _ _ _ h => h) (by first | exact HST7.out | exact HST.out) (Or.inl ⟨by rfl, fun w hS => by go_simp⟩) ?_
      go_simp
      refine wpAnyX_one (i := 30) (by kernel_rfl) rfl (fun K hK => ?_)
      go_simp
      go_wp2_with (go_at_call 12; refine (HAW.out _ (HG.out.below (Below.drew HB6.out))).mono ?_; rintro e W8 ⟨rfl, hb8⟩; have HST8 : Hid (BRow W8 G ys) := BRow.below (w := World.drew W6) HST.out hb8; have HB8 : Hid (Below w.heap.size w W8) := (Below.drew HB6.out).trans (hb8.mono HB6.out.size); clear hb8)
      refine hK.out _ _ (fun _ => HST8.out) ?_
      clear hK K
      refine wpAnyX_take (i := 31) (v := .bool true) rfl (by kernel_rfl) (by kernel_rfl) (by kernel_rfl) (by kernel_rfl) (fun _ _ _ h => h) HST8.out (Or.inl ⟨by rfl, fun w hS => by go_simp⟩) ?_
      go_simp
      refine wpAnyX_take (i := 32) (v := .bool true) rfl (by kernel_rfl) (by kernel_rfl) (by kernel_rfl) (by kernel_rfl) (fun _ _ _ h => h) HST8.out (Or.inl ⟨by rfl, fun w hS => by go_simp⟩) ?_
      go_simp
      refine wpAnyX_done (by kernel_rfl) ?_
      go_wp2
      go_ret
      exact ⟨rfl, HB8.out⟩
theorem walkMoneyParse (s : ByteArray) (n at_ : Int) (by_ : UInt8) (w : World) (h1 : -9223372036854775808 ≤ n ∧ n ≤ 9223372036854775807) (h2 : -9223372036854775808 ≤ at_ ∧ at_ ≤ 9223372036854775807) (hL : laidMetH Tryd.prog Rows.moneyParseRow.laid w) :
    Calls Tryd.prog 7 #[.string s, .int .i64 n, .int .i64 at_, .int .u8 (by_.toNat : Int)] w fun e w' => e = .returned (.bool true) ∧ Below w.heap.size w w' := by
  have HG := Lib.hid (given_of_laid hL (by kernel_rfl) (by kernel_rfl) (by kernel_rfl) (by kernel_rfl))
  obtain ⟨⟨l⟩⟩ := s
  by_cases h : l.length ≤ 100
  · exact walkParA l n at_ by_ w HG ⟨l.toArray⟩ ⟨l, by omega, rfl⟩ (.inl ⟨h, rfl⟩)
  · refine walkParA l n at_ by_ w HG ((⟨l.toArray⟩ : ByteArray).extract 0 100) ⟨l.take 100, by simp; omega, ?_⟩ (.inr ⟨by omega, rfl⟩)
    apply ByteArray.ext
    simp
theorem open_u8 {H : Type} {enc : TypeId × Value → H} {w : World} {r : Reach} {b0 : Nat} {v : Value} {d : DataW H} {p : List MemPlace} (hv : Value.okWide Tryd.prog w r b0 5 v) (h : DataW.Trod enc Tryd.prog w 0 (fun _ => true) true 5 v d p) :
    ∃ c : UInt8, v = .int .u8 (c.toNat : Int) := by
  obtain ⟨n, rfl, _, _, hw⟩ := open_int Tryd.underlying5 hv h
  have hb := bounds_u8 hw
  refine ⟨UInt8.ofNat n.toNat, ?_⟩
  have : ((UInt8.ofNat n.toNat).toNat : Int) = n := by simp [UInt8.toNat_ofNat']; omega
  rw [this]
end Go.Proofs.YtjgobaedeagojaaDoor
