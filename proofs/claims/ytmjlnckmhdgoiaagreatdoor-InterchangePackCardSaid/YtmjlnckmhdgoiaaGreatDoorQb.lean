/- The reader reads MSG. -/
import Derived.Test.YtmjlnckmhdgoiaaGreatDoorQa
import Derived.Test.YtmjlnckmhdgoiaaGreatDoorMany
namespace Go.Proofs.YtmjlnckmhdgoiaaGreatDoor
open Go.RowKit
set_option linter.unusedVariables false

set_option maxRecDepth 100000 in
set_option maxHeartbeats 8000000 in
theorem raw_MSG (B gm gr : Nat) (m : Msg) (b : Bool) (c : Nat) (w : World) (h : PSt w B gm gr m b) (eb eo : Nat) (hbB : eb < B) (A0 : Option Addr) (l0 c0 : Nat) (b0 : Bool) (x0 : Int) (A1 : Option Addr) (l1 c1 : Nat) (b1 : Bool) (x1 : Int) (A2 : Option Addr) (l2 c2 : Nat) (b2 : Bool) (x2 : Int) (A3 : Option Addr) (l3 c3 : Nat) (b3 : Bool) (x3 : Int) (A4 : Option Addr) (l4 c4 : Nat) (b4 : Bool) (x4 : Int) (hc0 : w.cell? ⟨eb, eo, none⟩ = some (.slice A0 l0 c0)) (HN0 : Hid (∀ (b : Bool) (m : Msg) (W : World), Below B w W → PSt W B gm gr m b → Calls Tryz.prog 73 #[.pointer (some ⟨gr, 0, none⟩), .slice A0 l0 c0] W (NumRet B gm gr m w (.int .i64 x0) (b || b0)))) (hc1 : w.cell? ⟨eb, eo + 1, none⟩ = some (.slice A1 l1 c1)) (HN1 : Hid (∀ (b : Bool) (m : Msg) (W : World), Below B w W → PSt W B gm gr m b → Calls Tryz.prog 73 #[.pointer (some ⟨gr, 0, none⟩), .slice A1 l1 c1] W (NumRet B gm gr m w (.int .i64 x1) (b || b1)))) (hc2 : w.cell? ⟨eb, eo + 2, none⟩ = some (.slice A2 l2 c2)) (HN2 : Hid (∀ (b : Bool) (m : Msg) (W : World), Below B w W → PSt W B gm gr m b → Calls Tryz.prog 73 #[.pointer (some ⟨gr, 0, none⟩), .slice A2 l2 c2] W (NumRet B gm gr m w (.int .i64 x2) (b || b2)))) (hc3 : w.cell? ⟨eb, eo + 3, none⟩ = some (.slice A3 l3 c3)) (HN3 : Hid (∀ (b : Bool) (m : Msg) (W : World), Below B w W → PSt W B gm gr m b → Calls Tryz.prog 73 #[.pointer (some ⟨gr, 0, none⟩), .slice A3 l3 c3] W (NumRet B gm gr m w (.int .i64 x3) (b || b3)))) (hc4 : w.cell? ⟨eb, eo + 4, none⟩ = some (.slice A4 l4 c4)) (HN4 : Hid (∀ (b : Bool) (m : Msg) (W : World), Below B w W → PSt W B gm gr m b → Calls Tryz.prog 73 #[.pointer (some ⟨gr, 0, none⟩), .slice A4 l4 c4] W (NumRet B gm gr m w (.int .i64 x4) (b || b4)))) :
    Calls Tryz.prog 59 #[.pointer (some ⟨gr, 0, none⟩), .pointer (some ⟨gm, 0, none⟩), .agg #[.string ⟨#[77, 83, 71]⟩, .slice (some ⟨eb, eo, none⟩) 5 c]] w (ReadRet B gm gr w ({ m with kind := x0, src := x1, dst := x2, number := x3, day := x4 }, b || b0 || b1 || b2 || b3 || b4)) := by
  have hlt := h.lt
  have hmB := h.hm
  have hrB := h.hr
  obtain ⟨n0, hn0⟩ : ∃ n0 : Nat, 5 = n0 := ⟨_, rfl⟩
  have tn : ((n0 : Int) == 5) = true := by simp; omega
  have HC0 := Lib.hid hc0
  have HC1 := Lib.hid hc1
  have HC2 := Lib.hid hc2
  have HC3 := Lib.hid hc3
  have HC4 := Lib.hid hc4
  have HB0 := Lib.hid ((Below.refl B w).alloc (Nat.le_trans hmB (Nat.le_of_lt hlt.1)) (.cells #[.string ⟨#[77, 83, 71]⟩, .slice (some ⟨eb, eo, none⟩) 5 c] 57))
  have HS0 := Lib.hid (h.below ((Below.refl w.heap.size w).alloc (Nat.le_refl _) (.cells #[.string ⟨#[77, 83, 71]⟩, .slice (some ⟨eb, eo, none⟩) 5 c] 57)))
  unfold NumRet at HN0 HN1 HN2 HN3 HN4
  clear hc0 hc1 hc2 hc3 hc4
  clear h tn hn0 n0
  go_enter Tryz.func59, Tryz.ntmps59
  go_upto_region 4 with (fail)
  have HSB : ∀ W, Below B w W → W.cell? ⟨eb, eo, none⟩ = some (.slice A0 l0 c0) ∧ W.cell? ⟨eb, eo + 1, none⟩ = some (.slice A1 l1 c1) ∧ W.cell? ⟨eb, eo + 2, none⟩ = some (.slice A2 l2 c2) := fun W h => ⟨(h.cell hbB).trans HC0.out, (h.cell hbB).trans HC1.out, (h.cell hbB).trans HC2.out⟩
  refine wp_region_x 27 (by kernel_rfl) (fun W => W.cell? ⟨eb, eo, none⟩ = some (.slice A0 l0 c0) ∧ W.cell? ⟨eb, eo + 1, none⟩ = some (.slice A1 l1 c1) ∧ W.cell? ⟨eb, eo + 2, none⟩ = some (.slice A2 l2 c2)) ?_
  refine wpAnyX_take (i := 0) (v := .pointer (some ⟨gm, 0, none⟩)) rfl (by kernel_rfl) (by kernel_rfl) (by kernel_rfl) (by kernel_rfl) (fun _ _ _ h => h) (HSB _ (Below.drew HB0.out)) (Or.inl ⟨by rfl, fun w hS => by go_simp⟩) ?_
  go_simp
  refine wpAnyX_take (i := 1) (v := .pointer (some ⟨gm, 0, none⟩)) rfl (by kernel_rfl) (by kernel_rfl) (by kernel_rfl) (by kernel_rfl) (fun _ _ _ h => h) (HSB _ (Below.drew HB0.out)) (Or.inl ⟨by rfl, fun w hS => by go_simp⟩) ?_
  go_simp
  refine wpAnyX_take (i := 2) (v := .pointer (some ⟨gm, 0, none⟩)) rfl (by kernel_rfl) (by kernel_rfl) (by kernel_rfl) (by kernel_rfl) (fun _ _ _ h => h) (HSB _ (Below.drew HB0.out)) (Or.inl ⟨by rfl, fun w hS => by go_simp⟩) ?_
  go_simp
  refine wpAnyX_take (i := 3) (v := .pointer (some ⟨gr, 0, none⟩)) rfl (by kernel_rfl) (by kernel_rfl) (by kernel_rfl) (by kernel_rfl) (fun _ _ _ h => h) (HSB _ (Below.drew HB0.out)) (Or.inl ⟨by rfl, fun w hS => by go_simp⟩) ?_
  go_simp
  refine wpAnyX_take (i := 4) (v := .slice (some ⟨eb, eo, none⟩) 5 c) rfl (by kernel_rfl) (by kernel_rfl) (by kernel_rfl) (by kernel_rfl) (fun _ _ _ h => h) (HSB _ (Below.drew HB0.out)) (Or.inl ⟨by rfl, fun w hS => by go_simp⟩) ?_
  go_simp
  refine wpAnyX_take (i := 5) (v := .pointer (some ⟨eb, eo, none⟩)) rfl (by kernel_rfl) (by kernel_rfl) (by kernel_rfl) (by kernel_rfl) (fun _ _ _ h => h) (HSB _ (Below.drew HB0.out)) (Or.inl ⟨by rfl, fun w hS => by go_simp⟩) ?_
  go_simp
  refine wpAnyX_take (i := 6) (v := .slice A0 l0 c0) rfl (by kernel_rfl) (by kernel_rfl) (by kernel_rfl) (by kernel_rfl) (fun _ _ _ h => h) (HSB _ (Below.drew HB0.out)) (Or.inl ⟨by rfl, fun w hS => by (obtain ⟨q0, q1, q2⟩ := hS; go_simp)⟩) ?_
  go_simp
  refine wpAnyX_take (i := 8) (v := .pointer (some ⟨gr, 0, none⟩)) rfl (by kernel_rfl) (by kernel_rfl) (by kernel_rfl) (by kernel_rfl) (fun _ _ _ h => h) (HSB _ (Below.drew HB0.out)) (Or.inl ⟨by rfl, fun w hS => by go_simp⟩) ?_
  go_simp
  refine wpAnyX_take (i := 9) (v := .slice (some ⟨eb, eo, none⟩) 5 c) rfl (by kernel_rfl) (by kernel_rfl) (by kernel_rfl) (by kernel_rfl) (fun _ _ _ h => h) (HSB _ (Below.drew HB0.out)) (Or.inl ⟨by rfl, fun w hS => by go_simp⟩) ?_
  go_simp
  refine wpAnyX_take (i := 10) (v := .pointer (some ⟨eb, eo + 1, none⟩)) rfl (by kernel_rfl) (by kernel_rfl) (by kernel_rfl) (by kernel_rfl) (fun _ _ _ h => h) (HSB _ (Below.drew HB0.out)) (Or.inl ⟨by rfl, fun w hS => by go_simp⟩) ?_
  go_simp
  refine wpAnyX_take (i := 11) (v := .slice A1 l1 c1) rfl (by kernel_rfl) (by kernel_rfl) (by kernel_rfl) (by kernel_rfl) (fun _ _ _ h => h) (HSB _ (Below.drew HB0.out)) (Or.inl ⟨by rfl, fun w hS => by (obtain ⟨q0, q1, q2⟩ := hS; go_simp)⟩) ?_
  go_simp
  refine wpAnyX_take (i := 13) (v := .pointer (some ⟨gr, 0, none⟩)) rfl (by kernel_rfl) (by kernel_rfl) (by kernel_rfl) (by kernel_rfl) (fun _ _ _ h => h) (HSB _ (Below.drew HB0.out)) (Or.inl ⟨by rfl, fun w hS => by go_simp⟩) ?_
  go_simp
  refine wpAnyX_take (i := 14) (v := .slice (some ⟨eb, eo, none⟩) 5 c) rfl (by kernel_rfl) (by kernel_rfl) (by kernel_rfl) (by kernel_rfl) (fun _ _ _ h => h) (HSB _ (Below.drew HB0.out)) (Or.inl ⟨by rfl, fun w hS => by go_simp⟩) ?_
  go_simp
  refine wpAnyX_take (i := 15) (v := .pointer (some ⟨eb, eo + 2, none⟩)) rfl (by kernel_rfl) (by kernel_rfl) (by kernel_rfl) (by kernel_rfl) (fun _ _ _ h => h) (HSB _ (Below.drew HB0.out)) (Or.inl ⟨by rfl, fun w hS => by go_simp⟩) ?_
  go_simp
  refine wpAnyX_take (i := 16) (v := .slice A2 l2 c2) rfl (by kernel_rfl) (by kernel_rfl) (by kernel_rfl) (by kernel_rfl) (fun _ _ _ h => h) (HSB _ (Below.drew HB0.out)) (Or.inl ⟨by rfl, fun w hS => by (obtain ⟨q0, q1, q2⟩ := hS; go_simp)⟩) ?_
  go_simp
  refine wpAnyX_one (i := 7) (by kernel_rfl) rfl (fun K hK => ?_)
  go_simp
  go_wp2_with (go_at_call 73; refine (HN0.out _ _ _ (Below.drew HB0.out) (PSt.drew HS0.out)).mono ?_; rintro e V1 ⟨rfl, hs2, hb2⟩)
  refine hK.out _ _ (fun _ => HSB _ hb2) ?_
  clear hK K
  have HSV1 := Lib.hid hs2
  have HBV1 := Lib.hid hb2
  clear hs2 hb2
  refine wpAnyX_one (i := 12) (by kernel_rfl) rfl (fun K hK => ?_)
  go_simp
  go_wp2_with (go_at_call 73; refine (HN1.out _ _ _ HBV1.out HSV1.out).mono ?_; rintro e V2 ⟨rfl, hs2, hb2⟩)
  refine hK.out _ _ (fun _ => HSB _ hb2) ?_
  clear hK K
  have HSV2 := Lib.hid hs2
  have HBV2 := Lib.hid hb2
  clear hs2 hb2
  refine wpAnyX_one (i := 17) (by kernel_rfl) rfl (fun K hK => ?_)
  go_simp
  go_wp2_with (go_at_call 73; refine (HN2.out _ _ _ HBV2.out HSV2.out).mono ?_; rintro e V3 ⟨rfl, hs2, hb2⟩)
  refine hK.out _ _ (fun _ => HSB _ hb2) ?_
  clear hK K
  have HSV3 := Lib.hid hs2
  have HBV3 := Lib.hid hb2
  clear hs2 hb2
  refine wpAnyX_take (i := 18) (v := .pointer (some ⟨gm, 0, none⟩)) rfl (by kernel_rfl) (by kernel_rfl) (by kernel_rfl) (by kernel_rfl) (fun _ _ _ h => h) (HSB _ HBV3.out) (Or.inl ⟨by rfl, fun w hS => by go_simp⟩) ?_
  go_simp
  refine wpAnyX_take (i := 19) (v := .pointer (some ⟨gm, 0, none⟩)) rfl (by kernel_rfl) (by kernel_rfl) (by kernel_rfl) (by kernel_rfl) (fun _ _ _ h => h) (HSB _ HBV3.out) (Or.inl ⟨by rfl, fun w hS => by go_simp⟩) ?_
  go_simp
  obtain ⟨v_, hc_, hf_⟩ := HSV3.out.at_ 0 (by decide)
  refine wpAnyX_one (i := 20) (by kernel_rfl) rfl (fun K hK => ?_)
  go_simp
  go_wp2
  refine hK.out _ _ (fun _ => HSB _ (Below.but1 HBV3.out hmB 0 _)) ?_
  clear hK K hc_ hf_ v_
  have HSV4 := Lib.hid (HSV3.out.put (m' := { m with kind := x0 }) 0 (.int .i64 x0) (fun A c h => h.setKind _) rfl)
  have HBV4 := Lib.hid (Below.but1 HBV3.out hmB 0 (.int .i64 x0))
  generalize (V3.setCell ⟨gm, 0, none⟩ (.int .i64 x0)) = V4 at *
  refine wpAnyX_take (i := 21) (v := .pointer (some ⟨gm, 0, none⟩)) rfl (by kernel_rfl) (by kernel_rfl) (by kernel_rfl) (by kernel_rfl) (fun _ _ _ h => h) (HSB _ HBV4.out) (Or.inl ⟨by rfl, fun w hS => by go_simp⟩) ?_
  go_simp
  refine wpAnyX_take (i := 22) (v := .pointer (some ⟨gm, 1, none⟩)) rfl (by kernel_rfl) (by kernel_rfl) (by kernel_rfl) (by kernel_rfl) (fun _ _ _ h => h) (HSB _ HBV4.out) (Or.inl ⟨by rfl, fun w hS => by go_simp⟩) ?_
  go_simp
  obtain ⟨v_, hc_, hf_⟩ := HSV4.out.at_ 1 (by decide)
  refine wpAnyX_one (i := 23) (by kernel_rfl) rfl (fun K hK => ?_)
  go_simp
  go_wp2
  refine hK.out _ _ (fun _ => HSB _ (Below.but1 HBV4.out hmB 1 _)) ?_
  clear hK K hc_ hf_ v_
  have HSV5 := Lib.hid (HSV4.out.put (m' := { { m with kind := x0 } with src := x1 }) 1 (.int .i64 x1) (fun A c h => h.setSrc _) rfl)
  have HBV5 := Lib.hid (Below.but1 HBV4.out hmB 1 (.int .i64 x1))
  generalize (V4.setCell ⟨gm, 1, none⟩ (.int .i64 x1)) = V5 at *
  refine wpAnyX_take (i := 24) (v := .pointer (some ⟨gm, 0, none⟩)) rfl (by kernel_rfl) (by kernel_rfl) (by kernel_rfl) (by kernel_rfl) (fun _ _ _ h => h) (HSB _ HBV5.out) (Or.inl ⟨by rfl, fun w hS => by go_simp⟩) ?_
  go_simp
  refine wpAnyX_take (i := 25) (v := .pointer (some ⟨gm, 2, none⟩)) rfl (by kernel_rfl) (by kernel_rfl) (by kernel_rfl) (by kernel_rfl) (fun _ _ _ h => h) (HSB _ HBV5.out) (Or.inl ⟨by rfl, fun w hS => by go_simp⟩) ?_
  go_simp
  obtain ⟨v_, hc_, hf_⟩ := HSV5.out.at_ 2 (by decide)
  refine wpAnyX_one (i := 26) (by kernel_rfl) rfl (fun K hK => ?_)
  go_simp
  go_wp2
  refine hK.out _ _ (fun _ => HSB _ (Below.but1 HBV5.out hmB 2 _)) ?_
  clear hK K hc_ hf_ v_
  have HSV6 := Lib.hid (HSV5.out.put (m' := { { { m with kind := x0 } with src := x1 } with dst := x2 }) 2 (.int .i64 x2) (fun A c h => h.setDst _) rfl)
  have HBV6 := Lib.hid (Below.but1 HBV5.out hmB 2 (.int .i64 x2))
  generalize (V5.setCell ⟨gm, 2, none⟩ (.int .i64 x2)) = V6 at *
  refine wpAnyX_done (by kernel_rfl) ?_
  go_upto_region 5 with (fail)
  have HSB : ∀ W, Below B w W → W.cell? ⟨eb, eo + 3, none⟩ = some (.slice A3 l3 c3) ∧ W.cell? ⟨eb, eo + 4, none⟩ = some (.slice A4 l4 c4) := fun W h => ⟨(h.cell hbB).trans HC3.out, (h.cell hbB).trans HC4.out⟩
  refine wp_region_x 18 (by kernel_rfl) (fun W => W.cell? ⟨eb, eo + 3, none⟩ = some (.slice A3 l3 c3) ∧ W.cell? ⟨eb, eo + 4, none⟩ = some (.slice A4 l4 c4)) ?_
  refine wpAnyX_take (i := 0) (v := .pointer (some ⟨gm, 0, none⟩)) rfl (by kernel_rfl) (by kernel_rfl) (by kernel_rfl) (by kernel_rfl) (fun _ _ _ h => h) (HSB _ (Below.drew HBV6.out)) (Or.inl ⟨by rfl, fun w hS => by go_simp⟩) ?_
  go_simp
  refine wpAnyX_take (i := 1) (v := .pointer (some ⟨gm, 0, none⟩)) rfl (by kernel_rfl) (by kernel_rfl) (by kernel_rfl) (by kernel_rfl) (fun _ _ _ h => h) (HSB _ (Below.drew HBV6.out)) (Or.inl ⟨by rfl, fun w hS => by go_simp⟩) ?_
  go_simp
  refine wpAnyX_take (i := 2) (v := .pointer (some ⟨gr, 0, none⟩)) rfl (by kernel_rfl) (by kernel_rfl) (by kernel_rfl) (by kernel_rfl) (fun _ _ _ h => h) (HSB _ (Below.drew HBV6.out)) (Or.inl ⟨by rfl, fun w hS => by go_simp⟩) ?_
  go_simp
  refine wpAnyX_take (i := 3) (v := .slice (some ⟨eb, eo, none⟩) 5 c) rfl (by kernel_rfl) (by kernel_rfl) (by kernel_rfl) (by kernel_rfl) (fun _ _ _ h => h) (HSB _ (Below.drew HBV6.out)) (Or.inl ⟨by rfl, fun w hS => by go_simp⟩) ?_
  go_simp
  refine wpAnyX_take (i := 4) (v := .pointer (some ⟨eb, eo + 3, none⟩)) rfl (by kernel_rfl) (by kernel_rfl) (by kernel_rfl) (by kernel_rfl) (fun _ _ _ h => h) (HSB _ (Below.drew HBV6.out)) (Or.inl ⟨by rfl, fun w hS => by go_simp⟩) ?_
  go_simp
  refine wpAnyX_take (i := 5) (v := .slice A3 l3 c3) rfl (by kernel_rfl) (by kernel_rfl) (by kernel_rfl) (by kernel_rfl) (fun _ _ _ h => h) (HSB _ (Below.drew HBV6.out)) (Or.inl ⟨by rfl, fun w hS => by (obtain ⟨q0, q1⟩ := hS; go_simp)⟩) ?_
  go_simp
  refine wpAnyX_take (i := 7) (v := .pointer (some ⟨gr, 0, none⟩)) rfl (by kernel_rfl) (by kernel_rfl) (by kernel_rfl) (by kernel_rfl) (fun _ _ _ h => h) (HSB _ (Below.drew HBV6.out)) (Or.inl ⟨by rfl, fun w hS => by go_simp⟩) ?_
  go_simp
  refine wpAnyX_take (i := 8) (v := .slice (some ⟨eb, eo, none⟩) 5 c) rfl (by kernel_rfl) (by kernel_rfl) (by kernel_rfl) (by kernel_rfl) (fun _ _ _ h => h) (HSB _ (Below.drew HBV6.out)) (Or.inl ⟨by rfl, fun w hS => by go_simp⟩) ?_
  go_simp
  refine wpAnyX_take (i := 9) (v := .pointer (some ⟨eb, eo + 4, none⟩)) rfl (by kernel_rfl) (by kernel_rfl) (by kernel_rfl) (by kernel_rfl) (fun _ _ _ h => h) (HSB _ (Below.drew HBV6.out)) (Or.inl ⟨by rfl, fun w hS => by go_simp⟩) ?_
  go_simp
  refine wpAnyX_take (i := 10) (v := .slice A4 l4 c4) rfl (by kernel_rfl) (by kernel_rfl) (by kernel_rfl) (by kernel_rfl) (fun _ _ _ h => h) (HSB _ (Below.drew HBV6.out)) (Or.inl ⟨by rfl, fun w hS => by (obtain ⟨q0, q1⟩ := hS; go_simp)⟩) ?_
  go_simp
  refine wpAnyX_one (i := 6) (by kernel_rfl) rfl (fun K hK => ?_)
  go_simp
  go_wp2_with (go_at_call 73; refine (HN3.out _ _ _ (Below.drew HBV6.out) (PSt.drew HSV6.out)).mono ?_; rintro e V7 ⟨rfl, hs2, hb2⟩)
  refine hK.out _ _ (fun _ => HSB _ hb2) ?_
  clear hK K
  have HSV7 := Lib.hid hs2
  have HBV7 := Lib.hid hb2
  clear hs2 hb2
  refine wpAnyX_one (i := 11) (by kernel_rfl) rfl (fun K hK => ?_)
  go_simp
  go_wp2_with (go_at_call 73; refine (HN4.out _ _ _ HBV7.out HSV7.out).mono ?_; rintro e V8 ⟨rfl, hs2, hb2⟩)
  refine hK.out _ _ (fun _ => HSB _ hb2) ?_
  clear hK K
  have HSV8 := Lib.hid hs2
  have HBV8 := Lib.hid hb2
  clear hs2 hb2
  refine wpAnyX_take (i := 12) (v := .pointer (some ⟨gm, 0, none⟩)) rfl (by kernel_rfl) (by kernel_rfl) (by kernel_rfl) (by kernel_rfl) (fun _ _ _ h => h) (HSB _ HBV8.out) (Or.inl ⟨by rfl, fun w hS => by go_simp⟩) ?_
  go_simp
  refine wpAnyX_take (i := 13) (v := .pointer (some ⟨gm, 3, none⟩)) rfl (by kernel_rfl) (by kernel_rfl) (by kernel_rfl) (by kernel_rfl) (fun _ _ _ h => h) (HSB _ HBV8.out) (Or.inl ⟨by rfl, fun w hS => by go_simp⟩) ?_
  go_simp
  obtain ⟨v_, hc_, hf_⟩ := HSV8.out.at_ 3 (by decide)
  refine wpAnyX_one (i := 14) (by kernel_rfl) rfl (fun K hK => ?_)
  go_simp
  go_wp2
  refine hK.out _ _ (fun _ => HSB _ (Below.but1 HBV8.out hmB 3 _)) ?_
  clear hK K hc_ hf_ v_
  have HSV9 := Lib.hid (HSV8.out.put (m' := { { { { m with kind := x0 } with src := x1 } with dst := x2 } with number := x3 }) 3 (.int .i64 x3) (fun A c h => h.setNumber _) rfl)
  have HBV9 := Lib.hid (Below.but1 HBV8.out hmB 3 (.int .i64 x3))
  generalize (V8.setCell ⟨gm, 3, none⟩ (.int .i64 x3)) = V9 at *
  refine wpAnyX_take (i := 15) (v := .pointer (some ⟨gm, 0, none⟩)) rfl (by kernel_rfl) (by kernel_rfl) (by kernel_rfl) (by kernel_rfl) (fun _ _ _ h => h) (HSB _ HBV9.out) (Or.inl ⟨by rfl, fun w hS => by go_simp⟩) ?_
  go_simp
  refine wpAnyX_take (i := 16) (v := .pointer (some ⟨gm, 4, none⟩)) rfl (by kernel_rfl) (by kernel_rfl) (by kernel_rfl) (by kernel_rfl) (fun _ _ _ h => h) (HSB _ HBV9.out) (Or.inl ⟨by rfl, fun w hS => by go_simp⟩) ?_
  go_simp
  obtain ⟨v_, hc_, hf_⟩ := HSV9.out.at_ 4 (by decide)
  refine wpAnyX_one (i := 17) (by kernel_rfl) rfl (fun K hK => ?_)
  go_simp
  go_wp2
  refine hK.out _ _ (fun _ => HSB _ (Below.but1 HBV9.out hmB 4 _)) ?_
  clear hK K hc_ hf_ v_
  have HSV10 := Lib.hid (HSV9.out.put (m' := { { { { { m with kind := x0 } with src := x1 } with dst := x2 } with number := x3 } with day := x4 }) 4 (.int .i64 x4) (fun A c h => h.setDay _) rfl)
  have HBV10 := Lib.hid (Below.but1 HBV9.out hmB 4 (.int .i64 x4))
  generalize (V9.setCell ⟨gm, 4, none⟩ (.int .i64 x4)) = V10 at *
  refine wpAnyX_done (by kernel_rfl) ?_
  go_wp2
  go_end0
  exact ⟨rfl, HSV10.out, HBV10.out⟩
theorem read_MSG (B gm gr : Nat) (m : Msg) (b : Bool) (A : Option Addr) (c : Nat) (s : Seg) (w : World) (h : PSt w B gm gr m b) (hs : ElsAt w B A s.els) (hf : SFit s) (hG : Gl w B) (htag : s.tag = tMSG) (hn : s.els.length = 5) :
    Calls Tryz.prog 59 #[.pointer (some ⟨gr, 0, none⟩), .pointer (some ⟨gm, 0, none⟩), .agg #[str s.tag, .slice A s.els.length c]] w (ReadRet B gm gr w (readP (m, b) s)) := by
  have hq : readP (m, b) s = ({ m with kind := numV (elAt s 0), src := numV (elAt s 1), dst := numV (elAt s 2), number := numV (elAt s 3), day := numV (elAt s 4) }, b || (numBad (elAt s 0) || numBad (elAt s 1) || numBad (elAt s 2) || numBad (elAt s 3) || numBad (elAt s 4))) := by
    unfold readP readM
    rw [if_pos ⟨htag, hn⟩]
  rw [hq]
  obtain ⟨eb, eo, rfl, hbB, hcs⟩ := hs.cells (by omega)
  obtain ⟨A0, c0, hc0, hr0⟩ := hcs 0 (by omega)
  obtain ⟨A1, c1, hc1, hr1⟩ := hcs 1 (by omega)
  obtain ⟨A2, c2, hc2, hr2⟩ := hcs 2 (by omega)
  obtain ⟨A3, c3, hc3, hr3⟩ := hcs 3 (by omega)
  obtain ⟨A4, c4, hc4, hr4⟩ := hcs 4 (by omega)
  have hr := raw_MSG B gm gr m b c w h eb eo hbB A0 (elAt s 0).length c0 _ _ A1 (elAt s 1).length c1 _ _ A2 (elAt s 2).length c2 _ _ A3 (elAt s 3).length c3 _ _ A4 (elAt s 4).length c4 _ _ hc0 (Lib.hid (fun b m W hB hs => rnum_c hB hs hG c0 hr0 (hf.len 0) (hf.word 0))) hc1 (Lib.hid (fun b m W hB hs => rnum_c hB hs hG c1 hr1 (hf.len 1) (hf.word 1))) hc2 (Lib.hid (fun b m W hB hs => rnum_c hB hs hG c2 hr2 (hf.len 2) (hf.word 2))) hc3 (Lib.hid (fun b m W hB hs => rnum_c hB hs hG c3 hr3 (hf.len 3) (hf.word 3))) hc4 (Lib.hid (fun b m W hB hs => rnum_c hB hs hG c4 hr4 (hf.len 4) (hf.word 4)))
  rw [htag, hn]
  rw [show (b || (numBad (elAt s 0) || numBad (elAt s 1) || numBad (elAt s 2) || numBad (elAt s 3) || numBad (elAt s 4))) = (b || numBad (elAt s 0) || numBad (elAt s 1) || numBad (elAt s 2) || numBad (elAt s 3) || numBad (elAt s 4)) by simp only [Bool.or_assoc]]
  exact hr
end Go.Proofs.YtmjlnckmhdgoiaaGreatDoor

/-! The reader reads LOT, GDS. -/
namespace Go.Proofs.YtmjlnckmhdgoiaaGreatDoor
open Go.RowKit
set_option linter.unusedVariables false

set_option maxRecDepth 100000 in
set_option maxHeartbeats 8000000 in
theorem raw_LOT (B gm gr : Nat) (m : Msg) (b : Bool) (c : Nat) (w : World) (h : PSt w B gm gr m b) (eb eo : Nat) (hbB : eb < B) (A0 : Option Addr) (l0 c0 : Nat) (b0 : Bool) (x0 : Int) (A1 : Option Addr) (l1 c1 : Nat) (b1 : Bool) (x1 : Int) (hc0 : w.cell? ⟨eb, eo, none⟩ = some (.slice A0 l0 c0)) (HN0 : Hid (∀ (b : Bool) (m : Msg) (W : World), Below B w W → PSt W B gm gr m b → Calls Tryz.prog 73 #[.pointer (some ⟨gr, 0, none⟩), .slice A0 l0 c0] W (NumRet B gm gr m w (.int .i64 x0) (b || b0)))) (hc1 : w.cell? ⟨eb, eo + 1, none⟩ = some (.slice A1 l1 c1)) (HN1 : Hid (∀ (b : Bool) (m : Msg) (W : World), Below B w W → PSt W B gm gr m b → Calls Tryz.prog 73 #[.pointer (some ⟨gr, 0, none⟩), .slice A1 l1 c1] W (NumRet B gm gr m w (.int .i64 x1) (b || b1)))) :
    Calls Tryz.prog 59 #[.pointer (some ⟨gr, 0, none⟩), .pointer (some ⟨gm, 0, none⟩), .agg #[.string ⟨#[76, 79, 84]⟩, .slice (some ⟨eb, eo, none⟩) 2 c]] w (ReadRet B gm gr w ({ m with lot := x0, other := x1 }, b || b0 || b1)) := by
  have hlt := h.lt
  have hmB := h.hm
  have hrB := h.hr
  obtain ⟨n0, hn0⟩ : ∃ n0 : Nat, 2 = n0 := ⟨_, rfl⟩
  have tn : ((n0 : Int) == 2) = true := by simp; omega
  have HC0 := Lib.hid hc0
  have HC1 := Lib.hid hc1
  have HB0 := Lib.hid ((Below.refl B w).alloc (Nat.le_trans hmB (Nat.le_of_lt hlt.1)) (.cells #[.string ⟨#[76, 79, 84]⟩, .slice (some ⟨eb, eo, none⟩) 2 c] 57))
  have HS0 := Lib.hid (h.below ((Below.refl w.heap.size w).alloc (Nat.le_refl _) (.cells #[.string ⟨#[76, 79, 84]⟩, .slice (some ⟨eb, eo, none⟩) 2 c] 57)))
  unfold NumRet at HN0 HN1
  clear hc0 hc1
  clear h tn hn0 n0
  go_enter Tryz.func59, Tryz.ntmps59
  go_upto_region 7 with (fail)
  have HSB : ∀ W, Below B w W → W.cell? ⟨eb, eo, none⟩ = some (.slice A0 l0 c0) ∧ W.cell? ⟨eb, eo + 1, none⟩ = some (.slice A1 l1 c1) := fun W h => ⟨(h.cell hbB).trans HC0.out, (h.cell hbB).trans HC1.out⟩
  refine wp_region_x 18 (by kernel_rfl) (fun W => W.cell? ⟨eb, eo, none⟩ = some (.slice A0 l0 c0) ∧ W.cell? ⟨eb, eo + 1, none⟩ = some (.slice A1 l1 c1)) ?_
  refine wpAnyX_take (i := 0) (v := .pointer (some ⟨gm, 0, none⟩)) rfl (by kernel_rfl) (by kernel_rfl) (by kernel_rfl) (by kernel_rfl) (fun _ _ _ h => h) (HSB _ (Below.drew HB0.out)) (Or.inl ⟨by rfl, fun w hS => by go_simp⟩) ?_
  go_simp
  refine wpAnyX_take (i := 1) (v := .pointer (some ⟨gm, 0, none⟩)) rfl (by kernel_rfl) (by kernel_rfl) (by kernel_rfl) (by kernel_rfl) (fun _ _ _ h => h) (HSB _ (Below.drew HB0.out)) (Or.inl ⟨by rfl, fun w hS => by go_simp⟩) ?_
  go_simp
  refine wpAnyX_take (i := 2) (v := .pointer (some ⟨gr, 0, none⟩)) rfl (by kernel_rfl) (by kernel_rfl) (by kernel_rfl) (by kernel_rfl) (fun _ _ _ h => h) (HSB _ (Below.drew HB0.out)) (Or.inl ⟨by rfl, fun w hS => by go_simp⟩) ?_
  go_simp
  refine wpAnyX_take (i := 3) (v := .slice (some ⟨eb, eo, none⟩) 2 c) rfl (by kernel_rfl) (by kernel_rfl) (by kernel_rfl) (by kernel_rfl) (fun _ _ _ h => h) (HSB _ (Below.drew HB0.out)) (Or.inl ⟨by rfl, fun w hS => by go_simp⟩) ?_
  go_simp
  refine wpAnyX_take (i := 4) (v := .pointer (some ⟨eb, eo, none⟩)) rfl (by kernel_rfl) (by kernel_rfl) (by kernel_rfl) (by kernel_rfl) (fun _ _ _ h => h) (HSB _ (Below.drew HB0.out)) (Or.inl ⟨by rfl, fun w hS => by go_simp⟩) ?_
  go_simp
  refine wpAnyX_take (i := 5) (v := .slice A0 l0 c0) rfl (by kernel_rfl) (by kernel_rfl) (by kernel_rfl) (by kernel_rfl) (fun _ _ _ h => h) (HSB _ (Below.drew HB0.out)) (Or.inl ⟨by rfl, fun w hS => by (obtain ⟨q0, q1⟩ := hS; go_simp)⟩) ?_
  go_simp
  refine wpAnyX_take (i := 7) (v := .pointer (some ⟨gr, 0, none⟩)) rfl (by kernel_rfl) (by kernel_rfl) (by kernel_rfl) (by kernel_rfl) (fun _ _ _ h => h) (HSB _ (Below.drew HB0.out)) (Or.inl ⟨by rfl, fun w hS => by go_simp⟩) ?_
  go_simp
  refine wpAnyX_take (i := 8) (v := .slice (some ⟨eb, eo, none⟩) 2 c) rfl (by kernel_rfl) (by kernel_rfl) (by kernel_rfl) (by kernel_rfl) (fun _ _ _ h => h) (HSB _ (Below.drew HB0.out)) (Or.inl ⟨by rfl, fun w hS => by go_simp⟩) ?_
  go_simp
  refine wpAnyX_take (i := 9) (v := .pointer (some ⟨eb, eo + 1, none⟩)) rfl (by kernel_rfl) (by kernel_rfl) (by kernel_rfl) (by kernel_rfl) (fun _ _ _ h => h) (HSB _ (Below.drew HB0.out)) (Or.inl ⟨by rfl, fun w hS => by go_simp⟩) ?_
  go_simp
  refine wpAnyX_take (i := 10) (v := .slice A1 l1 c1) rfl (by kernel_rfl) (by kernel_rfl) (by kernel_rfl) (by kernel_rfl) (fun _ _ _ h => h) (HSB _ (Below.drew HB0.out)) (Or.inl ⟨by rfl, fun w hS => by (obtain ⟨q0, q1⟩ := hS; go_simp)⟩) ?_
  go_simp
  refine wpAnyX_one (i := 6) (by kernel_rfl) rfl (fun K hK => ?_)
  go_simp
  go_wp2_with (go_at_call 73; refine (HN0.out _ _ _ (Below.drew HB0.out) (PSt.drew HS0.out)).mono ?_; rintro e V1 ⟨rfl, hs2, hb2⟩)
  refine hK.out _ _ (fun _ => HSB _ hb2) ?_
  clear hK K
  have HSV1 := Lib.hid hs2
  have HBV1 := Lib.hid hb2
  clear hs2 hb2
  refine wpAnyX_one (i := 11) (by kernel_rfl) rfl (fun K hK => ?_)
  go_simp
  go_wp2_with (go_at_call 73; refine (HN1.out _ _ _ HBV1.out HSV1.out).mono ?_; rintro e V2 ⟨rfl, hs2, hb2⟩)
  refine hK.out _ _ (fun _ => HSB _ hb2) ?_
  clear hK K
  have HSV2 := Lib.hid hs2
  have HBV2 := Lib.hid hb2
  clear hs2 hb2
  refine wpAnyX_take (i := 12) (v := .pointer (some ⟨gm, 0, none⟩)) rfl (by kernel_rfl) (by kernel_rfl) (by kernel_rfl) (by kernel_rfl) (fun _ _ _ h => h) (HSB _ HBV2.out) (Or.inl ⟨by rfl, fun w hS => by go_simp⟩) ?_
  go_simp
  refine wpAnyX_take (i := 13) (v := .pointer (some ⟨gm, 5, none⟩)) rfl (by kernel_rfl) (by kernel_rfl) (by kernel_rfl) (by kernel_rfl) (fun _ _ _ h => h) (HSB _ HBV2.out) (Or.inl ⟨by rfl, fun w hS => by go_simp⟩) ?_
  go_simp
  obtain ⟨v_, hc_, hf_⟩ := HSV2.out.at_ 5 (by decide)
  refine wpAnyX_one (i := 14) (by kernel_rfl) rfl (fun K hK => ?_)
  go_simp
  go_wp2
  refine hK.out _ _ (fun _ => HSB _ (Below.but1 HBV2.out hmB 5 _)) ?_
  clear hK K hc_ hf_ v_
  have HSV3 := Lib.hid (HSV2.out.put (m' := { m with lot := x0 }) 5 (.int .i64 x0) (fun A c h => h.setLot _) rfl)
  have HBV3 := Lib.hid (Below.but1 HBV2.out hmB 5 (.int .i64 x0))
  generalize (V2.setCell ⟨gm, 5, none⟩ (.int .i64 x0)) = V3 at *
  refine wpAnyX_take (i := 15) (v := .pointer (some ⟨gm, 0, none⟩)) rfl (by kernel_rfl) (by kernel_rfl) (by kernel_rfl) (by kernel_rfl) (fun _ _ _ h => h) (HSB _ HBV3.out) (Or.inl ⟨by rfl, fun w hS => by go_simp⟩) ?_
  go_simp
  refine wpAnyX_take (i := 16) (v := .pointer (some ⟨gm, 6, none⟩)) rfl (by kernel_rfl) (by kernel_rfl) (by kernel_rfl) (by kernel_rfl) (fun _ _ _ h => h) (HSB _ HBV3.out) (Or.inl ⟨by rfl, fun w hS => by go_simp⟩) ?_
  go_simp
  obtain ⟨v_, hc_, hf_⟩ := HSV3.out.at_ 6 (by decide)
  refine wpAnyX_one (i := 17) (by kernel_rfl) rfl (fun K hK => ?_)
  go_simp
  go_wp2
  refine hK.out _ _ (fun _ => HSB _ (Below.but1 HBV3.out hmB 6 _)) ?_
  clear hK K hc_ hf_ v_
  have HSV4 := Lib.hid (HSV3.out.put (m' := { { m with lot := x0 } with other := x1 }) 6 (.int .i64 x1) (fun A c h => h.setOther _) rfl)
  have HBV4 := Lib.hid (Below.but1 HBV3.out hmB 6 (.int .i64 x1))
  generalize (V3.setCell ⟨gm, 6, none⟩ (.int .i64 x1)) = V4 at *
  refine wpAnyX_done (by kernel_rfl) ?_
  go_wp2
  go_end0
  exact ⟨rfl, HSV4.out, HBV4.out⟩
theorem read_LOT (B gm gr : Nat) (m : Msg) (b : Bool) (A : Option Addr) (c : Nat) (s : Seg) (w : World) (h : PSt w B gm gr m b) (hs : ElsAt w B A s.els) (hf : SFit s) (hG : Gl w B) (htag : s.tag = tLOT) (hn : s.els.length = 2) :
    Calls Tryz.prog 59 #[.pointer (some ⟨gr, 0, none⟩), .pointer (some ⟨gm, 0, none⟩), .agg #[str s.tag, .slice A s.els.length c]] w (ReadRet B gm gr w (readP (m, b) s)) := by
  have hq : readP (m, b) s = ({ m with lot := numV (elAt s 0), other := numV (elAt s 1) }, b || (numBad (elAt s 0) || numBad (elAt s 1))) := by
    unfold readP readM
    rw [if_neg (fun h => absurd (htag.symm.trans h.1) (by decide)), if_pos ⟨htag, hn⟩]
  rw [hq]
  obtain ⟨eb, eo, rfl, hbB, hcs⟩ := hs.cells (by omega)
  obtain ⟨A0, c0, hc0, hr0⟩ := hcs 0 (by omega)
  obtain ⟨A1, c1, hc1, hr1⟩ := hcs 1 (by omega)
  have hr := raw_LOT B gm gr m b c w h eb eo hbB A0 (elAt s 0).length c0 _ _ A1 (elAt s 1).length c1 _ _ hc0 (Lib.hid (fun b m W hB hs => rnum_c hB hs hG c0 hr0 (hf.len 0) (hf.word 0))) hc1 (Lib.hid (fun b m W hB hs => rnum_c hB hs hG c1 hr1 (hf.len 1) (hf.word 1)))
  rw [htag, hn]
  rw [show (b || (numBad (elAt s 0) || numBad (elAt s 1))) = (b || numBad (elAt s 0) || numBad (elAt s 1)) by simp only [Bool.or_assoc]]
  exact hr
set_option maxRecDepth 100000 in
set_option maxHeartbeats 8000000 in
theorem raw_GDS (B gm gr : Nat) (m : Msg) (b : Bool) (c : Nat) (w : World) (h : PSt w B gm gr m b) (eb eo : Nat) (hbB : eb < B) (A0 : Option Addr) (l0 c0 : Nat) (b0 : Bool) (y0 : Bs) (A1 : Option Addr) (l1 c1 : Nat) (b1 : Bool) (y1 : Bs) (A2 : Option Addr) (l2 c2 : Nat) (b2 : Bool) (x2 : Int) (A3 : Option Addr) (l3 c3 : Nat) (b3 : Bool) (x3 : Int) (hc0 : w.cell? ⟨eb, eo, none⟩ = some (.slice A0 l0 c0)) (HN0 : Hid (∀ (b : Bool) (m : Msg) (W : World), Below B w W → PSt W B gm gr m b → Calls Tryz.prog 78 #[.pointer (some ⟨gr, 0, none⟩), .slice A0 l0 c0] W (NumRet B gm gr m w (.string ⟨y0.toArray⟩) (b || b0)))) (hc1 : w.cell? ⟨eb, eo + 1, none⟩ = some (.slice A1 l1 c1)) (HN1 : Hid (∀ (b : Bool) (m : Msg) (W : World), Below B w W → PSt W B gm gr m b → Calls Tryz.prog 78 #[.pointer (some ⟨gr, 0, none⟩), .slice A1 l1 c1] W (NumRet B gm gr m w (.string ⟨y1.toArray⟩) (b || b1)))) (hc2 : w.cell? ⟨eb, eo + 2, none⟩ = some (.slice A2 l2 c2)) (HN2 : Hid (∀ (b : Bool) (m : Msg) (W : World), Below B w W → PSt W B gm gr m b → Calls Tryz.prog 73 #[.pointer (some ⟨gr, 0, none⟩), .slice A2 l2 c2] W (NumRet B gm gr m w (.int .i64 x2) (b || b2)))) (hc3 : w.cell? ⟨eb, eo + 3, none⟩ = some (.slice A3 l3 c3)) (HN3 : Hid (∀ (b : Bool) (m : Msg) (W : World), Below B w W → PSt W B gm gr m b → Calls Tryz.prog 73 #[.pointer (some ⟨gr, 0, none⟩), .slice A3 l3 c3] W (NumRet B gm gr m w (.int .i64 x3) (b || b3)))) :
    Calls Tryz.prog 59 #[.pointer (some ⟨gr, 0, none⟩), .pointer (some ⟨gm, 0, none⟩), .agg #[.string ⟨#[71, 68, 83]⟩, .slice (some ⟨eb, eo, none⟩) 4 c]] w (ReadRet B gm gr w ({ m with code := y0, country := y1, quantity := x2, amount := x3 }, b || b0 || b1 || b2 || b3)) := by
  have hlt := h.lt
  have hmB := h.hm
  have hrB := h.hr
  obtain ⟨n0, hn0⟩ : ∃ n0 : Nat, 4 = n0 := ⟨_, rfl⟩
  have tn : ((n0 : Int) == 4) = true := by simp; omega
  have HC0 := Lib.hid hc0
  have HC1 := Lib.hid hc1
  have HC2 := Lib.hid hc2
  have HC3 := Lib.hid hc3
  have HB0 := Lib.hid ((Below.refl B w).alloc (Nat.le_trans hmB (Nat.le_of_lt hlt.1)) (.cells #[.string ⟨#[71, 68, 83]⟩, .slice (some ⟨eb, eo, none⟩) 4 c] 57))
  have HS0 := Lib.hid (h.below ((Below.refl w.heap.size w).alloc (Nat.le_refl _) (.cells #[.string ⟨#[71, 68, 83]⟩, .slice (some ⟨eb, eo, none⟩) 4 c] 57)))
  unfold NumRet at HN0 HN1 HN2 HN3
  clear hc0 hc1 hc2 hc3
  clear h tn hn0 n0
  go_enter Tryz.func59, Tryz.ntmps59
  go_upto_region 9 with (fail)
  have HSB : ∀ W, Below B w W → W.cell? ⟨eb, eo, none⟩ = some (.slice A0 l0 c0) ∧ W.cell? ⟨eb, eo + 1, none⟩ = some (.slice A1 l1 c1) := fun W h => ⟨(h.cell hbB).trans HC0.out, (h.cell hbB).trans HC1.out⟩
  refine wp_region_x 18 (by kernel_rfl) (fun W => W.cell? ⟨eb, eo, none⟩ = some (.slice A0 l0 c0) ∧ W.cell? ⟨eb, eo + 1, none⟩ = some (.slice A1 l1 c1)) ?_
  refine wpAnyX_take (i := 0) (v := .pointer (some ⟨gm, 0, none⟩)) rfl (by kernel_rfl) (by kernel_rfl) (by kernel_rfl) (by kernel_rfl) (fun _ _ _ h => h) (HSB _ (Below.drew HB0.out)) (Or.inl ⟨by rfl, fun w hS => by go_simp⟩) ?_
  go_simp
  refine wpAnyX_take (i := 1) (v := .pointer (some ⟨gm, 0, none⟩)) rfl (by kernel_rfl) (by kernel_rfl) (by kernel_rfl) (by kernel_rfl) (fun _ _ _ h => h) (HSB _ (Below.drew HB0.out)) (Or.inl ⟨by rfl, fun w hS => by go_simp⟩) ?_
  go_simp
  refine wpAnyX_take (i := 2) (v := .pointer (some ⟨gr, 0, none⟩)) rfl (by kernel_rfl) (by kernel_rfl) (by kernel_rfl) (by kernel_rfl) (fun _ _ _ h => h) (HSB _ (Below.drew HB0.out)) (Or.inl ⟨by rfl, fun w hS => by go_simp⟩) ?_
  go_simp
  refine wpAnyX_take (i := 3) (v := .slice (some ⟨eb, eo, none⟩) 4 c) rfl (by kernel_rfl) (by kernel_rfl) (by kernel_rfl) (by kernel_rfl) (fun _ _ _ h => h) (HSB _ (Below.drew HB0.out)) (Or.inl ⟨by rfl, fun w hS => by go_simp⟩) ?_
  go_simp
  refine wpAnyX_take (i := 4) (v := .pointer (some ⟨eb, eo, none⟩)) rfl (by kernel_rfl) (by kernel_rfl) (by kernel_rfl) (by kernel_rfl) (fun _ _ _ h => h) (HSB _ (Below.drew HB0.out)) (Or.inl ⟨by rfl, fun w hS => by go_simp⟩) ?_
  go_simp
  refine wpAnyX_take (i := 5) (v := .slice A0 l0 c0) rfl (by kernel_rfl) (by kernel_rfl) (by kernel_rfl) (by kernel_rfl) (fun _ _ _ h => h) (HSB _ (Below.drew HB0.out)) (Or.inl ⟨by rfl, fun w hS => by (obtain ⟨q0, q1⟩ := hS; go_simp)⟩) ?_
  go_simp
  refine wpAnyX_take (i := 7) (v := .pointer (some ⟨gr, 0, none⟩)) rfl (by kernel_rfl) (by kernel_rfl) (by kernel_rfl) (by kernel_rfl) (fun _ _ _ h => h) (HSB _ (Below.drew HB0.out)) (Or.inl ⟨by rfl, fun w hS => by go_simp⟩) ?_
  go_simp
  refine wpAnyX_take (i := 8) (v := .slice (some ⟨eb, eo, none⟩) 4 c) rfl (by kernel_rfl) (by kernel_rfl) (by kernel_rfl) (by kernel_rfl) (fun _ _ _ h => h) (HSB _ (Below.drew HB0.out)) (Or.inl ⟨by rfl, fun w hS => by go_simp⟩) ?_
  go_simp
  refine wpAnyX_take (i := 9) (v := .pointer (some ⟨eb, eo + 1, none⟩)) rfl (by kernel_rfl) (by kernel_rfl) (by kernel_rfl) (by kernel_rfl) (fun _ _ _ h => h) (HSB _ (Below.drew HB0.out)) (Or.inl ⟨by rfl, fun w hS => by go_simp⟩) ?_
  go_simp
  refine wpAnyX_take (i := 10) (v := .slice A1 l1 c1) rfl (by kernel_rfl) (by kernel_rfl) (by kernel_rfl) (by kernel_rfl) (fun _ _ _ h => h) (HSB _ (Below.drew HB0.out)) (Or.inl ⟨by rfl, fun w hS => by (obtain ⟨q0, q1⟩ := hS; go_simp)⟩) ?_
  go_simp
  refine wpAnyX_one (i := 6) (by kernel_rfl) rfl (fun K hK => ?_)
  go_simp
  go_wp2_with (go_at_call 78; refine (HN0.out _ _ _ (Below.drew HB0.out) (PSt.drew HS0.out)).mono ?_; rintro e V1 ⟨rfl, hs2, hb2⟩)
  refine hK.out _ _ (fun _ => HSB _ hb2) ?_
  clear hK K
  have HSV1 := Lib.hid hs2
  have HBV1 := Lib.hid hb2
  clear hs2 hb2
  refine wpAnyX_one (i := 11) (by kernel_rfl) rfl (fun K hK => ?_)
  go_simp
  go_wp2_with (go_at_call 78; refine (HN1.out _ _ _ HBV1.out HSV1.out).mono ?_; rintro e V2 ⟨rfl, hs2, hb2⟩)
  refine hK.out _ _ (fun _ => HSB _ hb2) ?_
  clear hK K
  have HSV2 := Lib.hid hs2
  have HBV2 := Lib.hid hb2
  clear hs2 hb2
  refine wpAnyX_take (i := 12) (v := .pointer (some ⟨gm, 0, none⟩)) rfl (by kernel_rfl) (by kernel_rfl) (by kernel_rfl) (by kernel_rfl) (fun _ _ _ h => h) (HSB _ HBV2.out) (Or.inl ⟨by rfl, fun w hS => by go_simp⟩) ?_
  go_simp
  refine wpAnyX_take (i := 13) (v := .pointer (some ⟨gm, 7, none⟩)) rfl (by kernel_rfl) (by kernel_rfl) (by kernel_rfl) (by kernel_rfl) (fun _ _ _ h => h) (HSB _ HBV2.out) (Or.inl ⟨by rfl, fun w hS => by go_simp⟩) ?_
  go_simp
  obtain ⟨v_, hc_, hf_⟩ := HSV2.out.at_ 7 (by decide)
  refine wpAnyX_one (i := 14) (by kernel_rfl) rfl (fun K hK => ?_)
  go_simp
  go_wp2
  refine hK.out _ _ (fun _ => HSB _ (Below.but1 HBV2.out hmB 7 _)) ?_
  clear hK K hc_ hf_ v_
  have HSV3 := Lib.hid (HSV2.out.put (m' := { m with code := y0 }) 7 (.string ⟨y0.toArray⟩) (fun A c h => h.setCode _) rfl)
  have HBV3 := Lib.hid (Below.but1 HBV2.out hmB 7 (.string ⟨y0.toArray⟩))
  generalize (V2.setCell ⟨gm, 7, none⟩ (.string ⟨y0.toArray⟩)) = V3 at *
  refine wpAnyX_take (i := 15) (v := .pointer (some ⟨gm, 0, none⟩)) rfl (by kernel_rfl) (by kernel_rfl) (by kernel_rfl) (by kernel_rfl) (fun _ _ _ h => h) (HSB _ HBV3.out) (Or.inl ⟨by rfl, fun w hS => by go_simp⟩) ?_
  go_simp
  refine wpAnyX_take (i := 16) (v := .pointer (some ⟨gm, 8, none⟩)) rfl (by kernel_rfl) (by kernel_rfl) (by kernel_rfl) (by kernel_rfl) (fun _ _ _ h => h) (HSB _ HBV3.out) (Or.inl ⟨by rfl, fun w hS => by go_simp⟩) ?_
  go_simp
  obtain ⟨v_, hc_, hf_⟩ := HSV3.out.at_ 8 (by decide)
  refine wpAnyX_one (i := 17) (by kernel_rfl) rfl (fun K hK => ?_)
  go_simp
  go_wp2
  refine hK.out _ _ (fun _ => HSB _ (Below.but1 HBV3.out hmB 8 _)) ?_
  clear hK K hc_ hf_ v_
  have HSV4 := Lib.hid (HSV3.out.put (m' := { { m with code := y0 } with country := y1 }) 8 (.string ⟨y1.toArray⟩) (fun A c h => h.setCountry _) rfl)
  have HBV4 := Lib.hid (Below.but1 HBV3.out hmB 8 (.string ⟨y1.toArray⟩))
  generalize (V3.setCell ⟨gm, 8, none⟩ (.string ⟨y1.toArray⟩)) = V4 at *
  refine wpAnyX_done (by kernel_rfl) ?_
  go_upto_region 10 with (fail)
  have HSB : ∀ W, Below B w W → W.cell? ⟨eb, eo + 2, none⟩ = some (.slice A2 l2 c2) ∧ W.cell? ⟨eb, eo + 3, none⟩ = some (.slice A3 l3 c3) := fun W h => ⟨(h.cell hbB).trans HC2.out, (h.cell hbB).trans HC3.out⟩
  refine wp_region_x 18 (by kernel_rfl) (fun W => W.cell? ⟨eb, eo + 2, none⟩ = some (.slice A2 l2 c2) ∧ W.cell? ⟨eb, eo + 3, none⟩ = some (.slice A3 l3 c3)) ?_
  refine wpAnyX_take (i := 0) (v := .pointer (some ⟨gm, 0, none⟩)) rfl (by kernel_rfl) (by kernel_rfl) (by kernel_rfl) (by kernel_rfl) (fun _ _ _ h => h) (HSB _ (Below.drew HBV4.out)) (Or.inl ⟨by rfl, fun w hS => by go_simp⟩) ?_
  go_simp
  refine wpAnyX_take (i := 1) (v := .pointer (some ⟨gm, 0, none⟩)) rfl (by kernel_rfl) (by kernel_rfl) (by kernel_rfl) (by kernel_rfl) (fun _ _ _ h => h) (HSB _ (Below.drew HBV4.out)) (Or.inl ⟨by rfl, fun w hS => by go_simp⟩) ?_
  go_simp
  refine wpAnyX_take (i := 2) (v := .pointer (some ⟨gr, 0, none⟩)) rfl (by kernel_rfl) (by kernel_rfl) (by kernel_rfl) (by kernel_rfl) (fun _ _ _ h => h) (HSB _ (Below.drew HBV4.out)) (Or.inl ⟨by rfl, fun w hS => by go_simp⟩) ?_
  go_simp
  refine wpAnyX_take (i := 3) (v := .slice (some ⟨eb, eo, none⟩) 4 c) rfl (by kernel_rfl) (by kernel_rfl) (by kernel_rfl) (by kernel_rfl) (fun _ _ _ h => h) (HSB _ (Below.drew HBV4.out)) (Or.inl ⟨by rfl, fun w hS => by go_simp⟩) ?_
  go_simp
  refine wpAnyX_take (i := 4) (v := .pointer (some ⟨eb, eo + 2, none⟩)) rfl (by kernel_rfl) (by kernel_rfl) (by kernel_rfl) (by kernel_rfl) (fun _ _ _ h => h) (HSB _ (Below.drew HBV4.out)) (Or.inl ⟨by rfl, fun w hS => by go_simp⟩) ?_
  go_simp
  refine wpAnyX_take (i := 5) (v := .slice A2 l2 c2) rfl (by kernel_rfl) (by kernel_rfl) (by kernel_rfl) (by kernel_rfl) (fun _ _ _ h => h) (HSB _ (Below.drew HBV4.out)) (Or.inl ⟨by rfl, fun w hS => by (obtain ⟨q0, q1⟩ := hS; go_simp)⟩) ?_
  go_simp
  refine wpAnyX_take (i := 7) (v := .pointer (some ⟨gr, 0, none⟩)) rfl (by kernel_rfl) (by kernel_rfl) (by kernel_rfl) (by kernel_rfl) (fun _ _ _ h => h) (HSB _ (Below.drew HBV4.out)) (Or.inl ⟨by rfl, fun w hS => by go_simp⟩) ?_
  go_simp
  refine wpAnyX_take (i := 8) (v := .slice (some ⟨eb, eo, none⟩) 4 c) rfl (by kernel_rfl) (by kernel_rfl) (by kernel_rfl) (by kernel_rfl) (fun _ _ _ h => h) (HSB _ (Below.drew HBV4.out)) (Or.inl ⟨by rfl, fun w hS => by go_simp⟩) ?_
  go_simp
  refine wpAnyX_take (i := 9) (v := .pointer (some ⟨eb, eo + 3, none⟩)) rfl (by kernel_rfl) (by kernel_rfl) (by kernel_rfl) (by kernel_rfl) (fun _ _ _ h => h) (HSB _ (Below.drew HBV4.out)) (Or.inl ⟨by rfl, fun w hS => by go_simp⟩) ?_
  go_simp
  refine wpAnyX_take (i := 10) (v := .slice A3 l3 c3) rfl (by kernel_rfl) (by kernel_rfl) (by kernel_rfl) (by kernel_rfl) (fun _ _ _ h => h) (HSB _ (Below.drew HBV4.out)) (Or.inl ⟨by rfl, fun w hS => by (obtain ⟨q0, q1⟩ := hS; go_simp)⟩) ?_
  go_simp
  refine wpAnyX_one (i := 6) (by kernel_rfl) rfl (fun K hK => ?_)
  go_simp
  go_wp2_with (go_at_call 73; refine (HN2.out _ _ _ (Below.drew HBV4.out) (PSt.drew HSV4.out)).mono ?_; rintro e V5 ⟨rfl, hs2, hb2⟩)
  refine hK.out _ _ (fun _ => HSB _ hb2) ?_
  clear hK K
  have HSV5 := Lib.hid hs2
  have HBV5 := Lib.hid hb2
  clear hs2 hb2
  refine wpAnyX_one (i := 11) (by kernel_rfl) rfl (fun K hK => ?_)
  go_simp
  go_wp2_with (go_at_call 73; refine (HN3.out _ _ _ HBV5.out HSV5.out).mono ?_; rintro e V6 ⟨rfl, hs2, hb2⟩)
  refine hK.out _ _ (fun _ => HSB _ hb2) ?_
  clear hK K
  have HSV6 := Lib.hid hs2
  have HBV6 := Lib.hid hb2
  clear hs2 hb2
  refine wpAnyX_take (i := 12) (v := .pointer (some ⟨gm, 0, none⟩)) rfl (by kernel_rfl) (by kernel_rfl) (by kernel_rfl) (by kernel_rfl) (fun _ _ _ h => h) (HSB _ HBV6.out) (Or.inl ⟨by rfl, fun w hS => by go_simp⟩) ?_
  go_simp
  refine wpAnyX_take (i := 13) (v := .pointer (some ⟨gm, 9, none⟩)) rfl (by kernel_rfl) (by kernel_rfl) (by kernel_rfl) (by kernel_rfl) (fun _ _ _ h => h) (HSB _ HBV6.out) (Or.inl ⟨by rfl, fun w hS => by go_simp⟩) ?_
  go_simp
  obtain ⟨v_, hc_, hf_⟩ := HSV6.out.at_ 9 (by decide)
  refine wpAnyX_one (i := 14) (by kernel_rfl) rfl (fun K hK => ?_)
  go_simp
  go_wp2
  refine hK.out _ _ (fun _ => HSB _ (Below.but1 HBV6.out hmB 9 _)) ?_
  clear hK K hc_ hf_ v_
  have HSV7 := Lib.hid (HSV6.out.put (m' := { { { m with code := y0 } with country := y1 } with quantity := x2 }) 9 (.int .i64 x2) (fun A c h => h.setQuantity _) rfl)
  have HBV7 := Lib.hid (Below.but1 HBV6.out hmB 9 (.int .i64 x2))
  generalize (V6.setCell ⟨gm, 9, none⟩ (.int .i64 x2)) = V7 at *
  refine wpAnyX_take (i := 15) (v := .pointer (some ⟨gm, 0, none⟩)) rfl (by kernel_rfl) (by kernel_rfl) (by kernel_rfl) (by kernel_rfl) (fun _ _ _ h => h) (HSB _ HBV7.out) (Or.inl ⟨by rfl, fun w hS => by go_simp⟩) ?_
  go_simp
  refine wpAnyX_take (i := 16) (v := .pointer (some ⟨gm, 10, none⟩)) rfl (by kernel_rfl) (by kernel_rfl) (by kernel_rfl) (by kernel_rfl) (fun _ _ _ h => h) (HSB _ HBV7.out) (Or.inl ⟨by rfl, fun w hS => by go_simp⟩) ?_
  go_simp
  obtain ⟨v_, hc_, hf_⟩ := HSV7.out.at_ 10 (by decide)
  refine wpAnyX_one (i := 17) (by kernel_rfl) rfl (fun K hK => ?_)
  go_simp
  go_wp2
  refine hK.out _ _ (fun _ => HSB _ (Below.but1 HBV7.out hmB 10 _)) ?_
  clear hK K hc_ hf_ v_
  have HSV8 := Lib.hid (HSV7.out.put (m' := { { { { m with code := y0 } with country := y1 } with quantity := x2 } with amount := x3 }) 10 (.int .i64 x3) (fun A c h => h.setAmount _) rfl)
  have HBV8 := Lib.hid (Below.but1 HBV7.out hmB 10 (.int .i64 x3))
  generalize (V7.setCell ⟨gm, 10, none⟩ (.int .i64 x3)) = V8 at *
  refine wpAnyX_done (by kernel_rfl) ?_
  go_wp2
  go_end0
  exact ⟨rfl, HSV8.out, HBV8.out⟩
theorem read_GDS (B gm gr : Nat) (m : Msg) (b : Bool) (A : Option Addr) (c : Nat) (s : Seg) (w : World) (h : PSt w B gm gr m b) (hs : ElsAt w B A s.els) (hf : SFit s) (hG : Gl w B) (htag : s.tag = tGDS) (hn : s.els.length = 4) :
    Calls Tryz.prog 59 #[.pointer (some ⟨gr, 0, none⟩), .pointer (some ⟨gm, 0, none⟩), .agg #[str s.tag, .slice A s.els.length c]] w (ReadRet B gm gr w (readP (m, b) s)) := by
  have hq : readP (m, b) s = ({ m with code := wordF (elAt s 0), country := wordF (elAt s 1), quantity := numV (elAt s 2), amount := numV (elAt s 3) }, b || (textBad (elAt s 0) || textBad (elAt s 1) || numBad (elAt s 2) || numBad (elAt s 3))) := by
    unfold readP readM
    rw [if_neg (fun h => absurd (htag.symm.trans h.1) (by decide)), if_neg (fun h => absurd (htag.symm.trans h.1) (by decide)), if_pos ⟨htag, hn⟩]
  rw [hq]
  obtain ⟨eb, eo, rfl, hbB, hcs⟩ := hs.cells (by omega)
  obtain ⟨A0, c0, hc0, hr0⟩ := hcs 0 (by omega)
  obtain ⟨A1, c1, hc1, hr1⟩ := hcs 1 (by omega)
  obtain ⟨A2, c2, hc2, hr2⟩ := hcs 2 (by omega)
  obtain ⟨A3, c3, hc3, hr3⟩ := hcs 3 (by omega)
  have hr := raw_GDS B gm gr m b c w h eb eo hbB A0 (elAt s 0).length c0 _ _ A1 (elAt s 1).length c1 _ _ A2 (elAt s 2).length c2 _ _ A3 (elAt s 3).length c3 _ _ hc0 (Lib.hid (fun b m W hB hs => rtext_c hB hs c0 hr0 (hf.len 0))) hc1 (Lib.hid (fun b m W hB hs => rtext_c hB hs c1 hr1 (hf.len 1))) hc2 (Lib.hid (fun b m W hB hs => rnum_c hB hs hG c2 hr2 (hf.len 2) (hf.word 2))) hc3 (Lib.hid (fun b m W hB hs => rnum_c hB hs hG c3 hr3 (hf.len 3) (hf.word 3)))
  rw [htag, hn]
  rw [show (b || (textBad (elAt s 0) || textBad (elAt s 1) || numBad (elAt s 2) || numBad (elAt s 3))) = (b || textBad (elAt s 0) || textBad (elAt s 1) || numBad (elAt s 2) || numBad (elAt s 3)) by simp only [Bool.or_assoc]]
  exact hr
end Go.Proofs.YtmjlnckmhdgoiaaGreatDoor

/-! The reader reads TXT, END. -/
namespace Go.Proofs.YtmjlnckmhdgoiaaGreatDoor
open Go.RowKit
set_option linter.unusedVariables false

set_option maxRecDepth 100000 in
set_option maxHeartbeats 8000000 in
theorem raw_TXT (B gm gr : Nat) (m : Msg) (b : Bool) (c : Nat) (w : World) (h : PSt w B gm gr m b) (eb eo : Nat) (hbB : eb < B) (A0 : Option Addr) (l0 c0 : Nat) (b0 : Bool) (y0 : Bs) (hc0 : w.cell? ⟨eb, eo, none⟩ = some (.slice A0 l0 c0)) (HN0 : Hid (∀ (b : Bool) (m : Msg) (W : World), Below B w W → PSt W B gm gr m b → Calls Tryz.prog 78 #[.pointer (some ⟨gr, 0, none⟩), .slice A0 l0 c0] W (NumRet B gm gr m w (.string ⟨y0.toArray⟩) (b || b0)))) :
    Calls Tryz.prog 59 #[.pointer (some ⟨gr, 0, none⟩), .pointer (some ⟨gm, 0, none⟩), .agg #[.string ⟨#[84, 88, 84]⟩, .slice (some ⟨eb, eo, none⟩) 1 c]] w (ReadRet B gm gr w ({ m with text := y0 }, b || b0)) := by
  have hlt := h.lt
  have hmB := h.hm
  have hrB := h.hr
  obtain ⟨n0, hn0⟩ : ∃ n0 : Nat, 1 = n0 := ⟨_, rfl⟩
  have tn : ((n0 : Int) == 1) = true := by simp; omega
  have HC0 := Lib.hid hc0
  have HB0 := Lib.hid ((Below.refl B w).alloc (Nat.le_trans hmB (Nat.le_of_lt hlt.1)) (.cells #[.string ⟨#[84, 88, 84]⟩, .slice (some ⟨eb, eo, none⟩) 1 c] 57))
  have HS0 := Lib.hid (h.below ((Below.refl w.heap.size w).alloc (Nat.le_refl _) (.cells #[.string ⟨#[84, 88, 84]⟩, .slice (some ⟨eb, eo, none⟩) 1 c] 57)))
  unfold NumRet at HN0
  clear hc0
  clear h tn hn0 n0
  go_enter Tryz.func59, Tryz.ntmps59
  have hc0 := (HB0.out.cell (p := ⟨eb, eo, none⟩) hbB).trans HC0.out
  have hd0 : (w.alloc (.cells #[.string ⟨#[84, 88, 84]⟩, .slice (some ⟨eb, eo, none⟩) 1 c] 57)).cell? ⟨w.heap.size, 0, none⟩ = some (.string ⟨#[84, 88, 84]⟩) := cell_of_row _ _ _ _ _ _ (heap_alloc_new w _)
  have hd1 : (w.alloc (.cells #[.string ⟨#[84, 88, 84]⟩, .slice (some ⟨eb, eo, none⟩) 1 c] 57)).cell? ⟨w.heap.size, 1, none⟩ = some (.slice (some ⟨eb, eo, none⟩) 1 c) := cell_of_row _ _ _ _ _ _ (heap_alloc_new w _)
  generalize hW : w.alloc (.cells #[.string ⟨#[84, 88, 84]⟩, .slice (some ⟨eb, eo, none⟩) 1 c] 57) = W0 at HB0 HS0 hc0 hd0 hd1
  go_upto_region 18 with (fail)
  go_wp2_with fail
  refine (HN0.out _ _ _ HB0.out HS0.out).mono ?_
  rintro e V1 ⟨rfl, hs2, hb2⟩
  have HS1 := Lib.hid hs2
  have HB1 := Lib.hid hb2
  clear hs2 hb2
  obtain ⟨v_, hc_, hf_⟩ := HS1.out.at_ 12 (by decide)
  go_wp2
  go_end0
  exact ⟨rfl, HS1.out.put (m' := { m with text := y0 }) 12 (.string ⟨y0.toArray⟩) (fun A c h => h.setText _) rfl, Below.but1 HB1.out hmB 12 _⟩
theorem read_TXT (B gm gr : Nat) (m : Msg) (b : Bool) (A : Option Addr) (c : Nat) (s : Seg) (w : World) (h : PSt w B gm gr m b) (hs : ElsAt w B A s.els) (hf : SFit s) (hG : Gl w B) (htag : s.tag = tTXT) (hn : s.els.length = 1) :
    Calls Tryz.prog 59 #[.pointer (some ⟨gr, 0, none⟩), .pointer (some ⟨gm, 0, none⟩), .agg #[str s.tag, .slice A s.els.length c]] w (ReadRet B gm gr w (readP (m, b) s)) := by
  have hq : readP (m, b) s = ({ m with text := wordF (elAt s 0) }, b || (textBad (elAt s 0))) := by
    unfold readP readM
    rw [if_neg (fun h => absurd (htag.symm.trans h.1) (by decide)), if_neg (fun h => absurd (htag.symm.trans h.1) (by decide)), if_neg (fun h => absurd (htag.symm.trans h.1) (by decide)), if_neg (fun h => absurd (htag.symm.trans h.1) (by decide)), if_pos ⟨htag, hn⟩]
  rw [hq]
  obtain ⟨eb, eo, rfl, hbB, hcs⟩ := hs.cells (by omega)
  obtain ⟨A0, c0, hc0, hr0⟩ := hcs 0 (by omega)
  have hr := raw_TXT B gm gr m b c w h eb eo hbB A0 (elAt s 0).length c0 _ _ hc0 (Lib.hid (fun b m W hB hs => rtext_c hB hs c0 hr0 (hf.len 0)))
  rw [htag, hn]
  exact hr
set_option maxRecDepth 100000 in
set_option maxHeartbeats 8000000 in
theorem raw_END (B gm gr : Nat) (m : Msg) (b : Bool) (c : Nat) (w : World) (h : PSt w B gm gr m b) (A : Option Addr)  :
    Calls Tryz.prog 59 #[.pointer (some ⟨gr, 0, none⟩), .pointer (some ⟨gm, 0, none⟩), .agg #[.string ⟨#[69, 78, 68]⟩, .slice A 2 c]] w (ReadRet B gm gr w (m, b)) := by
  have hlt := h.lt
  have hmB := h.hm
  have hrB := h.hr
  obtain ⟨n0, hn0⟩ : ∃ n0 : Nat, 2 = n0 := ⟨_, rfl⟩
  have tn : ((n0 : Int) == 2) = true := by simp; omega
  have HB0 := Lib.hid ((Below.refl B w).alloc (Nat.le_trans hmB (Nat.le_of_lt hlt.1)) (.cells #[.string ⟨#[69, 78, 68]⟩, .slice A 2 c] 57))
  have HS0 := Lib.hid (h.below ((Below.refl w.heap.size w).alloc (Nat.le_refl _) (.cells #[.string ⟨#[69, 78, 68]⟩, .slice A 2 c] 57)))
  skip
  clear h tn hn0 n0
  go_enter Tryz.func59, Tryz.ntmps59
  go_wp2
  go_end0
  exact ⟨rfl, HS0.out, HB0.out⟩
theorem read_END (B gm gr : Nat) (m : Msg) (b : Bool) (A : Option Addr) (c : Nat) (s : Seg) (w : World) (h : PSt w B gm gr m b) (hs : ElsAt w B A s.els) (hf : SFit s) (hG : Gl w B) (htag : s.tag = tEND) (hn : s.els.length = 2) :
    Calls Tryz.prog 59 #[.pointer (some ⟨gr, 0, none⟩), .pointer (some ⟨gm, 0, none⟩), .agg #[str s.tag, .slice A s.els.length c]] w (ReadRet B gm gr w (readP (m, b) s)) := by
  have hq : readP (m, b) s = (m, b || false) := by
    unfold readP readM
    rw [if_neg (fun h => absurd (htag.symm.trans h.1) (by decide)), if_neg (fun h => absurd (htag.symm.trans h.1) (by decide)), if_neg (fun h => absurd (htag.symm.trans h.1) (by decide)), if_neg (fun h => absurd (htag.symm.trans h.1) (by decide)), if_neg (fun h => absurd (htag.symm.trans h.1) (by decide)), if_pos ⟨htag, hn⟩]
  rw [hq]
  have hr := raw_END B gm gr m b c w h A
  rw [htag, hn]
  rw [Bool.or_false]
  exact hr
end Go.Proofs.YtmjlnckmhdgoiaaGreatDoor

/-! The reader refuses what is no segment of a message. -/
namespace Go.Proofs.YtmjlnckmhdgoiaaGreatDoor
open Go.RowKit
set_option linter.unusedVariables false

set_option maxRecDepth 100000 in
set_option maxHeartbeats 8000000 in
theorem rawbad_MSG (B gm gr : Nat) (m : Msg) (b : Bool) (c : Nat) (w : World) (h : PSt w B gm gr m b) (A : Option Addr) (n : Nat) (hn : n ≠ 5) (hn2 : n ≤ 140737488355328) :
    Calls Tryz.prog 59 #[.pointer (some ⟨gr, 0, none⟩), .pointer (some ⟨gm, 0, none⟩), .agg #[.string ⟨#[77, 83, 71]⟩, .slice A n c]] w (ReadRet B gm gr w (m, true)) := by
  have hlt := h.lt
  have hmB := h.hm
  have hrB := h.hr
  have tn : ((n : Int) == 5) = false := by simp; omega
  have HB0 := Lib.hid ((Below.refl B w).alloc (Nat.le_trans hmB (Nat.le_of_lt hlt.1)) (.cells #[.string ⟨#[77, 83, 71]⟩, .slice A n c] 57))
  have HS0 := Lib.hid (h.below ((Below.refl w.heap.size w).alloc (Nat.le_refl _) (.cells #[.string ⟨#[77, 83, 71]⟩, .slice A n c] 57)))
  have HS := Lib.hid h
  have hc_ := HS.out.rd.cell0
  have hf_ := HS.out.rd.frozen0
  have hrl := hlt.2
  clear h hn
  go_enter Tryz.func59, Tryz.ntmps59
  go_wp2
  go_end0
  exact ⟨rfl, (HS.out.turn (HS.out.rd.set true) (Turned.set _ _ ⟨gr, 0, none⟩ rfl _)).below ((Below.refl _ _).alloc (Nat.le_refl _) _), (Below.but1 (Below.refl B w) hrB 0 (.bool true)).alloc (by simp; omega) _⟩
set_option maxRecDepth 100000 in
set_option maxHeartbeats 8000000 in
theorem rawbad_LOT (B gm gr : Nat) (m : Msg) (b : Bool) (c : Nat) (w : World) (h : PSt w B gm gr m b) (A : Option Addr) (n : Nat) (hn : n ≠ 2) (hn2 : n ≤ 140737488355328) :
    Calls Tryz.prog 59 #[.pointer (some ⟨gr, 0, none⟩), .pointer (some ⟨gm, 0, none⟩), .agg #[.string ⟨#[76, 79, 84]⟩, .slice A n c]] w (ReadRet B gm gr w (m, true)) := by
  have hlt := h.lt
  have hmB := h.hm
  have hrB := h.hr
  have tn : ((n : Int) == 2) = false := by simp; omega
  have HB0 := Lib.hid ((Below.refl B w).alloc (Nat.le_trans hmB (Nat.le_of_lt hlt.1)) (.cells #[.string ⟨#[76, 79, 84]⟩, .slice A n c] 57))
  have HS0 := Lib.hid (h.below ((Below.refl w.heap.size w).alloc (Nat.le_refl _) (.cells #[.string ⟨#[76, 79, 84]⟩, .slice A n c] 57)))
  have HS := Lib.hid h
  have hc_ := HS.out.rd.cell0
  have hf_ := HS.out.rd.frozen0
  have hrl := hlt.2
  clear h hn
  go_enter Tryz.func59, Tryz.ntmps59
  go_wp2
  go_end0
  exact ⟨rfl, (HS.out.turn (HS.out.rd.set true) (Turned.set _ _ ⟨gr, 0, none⟩ rfl _)).below ((Below.refl _ _).alloc (Nat.le_refl _) _), (Below.but1 (Below.refl B w) hrB 0 (.bool true)).alloc (by simp; omega) _⟩
set_option maxRecDepth 100000 in
set_option maxHeartbeats 8000000 in
theorem rawbad_GDS (B gm gr : Nat) (m : Msg) (b : Bool) (c : Nat) (w : World) (h : PSt w B gm gr m b) (A : Option Addr) (n : Nat) (hn : n ≠ 4) (hn2 : n ≤ 140737488355328) :
    Calls Tryz.prog 59 #[.pointer (some ⟨gr, 0, none⟩), .pointer (some ⟨gm, 0, none⟩), .agg #[.string ⟨#[71, 68, 83]⟩, .slice A n c]] w (ReadRet B gm gr w (m, true)) := by
  have hlt := h.lt
  have hmB := h.hm
  have hrB := h.hr
  have tn : ((n : Int) == 4) = false := by simp; omega
  have HB0 := Lib.hid ((Below.refl B w).alloc (Nat.le_trans hmB (Nat.le_of_lt hlt.1)) (.cells #[.string ⟨#[71, 68, 83]⟩, .slice A n c] 57))
  have HS0 := Lib.hid (h.below ((Below.refl w.heap.size w).alloc (Nat.le_refl _) (.cells #[.string ⟨#[71, 68, 83]⟩, .slice A n c] 57)))
  have HS := Lib.hid h
  have hc_ := HS.out.rd.cell0
  have hf_ := HS.out.rd.frozen0
  have hrl := hlt.2
  clear h hn
  go_enter Tryz.func59, Tryz.ntmps59
  go_wp2
  go_end0
  exact ⟨rfl, (HS.out.turn (HS.out.rd.set true) (Turned.set _ _ ⟨gr, 0, none⟩ rfl _)).below ((Below.refl _ _).alloc (Nat.le_refl _) _), (Below.but1 (Below.refl B w) hrB 0 (.bool true)).alloc (by simp; omega) _⟩
set_option maxRecDepth 100000 in
set_option maxHeartbeats 8000000 in
theorem rawbad_LST (B gm gr : Nat) (m : Msg) (b : Bool) (c : Nat) (w : World) (h : PSt w B gm gr m b) (A : Option Addr) (n : Nat) (hn : n ≠ 1) (hn2 : n ≤ 140737488355328) :
    Calls Tryz.prog 59 #[.pointer (some ⟨gr, 0, none⟩), .pointer (some ⟨gm, 0, none⟩), .agg #[.string ⟨#[76, 83, 84]⟩, .slice A n c]] w (ReadRet B gm gr w (m, true)) := by
  have hlt := h.lt
  have hmB := h.hm
  have hrB := h.hr
  have tn : ((n : Int) == 1) = false := by simp; omega
  have HB0 := Lib.hid ((Below.refl B w).alloc (Nat.le_trans hmB (Nat.le_of_lt hlt.1)) (.cells #[.string ⟨#[76, 83, 84]⟩, .slice A n c] 57))
  have HS0 := Lib.hid (h.below ((Below.refl w.heap.size w).alloc (Nat.le_refl _) (.cells #[.string ⟨#[76, 83, 84]⟩, .slice A n c] 57)))
  have HS := Lib.hid h
  have hc_ := HS.out.rd.cell0
  have hf_ := HS.out.rd.frozen0
  have hrl := hlt.2
  clear h hn
  go_enter Tryz.func59, Tryz.ntmps59
  go_wp2
  go_end0
  exact ⟨rfl, (HS.out.turn (HS.out.rd.set true) (Turned.set _ _ ⟨gr, 0, none⟩ rfl _)).below ((Below.refl _ _).alloc (Nat.le_refl _) _), (Below.but1 (Below.refl B w) hrB 0 (.bool true)).alloc (by simp; omega) _⟩
set_option maxRecDepth 100000 in
set_option maxHeartbeats 8000000 in
theorem rawbad_TXT (B gm gr : Nat) (m : Msg) (b : Bool) (c : Nat) (w : World) (h : PSt w B gm gr m b) (A : Option Addr) (n : Nat) (hn : n ≠ 1) (hn2 : n ≤ 140737488355328) :
    Calls Tryz.prog 59 #[.pointer (some ⟨gr, 0, none⟩), .pointer (some ⟨gm, 0, none⟩), .agg #[.string ⟨#[84, 88, 84]⟩, .slice A n c]] w (ReadRet B gm gr w (m, true)) := by
  have hlt := h.lt
  have hmB := h.hm
  have hrB := h.hr
  have tn : ((n : Int) == 1) = false := by simp; omega
  have HB0 := Lib.hid ((Below.refl B w).alloc (Nat.le_trans hmB (Nat.le_of_lt hlt.1)) (.cells #[.string ⟨#[84, 88, 84]⟩, .slice A n c] 57))
  have HS0 := Lib.hid (h.below ((Below.refl w.heap.size w).alloc (Nat.le_refl _) (.cells #[.string ⟨#[84, 88, 84]⟩, .slice A n c] 57)))
  have HS := Lib.hid h
  have hc_ := HS.out.rd.cell0
  have hf_ := HS.out.rd.frozen0
  have hrl := hlt.2
  clear h hn
  go_enter Tryz.func59, Tryz.ntmps59
  go_wp2
  go_end0
  exact ⟨rfl, (HS.out.turn (HS.out.rd.set true) (Turned.set _ _ ⟨gr, 0, none⟩ rfl _)).below ((Below.refl _ _).alloc (Nat.le_refl _) _), (Below.but1 (Below.refl B w) hrB 0 (.bool true)).alloc (by simp; omega) _⟩
set_option maxRecDepth 100000 in
set_option maxHeartbeats 8000000 in
theorem rawbad_END (B gm gr : Nat) (m : Msg) (b : Bool) (c : Nat) (w : World) (h : PSt w B gm gr m b) (A : Option Addr) (n : Nat) (hn : n ≠ 2) (hn2 : n ≤ 140737488355328) :
    Calls Tryz.prog 59 #[.pointer (some ⟨gr, 0, none⟩), .pointer (some ⟨gm, 0, none⟩), .agg #[.string ⟨#[69, 78, 68]⟩, .slice A n c]] w (ReadRet B gm gr w (m, true)) := by
  have hlt := h.lt
  have hmB := h.hm
  have hrB := h.hr
  have tn : ((n : Int) == 2) = false := by simp; omega
  have HB0 := Lib.hid ((Below.refl B w).alloc (Nat.le_trans hmB (Nat.le_of_lt hlt.1)) (.cells #[.string ⟨#[69, 78, 68]⟩, .slice A n c] 57))
  have HS0 := Lib.hid (h.below ((Below.refl w.heap.size w).alloc (Nat.le_refl _) (.cells #[.string ⟨#[69, 78, 68]⟩, .slice A n c] 57)))
  have HS := Lib.hid h
  have hc_ := HS.out.rd.cell0
  have hf_ := HS.out.rd.frozen0
  have hrl := hlt.2
  clear h hn
  go_enter Tryz.func59, Tryz.ntmps59
  go_wp2
  go_end0
  exact ⟨rfl, (HS.out.turn (HS.out.rd.set true) (Turned.set _ _ ⟨gr, 0, none⟩ rfl _)).below ((Below.refl _ _).alloc (Nat.le_refl _) _), (Below.but1 (Below.refl B w) hrB 0 (.bool true)).alloc (by simp; omega) _⟩
set_option maxRecDepth 100000 in
set_option maxHeartbeats 8000000 in
theorem rawbad_none (B gm gr : Nat) (m : Msg) (b : Bool) (c : Nat) (w : World) (h : PSt w B gm gr m b) (A : Option Addr) (n : Nat) (t : Bs) (hn2 : n ≤ 140737488355328) (hMSG : (t == [77, 83, 71]) = false) (hLOT : (t == [76, 79, 84]) = false) (hGDS : (t == [71, 68, 83]) = false) (hLST : (t == [76, 83, 84]) = false) (hTXT : (t == [84, 88, 84]) = false) (hEND : (t == [69, 78, 68]) = false) :
    Calls Tryz.prog 59 #[.pointer (some ⟨gr, 0, none⟩), .pointer (some ⟨gm, 0, none⟩), .agg #[.string ⟨t.toArray⟩, .slice A n c]] w (ReadRet B gm gr w (m, true)) := by
  have hlt := h.lt
  have hmB := h.hm
  have hrB := h.hr
  have HB0 := Lib.hid ((Below.refl B w).alloc (Nat.le_trans hmB (Nat.le_of_lt hlt.1)) (.cells #[.string ⟨t.toArray⟩, .slice A n c] 57))
  have HS0 := Lib.hid (h.below ((Below.refl w.heap.size w).alloc (Nat.le_refl _) (.cells #[.string ⟨t.toArray⟩, .slice A n c] 57)))
  have HS := Lib.hid h
  have hc_ := HS.out.rd.cell0
  have hf_ := HS.out.rd.frozen0
  have hrl := hlt.2
  clear h
  go_enter Tryz.func59, Tryz.ntmps59
  go_wp2
  go_end0
  exact ⟨rfl, (HS.out.turn (HS.out.rd.set true) (Turned.set _ _ ⟨gr, 0, none⟩ rfl _)).below ((Below.refl _ _).alloc (Nat.le_refl _) _), (Below.but1 (Below.refl B w) hrB 0 (.bool true)).alloc (by simp; omega) _⟩
end Go.Proofs.YtmjlnckmhdgoiaaGreatDoor

/-! The reader reads LST. -/
namespace Go.Proofs.YtmjlnckmhdgoiaaGreatDoor
open Go.RowKit
set_option linter.unusedVariables false

theorem rnum_w {w W : World} {B gm gr : Nat} {m : Msg} {b : Bool} (hB : Below B w W) (hs : PSt W B gm gr m b) (hG : Gl w B) {A : Option Addr} (c : Nat) {el : List Bs} (hr : Rd W A (strs el)) (hl : el.length ≤ 140737488355328) (hw : (wordF el).length ≤ 281474976710656) :
    Calls Tryz.prog 73 #[.pointer (some ⟨gr, 0, none⟩), .slice A el.length c] W (NumRet B gm gr m w (.int .i64 (numV el)) (b || numBad el)) :=
  (rnum_any gr b A c el W hs.rd hr (by omega) hw (hG.err.keep hB hG.e1 hG.e2) ⟨Nat.lt_of_lt_of_le hG.e1 hs.hr, Nat.lt_of_lt_of_le hG.e2 hs.hr⟩).mono fun e W' ⟨h1, h2, h3⟩ =>
    ⟨h1, hs.turn h2 h3, hB.trans (h3.below hs.hr (Nat.le_trans hs.hr (Nat.le_of_lt hs.lt.2)))⟩
theorem row_ne {r : Option Nat} {g : Nat} (h : r = none ∨ r ≠ some g) : r ≠ some g := by
  rcases h with h | h
  · rw [h]; simp
  · exact h
/-- the list has grown by one -/
theorem PSt.grown {w w' : World} {B gm gr : Nat} {m : Msg} {b : Bool} (h : PSt w B gm gr m b) {A : Option Addr} {c : Nat} (h1 : MBlk w gm m A c) (h2 : w.ownsRow B 3 1 (.slice A m.list.length c) m.list.length (ints m.list)) (hg : w.grownBy w' (Value.slice A m.list.length c).ownBlock) :
    MBlk w' gm m A c ∧ RBlk w' gr b := by
  have k1 := row_ne (own_other h2 h1 (by decide))
  have k2 := row_ne (own_other h2 h.rd (by decide))
  refine ⟨h1.kept hg k1, ?_⟩
  have := hg.block gr h.rd.lt (fun e => k2 e.symm)
  exact this.trans h.rd
theorem PSt.push {w w' : World} {B gm gr : Nat} {m : Msg} {b : Bool} (h : PSt w B gm gr m b) {A A' : Option Addr} {c c' : Nat} (h1 : MBlk w gm m A c) (h2 : w.ownsRow B 3 1 (.slice A m.list.length c) m.list.length (ints m.list)) (hg : w.grownBy w' (Value.slice A m.list.length c).ownBlock) (x : Int)
    (ho : w'.ownsRow B 3 1 (.slice A' (m.list.length + 1) c') (m.list.length + 1) (ints m.list ++ [.int .i64 x])) : PSt (w'.setCell ⟨gm, 11, none⟩ (.slice A' (m.list.length + 1) c')) B gm gr { m with list := m.list ++ [x] } b := by
  obtain ⟨g1, g2⟩ := h.grown h1 h2 hg
  have hl6 : (m.list ++ [x]).length = m.list.length + 1 := by simp
  have hblk := g1.setList (m.list ++ [x]) A' c'
  rw [hl6] at hblk
  refine ⟨⟨A', c', ?_, ?_⟩, ?_, h.ne, h.hm, h.hr⟩
  · exact hblk
  · show (w'.setCell ⟨gm, 11, none⟩ _).ownsRow B 3 1 (.slice A' (m.list ++ [x]).length c') (m.list ++ [x]).length (ints (m.list ++ [x]))
    rw [hl6]
    have := own_setX ho g1 (by decide) (k := 11) (.slice A' (m.list.length + 1) c')
    unfold ints at this ⊢
    rw [List.map_append]
    exact this
  · unfold RBlk at *
    rw [Below.heap_setCell w' ⟨gm, 11, none⟩ _ gr (fun e => h.ne e.symm)]
    exact g2
def LstRel (B gm gr : Nat) (m : Msg) (b : Bool) (L : List Bs) (w : World) (g : Nat) (i : Value) (wr : World) : Prop :=
  ∃ k : Nat, k + g = L.length ∧ i = .int .i64 (k : Int) ∧ PSt wr B gm gr { m with list := m.list ++ (L.take k).map (fun c => numV (elT c)) } (b || (L.take k).any (fun c => numBad (elT c))) ∧ Below B w wr
theorem lst_next {m : Msg} {b : Bool} {L : List Bs} {k : Nat} (h : k < L.length) :
    ({ m with list := m.list ++ (L.take (k + 1)).map (fun c => numV (elT c)) } : Msg) = { m with list := (m.list ++ (L.take k).map (fun c => numV (elT c))) ++ [numV (elT L[k])] } ∧
    (b || (L.take (k + 1)).any (fun c => numBad (elT c))) = ((b || (L.take k).any (fun c => numBad (elT c))) || numBad (elT L[k])) := by
  rw [List.take_succ_eq_append_getElem h]
  refine ⟨?_, ?_⟩
  · simp only [List.map_append, List.map_cons, List.map_nil, List.append_assoc]
  · simp only [List.any_append, List.any_cons, List.any_nil, Bool.or_false, Bool.or_assoc]
theorem intInfoP : (Tryz.prog.info? 3).map (fun i => (i.zero, i.size, i.bytes)) = some (some (.int .i64 0), 1, 8) := by kernel_rfl
set_option maxRecDepth 100000 in
set_option maxHeartbeats 8000000 in
theorem raw_LST (B gm gr : Nat) (m : Msg) (b : Bool) (c : Nat) (w : World) (h : PSt w B gm gr m b) (eb eo : Nat) (hbB : eb < B) (A0 : Option Addr) (c0 : Nat) (L : List Bs) (hc0 : w.cell? ⟨eb, eo, none⟩ = some (.slice A0 L.length c0)) (hr0 : RdB w B A0 (strs L)) (hG : Gl w B)
    (hL : L.length ≤ 140737488355328) (hLw : ∀ c ∈ L, c.length ≤ 281474976710656) (hml : m.list.length + L.length ≤ 17592186044000) :
    Calls Tryz.prog 59 #[.pointer (some ⟨gr, 0, none⟩), .pointer (some ⟨gm, 0, none⟩), .agg #[.string ⟨#[76, 83, 84]⟩, .slice (some ⟨eb, eo, none⟩) 1 c]] w (ReadRet B gm gr w ({ m with list := m.list ++ L.map (fun c => numV (elT c)) }, b || L.any (fun c => numBad (elT c)))) := by
  have hlt := h.lt
  have hmB := h.hm
  have hrB := h.hr
  have HB0 := Lib.hid ((Below.refl B w).alloc (Nat.le_trans hmB (Nat.le_of_lt hlt.1)) (.cells #[.string ⟨#[76, 83, 84]⟩, .slice (some ⟨eb, eo, none⟩) 1 c] 57))
  have HS0 := Lib.hid (h.below ((Below.refl w.heap.size w).alloc (Nat.le_refl _) (.cells #[.string ⟨#[76, 83, 84]⟩, .slice (some ⟨eb, eo, none⟩) 1 c] 57)))
  have hd0 : (w.alloc (.cells #[.string ⟨#[76, 83, 84]⟩, .slice (some ⟨eb, eo, none⟩) 1 c] 57)).cell? ⟨w.heap.size, 0, none⟩ = some (.string ⟨#[76, 83, 84]⟩) := cell_of_row _ _ _ _ _ _ (heap_alloc_new w _)
  have hd1 : (w.alloc (.cells #[.string ⟨#[76, 83, 84]⟩, .slice (some ⟨eb, eo, none⟩) 1 c] 57)).cell? ⟨w.heap.size, 1, none⟩ = some (.slice (some ⟨eb, eo, none⟩) 1 c) := cell_of_row _ _ _ _ _ _ (heap_alloc_new w _)
  have hd2 := (HB0.out.cell (p := ⟨eb, eo, none⟩) hbB).trans hc0
  generalize hW : w.alloc (.cells #[.string ⟨#[76, 83, 84]⟩, .slice (some ⟨eb, eo, none⟩) 1 c] 57) = W0 at HB0 HS0 hd0 hd1 hd2
  have HG := Lib.hid hG
  have HRR := Lib.hid hr0
  have HLW := Lib.hid hLw
  obtain ⟨i0, hi0, hz0, hz1, hz2⟩ := info_parts intInfoP
  clear h hc0 hr0 hG hLw hlt
  go_enter Tryz.func59, Tryz.ntmps59
  go_wp2
  clear hW hd0 hd1 hd2
  go_loopg [142] L.length (fun g i wr => LstRel B gm gr m b L w g i wr)
  case atStart =>
    refine ⟨0, by omega, rfl, ?_, HB0.out⟩
    have := HS0.out
    simpa using this
  case round =>
    obtain ⟨k, hk, rfl, hst, hb⟩ := hrel
    have HK := Lib.hid hk
    have HST := Lib.hid hst
    have HBL := Lib.hid hb
    have hk2 : k ≤ L.length := by omega
    clear hk hst hb HS0 HB0
    by_cases hlk : k < L.length
    · obtain ⟨b1, o1, rfl, hs1⟩ := (HRR.out.below HBL.out).rd.at_lit (strs_get hlk)
      have HNX := Lib.hid (lst_next (m := m) (b := b) hlk)
      have hxw := HLW.out L[k] (List.getElem_mem _)
      have hxl : (m.list ++ (L.take k).map (fun c => numV (elT c))).length < 17592186044000 := by simp; omega
      unfold str at hs1
      generalize L[k] = x at *
      generalize (b || (L.take k).any (fun c => numBad (elT c))) = bk at *
      generalize hmk : ({ m with list := m.list ++ (L.take k).map (fun c => numV (elT c)) } : Msg) = mk at *
      have hmkl : mk.list = m.list ++ (L.take k).map (fun c => numV (elT c)) := by rw [← hmk]
      rw [← hmkl] at hxl
      obtain ⟨Av, cv, hmb, hown⟩ := HST.out.blk
      have hcc := hmb.cell 11
      simp only [msgC, List.getElem?_toArray, List.getElem?_cons_succ, List.getElem?_cons_zero] at hcc
      have HMB := Lib.hid hmb
      have HOWN := Lib.hid hown
      have HMK := Lib.hid hmk
      have HMKL := Lib.hid hmkl
      have hwe : (wordF (elT x)).length ≤ 281474976710656 := by rw [word_elT]; exact hxw
      have hel : (elT x).length ≤ 140737488355328 := by unfold elT; split <;> simp
      clear hmb hown hmk hmkl hxw
      go_upto_region 15 with (fail)
      have HS : Hid (wr.drew.cell? ⟨gm, 11, none⟩ = some (.slice Av mk.list.length cv)) := hcc
      refine wp_region_x 13 (by kernel_rfl) (fun W => W.cell? ⟨gm, 11, none⟩ = some (.slice Av mk.list.length cv)) ?_
      refine wpAnyX_take (i := 0) (v := .pointer (some ⟨gm, 0, none⟩)) rfl (by kernel_rfl) (by kernel_rfl) (by kernel_rfl) (by kernel_rfl) (fun _ _ _ h => h) HS.out (Or.inl ⟨by rfl, fun w hS => by go_simp⟩) ?_
      go_simp
      refine wpAnyX_take (i := 1) (v := .pointer (some ⟨gm, 0, none⟩)) rfl (by kernel_rfl) (by kernel_rfl) (by kernel_rfl) (by kernel_rfl) (fun _ _ _ h => h) HS.out (Or.inl ⟨by rfl, fun w hS => by go_simp⟩) ?_
      go_simp
      refine wpAnyX_take (i := 2) (v := .pointer (some ⟨gm, 0, none⟩)) rfl (by kernel_rfl) (by kernel_rfl) (by kernel_rfl) (by kernel_rfl) (fun _ _ _ h => h) HS.out (Or.inl ⟨by rfl, fun w hS => by go_simp⟩) ?_
      go_simp
      refine wpAnyX_take (i := 3) (v := .pointer (some ⟨gm, 11, none⟩)) rfl (by kernel_rfl) (by kernel_rfl) (by kernel_rfl) (by kernel_rfl) (fun _ _ _ h => h) HS.out (Or.inl ⟨by rfl, fun w hS => by go_simp⟩) ?_
      go_simp
      refine wpAnyX_take (i := 4) (v := .slice Av mk.list.length cv) rfl (by kernel_rfl) (by kernel_rfl) (by kernel_rfl) (by kernel_rfl) (fun _ _ _ h => h) HS.out (Or.inl ⟨by rfl, fun w hS => by go_simp⟩) ?_
      go_simp
      refine wpAnyX_take (i := 5) (v := .pointer (some ⟨gr, 0, none⟩)) rfl (by kernel_rfl) (by kernel_rfl) (by kernel_rfl) (by kernel_rfl) (fun _ _ _ h => h) HS.out (Or.inl ⟨by rfl, fun w hS => by go_simp⟩) ?_
      go_simp
      refine wpAnyX_take (i := 6) (v := .string ⟨x.toArray⟩) rfl (by kernel_rfl) (by kernel_rfl) (by kernel_rfl) (by kernel_rfl) (fun _ _ _ h => h) HS.out (Or.inl ⟨by rfl, fun w hS => by go_simp⟩) ?_
      go_simp
      have hgm := HST.out.lt.1
      have hsz : B ≤ wr.heap.size := by omega
      refine wpAnyX_one (i := 7) (by kernel_rfl) rfl (fun K hK => ?_)
      go_simp
      go_wp2_with (go_at_call 79; refine (textE_any x _).mono ?_; rintro e W1 ⟨A1, c1, rfl, ho1, hb1⟩)
      have HR1 := Lib.hid (own_shape ho1)
      have hb1 : Below wr.heap.size wr W1 := ⟨hb1.os, hb1.tape, hb1.output, hb1.size, hb1.block⟩
      have HS1 := Lib.hid (HST.out.below hb1)
      have HB1 := Lib.hid (HBL.out.trans (hb1.mono hsz))
      have HM1 := Lib.hid (HMB.out.below hb1)
      have HO1 := Lib.hid (own_below HOWN.out hb1)
      have hcc1 := (hb1.cell (p := ⟨gm, 11, none⟩) hgm).trans hcc
      refine hK.out _ _ (fun _ => hcc1) ?_
      clear hK K HS hcc hs1 hb1 ho1 HST HBL HMB HOWN
      have HRD : Hid (Rd W1 A1 (strs (elT x))) := by
        obtain ⟨A2, c2, e, hr, _⟩ := HR1.out
        injection e with e1 _ _
        subst e1
        exact hr.rd
      refine wpAnyX_one (i := 8) (by kernel_rfl) rfl (fun K hK => ?_)
      go_simp
      go_wp2_with (go_at_call 73; refine (rnum_any gr bk A1 c1 (elT x) W1 HS1.out.rd HRD.out (by omega) hwe (HG.out.err.keep HB1.out HG.out.e1 HG.out.e2) ⟨Nat.lt_of_lt_of_le HG.out.e1 hrB, Nat.lt_of_lt_of_le HG.out.e2 hrB⟩).mono ?_; rintro e W2 ⟨rfl, hr2, ht2⟩)
      have hgm1 := HM1.out.lt
      have HS2 := Lib.hid (HS1.out.turn hr2 ht2)
      have HM2 := Lib.hid (HM1.out.kept ht2 (by intro e; injection e with e; exact HS1.out.ne e.symm))
      have HO2 := Lib.hid (World.ownsRow.kept HO1.out ht2 (own_other HO1.out HS1.out.rd (by decide)))
      have HB2 := Lib.hid (HB1.out.trans (ht2.below hrB (by omega)))
      have hcc2 := HM2.out.cell 11
      simp only [msgC, List.getElem?_toArray, List.getElem?_cons_succ, List.getElem?_cons_zero] at hcc2
      have hgm2 := HM2.out.lt
      have hsz2 : B ≤ W2.heap.size := by omega
      refine hK.out _ _ (fun _ => hcc2) ?_
      clear hK K hr2 ht2 HS1 HM1 HO1 HB1 hcc1 HRD HR1 hel hwe
      generalize numV (elT x) = y at *
      generalize numBad (elT x) = by_ at *
      refine wpAnyX_one (i := 9) (by kernel_rfl) rfl (fun K hK => ?_)
      go_simp
      have qa := (Below.refl W2.heap.size W2).alloc (Nat.le_refl _) (.cells #[.int .i64 y] 3)
      refine hK.out _ _ (fun _ => (qa.cell (p := ⟨gm, 11, none⟩) hgm2).trans hcc2) ?_
      clear hK K
      refine wpAnyX_one (i := 10) (by kernel_rfl) rfl (fun K hK => ?_)
      refine step_append_one W2 (by rfl) (.tmp 150) (.tmp 155) 22 (by rfl) B 3 i0 _ 1 8 Tryz.underlying22 hi0 hz0 hz1 hz2 rfl (by omega) (.slice Av mk.list.length cv) mk.list.length (ints mk.list) [.int .i64 y] rfl (by simp [Value.oneCell']) (by rfl) HO2.out (by rfl) (by unfold maxLen; omega) (by omega) hsz2 ?_
      intro v5 w5 hown5 hb5 hg5
      have hgrn := HS2.out.grown HM2.out HO2.out hg5
      have hcc5 := hgrn.1.cell 11
      simp only [msgC, List.getElem?_toArray, List.getElem?_cons_succ, List.getElem?_cons_zero] at hcc5
      have hff5 := hgrn.1.frozen 11
      obtain ⟨A5, c5, rfl, _, _⟩ := own_shape hown5
      have HP5 := Lib.hid (HS2.out.push HM2.out HO2.out hg5 y hown5)
      have HB5 := Lib.hid (Below.but1 (HB2.out.trans hb5) hmB 11 (.slice A5 (mk.list.length + 1) c5))
      refine hK.out _ _ (fun _ => hcc5) ?_
      clear hK K hgrn hown5 hb5 hg5 HS2 HM2 HO2 HB2 hcc2 qa
      go_simp
      refine wpAnyX_one (i := 11) (by kernel_rfl) rfl (fun K hK => ?_)
      go_simp
      refine hK.out _ _ (fun _ => hcc5) ?_
      clear hK K
      refine wpAnyX_one (i := 12) (by kernel_rfl) rfl (fun K hK => ?_)
      go_simp
      refine hK.out _ _ (fun _ => hcc5) ?_
      clear hK K
      refine wpAnyX_one (i := 13) (by kernel_rfl) rfl (fun K hK => ?_)
      go_simp
      refine hK.out _ _ (fun h => absurd rfl h) ?_
      clear hK K
      refine wpAnyX_done (by kernel_rfl) ?_
      go_wp2_with fail
      go_roundg (L.length - (k + 1))
      case measure => have := HK.out; omega
      case rel =>
        refine ⟨k + 1, by omega, by go_num, ?_, HB5.out⟩
        have h5 := HP5.out
        rw [HNX.out.1, HNX.out.2]
        have e : ({ mk with list := mk.list ++ [y] } : Msg) = { m with list := (m.list ++ (L.take k).map (fun c => numV (elT c))) ++ [y] } := by rw [← HMK.out]
        rw [← e]
        exact h5
    · have hge : L.length ≤ k := by omega
      have HX := HST
      rw [List.take_of_length_le hge] at HX
      clear hlk
      go_wp2
      go_end0
      exact ⟨rfl, HX.out, HBL.out⟩
end Go.Proofs.YtmjlnckmhdgoiaaGreatDoor

/-! Contract of (*reader).read: every segment. -/
namespace Go.Proofs.YtmjlnckmhdgoiaaGreatDoor
open Go.RowKit
set_option linter.unusedVariables false

theorem read_LST (B gm gr : Nat) (m : Msg) (b : Bool) (A : Option Addr) (c : Nat) (s : Seg) (w : World) (h : PSt w B gm gr m b) (hs : ElsAt w B A s.els) (hf : SFit s) (hG : Gl w B) (htag : s.tag = tLST) (hn : s.els.length = 1) (hml : m.list.length + cntF s ≤ 17592186044000) :
    Calls Tryz.prog 59 #[.pointer (some ⟨gr, 0, none⟩), .pointer (some ⟨gm, 0, none⟩), .agg #[str s.tag, .slice A s.els.length c]] w (ReadRet B gm gr w (readP (m, b) s)) := by
  have hq : readP (m, b) s = ({ m with list := m.list ++ (elAt s 0).map (fun c => numV (elT c)) }, b || (elAt s 0).any (fun c => numBad (elT c))) := by
    unfold readP readM
    rw [if_neg (fun h => absurd (htag.symm.trans h.1) (by decide)), if_neg (fun h => absurd (htag.symm.trans h.1) (by decide)), if_neg (fun h => absurd (htag.symm.trans h.1) (by decide)), if_pos ⟨htag, hn⟩]
  rw [hq]
  obtain ⟨eb, eo, rfl, hbB, hcs⟩ := hs.cells (by omega)
  obtain ⟨A0, c0, hc0, hr0⟩ := hcs 0 (by omega)
  have hr := raw_LST B gm gr m b c w h eb eo hbB A0 c0 (elAt s 0) hc0 hr0 hG (hf.len 0) (fun c hc => by
    rcases el_mem s 0 with h2 | h2
    · rw [h2] at hc; cases hc
    · exact hf.w _ h2 _ hc) hml
  rw [htag, hn]
  exact hr
theorem read_bad {m : Msg} {b : Bool} {s : Seg} (h : ∀ t n, (t, n) ∈ [(tMSG, 5), (tLOT, 2), (tGDS, 4), (tLST, 1), (tTXT, 1), (tEND, 2)] → ¬ (s.tag = t ∧ s.els.length = n)) : readP (m, b) s = (m, true) := by
  unfold readP readM
  rw [if_neg (h _ _ (by simp)), if_neg (h _ _ (by simp)), if_neg (h _ _ (by simp)), if_neg (h _ _ (by simp)), if_neg (h _ _ (by simp)), if_neg (h _ _ (by simp)), Bool.or_true]
theorem read_any (B gm gr : Nat) (m : Msg) (b : Bool) (A : Option Addr) (c : Nat) (s : Seg) (w : World) (h : PSt w B gm gr m b) (hs : ElsAt w B A s.els) (hf : SFit s) (hG : Gl w B) (hml : m.list.length + cntF s ≤ 17592186044000) :
    Calls Tryz.prog 59 #[.pointer (some ⟨gr, 0, none⟩), .pointer (some ⟨gm, 0, none⟩), .agg #[str s.tag, .slice A s.els.length c]] w (ReadRet B gm gr w (readP (m, b) s)) := by
  have hnn : s.els.length ≤ 140737488355328 := by have := hf.n; omega
  by_cases t1 : s.tag = tMSG
  · by_cases n1 : s.els.length = 5
    · exact read_MSG B gm gr m b A c s w h hs hf hG t1 n1
    · have hr := rawbad_MSG B gm gr m b c w h A s.els.length n1 hnn
      rw [read_bad (fun t n hm hh => by
        rw [t1] at hh
        simp only [List.mem_cons, Prod.mk.injEq, List.not_mem_nil, or_false] at hm
        rcases hm with ⟨rfl, rfl⟩ | ⟨rfl, rfl⟩ | ⟨rfl, rfl⟩ | ⟨rfl, rfl⟩ | ⟨rfl, rfl⟩ | ⟨rfl, rfl⟩
        · exact n1 hh.2
        all_goals exact absurd hh.1 (by decide))]
      rw [t1]; exact hr
  by_cases t2 : s.tag = tLOT
  · by_cases n1 : s.els.length = 2
    · exact read_LOT B gm gr m b A c s w h hs hf hG t2 n1
    · have hr := rawbad_LOT B gm gr m b c w h A s.els.length n1 hnn
      rw [read_bad (fun t n hm hh => by
        rw [t2] at hh
        simp only [List.mem_cons, Prod.mk.injEq, List.not_mem_nil, or_false] at hm
        rcases hm with ⟨rfl, rfl⟩ | ⟨rfl, rfl⟩ | ⟨rfl, rfl⟩ | ⟨rfl, rfl⟩ | ⟨rfl, rfl⟩ | ⟨rfl, rfl⟩
        · exact absurd hh.1 (by decide)
        · exact n1 hh.2
        all_goals exact absurd hh.1 (by decide))]
      rw [t2]; exact hr
  by_cases t3 : s.tag = tGDS
  · by_cases n1 : s.els.length = 4
    · exact read_GDS B gm gr m b A c s w h hs hf hG t3 n1
    · have hr := rawbad_GDS B gm gr m b c w h A s.els.length n1 hnn
      rw [read_bad (fun t n hm hh => by
        rw [t3] at hh
        simp only [List.mem_cons, Prod.mk.injEq, List.not_mem_nil, or_false] at hm
        rcases hm with ⟨rfl, rfl⟩ | ⟨rfl, rfl⟩ | ⟨rfl, rfl⟩ | ⟨rfl, rfl⟩ | ⟨rfl, rfl⟩ | ⟨rfl, rfl⟩
        · exact absurd hh.1 (by decide)
        · exact absurd hh.1 (by decide)
        · exact n1 hh.2
        all_goals exact absurd hh.1 (by decide))]
      rw [t3]; exact hr
  by_cases t4 : s.tag = tLST
  · by_cases n1 : s.els.length = 1
    · exact read_LST B gm gr m b A c s w h hs hf hG t4 n1 hml
    · have hr := rawbad_LST B gm gr m b c w h A s.els.length n1 hnn
      rw [read_bad (fun t n hm hh => by
        rw [t4] at hh
        simp only [List.mem_cons, Prod.mk.injEq, List.not_mem_nil, or_false] at hm
        rcases hm with ⟨rfl, rfl⟩ | ⟨rfl, rfl⟩ | ⟨rfl, rfl⟩ | ⟨rfl, rfl⟩ | ⟨rfl, rfl⟩ | ⟨rfl, rfl⟩
        · exact absurd hh.1 (by decide)
        · exact absurd hh.1 (by decide)
        · exact absurd hh.1 (by decide)
        · exact n1 hh.2
        all_goals exact absurd hh.1 (by decide))]
      rw [t4]; exact hr
  by_cases t5 : s.tag = tTXT
  · by_cases n1 : s.els.length = 1
    · exact read_TXT B gm gr m b A c s w h hs hf hG t5 n1
    · have hr := rawbad_TXT B gm gr m b c w h A s.els.length n1 hnn
      rw [read_bad (fun t n hm hh => by
        rw [t5] at hh
        simp only [List.mem_cons, Prod.mk.injEq, List.not_mem_nil, or_false] at hm
        rcases hm with ⟨rfl, rfl⟩ | ⟨rfl, rfl⟩ | ⟨rfl, rfl⟩ | ⟨rfl, rfl⟩ | ⟨rfl, rfl⟩ | ⟨rfl, rfl⟩
        · exact absurd hh.1 (by decide)
        · exact absurd hh.1 (by decide)
        · exact absurd hh.1 (by decide)
        · exact absurd hh.1 (by decide)
        · exact n1 hh.2
        · exact absurd hh.1 (by decide))]
      rw [t5]; exact hr
  by_cases t6 : s.tag = tEND
  · by_cases n1 : s.els.length = 2
    · exact read_END B gm gr m b A c s w h hs hf hG t6 n1
    · have hr := rawbad_END B gm gr m b c w h A s.els.length n1 hnn
      rw [read_bad (fun t n hm hh => by
        rw [t6] at hh
        simp only [List.mem_cons, Prod.mk.injEq, List.not_mem_nil, or_false] at hm
        rcases hm with ⟨rfl, rfl⟩ | ⟨rfl, rfl⟩ | ⟨rfl, rfl⟩ | ⟨rfl, rfl⟩ | ⟨rfl, rfl⟩ | ⟨rfl, rfl⟩
        · exact absurd hh.1 (by decide)
        · exact absurd hh.1 (by decide)
        · exact absurd hh.1 (by decide)
        · exact absurd hh.1 (by decide)
        · exact absurd hh.1 (by decide)
        · exact n1 hh.2)]
      rw [t6]; exact hr
  have hr := rawbad_none B gm gr m b c w h A s.els.length s.tag hnn (by simpa [tMSG] using t1) (by simpa [tLOT] using t2) (by simpa [tGDS] using t3) (by simpa [tLST] using t4) (by simpa [tTXT] using t5) (by simpa [tEND] using t6)
  rw [read_bad (fun t n hm hh => by
    simp only [List.mem_cons, Prod.mk.injEq, List.not_mem_nil, or_false] at hm
    rcases hm with ⟨rfl, rfl⟩ | ⟨rfl, rfl⟩ | ⟨rfl, rfl⟩ | ⟨rfl, rfl⟩ | ⟨rfl, rfl⟩ | ⟨rfl, rfl⟩
    · exact t1 hh.1
    · exact t2 hh.1
    · exact t3 hh.1
    · exact t4 hh.1
    · exact t5 hh.1
    · exact t6 hh.1)]
  exact hr
end Go.Proofs.YtmjlnckmhdgoiaaGreatDoor
