/- The law SegmentChanged: the walk (printed by mkchg.py). -/
import Derived.Test.YtmnflbgejagpmaaTe
import Derived.Outline
namespace Go.Proofs.Ytmnflbgejagpmaa
open Go.RowKit
set_option linter.unusedVariables false

def ChgRel (n : Nat) (vb : Value) (w : World) (g : Nat) (i : Value) (wr : World) : Prop :=
  ∃ (k : Nat) (bs : Bs), k + g = 4 ∧ i = .int .i64 (k : Int) ∧ bs.length = n ∧ OwnB wr w.heap.size vb bs ∧ Below w.heap.size w wr
namespace segmentChanged
set_option maxRecDepth 100000 in
set_option maxHeartbeats 1000000 in
theorem walkSegmentChanged (A1 : Option Addr) (c1 : Nat) (l : List Int) (A2 : Option Addr) (c2 : Nat) (at_ : List Int) (A3 : Option Addr) (c3 : Nat) (by_ : Bs) (cut : Int) (w : World) (h1 : SlI w A1 c1 l) (h2 : SlI w A2 c2 at_) (h3 : SlB w A3 c3 by_) (hcut : -9223372036854775808 ≤ cut ∧ cut ≤ 9223372036854775807) :
    Calls Try.prog 7 #[.slice A1 l.length c1, .slice A2 at_.length c2, .slice A3 by_.length c3, .int .i64 cut] w fun e w' => e = .returned (.bool true) ∧ Below w.heap.size w w' := by
  have HM := Lib.hid (mSegments_any A1 c1 l w h1.rd h1.le (by have := h1.max; omega))
  have HAW := Lib.hid (fun W => awake_any W)
  have HR2 := Lib.hid (RdB.of_rd h2.rd)
  have HR3 := Lib.hid (RdB.of_rd h3.rd)
  have h2l : at_.length ≤ 9223372036854775807 := by have := h2.lt; omega
  have h3l : by_.length ≤ 9223372036854775807 := by have := h3.le; have := h3.max; unfold maxLen at this; omega
  clear h1 h2 h3
  go_enter Try.func7, Try.ntmps7
  go_wp2_with fail
  refine HM.out.mono ?_
  rintro e w1 ⟨v, segs, rfl, hown, h12, hval, hb1⟩
  obtain ⟨Av, cv, rfl, hcv, hat⟩ := hown.at_
  have HEN := Lib.hid (refEncode_any Av cv segs w1 hat (by omega) (fits_few (by omega)) (fun s hs => sized_valid (hval s hs)))
  have hlen : (encAll segs).length ≤ 1000000000 := by have := encAll_len segs hval; omega
  have HEZ : Hid (encE? segs = 0) := encE?_zero.2 hval
  clear hval hat hown
  go_wp2_with fail
  refine HEN.out.mono ?_
  rintro e w2 ⟨hb2, h⟩
  rcases h with ⟨_, vb, rfl, hob⟩ | ⟨h, _⟩
  · have hob2 := hob.mono hb1.size
    obtain ⟨Ab, cb, rfl, _, hcb, _⟩ := hob.shape
    have hB2 := hb1.trans (hb2.mono hb1.size)
    clear hob
    generalize encAll segs = b0 at hob2 hlen hcb
    obtain ⟨n, hn⟩ : ∃ n, n = b0.length := ⟨_, rfl⟩
    rw [← hn] at hlen hcb hob2
    have HN := Lib.hid hn
    go_wp2
    rw [← HN.out]
    clear hn
    go_loopg [11] 4 (fun g i wr => ChgRel n (.slice Ab n cb) w g i wr)
    case atStart => exact ⟨0, b0, by omega, rfl, HN.out.symm, hob2, hB2⟩
    case round =>
      obtain ⟨k, bs, hk, rfl, hbn, hob, hb⟩ := hrel
      have HK := Lib.hid hk
      have HBN := Lib.hid hbn
      have hk2 : k ≤ 4 := by omega
      clear hk hbn
      have hob : OwnB wr w.heap.size (.slice Ab bs.length cb) bs := by rw [HBN.out]; exact hob
      by_cases g1 : k < at_.length
      · have d1 : decide ((k : Int) < (at_.length : Int)) = true := by simp; omega
        by_cases g2 : k < by_.length
        · have d2 : decide ((k : Int) < (by_.length : Int)) = true := by simp; omega
          by_cases g3 : k < 3
          · have d3 : decide (k < 3) = true := by simp; omega
            by_cases g4 : 0 < n
            · have d4 : decide (0 < n) = true := by simp; omega
              obtain ⟨ba, oa, rfl, hca⟩ := (HR2.out.below hb).rd.int g1
              obtain ⟨bb, ob, rfl, hcb2⟩ := (HR3.out.below hb).rd.at_lit (u8s_at g2)
              obtain ⟨g, rfl, hgB, hgs, hgc⟩ := hob.open_ (by rw [HBN.out]; exact g4)
              generalize at_[k]?.getD 0 = z at hca
              generalize hyy : by_[k] = y at hcb2
              obtain ⟨q, hq, hqn⟩ : ∃ q : Nat, z % (n : Int) = (q : Int) ∧ q < n := by
                have g1 := Int.emod_nonneg z (by omega : (n : Int) ≠ 0)
                have g2 := Int.emod_lt_of_pos z (by omega : (0 : Int) < (n : Int))
                exact ⟨(z % (n : Int)).toNat, by omega, by omega⟩
              have HWI := fun W => within_any z (n : Int) W (by omega) (by omega)
              rw [hq] at HWI
              have HWI := Lib.hid HWI
              obtain ⟨⟨u, hgu⟩, hgf⟩ := hgc q (by rw [HBN.out]; exact hqn)
              have hP := hob.put q y
              have HP := Lib.hid hP
              have HBS : Hid ((bs.set q y).length = n) := by show _ = _; rw [List.length_set]; exact HBN.out
              have hBs := hb.setCell (p := ⟨g, q, none⟩) hgB (.int .u8 (y.toNat : Int))
              have hi1 : (k : Int) < (at_.length : Int) := by omega
              have hi2 : (k : Int) < (List.length by_ : Int) := by omega
              have hi3 : (0 : Int) ≤ (k : Int) := by omega
              have hi4 : (q : Int) < (n : Int) := by omega
              clear hq hyy hgc hP
              go_wp2
              refine wp_region_x 13 (by kernel_rfl) (fun w' => w'.cell? ⟨ba, oa + k, none⟩ = some (.int .i64 z) ∧ w'.cell? ⟨bb, ob + k, none⟩ = some (.int .u8 (y.toNat : Int))) ?_
              have HS : Hid (wr.drew.cell? ⟨ba, oa + k, none⟩ = some (.int .i64 z) ∧ wr.drew.cell? ⟨bb, ob + k, none⟩ = some (.int .u8 (y.toNat : Int))) := ⟨hca, hcb2⟩
              refine wpAnyX_take (i := 0) (v := .slice (some ⟨g, 0, none⟩) n cb) rfl (by kernel_rfl) (by kernel_rfl) (by kernel_rfl) (by kernel_rfl) (fun _ _ _ h => h) HS.out (Or.inl ⟨by rfl, fun w hS => by obtain ⟨hS1, hS2⟩ := hS; go_simp⟩) ?_
              go_simp
              refine wpAnyX_take (i := 1) (v := .slice (some ⟨ba, oa, none⟩) at_.length c2) rfl (by kernel_rfl) (by kernel_rfl) (by kernel_rfl) (by kernel_rfl) (fun _ _ _ h => h) HS.out (Or.inl ⟨by rfl, fun w hS => by obtain ⟨hS1, hS2⟩ := hS; go_simp⟩) ?_
              go_simp
              refine wpAnyX_take (i := 2) (v := .int .i64 (k : Int)) rfl (by kernel_rfl) (by kernel_rfl) (by kernel_rfl) (by kernel_rfl) (fun _ _ _ h => h) HS.out (Or.inl ⟨by rfl, fun w hS => by obtain ⟨hS1, hS2⟩ := hS; go_simp⟩) ?_
              go_simp
              refine wpAnyX_take (i := 3) (v := .pointer (some ⟨ba, oa + k, none⟩)) rfl (by kernel_rfl) (by kernel_rfl) (by kernel_rfl) (by kernel_rfl) (fun _ _ _ h => h) HS.out (Or.inl ⟨by rfl, fun w hS => by obtain ⟨hS1, hS2⟩ := hS; go_simp⟩) ?_
              go_simp
              refine wpAnyX_take (i := 4) (v := .int .i64 z) rfl (by kernel_rfl) (by kernel_rfl) (by kernel_rfl) (by kernel_rfl) (fun _ _ _ h => h) HS.out (Or.inl ⟨by rfl, fun w hS => by obtain ⟨hS1, hS2⟩ := hS; go_simp⟩) ?_
              go_simp
              refine wpAnyX_take (i := 5) (v := .slice (some ⟨g, 0, none⟩) n cb) rfl (by kernel_rfl) (by kernel_rfl) (by kernel_rfl) (by kernel_rfl) (fun _ _ _ h => h) HS.out (Or.inl ⟨by rfl, fun w hS => by obtain ⟨hS1, hS2⟩ := hS; go_simp⟩) ?_
              go_simp
              refine wpAnyX_take (i := 6) (v := .int .i64 (n : Int)) rfl (by kernel_rfl) (by kernel_rfl) (by kernel_rfl) (by kernel_rfl) (fun _ _ _ h => h) HS.out (Or.inl ⟨by rfl, fun w hS => by obtain ⟨hS1, hS2⟩ := hS; go_simp⟩) ?_
              go_simp
              refine wpAnyX_take (i := 8) (v := .slice (some ⟨bb, ob, none⟩) (List.length by_) c3) rfl (by kernel_rfl) (by kernel_rfl) (by kernel_rfl) (by kernel_rfl) (fun _ _ _ h => h) HS.out (Or.inl ⟨by rfl, fun w hS => by obtain ⟨hS1, hS2⟩ := hS; go_simp⟩) ?_
              go_simp
              refine wpAnyX_take (i := 9) (v := .int .i64 (k : Int)) rfl (by kernel_rfl) (by kernel_rfl) (by kernel_rfl) (by kernel_rfl) (fun _ _ _ h => h) HS.out (Or.inl ⟨by rfl, fun w hS => by obtain ⟨hS1, hS2⟩ := hS; go_simp⟩) ?_
              go_simp
              refine wpAnyX_take (i := 10) (v := .pointer (some ⟨bb, ob + k, none⟩)) rfl (by kernel_rfl) (by kernel_rfl) (by kernel_rfl) (by kernel_rfl) (fun _ _ _ h => h) HS.out (Or.inl ⟨by rfl, fun w hS => by obtain ⟨hS1, hS2⟩ := hS; go_simp⟩) ?_
              go_simp
              refine wpAnyX_take (i := 11) (v := .int .u8 (y.toNat : Int)) rfl (by kernel_rfl) (by kernel_rfl) (by kernel_rfl) (by kernel_rfl) (fun _ _ _ h => h) HS.out (Or.inl ⟨by rfl, fun w hS => by obtain ⟨hS1, hS2⟩ := hS; go_simp⟩) ?_
              go_simp
              refine wpAnyX_one (i := 7) (by kernel_rfl) rfl (fun K hK => ?_)
              go_simp
              go_wp2_with (go_at_call 15; refine (HWI.out _).mono ?_; rintro e8 w8 ⟨rfl, rfl⟩)
              refine hK.out _ _ (fun _ => HS.out) ?_
              clear hK K
              refine wpAnyX_take (i := 12) (v := .pointer (some ⟨g, q, none⟩)) rfl (by kernel_rfl) (by kernel_rfl) (by kernel_rfl) (by kernel_rfl) (fun _ _ _ h => h) HS.out (Or.inl ⟨by rfl, fun w hS => by obtain ⟨hS1, hS2⟩ := hS; go_simp⟩) ?_
              go_simp
              refine wpAnyX_one (i := 13) (by kernel_rfl) rfl (fun K hK => ?_)
              go_simp
              refine hK.out _ _ (fun h => absurd rfl h) ?_
              clear hK K
              refine wpAnyX_done (by kernel_rfl) ?_
              go_wp2
              go_roundg (4 - (k + 1))
              case measure => have := HK.out; omega
              case rel =>
                refine ⟨k + 1, bs.set q y, by omega, by go_num, HBS.out, ?_, hBs.drew⟩
                have := HP.out
                rw [HBN.out] at this
                exact this
            · have d4 : decide (0 < n) = false := by simp; omega
              have hrX0 : RdB wr wr.heap.size Ab (u8s bs) := by obtain ⟨A9, c9, hv9, hr9, _, _⟩ := hob.shape; injection hv9 with e9; subst e9; exact RdB.of_rd hr9
              rcases hcb1 : (bits BinOp.and IntKind.i64 cut 1 == 1) with _ | _
              · have HXL := HBN
                have HRX := Lib.hid hrX0
                clear hrX0
                have hrX : RdB wr wr.heap.size Ab (u8s (bs)) := HRX.out
                have hxl : (bs).length = n := HXL.out
                have HXB : Hid ((bs).length ≤ 1000000000) := Nat.le_trans (Nat.le_of_eq hxl) hlen
                have hxc : (bs).length ≤ cb := by rw [hxl]; exact hcb
                have HDE := fun W (hB : Below wr.heap.size wr W) => decode_any Ab cb (bs) W ((hrX.below hB).mono hB.size) hxc HXB.out
                have HDR := fun W (hB : Below wr.heap.size wr W) => refDecode_any Ab cb (bs) W ((hrX.below hB).mono hB.size) hxc HXB.out
                rw [hxl] at HDE HDR
                rcases hd : decodeF (bs) with ⟨r, m, e⟩
                obtain ⟨r1, r2⟩ := decode_big HXB.out hd
                rw [hd] at HDE HDR
                have HDE := Lib.hid HDE
                have HDR := Lib.hid HDR
                have HSM := Lib.hid (fun A1 A2 c1 c2 B B' W h h' => same_big A1 A2 c1 c2 r B B' W h h' r1 (fun s hs => valid_small (r2 s hs)))
                have hmm : ((m : Int) == (m : Int)) = true := by simp
                have hee : ((e : Int) == (e : Int)) = true := by simp
                clear hrX hxl hxc hd r2 HXB
                go_wp2_with fail
                refine (HDE.out wr (Below.refl _ _)).mono ?_
                rintro e1 w3 ⟨v3, rfl, ho3, hb3⟩
                obtain ⟨A4, c4, rfl, _, hat3⟩ := ho3.at_
                have HAT3 := Lib.hid hat3
                clear ho3 hat3
                go_wp2_with fail
                refine (HDR.out w3 hb3).mono ?_
                rintro e2 w4 ⟨v4, rfl, ho4, hb4⟩
                obtain ⟨A5, c5, rfl, _, hat4⟩ := ho4.at_
                have HAT4 := Lib.hid hat4
                clear ho4 hat4
                simp only at HAT3 HAT4
                have hB4 := (hb.trans (hb3.mono hb.size)).trans (hb4.mono (Nat.le_trans hb.size hb3.size))
                go_wp2_with fail
                refine (HSM.out A4 A5 c4 c5 _ _ w4 (HAT3.out.below hb4) HAT4.out).mono ?_
                rintro e3 w5 ⟨rfl, hq5⟩
                have hB5 := hB4.trans (hq5.below _)
                go_wp2_with fail
                refine (HAW.out _).mono ?_
                rintro e4 w6 ⟨rfl, hb6⟩
                go_wp2_with fail
                go_ret
                exact ⟨rfl, hB5.trans (hb6.mono hB5.size)⟩
              · obtain ⟨q, hq, hqn⟩ : ∃ q : Nat, cut / 2 % ((n : Int) + 1) = (q : Int) ∧ q ≤ n := by
                  have g1 := Int.emod_nonneg (cut / 2) (by omega : (n : Int) + 1 ≠ 0)
                  have g2 := Int.emod_lt_of_pos (cut / 2) (by omega : (0 : Int) < (n : Int) + 1)
                  exact ⟨(cut / 2 % ((n : Int) + 1)).toNat, by omega, by omega⟩
                have HWI := fun W => within_any (cut / 2) ((n : Int) + 1) W (by omega) (by omega)
                rw [hq] at HWI
                have HWI := Lib.hid HWI
                have hhd := fun W => head_run W Ab n cb q (by omega)
                have HXL : Hid ((bs.take q).length = q) := by show _ = _; rw [List.length_take, HBN.out]; omega
                have HRX := Lib.hid (hrX0.takeB q)
                have hq1 : q ≤ 1000000000 := by omega
                have hq2 : q ≤ cb := by omega
                clear hq hrX0
                go_wp2_with fail
                refine (HWI.out _).mono ?_
                rintro e5 w7 ⟨rfl, rfl⟩
                have hrX : RdB wr wr.heap.size Ab (u8s (bs.take q)) := HRX.out
                have hxl : (bs.take q).length = q := HXL.out
                have HXB : Hid ((bs.take q).length ≤ 1000000000) := Nat.le_trans (Nat.le_of_eq hxl) hq1
                have hxc : (bs.take q).length ≤ cb := by rw [hxl]; exact hq2
                have HDE := fun W (hB : Below wr.heap.size wr W) => decode_any Ab cb (bs.take q) W ((hrX.below hB).mono hB.size) hxc HXB.out
                have HDR := fun W (hB : Below wr.heap.size wr W) => refDecode_any Ab cb (bs.take q) W ((hrX.below hB).mono hB.size) hxc HXB.out
                rw [hxl] at HDE HDR
                rcases hd : decodeF (bs.take q) with ⟨r, m, e⟩
                obtain ⟨r1, r2⟩ := decode_big HXB.out hd
                rw [hd] at HDE HDR
                have HDE := Lib.hid HDE
                have HDR := Lib.hid HDR
                have HSM := Lib.hid (fun A1 A2 c1 c2 B B' W h h' => same_big A1 A2 c1 c2 r B B' W h h' r1 (fun s hs => valid_small (r2 s hs)))
                have hmm : ((m : Int) == (m : Int)) = true := by simp
                have hee : ((e : Int) == (e : Int)) = true := by simp
                clear hrX hxl hxc hd r2 HXB
                go_wp2_with fail
                refine (HDE.out wr (Below.refl _ _)).mono ?_
                rintro e1 w3 ⟨v3, rfl, ho3, hb3⟩
                obtain ⟨A4, c4, rfl, _, hat3⟩ := ho3.at_
                have HAT3 := Lib.hid hat3
                clear ho3 hat3
                go_wp2_with fail
                refine (HDR.out w3 hb3).mono ?_
                rintro e2 w4 ⟨v4, rfl, ho4, hb4⟩
                obtain ⟨A5, c5, rfl, _, hat4⟩ := ho4.at_
                have HAT4 := Lib.hid hat4
                clear ho4 hat4
                simp only at HAT3 HAT4
                have hB4 := (hb.trans (hb3.mono hb.size)).trans (hb4.mono (Nat.le_trans hb.size hb3.size))
                go_wp2_with fail
                refine (HSM.out A4 A5 c4 c5 _ _ w4 (HAT3.out.below hb4) HAT4.out).mono ?_
                rintro e3 w5 ⟨rfl, hq5⟩
                have hB5 := hB4.trans (hq5.below _)
                go_wp2_with fail
                refine (HAW.out _).mono ?_
                rintro e4 w6 ⟨rfl, hb6⟩
                go_wp2_with fail
                go_ret
                exact ⟨rfl, hB5.trans (hb6.mono hB5.size)⟩
          · have d3 : decide (k < 3) = false := by simp; omega
            have hrX0 : RdB wr wr.heap.size Ab (u8s bs) := by obtain ⟨A9, c9, hv9, hr9, _, _⟩ := hob.shape; injection hv9 with e9; subst e9; exact RdB.of_rd hr9
            rcases hcb1 : (bits BinOp.and IntKind.i64 cut 1 == 1) with _ | _
            · have HXL := HBN
              have HRX := Lib.hid hrX0
              clear hrX0
              have hrX : RdB wr wr.heap.size Ab (u8s (bs)) := HRX.out
              have hxl : (bs).length = n := HXL.out
              have HXB : Hid ((bs).length ≤ 1000000000) := Nat.le_trans (Nat.le_of_eq hxl) hlen
              have hxc : (bs).length ≤ cb := by rw [hxl]; exact hcb
              have HDE := fun W (hB : Below wr.heap.size wr W) => decode_any Ab cb (bs) W ((hrX.below hB).mono hB.size) hxc HXB.out
              have HDR := fun W (hB : Below wr.heap.size wr W) => refDecode_any Ab cb (bs) W ((hrX.below hB).mono hB.size) hxc HXB.out
              rw [hxl] at HDE HDR
              rcases hd : decodeF (bs) with ⟨r, m, e⟩
              obtain ⟨r1, r2⟩ := decode_big HXB.out hd
              rw [hd] at HDE HDR
              have HDE := Lib.hid HDE
              have HDR := Lib.hid HDR
              have HSM := Lib.hid (fun A1 A2 c1 c2 B B' W h h' => same_big A1 A2 c1 c2 r B B' W h h' r1 (fun s hs => valid_small (r2 s hs)))
              have hmm : ((m : Int) == (m : Int)) = true := by simp
              have hee : ((e : Int) == (e : Int)) = true := by simp
              clear hrX hxl hxc hd r2 HXB
              go_wp2_with fail
              refine (HDE.out wr (Below.refl _ _)).mono ?_
              rintro e1 w3 ⟨v3, rfl, ho3, hb3⟩
              obtain ⟨A4, c4, rfl, _, hat3⟩ := ho3.at_
              have HAT3 := Lib.hid hat3
              clear ho3 hat3
              go_wp2_with fail
              refine (HDR.out w3 hb3).mono ?_
              rintro e2 w4 ⟨v4, rfl, ho4, hb4⟩
              obtain ⟨A5, c5, rfl, _, hat4⟩ := ho4.at_
              have HAT4 := Lib.hid hat4
              clear ho4 hat4
              simp only at HAT3 HAT4
              have hB4 := (hb.trans (hb3.mono hb.size)).trans (hb4.mono (Nat.le_trans hb.size hb3.size))
              go_wp2_with fail
              refine (HSM.out A4 A5 c4 c5 _ _ w4 (HAT3.out.below hb4) HAT4.out).mono ?_
              rintro e3 w5 ⟨rfl, hq5⟩
              have hB5 := hB4.trans (hq5.below _)
              go_wp2_with fail
              refine (HAW.out _).mono ?_
              rintro e4 w6 ⟨rfl, hb6⟩
              go_wp2_with fail
              go_ret
              exact ⟨rfl, hB5.trans (hb6.mono hB5.size)⟩
            · obtain ⟨q, hq, hqn⟩ : ∃ q : Nat, cut / 2 % ((n : Int) + 1) = (q : Int) ∧ q ≤ n := by
                have g1 := Int.emod_nonneg (cut / 2) (by omega : (n : Int) + 1 ≠ 0)
                have g2 := Int.emod_lt_of_pos (cut / 2) (by omega : (0 : Int) < (n : Int) + 1)
                exact ⟨(cut / 2 % ((n : Int) + 1)).toNat, by omega, by omega⟩
              have HWI := fun W => within_any (cut / 2) ((n : Int) + 1) W (by omega) (by omega)
              rw [hq] at HWI
              have HWI := Lib.hid HWI
              have hhd := fun W => head_run W Ab n cb q (by omega)
              have HXL : Hid ((bs.take q).length = q) := by show _ = _; rw [List.length_take, HBN.out]; omega
              have HRX := Lib.hid (hrX0.takeB q)
              have hq1 : q ≤ 1000000000 := by omega
              have hq2 : q ≤ cb := by omega
              clear hq hrX0
              go_wp2_with fail
              refine (HWI.out _).mono ?_
              rintro e5 w7 ⟨rfl, rfl⟩
              have hrX : RdB wr wr.heap.size Ab (u8s (bs.take q)) := HRX.out
              have hxl : (bs.take q).length = q := HXL.out
              have HXB : Hid ((bs.take q).length ≤ 1000000000) := Nat.le_trans (Nat.le_of_eq hxl) hq1
              have hxc : (bs.take q).length ≤ cb := by rw [hxl]; exact hq2
              have HDE := fun W (hB : Below wr.heap.size wr W) => decode_any Ab cb (bs.take q) W ((hrX.below hB).mono hB.size) hxc HXB.out
              have HDR := fun W (hB : Below wr.heap.size wr W) => refDecode_any Ab cb (bs.take q) W ((hrX.below hB).mono hB.size) hxc HXB.out
              rw [hxl] at HDE HDR
              rcases hd : decodeF (bs.take q) with ⟨r, m, e⟩
              obtain ⟨r1, r2⟩ := decode_big HXB.out hd
              rw [hd] at HDE HDR
              have HDE := Lib.hid HDE
              have HDR := Lib.hid HDR
              have HSM := Lib.hid (fun A1 A2 c1 c2 B B' W h h' => same_big A1 A2 c1 c2 r B B' W h h' r1 (fun s hs => valid_small (r2 s hs)))
              have hmm : ((m : Int) == (m : Int)) = true := by simp
              have hee : ((e : Int) == (e : Int)) = true := by simp
              clear hrX hxl hxc hd r2 HXB
              go_wp2_with fail
              refine (HDE.out wr (Below.refl _ _)).mono ?_
              rintro e1 w3 ⟨v3, rfl, ho3, hb3⟩
              obtain ⟨A4, c4, rfl, _, hat3⟩ := ho3.at_
              have HAT3 := Lib.hid hat3
              clear ho3 hat3
              go_wp2_with fail
              refine (HDR.out w3 hb3).mono ?_
              rintro e2 w4 ⟨v4, rfl, ho4, hb4⟩
              obtain ⟨A5, c5, rfl, _, hat4⟩ := ho4.at_
              have HAT4 := Lib.hid hat4
              clear ho4 hat4
              simp only at HAT3 HAT4
              have hB4 := (hb.trans (hb3.mono hb.size)).trans (hb4.mono (Nat.le_trans hb.size hb3.size))
              go_wp2_with fail
              refine (HSM.out A4 A5 c4 c5 _ _ w4 (HAT3.out.below hb4) HAT4.out).mono ?_
              rintro e3 w5 ⟨rfl, hq5⟩
              have hB5 := hB4.trans (hq5.below _)
              go_wp2_with fail
              refine (HAW.out _).mono ?_
              rintro e4 w6 ⟨rfl, hb6⟩
              go_wp2_with fail
              go_ret
              exact ⟨rfl, hB5.trans (hb6.mono hB5.size)⟩
        · have d2 : decide ((k : Int) < (by_.length : Int)) = false := by simp; omega
          have hrX0 : RdB wr wr.heap.size Ab (u8s bs) := by obtain ⟨A9, c9, hv9, hr9, _, _⟩ := hob.shape; injection hv9 with e9; subst e9; exact RdB.of_rd hr9
          rcases hcb1 : (bits BinOp.and IntKind.i64 cut 1 == 1) with _ | _
          · have HXL := HBN
            have HRX := Lib.hid hrX0
            clear hrX0
            have hrX : RdB wr wr.heap.size Ab (u8s (bs)) := HRX.out
            have hxl : (bs).length = n := HXL.out
            have HXB : Hid ((bs).length ≤ 1000000000) := Nat.le_trans (Nat.le_of_eq hxl) hlen
            have hxc : (bs).length ≤ cb := by rw [hxl]; exact hcb
            have HDE := fun W (hB : Below wr.heap.size wr W) => decode_any Ab cb (bs) W ((hrX.below hB).mono hB.size) hxc HXB.out
            have HDR := fun W (hB : Below wr.heap.size wr W) => refDecode_any Ab cb (bs) W ((hrX.below hB).mono hB.size) hxc HXB.out
            rw [hxl] at HDE HDR
            rcases hd : decodeF (bs) with ⟨r, m, e⟩
            obtain ⟨r1, r2⟩ := decode_big HXB.out hd
            rw [hd] at HDE HDR
            have HDE := Lib.hid HDE
            have HDR := Lib.hid HDR
            have HSM := Lib.hid (fun A1 A2 c1 c2 B B' W h h' => same_big A1 A2 c1 c2 r B B' W h h' r1 (fun s hs => valid_small (r2 s hs)))
            have hmm : ((m : Int) == (m : Int)) = true := by simp
            have hee : ((e : Int) == (e : Int)) = true := by simp
            clear hrX hxl hxc hd r2 HXB
            go_wp2_with fail
            refine (HDE.out wr (Below.refl _ _)).mono ?_
            rintro e1 w3 ⟨v3, rfl, ho3, hb3⟩
            obtain ⟨A4, c4, rfl, _, hat3⟩ := ho3.at_
            have HAT3 := Lib.hid hat3
            clear ho3 hat3
            go_wp2_with fail
            refine (HDR.out w3 hb3).mono ?_
            rintro e2 w4 ⟨v4, rfl, ho4, hb4⟩
            obtain ⟨A5, c5, rfl, _, hat4⟩ := ho4.at_
            have HAT4 := Lib.hid hat4
            clear ho4 hat4
            simp only at HAT3 HAT4
            have hB4 := (hb.trans (hb3.mono hb.size)).trans (hb4.mono (Nat.le_trans hb.size hb3.size))
            go_wp2_with fail
            refine (HSM.out A4 A5 c4 c5 _ _ w4 (HAT3.out.below hb4) HAT4.out).mono ?_
            rintro e3 w5 ⟨rfl, hq5⟩
            have hB5 := hB4.trans (hq5.below _)
            go_wp2_with fail
            refine (HAW.out _).mono ?_
            rintro e4 w6 ⟨rfl, hb6⟩
            go_wp2_with fail
            go_ret
            exact ⟨rfl, hB5.trans (hb6.mono hB5.size)⟩
          · obtain ⟨q, hq, hqn⟩ : ∃ q : Nat, cut / 2 % ((n : Int) + 1) = (q : Int) ∧ q ≤ n := by
              have g1 := Int.emod_nonneg (cut / 2) (by omega : (n : Int) + 1 ≠ 0)
              have g2 := Int.emod_lt_of_pos (cut / 2) (by omega : (0 : Int) < (n : Int) + 1)
              exact ⟨(cut / 2 % ((n : Int) + 1)).toNat, by omega, by omega⟩
            have HWI := fun W => within_any (cut / 2) ((n : Int) + 1) W (by omega) (by omega)
            rw [hq] at HWI
            have HWI := Lib.hid HWI
            have hhd := fun W => head_run W Ab n cb q (by omega)
            have HXL : Hid ((bs.take q).length = q) := by show _ = _; rw [List.length_take, HBN.out]; omega
            have HRX := Lib.hid (hrX0.takeB q)
            have hq1 : q ≤ 1000000000 := by omega
            have hq2 : q ≤ cb := by omega
            clear hq hrX0
            go_wp2_with fail
            refine (HWI.out _).mono ?_
            rintro e5 w7 ⟨rfl, rfl⟩
            have hrX : RdB wr wr.heap.size Ab (u8s (bs.take q)) := HRX.out
            have hxl : (bs.take q).length = q := HXL.out
            have HXB : Hid ((bs.take q).length ≤ 1000000000) := Nat.le_trans (Nat.le_of_eq hxl) hq1
            have hxc : (bs.take q).length ≤ cb := by rw [hxl]; exact hq2
            have HDE := fun W (hB : Below wr.heap.size wr W) => decode_any Ab cb (bs.take q) W ((hrX.below hB).mono hB.size) hxc HXB.out
            have HDR := fun W (hB : Below wr.heap.size wr W) => refDecode_any Ab cb (bs.take q) W ((hrX.below hB).mono hB.size) hxc HXB.out
            rw [hxl] at HDE HDR
            rcases hd : decodeF (bs.take q) with ⟨r, m, e⟩
            obtain ⟨r1, r2⟩ := decode_big HXB.out hd
            rw [hd] at HDE HDR
            have HDE := Lib.hid HDE
            have HDR := Lib.hid HDR
            have HSM := Lib.hid (fun A1 A2 c1 c2 B B' W h h' => same_big A1 A2 c1 c2 r B B' W h h' r1 (fun s hs => valid_small (r2 s hs)))
            have hmm : ((m : Int) == (m : Int)) = true := by simp
            have hee : ((e : Int) == (e : Int)) = true := by simp
            clear hrX hxl hxc hd r2 HXB
            go_wp2_with fail
            refine (HDE.out wr (Below.refl _ _)).mono ?_
            rintro e1 w3 ⟨v3, rfl, ho3, hb3⟩
            obtain ⟨A4, c4, rfl, _, hat3⟩ := ho3.at_
            have HAT3 := Lib.hid hat3
            clear ho3 hat3
            go_wp2_with fail
            refine (HDR.out w3 hb3).mono ?_
            rintro e2 w4 ⟨v4, rfl, ho4, hb4⟩
            obtain ⟨A5, c5, rfl, _, hat4⟩ := ho4.at_
            have HAT4 := Lib.hid hat4
            clear ho4 hat4
            simp only at HAT3 HAT4
            have hB4 := (hb.trans (hb3.mono hb.size)).trans (hb4.mono (Nat.le_trans hb.size hb3.size))
            go_wp2_with fail
            refine (HSM.out A4 A5 c4 c5 _ _ w4 (HAT3.out.below hb4) HAT4.out).mono ?_
            rintro e3 w5 ⟨rfl, hq5⟩
            have hB5 := hB4.trans (hq5.below _)
            go_wp2_with fail
            refine (HAW.out _).mono ?_
            rintro e4 w6 ⟨rfl, hb6⟩
            go_wp2_with fail
            go_ret
            exact ⟨rfl, hB5.trans (hb6.mono hB5.size)⟩
      · have d1 : decide ((k : Int) < (at_.length : Int)) = false := by simp; omega
        have hrX0 : RdB wr wr.heap.size Ab (u8s bs) := by obtain ⟨A9, c9, hv9, hr9, _, _⟩ := hob.shape; injection hv9 with e9; subst e9; exact RdB.of_rd hr9
        rcases hcb1 : (bits BinOp.and IntKind.i64 cut 1 == 1) with _ | _
        · have HXL := HBN
          have HRX := Lib.hid hrX0
          clear hrX0
          have hrX : RdB wr wr.heap.size Ab (u8s (bs)) := HRX.out
          have hxl : (bs).length = n := HXL.out
          have HXB : Hid ((bs).length ≤ 1000000000) := Nat.le_trans (Nat.le_of_eq hxl) hlen
          have hxc : (bs).length ≤ cb := by rw [hxl]; exact hcb
          have HDE := fun W (hB : Below wr.heap.size wr W) => decode_any Ab cb (bs) W ((hrX.below hB).mono hB.size) hxc HXB.out
          have HDR := fun W (hB : Below wr.heap.size wr W) => refDecode_any Ab cb (bs) W ((hrX.below hB).mono hB.size) hxc HXB.out
          rw [hxl] at HDE HDR
          rcases hd : decodeF (bs) with ⟨r, m, e⟩
          obtain ⟨r1, r2⟩ := decode_big HXB.out hd
          rw [hd] at HDE HDR
          have HDE := Lib.hid HDE
          have HDR := Lib.hid HDR
          have HSM := Lib.hid (fun A1 A2 c1 c2 B B' W h h' => same_big A1 A2 c1 c2 r B B' W h h' r1 (fun s hs => valid_small (r2 s hs)))
          have hmm : ((m : Int) == (m : Int)) = true := by simp
          have hee : ((e : Int) == (e : Int)) = true := by simp
          clear hrX hxl hxc hd r2 HXB
          go_wp2_with fail
          refine (HDE.out wr (Below.refl _ _)).mono ?_
          rintro e1 w3 ⟨v3, rfl, ho3, hb3⟩
          obtain ⟨A4, c4, rfl, _, hat3⟩ := ho3.at_
          have HAT3 := Lib.hid hat3
          clear ho3 hat3
          go_wp2_with fail
          refine (HDR.out w3 hb3).mono ?_
          rintro e2 w4 ⟨v4, rfl, ho4, hb4⟩
          obtain ⟨A5, c5, rfl, _, hat4⟩ := ho4.at_
          have HAT4 := Lib.hid hat4
          clear ho4 hat4
          simp only at HAT3 HAT4
          have hB4 := (hb.trans (hb3.mono hb.size)).trans (hb4.mono (Nat.le_trans hb.size hb3.size))
          go_wp2_with fail
          refine (HSM.out A4 A5 c4 c5 _ _ w4 (HAT3.out.below hb4) HAT4.out).mono ?_
          rintro e3 w5 ⟨rfl, hq5⟩
          have hB5 := hB4.trans (hq5.below _)
          go_wp2_with fail
          refine (HAW.out _).mono ?_
          rintro e4 w6 ⟨rfl, hb6⟩
          go_wp2_with fail
          go_ret
          exact ⟨rfl, hB5.trans (hb6.mono hB5.size)⟩
        · obtain ⟨q, hq, hqn⟩ : ∃ q : Nat, cut / 2 % ((n : Int) + 1) = (q : Int) ∧ q ≤ n := by
            have g1 := Int.emod_nonneg (cut / 2) (by omega : (n : Int) + 1 ≠ 0)
            have g2 := Int.emod_lt_of_pos (cut / 2) (by omega : (0 : Int) < (n : Int) + 1)
            exact ⟨(cut / 2 % ((n : Int) + 1)).toNat, by omega, by omega⟩
          have HWI := fun W => within_any (cut / 2) ((n : Int) + 1) W (by omega) (by omega)
          rw [hq] at HWI
          have HWI := Lib.hid HWI
          have hhd := fun W => head_run W Ab n cb q (by omega)
          have HXL : Hid ((bs.take q).length = q) := by show _ = _; rw [List.length_take, HBN.out]; omega
          have HRX := Lib.hid (hrX0.takeB q)
          have hq1 : q ≤ 1000000000 := by omega
          have hq2 : q ≤ cb := by omega
          clear hq hrX0
          go_wp2_with fail
          refine (HWI.out _).mono ?_
          rintro e5 w7 ⟨rfl, rfl⟩
          have hrX : RdB wr wr.heap.size Ab (u8s (bs.take q)) := HRX.out
          have hxl : (bs.take q).length = q := HXL.out
          have HXB : Hid ((bs.take q).length ≤ 1000000000) := Nat.le_trans (Nat.le_of_eq hxl) hq1
          have hxc : (bs.take q).length ≤ cb := by rw [hxl]; exact hq2
          have HDE := fun W (hB : Below wr.heap.size wr W) => decode_any Ab cb (bs.take q) W ((hrX.below hB).mono hB.size) hxc HXB.out
          have HDR := fun W (hB : Below wr.heap.size wr W) => refDecode_any Ab cb (bs.take q) W ((hrX.below hB).mono hB.size) hxc HXB.out
          rw [hxl] at HDE HDR
          rcases hd : decodeF (bs.take q) with ⟨r, m, e⟩
          obtain ⟨r1, r2⟩ := decode_big HXB.out hd
          rw [hd] at HDE HDR
          have HDE := Lib.hid HDE
          have HDR := Lib.hid HDR
          have HSM := Lib.hid (fun A1 A2 c1 c2 B B' W h h' => same_big A1 A2 c1 c2 r B B' W h h' r1 (fun s hs => valid_small (r2 s hs)))
          have hmm : ((m : Int) == (m : Int)) = true := by simp
          have hee : ((e : Int) == (e : Int)) = true := by simp
          clear hrX hxl hxc hd r2 HXB
          go_wp2_with fail
          refine (HDE.out wr (Below.refl _ _)).mono ?_
          rintro e1 w3 ⟨v3, rfl, ho3, hb3⟩
          obtain ⟨A4, c4, rfl, _, hat3⟩ := ho3.at_
          have HAT3 := Lib.hid hat3
          clear ho3 hat3
          go_wp2_with fail
          refine (HDR.out w3 hb3).mono ?_
          rintro e2 w4 ⟨v4, rfl, ho4, hb4⟩
          obtain ⟨A5, c5, rfl, _, hat4⟩ := ho4.at_
          have HAT4 := Lib.hid hat4
          clear ho4 hat4
          simp only at HAT3 HAT4
          have hB4 := (hb.trans (hb3.mono hb.size)).trans (hb4.mono (Nat.le_trans hb.size hb3.size))
          go_wp2_with fail
          refine (HSM.out A4 A5 c4 c5 _ _ w4 (HAT3.out.below hb4) HAT4.out).mono ?_
          rintro e3 w5 ⟨rfl, hq5⟩
          have hB5 := hB4.trans (hq5.below _)
          go_wp2_with fail
          refine (HAW.out _).mono ?_
          rintro e4 w6 ⟨rfl, hb6⟩
          go_wp2_with fail
          go_ret
          exact ⟨rfl, hB5.trans (hb6.mono hB5.size)⟩
  · exact absurd HEZ.out h
end segmentChanged
end Go.Proofs.Ytmnflbgejagpmaa
