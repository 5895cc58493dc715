/- The walk of TransitSeals. -/
import Derived.Test.YtecmpkcjeaiknaaTw
import Derived.Test.YtecmpkcjeaiknaaTr
namespace Go.Proofs.Ytecmpkcjeaiknaa
open Go.RowKit
set_option linter.unusedVariables false

theorem wf_sl {w : World} {A : Option Addr} {c : Nat} {l : List Int} (h : SlI w A c l) : WfL l := fun x hx => wf_in (h.wf x hx)
theorem wf_small {l : List Int} (h : ∀ x ∈ l, 0 ≤ x ∧ x < 8) : WfL l := fun x hx => wf_in (by have := h x hx; omega)
def SmRel (n : Nat) (wo : World) (m : Nat) (v i : Value) (wr : World) : Prop := ∃ (k : Nat) (O : List Int), k + m = n ∧ i = .int .i64 (k : Int) ∧ OwnX wr wo.heap.size 3 1 v O.length (ints O) ∧ (∀ x ∈ O, 0 ≤ x ∧ x < 8) ∧ O.length = k ∧ k ≤ 8 ∧ Below wo.heap.size wo wr

set_option maxRecDepth 100000 in
set_option maxHeartbeats 4000000 in
theorem transitSeals.walkTransitSeals (A0 : Option Addr) (c0 : Nat) (l : List Int) (A1 : Option Addr) (c1 : Nat) (a : List Int) (A2 : Option Addr) (c2 : Nat) (f : List Int) (lot : Int) (A4 : Option Addr) (c4 : Nat) (X : List Inc) (wild : Bool) (w : World)
    (h0 : SlI w A0 c0 l) (h1 : SlI w A1 c1 a) (h2 : SlI w A2 c2 f) (_ : -9223372036854775808 ≤ lot ∧ lot ≤ 9223372036854775807) (h4 : IncsAt w (.slice A4 X.length c4) X ∧ WfI X) :
    Calls Try.prog 5 #[.slice A0 l.length c0, .slice A1 a.length c1, .slice A2 f.length c2, .int .i64 lot, .slice A4 X.length c4, .bool wild] w fun e w' => e = .returned (.bool true) ∧ Below w.heap.size w w' := by
  have H0 := Lib.hid h0
  have HA := Lib.hid h1.at_
  have HF := Lib.hid h2.at_
  have HX := Lib.hid h4.1
  have HWA := Lib.hid (wf_sl h1)
  have HWF := Lib.hid (wf_sl h2)
  have HWX := Lib.hid h4.2
  have HR1 := Lib.hid h1
  have HR2 := Lib.hid h2
  have HB := Lib.hid (Below.refl w.heap.size w)
  obtain ⟨i0, hi0, hz0, hz1, hz2⟩ := info_parts intInfo
  clear h0 h1 h2 h4
  cases wild with
  | true =>
    clear H0 HR1 HR2
    go_enter Try.func5, Try.ntmps5
    by_cases hg0 : 200 < X.length
    · have bz0 : (200 : Int) < (X.length : Int) := by omega
      go_wp2_with (go_at_call 15; refine (awake_any _).mono ?_; rintro e wz ⟨rfl, hb⟩; have HZ := Lib.hid (HB.out.trans (hb.mono HB.out.size)); clear hb)
      go_ret
      exact ⟨rfl, HZ.out⟩
    have bz0 : ¬ (200 : Int) < (X.length : Int) := by omega
    by_cases hg1 : 200 < a.length
    · have bz1 : (200 : Int) < (a.length : Int) := by omega
      go_wp2_with (go_at_call 15; refine (awake_any _).mono ?_; rintro e wz ⟨rfl, hb⟩; have HZ := Lib.hid (HB.out.trans (hb.mono HB.out.size)); clear hb)
      go_ret
      exact ⟨rfl, HZ.out⟩
    have bz1 : ¬ (200 : Int) < (a.length : Int) := by omega
    by_cases hg2 : 200 < f.length
    · have bz2 : (200 : Int) < (f.length : Int) := by omega
      go_wp2_with (go_at_call 15; refine (awake_any _).mono ?_; rintro e wz ⟨rfl, hb⟩; have HZ := Lib.hid (HB.out.trans (hb.mono HB.out.size)); clear hb)
      go_ret
      exact ⟨rfl, HZ.out⟩
    have bz2 : ¬ (200 : Int) < (f.length : Int) := by omega
    have HQ8 := Lib.hid (show a.length ≤ 1000000 ∧ f.length ≤ 1000000 ∧ X.length ≤ 1000000 by omega)
    have F1 : True := trivial
    have F2 : True := trivial
    go_wp2_with (first
      | (go_at_call 19; refine (compare_any _ _ a f _ HA.out HF.out HWA.out HWF.out).mono ?_; rintro e wc1 ⟨u1, u2, rfl, h1, h2, hb⟩; have HA := Lib.hid (HA.out.below hb); have HF := Lib.hid (HF.out.below hb); have HX := Lib.hid (HX.out.below hb); have HB := Lib.hid (HB.out.trans (hb.mono HB.out.size)); obtain ⟨C1, c1, rfl⟩ := h1.shape; obtain ⟨D1, d1, rfl⟩ := h2.shape; have HC1 := Lib.hid h1; have HD1 := Lib.hid h2; clear h1 h2; clear hb)
      | (go_at_call 20; refine (refCompare_any _ _ a f _ HA.out HF.out HQ8.out.1 HQ8.out.2.1).mono ?_; rintro e wc2 ⟨u1, u2, rfl, h1, h2, hb⟩; have HA := Lib.hid (HA.out.below hb); have HF := Lib.hid (HF.out.below hb); have HX := Lib.hid (HX.out.below hb); have HC1 := Lib.hid (HC1.out.below hb); have HD1 := Lib.hid (HD1.out.below hb); have HB := Lib.hid (HB.out.trans (hb.mono HB.out.size)); obtain ⟨C2, c2, rfl⟩ := h1.shape; obtain ⟨D2, d2, rfl⟩ := h2.shape; have HC2 := Lib.hid h1; have HD2 := Lib.hid h2; clear h1 h2; clear hb)
      | (go_at_call 22; refine (seals_any _ _ a (lot) X _ HA.out HX.out HWA.out HWX.out HQ8.out.1 HQ8.out.2.2).mono ?_; rintro e wc3 ⟨u1, rfl, h1, hb⟩; have HA := Lib.hid (HA.out.below hb); have HF := Lib.hid (HF.out.below hb); have HX := Lib.hid (HX.out.below hb); have HC1 := Lib.hid (HC1.out.below hb); have HD1 := Lib.hid (HD1.out.below hb); have HC2 := Lib.hid (HC2.out.below hb); have HD2 := Lib.hid (HD2.out.below hb); have HB := Lib.hid (HB.out.trans (hb.mono HB.out.size)); obtain ⟨S1, s1, rfl⟩ := h1.shape; have HS1 := Lib.hid h1; clear h1; clear hb)
      | (go_at_call 23; refine (refSeals_any _ _ a (lot) X _ HA.out HX.out HQ8.out.1 HQ8.out.2.2).mono ?_; rintro e wc4 ⟨u1, rfl, h1, hb⟩; have HA := Lib.hid (HA.out.below hb); have HF := Lib.hid (HF.out.below hb); have HX := Lib.hid (HX.out.below hb); have HC1 := Lib.hid (HC1.out.below hb); have HD1 := Lib.hid (HD1.out.below hb); have HC2 := Lib.hid (HC2.out.below hb); have HD2 := Lib.hid (HD2.out.below hb); have HS1 := Lib.hid (HS1.out.below hb); have HB := Lib.hid (HB.out.trans (hb.mono HB.out.size)); obtain ⟨S2, s2, rfl⟩ := h1.shape; have HS2 := Lib.hid h1; clear h1; clear hb)
      | (go_at_call 21; clear F1; refine (sameInts_any _ _ _ _ HS1.out HS2.out).mono ?_; rintro e wc5 ⟨rfl, hq⟩; have hb := hq.below wc4.heap.size; clear hq; have HA := Lib.hid (HA.out.below hb); have HF := Lib.hid (HF.out.below hb); have HX := Lib.hid (HX.out.below hb); have HC1 := Lib.hid (HC1.out.below hb); have HD1 := Lib.hid (HD1.out.below hb); have HC2 := Lib.hid (HC2.out.below hb); have HD2 := Lib.hid (HD2.out.below hb); have HS1 := Lib.hid (HS1.out.below hb); have HS2 := Lib.hid (HS2.out.below hb); have HB := Lib.hid (HB.out.trans (hb.mono HB.out.size)); clear hb)
      | (go_at_call 21; clear F2; refine (sameInts_any _ _ _ _ HC1.out HC2.out).mono ?_; rintro e wc6 ⟨rfl, hq⟩; have hb := hq.below wc5.heap.size; clear hq; have HA := Lib.hid (HA.out.below hb); have HF := Lib.hid (HF.out.below hb); have HX := Lib.hid (HX.out.below hb); have HC1 := Lib.hid (HC1.out.below hb); have HD1 := Lib.hid (HD1.out.below hb); have HC2 := Lib.hid (HC2.out.below hb); have HD2 := Lib.hid (HD2.out.below hb); have HS1 := Lib.hid (HS1.out.below hb); have HS2 := Lib.hid (HS2.out.below hb); have HB := Lib.hid (HB.out.trans (hb.mono HB.out.size)); clear hb)
      | (go_at_call 21; refine (sameInts_any _ _ _ _ HD1.out HD2.out).mono ?_; rintro e wc7 ⟨rfl, hq⟩; have hb := hq.below wc6.heap.size; clear hq; have HA := Lib.hid (HA.out.below hb); have HF := Lib.hid (HF.out.below hb); have HX := Lib.hid (HX.out.below hb); have HC1 := Lib.hid (HC1.out.below hb); have HD1 := Lib.hid (HD1.out.below hb); have HC2 := Lib.hid (HC2.out.below hb); have HD2 := Lib.hid (HD2.out.below hb); have HS1 := Lib.hid (HS1.out.below hb); have HS2 := Lib.hid (HS2.out.below hb); have HB := Lib.hid (HB.out.trans (hb.mono HB.out.size)); clear hb)
      | (go_at_call 15; refine (awake_any _).mono ?_; rintro e wc8 ⟨rfl, hb⟩; have HA := Lib.hid (HA.out.below hb); have HF := Lib.hid (HF.out.below hb); have HX := Lib.hid (HX.out.below hb); have HC1 := Lib.hid (HC1.out.below hb); have HD1 := Lib.hid (HD1.out.below hb); have HC2 := Lib.hid (HC2.out.below hb); have HD2 := Lib.hid (HD2.out.below hb); have HS1 := Lib.hid (HS1.out.below hb); have HS2 := Lib.hid (HS2.out.below hb); have HB := Lib.hid (HB.out.trans (hb.mono HB.out.size)); clear hb))
    go_ret
    exact ⟨rfl, HB.out⟩
  | false =>
    clear HA HF HX HWA HWF HWX
    go_enter Try.func5, Try.ntmps5
    have m1 := Int.emod_nonneg lot (by decide : (3 : Int) ≠ 0)
    have m2 := Int.emod_lt_of_pos lot (by decide : (0 : Int) < 3)
    have HWI := Lib.hid (fun W => within_any lot 3 W (by decide) (by decide))
    generalize lot % 3 = lt at *
    go_wp2_with (first
      | (go_at_call 18; refine (incidents_any A0 c0 l _ H0.out).mono ?_; rintro e w1 ⟨vx, Y, rfl, h1, h2, h3, hb⟩; obtain ⟨Ay, cy, rfl⟩ := h1.shape; have HY := Lib.hid h1; have HWY := Lib.hid h2; have HB := Lib.hid (HB.out.trans (hb.mono HB.out.size)); have HR1 := Lib.hid (HR1.out.below hb); have HR2 := Lib.hid (HR2.out.below hb); clear h1 h2 h3 hb)
      | (go_at_call 7; refine (HWI.out _).mono ?_; rintro e w2 ⟨rfl, hw⟩; subst hw))
    generalize w1 = wo1 at *
    go_loopg [14, 16] a.length (fun m v i wr => SmRel a.length wo1 m v i wr)
    case atStart => exact ⟨0, [], by omega, rfl, OwnX.nil_ _ _ _ _, fun x hx => (by cases hx), rfl, Nat.zero_le _, Below.refl _ _⟩
    case round =>
      obtain ⟨k, O1, hk, rfl, ho, hw, hol, hk8, hb⟩ := hrel
      have HK := Lib.hid hk
      have HO1 := Lib.hid ho
      have HWO1 := Lib.hid hw
      have HOL1 := Lib.hid hol
      have HBL := Lib.hid hb
      have hk2 : k ≤ a.length := by omega
      obtain ⟨Av1, cv1, rfl, -, -, -⟩ := ho.shape
      clear hk ho hw hb hol
      by_cases hlt : k < a.length ∧ k < 8
      · have s1 : (k : Int) < a.length := by omega
        have s2 : (k : Int) < 8 := by omega
        obtain ⟨bk, ofk, rfl, hcell⟩ := (HR1.out.rd.below HBL.out).int hlt.1
        generalize a[k]?.getD 0 = x at *
        have m1 := Int.emod_nonneg x (by decide : (8 : Int) ≠ 0)
        have m2 := Int.emod_lt_of_pos x (by decide : (0 : Int) < 8)
        have HWI := Lib.hid (within_any x 8 wr (by decide) (by decide))
        generalize x % 8 = y at *
        go_wp2_with (first
          | (go_at_call 7; refine HWI.out.mono ?_; rintro e w1 ⟨rfl, rfl⟩)
          | (at_builtin; refine wpList_append_one wr rfl (.tmp 40) (.tmp 46) 25 rfl wo1.heap.size 3 i0 _ 1 8 Try.underlying25 hi0 hz0 hz1 hz2 rfl (by omega) _ O1.length (ints O1) [.int .i64 y] rfl (by intro u hu; rw [List.mem_singleton] at hu; subst hu; rfl) rfl HO1.out rfl (by have := HOL1.out; unfold maxLen; omega) (by have := HOL1.out; omega) HBL.out.size ?_; intro v2 w3 hown2 hg2 hbl; have HOn := Lib.hid (own_snoc' hown2); have HBn := Lib.hid (HBL.out.trans (Below.of_grown hg2 wo1.heap.size HBL.out.size (fun g e => (HO1.out.block_lt e).1))); clear hown2 hg2 hbl))
        go_roundg (a.length - (k + 1))
        case measure => have := HK.out; omega
        case rel => exact ⟨k + 1, O1 ++ [y], by have := HK.out; omega, by go_num, HOn.out, fun z hz => by
          rcases List.mem_append.1 hz with hz | hz
          · exact HWO1.out z hz
          · rw [List.mem_singleton] at hz; subst hz; exact ⟨m1, m2⟩, by have := HOL1.out; simp; omega, by omega, HBn.out⟩
      · have hO1 : O1.length ≤ 8 := by have := HOL1.out; omega
        have HI1 := Lib.hid (IntsAt.of_own HO1.out (by omega))
        have HY := Lib.hid (HY.out.below HBL.out)
        have HR2 := Lib.hid (HR2.out.below HBL.out)
        have HB := Lib.hid (HB.out.trans (HBL.out.mono HB.out.size))
        have HW1 := Lib.hid (wf_small HWO1.out)
        clear HBL HO1 HWO1 HOL1 HR1
        have hx : ¬ ((k : Int) < a.length ∧ (k : Int) < 8) := by omega
        by_cases hka : (k : Int) < a.length
        · have s2 : ¬ (k : Int) < 8 := by omega
          clear hx hlt
          go_wp2
          generalize wr = wo2 at *
          go_loopg [15, 17] f.length (fun m v i wr => SmRel f.length wo2 m v i wr)
          case atStart => exact ⟨0, [], by omega, rfl, OwnX.nil_ _ _ _ _, fun x hx => (by cases hx), rfl, Nat.zero_le _, Below.refl _ _⟩
          case round =>
            obtain ⟨k, O2, hk, rfl, ho, hw, hol, hk8, hb⟩ := hrel
            have HK := Lib.hid hk
            have HO2 := Lib.hid ho
            have HWO2 := Lib.hid hw
            have HOL2 := Lib.hid hol
            have HBL := Lib.hid hb
            have hk2 : k ≤ f.length := by omega
            obtain ⟨Av2, cv2, rfl, -, -, -⟩ := ho.shape
            clear hk ho hw hb hol
            by_cases hlt : k < f.length ∧ k < 8
            · have s1 : (k : Int) < f.length := by omega
              have s2 : (k : Int) < 8 := by omega
              obtain ⟨bk, ofk, rfl, hcell⟩ := (HR2.out.rd.below HBL.out).int hlt.1
              generalize f[k]?.getD 0 = x at *
              have m1 := Int.emod_nonneg x (by decide : (8 : Int) ≠ 0)
              have m2 := Int.emod_lt_of_pos x (by decide : (0 : Int) < 8)
              have HWI := Lib.hid (within_any x 8 wr (by decide) (by decide))
              generalize x % 8 = y at *
              go_wp2_with (first
                | (go_at_call 7; refine HWI.out.mono ?_; rintro e w1 ⟨rfl, rfl⟩)
                | (at_builtin; refine wpList_append_one wr rfl (.tmp 58) (.tmp 64) 25 rfl wo2.heap.size 3 i0 _ 1 8 Try.underlying25 hi0 hz0 hz1 hz2 rfl (by omega) _ O2.length (ints O2) [.int .i64 y] rfl (by intro u hu; rw [List.mem_singleton] at hu; subst hu; rfl) rfl HO2.out rfl (by have := HOL2.out; unfold maxLen; omega) (by have := HOL2.out; omega) HBL.out.size ?_; intro v2 w3 hown2 hg2 hbl; have HOn := Lib.hid (own_snoc' hown2); have HBn := Lib.hid (HBL.out.trans (Below.of_grown hg2 wo2.heap.size HBL.out.size (fun g e => (HO2.out.block_lt e).1))); clear hown2 hg2 hbl))
              go_roundg (f.length - (k + 1))
              case measure => have := HK.out; omega
              case rel => exact ⟨k + 1, O2 ++ [y], by have := HK.out; omega, by go_num, HOn.out, fun z hz => by
                rcases List.mem_append.1 hz with hz | hz
                · exact HWO2.out z hz
                · rw [List.mem_singleton] at hz; subst hz; exact ⟨m1, m2⟩, by have := HOL2.out; simp; omega, by omega, HBn.out⟩
            · have hO2 : O2.length ≤ 8 := by have := HOL2.out; omega
              have HI2 := Lib.hid (IntsAt.of_own HO2.out (by omega))
              have HY := Lib.hid (HY.out.below HBL.out)
              have HI1 := Lib.hid (HI1.out.below HBL.out)
              have HB := Lib.hid (HB.out.trans (HBL.out.mono HB.out.size))
              have HW2 := Lib.hid (wf_small HWO2.out)
              clear HBL HO2 HWO2 HOL2 HR2
              have hx : ¬ ((k : Int) < f.length ∧ (k : Int) < 8) := by omega
              by_cases hkf : (k : Int) < f.length
              · have s3 : ¬ (k : Int) < 8 := by omega
                clear hx hlt
                by_cases hg0 : 200 < Y.length
                · have bz0 : (200 : Int) < (Y.length : Int) := by omega
                  go_wp2_with (go_at_call 15; refine (awake_any _).mono ?_; rintro e wz ⟨rfl, hb⟩; have HZ := Lib.hid (HB.out.trans (hb.mono HB.out.size)); clear hb)
                  go_ret
                  exact ⟨rfl, HZ.out⟩
                have bz0 : ¬ (200 : Int) < (Y.length : Int) := by omega
                by_cases hg1 : 200 < O1.length
                · have bz1 : (200 : Int) < (O1.length : Int) := by omega
                  go_wp2_with (go_at_call 15; refine (awake_any _).mono ?_; rintro e wz ⟨rfl, hb⟩; have HZ := Lib.hid (HB.out.trans (hb.mono HB.out.size)); clear hb)
                  go_ret
                  exact ⟨rfl, HZ.out⟩
                have bz1 : ¬ (200 : Int) < (O1.length : Int) := by omega
                by_cases hg2 : 200 < O2.length
                · have bz2 : (200 : Int) < (O2.length : Int) := by omega
                  go_wp2_with (go_at_call 15; refine (awake_any _).mono ?_; rintro e wz ⟨rfl, hb⟩; have HZ := Lib.hid (HB.out.trans (hb.mono HB.out.size)); clear hb)
                  go_ret
                  exact ⟨rfl, HZ.out⟩
                have bz2 : ¬ (200 : Int) < (O2.length : Int) := by omega
                have HQ8 := Lib.hid (show O1.length ≤ 1000000 ∧ O2.length ≤ 1000000 ∧ Y.length ≤ 1000000 by omega)
                have F1 : True := trivial
                have F2 : True := trivial
                go_wp2_with (first
                  | (go_at_call 19; refine (compare_any _ _ O1 O2 _ HI1.out HI2.out HW1.out HW2.out).mono ?_; rintro e wc1 ⟨u1, u2, rfl, h1, h2, hb⟩; have HI1 := Lib.hid (HI1.out.below hb); have HI2 := Lib.hid (HI2.out.below hb); have HY := Lib.hid (HY.out.below hb); have HB := Lib.hid (HB.out.trans (hb.mono HB.out.size)); obtain ⟨C1, c1, rfl⟩ := h1.shape; obtain ⟨D1, d1, rfl⟩ := h2.shape; have HC1 := Lib.hid h1; have HD1 := Lib.hid h2; clear h1 h2; clear hb)
                  | (go_at_call 20; refine (refCompare_any _ _ O1 O2 _ HI1.out HI2.out HQ8.out.1 HQ8.out.2.1).mono ?_; rintro e wc2 ⟨u1, u2, rfl, h1, h2, hb⟩; have HI1 := Lib.hid (HI1.out.below hb); have HI2 := Lib.hid (HI2.out.below hb); have HY := Lib.hid (HY.out.below hb); have HC1 := Lib.hid (HC1.out.below hb); have HD1 := Lib.hid (HD1.out.below hb); have HB := Lib.hid (HB.out.trans (hb.mono HB.out.size)); obtain ⟨C2, c2, rfl⟩ := h1.shape; obtain ⟨D2, d2, rfl⟩ := h2.shape; have HC2 := Lib.hid h1; have HD2 := Lib.hid h2; clear h1 h2; clear hb)
                  | (go_at_call 22; refine (seals_any _ _ O1 (1 + lt) Y _ HI1.out HY.out HW1.out HWY.out HQ8.out.1 HQ8.out.2.2).mono ?_; rintro e wc3 ⟨u1, rfl, h1, hb⟩; have HI1 := Lib.hid (HI1.out.below hb); have HI2 := Lib.hid (HI2.out.below hb); have HY := Lib.hid (HY.out.below hb); have HC1 := Lib.hid (HC1.out.below hb); have HD1 := Lib.hid (HD1.out.below hb); have HC2 := Lib.hid (HC2.out.below hb); have HD2 := Lib.hid (HD2.out.below hb); have HB := Lib.hid (HB.out.trans (hb.mono HB.out.size)); obtain ⟨S1, s1, rfl⟩ := h1.shape; have HS1 := Lib.hid h1; clear h1; clear hb)
                  | (go_at_call 23; refine (refSeals_any _ _ O1 (1 + lt) Y _ HI1.out HY.out HQ8.out.1 HQ8.out.2.2).mono ?_; rintro e wc4 ⟨u1, rfl, h1, hb⟩; have HI1 := Lib.hid (HI1.out.below hb); have HI2 := Lib.hid (HI2.out.below hb); have HY := Lib.hid (HY.out.below hb); have HC1 := Lib.hid (HC1.out.below hb); have HD1 := Lib.hid (HD1.out.below hb); have HC2 := Lib.hid (HC2.out.below hb); have HD2 := Lib.hid (HD2.out.below hb); have HS1 := Lib.hid (HS1.out.below hb); have HB := Lib.hid (HB.out.trans (hb.mono HB.out.size)); obtain ⟨S2, s2, rfl⟩ := h1.shape; have HS2 := Lib.hid h1; clear h1; clear hb)
                  | (go_at_call 21; clear F1; refine (sameInts_any _ _ _ _ HS1.out HS2.out).mono ?_; rintro e wc5 ⟨rfl, hq⟩; have hb := hq.below wc4.heap.size; clear hq; have HI1 := Lib.hid (HI1.out.below hb); have HI2 := Lib.hid (HI2.out.below hb); have HY := Lib.hid (HY.out.below hb); have HC1 := Lib.hid (HC1.out.below hb); have HD1 := Lib.hid (HD1.out.below hb); have HC2 := Lib.hid (HC2.out.below hb); have HD2 := Lib.hid (HD2.out.below hb); have HS1 := Lib.hid (HS1.out.below hb); have HS2 := Lib.hid (HS2.out.below hb); have HB := Lib.hid (HB.out.trans (hb.mono HB.out.size)); clear hb)
                  | (go_at_call 21; clear F2; refine (sameInts_any _ _ _ _ HC1.out HC2.out).mono ?_; rintro e wc6 ⟨rfl, hq⟩; have hb := hq.below wc5.heap.size; clear hq; have HI1 := Lib.hid (HI1.out.below hb); have HI2 := Lib.hid (HI2.out.below hb); have HY := Lib.hid (HY.out.below hb); have HC1 := Lib.hid (HC1.out.below hb); have HD1 := Lib.hid (HD1.out.below hb); have HC2 := Lib.hid (HC2.out.below hb); have HD2 := Lib.hid (HD2.out.below hb); have HS1 := Lib.hid (HS1.out.below hb); have HS2 := Lib.hid (HS2.out.below hb); have HB := Lib.hid (HB.out.trans (hb.mono HB.out.size)); clear hb)
                  | (go_at_call 21; refine (sameInts_any _ _ _ _ HD1.out HD2.out).mono ?_; rintro e wc7 ⟨rfl, hq⟩; have hb := hq.below wc6.heap.size; clear hq; have HI1 := Lib.hid (HI1.out.below hb); have HI2 := Lib.hid (HI2.out.below hb); have HY := Lib.hid (HY.out.below hb); have HC1 := Lib.hid (HC1.out.below hb); have HD1 := Lib.hid (HD1.out.below hb); have HC2 := Lib.hid (HC2.out.below hb); have HD2 := Lib.hid (HD2.out.below hb); have HS1 := Lib.hid (HS1.out.below hb); have HS2 := Lib.hid (HS2.out.below hb); have HB := Lib.hid (HB.out.trans (hb.mono HB.out.size)); clear hb)
                  | (go_at_call 15; refine (awake_any _).mono ?_; rintro e wc8 ⟨rfl, hb⟩; have HI1 := Lib.hid (HI1.out.below hb); have HI2 := Lib.hid (HI2.out.below hb); have HY := Lib.hid (HY.out.below hb); have HC1 := Lib.hid (HC1.out.below hb); have HD1 := Lib.hid (HD1.out.below hb); have HC2 := Lib.hid (HC2.out.below hb); have HD2 := Lib.hid (HD2.out.below hb); have HS1 := Lib.hid (HS1.out.below hb); have HS2 := Lib.hid (HS2.out.below hb); have HB := Lib.hid (HB.out.trans (hb.mono HB.out.size)); clear hb))
                go_ret
                exact ⟨rfl, HB.out⟩
              · skip
                clear hx hlt
                by_cases hg0 : 200 < Y.length
                · have bz0 : (200 : Int) < (Y.length : Int) := by omega
                  go_wp2_with (go_at_call 15; refine (awake_any _).mono ?_; rintro e wz ⟨rfl, hb⟩; have HZ := Lib.hid (HB.out.trans (hb.mono HB.out.size)); clear hb)
                  go_ret
                  exact ⟨rfl, HZ.out⟩
                have bz0 : ¬ (200 : Int) < (Y.length : Int) := by omega
                by_cases hg1 : 200 < O1.length
                · have bz1 : (200 : Int) < (O1.length : Int) := by omega
                  go_wp2_with (go_at_call 15; refine (awake_any _).mono ?_; rintro e wz ⟨rfl, hb⟩; have HZ := Lib.hid (HB.out.trans (hb.mono HB.out.size)); clear hb)
                  go_ret
                  exact ⟨rfl, HZ.out⟩
                have bz1 : ¬ (200 : Int) < (O1.length : Int) := by omega
                by_cases hg2 : 200 < O2.length
                · have bz2 : (200 : Int) < (O2.length : Int) := by omega
                  go_wp2_with (go_at_call 15; refine (awake_any _).mono ?_; rintro e wz ⟨rfl, hb⟩; have HZ := Lib.hid (HB.out.trans (hb.mono HB.out.size)); clear hb)
                  go_ret
                  exact ⟨rfl, HZ.out⟩
                have bz2 : ¬ (200 : Int) < (O2.length : Int) := by omega
                have HQ8 := Lib.hid (show O1.length ≤ 1000000 ∧ O2.length ≤ 1000000 ∧ Y.length ≤ 1000000 by omega)
                have F1 : True := trivial
                have F2 : True := trivial
                go_wp2_with (first
                  | (go_at_call 19; refine (compare_any _ _ O1 O2 _ HI1.out HI2.out HW1.out HW2.out).mono ?_; rintro e wc1 ⟨u1, u2, rfl, h1, h2, hb⟩; have HI1 := Lib.hid (HI1.out.below hb); have HI2 := Lib.hid (HI2.out.below hb); have HY := Lib.hid (HY.out.below hb); have HB := Lib.hid (HB.out.trans (hb.mono HB.out.size)); obtain ⟨C1, c1, rfl⟩ := h1.shape; obtain ⟨D1, d1, rfl⟩ := h2.shape; have HC1 := Lib.hid h1; have HD1 := Lib.hid h2; clear h1 h2; clear hb)
                  | (go_at_call 20; refine (refCompare_any _ _ O1 O2 _ HI1.out HI2.out HQ8.out.1 HQ8.out.2.1).mono ?_; rintro e wc2 ⟨u1, u2, rfl, h1, h2, hb⟩; have HI1 := Lib.hid (HI1.out.below hb); have HI2 := Lib.hid (HI2.out.below hb); have HY := Lib.hid (HY.out.below hb); have HC1 := Lib.hid (HC1.out.below hb); have HD1 := Lib.hid (HD1.out.below hb); have HB := Lib.hid (HB.out.trans (hb.mono HB.out.size)); obtain ⟨C2, c2, rfl⟩ := h1.shape; obtain ⟨D2, d2, rfl⟩ := h2.shape; have HC2 := Lib.hid h1; have HD2 := Lib.hid h2; clear h1 h2; clear hb)
                  | (go_at_call 22; refine (seals_any _ _ O1 (1 + lt) Y _ HI1.out HY.out HW1.out HWY.out HQ8.out.1 HQ8.out.2.2).mono ?_; rintro e wc3 ⟨u1, rfl, h1, hb⟩; have HI1 := Lib.hid (HI1.out.below hb); have HI2 := Lib.hid (HI2.out.below hb); have HY := Lib.hid (HY.out.below hb); have HC1 := Lib.hid (HC1.out.below hb); have HD1 := Lib.hid (HD1.out.below hb); have HC2 := Lib.hid (HC2.out.below hb); have HD2 := Lib.hid (HD2.out.below hb); have HB := Lib.hid (HB.out.trans (hb.mono HB.out.size)); obtain ⟨S1, s1, rfl⟩ := h1.shape; have HS1 := Lib.hid h1; clear h1; clear hb)
                  | (go_at_call 23; refine (refSeals_any _ _ O1 (1 + lt) Y _ HI1.out HY.out HQ8.out.1 HQ8.out.2.2).mono ?_; rintro e wc4 ⟨u1, rfl, h1, hb⟩; have HI1 := Lib.hid (HI1.out.below hb); have HI2 := Lib.hid (HI2.out.below hb); have HY := Lib.hid (HY.out.below hb); have HC1 := Lib.hid (HC1.out.below hb); have HD1 := Lib.hid (HD1.out.below hb); have HC2 := Lib.hid (HC2.out.below hb); have HD2 := Lib.hid (HD2.out.below hb); have HS1 := Lib.hid (HS1.out.below hb); have HB := Lib.hid (HB.out.trans (hb.mono HB.out.size)); obtain ⟨S2, s2, rfl⟩ := h1.shape; have HS2 := Lib.hid h1; clear h1; clear hb)
                  | (go_at_call 21; clear F1; refine (sameInts_any _ _ _ _ HS1.out HS2.out).mono ?_; rintro e wc5 ⟨rfl, hq⟩; have hb := hq.below wc4.heap.size; clear hq; have HI1 := Lib.hid (HI1.out.below hb); have HI2 := Lib.hid (HI2.out.below hb); have HY := Lib.hid (HY.out.below hb); have HC1 := Lib.hid (HC1.out.below hb); have HD1 := Lib.hid (HD1.out.below hb); have HC2 := Lib.hid (HC2.out.below hb); have HD2 := Lib.hid (HD2.out.below hb); have HS1 := Lib.hid (HS1.out.below hb); have HS2 := Lib.hid (HS2.out.below hb); have HB := Lib.hid (HB.out.trans (hb.mono HB.out.size)); clear hb)
                  | (go_at_call 21; clear F2; refine (sameInts_any _ _ _ _ HC1.out HC2.out).mono ?_; rintro e wc6 ⟨rfl, hq⟩; have hb := hq.below wc5.heap.size; clear hq; have HI1 := Lib.hid (HI1.out.below hb); have HI2 := Lib.hid (HI2.out.below hb); have HY := Lib.hid (HY.out.below hb); have HC1 := Lib.hid (HC1.out.below hb); have HD1 := Lib.hid (HD1.out.below hb); have HC2 := Lib.hid (HC2.out.below hb); have HD2 := Lib.hid (HD2.out.below hb); have HS1 := Lib.hid (HS1.out.below hb); have HS2 := Lib.hid (HS2.out.below hb); have HB := Lib.hid (HB.out.trans (hb.mono HB.out.size)); clear hb)
                  | (go_at_call 21; refine (sameInts_any _ _ _ _ HD1.out HD2.out).mono ?_; rintro e wc7 ⟨rfl, hq⟩; have hb := hq.below wc6.heap.size; clear hq; have HI1 := Lib.hid (HI1.out.below hb); have HI2 := Lib.hid (HI2.out.below hb); have HY := Lib.hid (HY.out.below hb); have HC1 := Lib.hid (HC1.out.below hb); have HD1 := Lib.hid (HD1.out.below hb); have HC2 := Lib.hid (HC2.out.below hb); have HD2 := Lib.hid (HD2.out.below hb); have HS1 := Lib.hid (HS1.out.below hb); have HS2 := Lib.hid (HS2.out.below hb); have HB := Lib.hid (HB.out.trans (hb.mono HB.out.size)); clear hb)
                  | (go_at_call 15; refine (awake_any _).mono ?_; rintro e wc8 ⟨rfl, hb⟩; have HI1 := Lib.hid (HI1.out.below hb); have HI2 := Lib.hid (HI2.out.below hb); have HY := Lib.hid (HY.out.below hb); have HC1 := Lib.hid (HC1.out.below hb); have HD1 := Lib.hid (HD1.out.below hb); have HC2 := Lib.hid (HC2.out.below hb); have HD2 := Lib.hid (HD2.out.below hb); have HS1 := Lib.hid (HS1.out.below hb); have HS2 := Lib.hid (HS2.out.below hb); have HB := Lib.hid (HB.out.trans (hb.mono HB.out.size)); clear hb))
                go_ret
                exact ⟨rfl, HB.out⟩
        · skip
          clear hx hlt
          go_wp2
          generalize wr = wo2 at *
          go_loopg [15, 17] f.length (fun m v i wr => SmRel f.length wo2 m v i wr)
          case atStart => exact ⟨0, [], by omega, rfl, OwnX.nil_ _ _ _ _, fun x hx => (by cases hx), rfl, Nat.zero_le _, Below.refl _ _⟩
          case round =>
            obtain ⟨k, O2, hk, rfl, ho, hw, hol, hk8, hb⟩ := hrel
            have HK := Lib.hid hk
            have HO2 := Lib.hid ho
            have HWO2 := Lib.hid hw
            have HOL2 := Lib.hid hol
            have HBL := Lib.hid hb
            have hk2 : k ≤ f.length := by omega
            obtain ⟨Av2, cv2, rfl, -, -, -⟩ := ho.shape
            clear hk ho hw hb hol
            by_cases hlt : k < f.length ∧ k < 8
            · have s1 : (k : Int) < f.length := by omega
              have s2 : (k : Int) < 8 := by omega
              obtain ⟨bk, ofk, rfl, hcell⟩ := (HR2.out.rd.below HBL.out).int hlt.1
              generalize f[k]?.getD 0 = x at *
              have m1 := Int.emod_nonneg x (by decide : (8 : Int) ≠ 0)
              have m2 := Int.emod_lt_of_pos x (by decide : (0 : Int) < 8)
              have HWI := Lib.hid (within_any x 8 wr (by decide) (by decide))
              generalize x % 8 = y at *
              go_wp2_with (first
                | (go_at_call 7; refine HWI.out.mono ?_; rintro e w1 ⟨rfl, rfl⟩)
                | (at_builtin; refine wpList_append_one wr rfl (.tmp 58) (.tmp 64) 25 rfl wo2.heap.size 3 i0 _ 1 8 Try.underlying25 hi0 hz0 hz1 hz2 rfl (by omega) _ O2.length (ints O2) [.int .i64 y] rfl (by intro u hu; rw [List.mem_singleton] at hu; subst hu; rfl) rfl HO2.out rfl (by have := HOL2.out; unfold maxLen; omega) (by have := HOL2.out; omega) HBL.out.size ?_; intro v2 w3 hown2 hg2 hbl; have HOn := Lib.hid (own_snoc' hown2); have HBn := Lib.hid (HBL.out.trans (Below.of_grown hg2 wo2.heap.size HBL.out.size (fun g e => (HO2.out.block_lt e).1))); clear hown2 hg2 hbl))
              go_roundg (f.length - (k + 1))
              case measure => have := HK.out; omega
              case rel => exact ⟨k + 1, O2 ++ [y], by have := HK.out; omega, by go_num, HOn.out, fun z hz => by
                rcases List.mem_append.1 hz with hz | hz
                · exact HWO2.out z hz
                · rw [List.mem_singleton] at hz; subst hz; exact ⟨m1, m2⟩, by have := HOL2.out; simp; omega, by omega, HBn.out⟩
            · have hO2 : O2.length ≤ 8 := by have := HOL2.out; omega
              have HI2 := Lib.hid (IntsAt.of_own HO2.out (by omega))
              have HY := Lib.hid (HY.out.below HBL.out)
              have HI1 := Lib.hid (HI1.out.below HBL.out)
              have HB := Lib.hid (HB.out.trans (HBL.out.mono HB.out.size))
              have HW2 := Lib.hid (wf_small HWO2.out)
              clear HBL HO2 HWO2 HOL2 HR2
              have hx : ¬ ((k : Int) < f.length ∧ (k : Int) < 8) := by omega
              by_cases hkf : (k : Int) < f.length
              · have s3 : ¬ (k : Int) < 8 := by omega
                clear hx hlt
                by_cases hg0 : 200 < Y.length
                · have bz0 : (200 : Int) < (Y.length : Int) := by omega
                  go_wp2_with (go_at_call 15; refine (awake_any _).mono ?_; rintro e wz ⟨rfl, hb⟩; have HZ := Lib.hid (HB.out.trans (hb.mono HB.out.size)); clear hb)
                  go_ret
                  exact ⟨rfl, HZ.out⟩
                have bz0 : ¬ (200 : Int) < (Y.length : Int) := by omega
                by_cases hg1 : 200 < O1.length
                · have bz1 : (200 : Int) < (O1.length : Int) := by omega
                  go_wp2_with (go_at_call 15; refine (awake_any _).mono ?_; rintro e wz ⟨rfl, hb⟩; have HZ := Lib.hid (HB.out.trans (hb.mono HB.out.size)); clear hb)
                  go_ret
                  exact ⟨rfl, HZ.out⟩
                have bz1 : ¬ (200 : Int) < (O1.length : Int) := by omega
                by_cases hg2 : 200 < O2.length
                · have bz2 : (200 : Int) < (O2.length : Int) := by omega
                  go_wp2_with (go_at_call 15; refine (awake_any _).mono ?_; rintro e wz ⟨rfl, hb⟩; have HZ := Lib.hid (HB.out.trans (hb.mono HB.out.size)); clear hb)
                  go_ret
                  exact ⟨rfl, HZ.out⟩
                have bz2 : ¬ (200 : Int) < (O2.length : Int) := by omega
                have HQ8 := Lib.hid (show O1.length ≤ 1000000 ∧ O2.length ≤ 1000000 ∧ Y.length ≤ 1000000 by omega)
                have F1 : True := trivial
                have F2 : True := trivial
                go_wp2_with (first
                  | (go_at_call 19; refine (compare_any _ _ O1 O2 _ HI1.out HI2.out HW1.out HW2.out).mono ?_; rintro e wc1 ⟨u1, u2, rfl, h1, h2, hb⟩; have HI1 := Lib.hid (HI1.out.below hb); have HI2 := Lib.hid (HI2.out.below hb); have HY := Lib.hid (HY.out.below hb); have HB := Lib.hid (HB.out.trans (hb.mono HB.out.size)); obtain ⟨C1, c1, rfl⟩ := h1.shape; obtain ⟨D1, d1, rfl⟩ := h2.shape; have HC1 := Lib.hid h1; have HD1 := Lib.hid h2; clear h1 h2; clear hb)
                  | (go_at_call 20; refine (refCompare_any _ _ O1 O2 _ HI1.out HI2.out HQ8.out.1 HQ8.out.2.1).mono ?_; rintro e wc2 ⟨u1, u2, rfl, h1, h2, hb⟩; have HI1 := Lib.hid (HI1.out.below hb); have HI2 := Lib.hid (HI2.out.below hb); have HY := Lib.hid (HY.out.below hb); have HC1 := Lib.hid (HC1.out.below hb); have HD1 := Lib.hid (HD1.out.below hb); have HB := Lib.hid (HB.out.trans (hb.mono HB.out.size)); obtain ⟨C2, c2, rfl⟩ := h1.shape; obtain ⟨D2, d2, rfl⟩ := h2.shape; have HC2 := Lib.hid h1; have HD2 := Lib.hid h2; clear h1 h2; clear hb)
                  | (go_at_call 22; refine (seals_any _ _ O1 (1 + lt) Y _ HI1.out HY.out HW1.out HWY.out HQ8.out.1 HQ8.out.2.2).mono ?_; rintro e wc3 ⟨u1, rfl, h1, hb⟩; have HI1 := Lib.hid (HI1.out.below hb); have HI2 := Lib.hid (HI2.out.below hb); have HY := Lib.hid (HY.out.below hb); have HC1 := Lib.hid (HC1.out.below hb); have HD1 := Lib.hid (HD1.out.below hb); have HC2 := Lib.hid (HC2.out.below hb); have HD2 := Lib.hid (HD2.out.below hb); have HB := Lib.hid (HB.out.trans (hb.mono HB.out.size)); obtain ⟨S1, s1, rfl⟩ := h1.shape; have HS1 := Lib.hid h1; clear h1; clear hb)
                  | (go_at_call 23; refine (refSeals_any _ _ O1 (1 + lt) Y _ HI1.out HY.out HQ8.out.1 HQ8.out.2.2).mono ?_; rintro e wc4 ⟨u1, rfl, h1, hb⟩; have HI1 := Lib.hid (HI1.out.below hb); have HI2 := Lib.hid (HI2.out.below hb); have HY := Lib.hid (HY.out.below hb); have HC1 := Lib.hid (HC1.out.below hb); have HD1 := Lib.hid (HD1.out.below hb); have HC2 := Lib.hid (HC2.out.below hb); have HD2 := Lib.hid (HD2.out.below hb); have HS1 := Lib.hid (HS1.out.below hb); have HB := Lib.hid (HB.out.trans (hb.mono HB.out.size)); obtain ⟨S2, s2, rfl⟩ := h1.shape; have HS2 := Lib.hid h1; clear h1; clear hb)
                  | (go_at_call 21; clear F1; refine (sameInts_any _ _ _ _ HS1.out HS2.out).mono ?_; rintro e wc5 ⟨rfl, hq⟩; have hb := hq.below wc4.heap.size; clear hq; have HI1 := Lib.hid (HI1.out.below hb); have HI2 := Lib.hid (HI2.out.below hb); have HY := Lib.hid (HY.out.below hb); have HC1 := Lib.hid (HC1.out.below hb); have HD1 := Lib.hid (HD1.out.below hb); have HC2 := Lib.hid (HC2.out.below hb); have HD2 := Lib.hid (HD2.out.below hb); have HS1 := Lib.hid (HS1.out.below hb); have HS2 := Lib.hid (HS2.out.below hb); have HB := Lib.hid (HB.out.trans (hb.mono HB.out.size)); clear hb)
                  | (go_at_call 21; clear F2; refine (sameInts_any _ _ _ _ HC1.out HC2.out).mono ?_; rintro e wc6 ⟨rfl, hq⟩; have hb := hq.below wc5.heap.size; clear hq; have HI1 := Lib.hid (HI1.out.below hb); have HI2 := Lib.hid (HI2.out.below hb); have HY := Lib.hid (HY.out.below hb); have HC1 := Lib.hid (HC1.out.below hb); have HD1 := Lib.hid (HD1.out.below hb); have HC2 := Lib.hid (HC2.out.below hb); have HD2 := Lib.hid (HD2.out.below hb); have HS1 := Lib.hid (HS1.out.below hb); have HS2 := Lib.hid (HS2.out.below hb); have HB := Lib.hid (HB.out.trans (hb.mono HB.out.size)); clear hb)
                  | (go_at_call 21; refine (sameInts_any _ _ _ _ HD1.out HD2.out).mono ?_; rintro e wc7 ⟨rfl, hq⟩; have hb := hq.below wc6.heap.size; clear hq; have HI1 := Lib.hid (HI1.out.below hb); have HI2 := Lib.hid (HI2.out.below hb); have HY := Lib.hid (HY.out.below hb); have HC1 := Lib.hid (HC1.out.below hb); have HD1 := Lib.hid (HD1.out.below hb); have HC2 := Lib.hid (HC2.out.below hb); have HD2 := Lib.hid (HD2.out.below hb); have HS1 := Lib.hid (HS1.out.below hb); have HS2 := Lib.hid (HS2.out.below hb); have HB := Lib.hid (HB.out.trans (hb.mono HB.out.size)); clear hb)
                  | (go_at_call 15; refine (awake_any _).mono ?_; rintro e wc8 ⟨rfl, hb⟩; have HI1 := Lib.hid (HI1.out.below hb); have HI2 := Lib.hid (HI2.out.below hb); have HY := Lib.hid (HY.out.below hb); have HC1 := Lib.hid (HC1.out.below hb); have HD1 := Lib.hid (HD1.out.below hb); have HC2 := Lib.hid (HC2.out.below hb); have HD2 := Lib.hid (HD2.out.below hb); have HS1 := Lib.hid (HS1.out.below hb); have HS2 := Lib.hid (HS2.out.below hb); have HB := Lib.hid (HB.out.trans (hb.mono HB.out.size)); clear hb))
                go_ret
                exact ⟨rfl, HB.out⟩
              · skip
                clear hx hlt
                by_cases hg0 : 200 < Y.length
                · have bz0 : (200 : Int) < (Y.length : Int) := by omega
                  go_wp2_with (go_at_call 15; refine (awake_any _).mono ?_; rintro e wz ⟨rfl, hb⟩; have HZ := Lib.hid (HB.out.trans (hb.mono HB.out.size)); clear hb)
                  go_ret
                  exact ⟨rfl, HZ.out⟩
                have bz0 : ¬ (200 : Int) < (Y.length : Int) := by omega
                by_cases hg1 : 200 < O1.length
                · have bz1 : (200 : Int) < (O1.length : Int) := by omega
                  go_wp2_with (go_at_call 15; refine (awake_any _).mono ?_; rintro e wz ⟨rfl, hb⟩; have HZ := Lib.hid (HB.out.trans (hb.mono HB.out.size)); clear hb)
                  go_ret
                  exact ⟨rfl, HZ.out⟩
                have bz1 : ¬ (200 : Int) < (O1.length : Int) := by omega
                by_cases hg2 : 200 < O2.length
                · have bz2 : (200 : Int) < (O2.length : Int) := by omega
                  go_wp2_with (go_at_call 15; refine (awake_any _).mono ?_; rintro e wz ⟨rfl, hb⟩; have HZ := Lib.hid (HB.out.trans (hb.mono HB.out.size)); clear hb)
                  go_ret
                  exact ⟨rfl, HZ.out⟩
                have bz2 : ¬ (200 : Int) < (O2.length : Int) := by omega
                have HQ8 := Lib.hid (show O1.length ≤ 1000000 ∧ O2.length ≤ 1000000 ∧ Y.length ≤ 1000000 by omega)
                have F1 : True := trivial
                have F2 : True := trivial
                go_wp2_with (first
                  | (go_at_call 19; refine (compare_any _ _ O1 O2 _ HI1.out HI2.out HW1.out HW2.out).mono ?_; rintro e wc1 ⟨u1, u2, rfl, h1, h2, hb⟩; have HI1 := Lib.hid (HI1.out.below hb); have HI2 := Lib.hid (HI2.out.below hb); have HY := Lib.hid (HY.out.below hb); have HB := Lib.hid (HB.out.trans (hb.mono HB.out.size)); obtain ⟨C1, c1, rfl⟩ := h1.shape; obtain ⟨D1, d1, rfl⟩ := h2.shape; have HC1 := Lib.hid h1; have HD1 := Lib.hid h2; clear h1 h2; clear hb)
                  | (go_at_call 20; refine (refCompare_any _ _ O1 O2 _ HI1.out HI2.out HQ8.out.1 HQ8.out.2.1).mono ?_; rintro e wc2 ⟨u1, u2, rfl, h1, h2, hb⟩; have HI1 := Lib.hid (HI1.out.below hb); have HI2 := Lib.hid (HI2.out.below hb); have HY := Lib.hid (HY.out.below hb); have HC1 := Lib.hid (HC1.out.below hb); have HD1 := Lib.hid (HD1.out.below hb); have HB := Lib.hid (HB.out.trans (hb.mono HB.out.size)); obtain ⟨C2, c2, rfl⟩ := h1.shape; obtain ⟨D2, d2, rfl⟩ := h2.shape; have HC2 := Lib.hid h1; have HD2 := Lib.hid h2; clear h1 h2; clear hb)
                  | (go_at_call 22; refine (seals_any _ _ O1 (1 + lt) Y _ HI1.out HY.out HW1.out HWY.out HQ8.out.1 HQ8.out.2.2).mono ?_; rintro e wc3 ⟨u1, rfl, h1, hb⟩; have HI1 := Lib.hid (HI1.out.below hb); have HI2 := Lib.hid (HI2.out.below hb); have HY := Lib.hid (HY.out.below hb); have HC1 := Lib.hid (HC1.out.below hb); have HD1 := Lib.hid (HD1.out.below hb); have HC2 := Lib.hid (HC2.out.below hb); have HD2 := Lib.hid (HD2.out.below hb); have HB := Lib.hid (HB.out.trans (hb.mono HB.out.size)); obtain ⟨S1, s1, rfl⟩ := h1.shape; have HS1 := Lib.hid h1; clear h1; clear hb)
                  | (go_at_call 23; refine (refSeals_any _ _ O1 (1 + lt) Y _ HI1.out HY.out HQ8.out.1 HQ8.out.2.2).mono ?_; rintro e wc4 ⟨u1, rfl, h1, hb⟩; have HI1 := Lib.hid (HI1.out.below hb); have HI2 := Lib.hid (HI2.out.below hb); have HY := Lib.hid (HY.out.below hb); have HC1 := Lib.hid (HC1.out.below hb); have HD1 := Lib.hid (HD1.out.below hb); have HC2 := Lib.hid (HC2.out.below hb); have HD2 := Lib.hid (HD2.out.below hb); have HS1 := Lib.hid (HS1.out.below hb); have HB := Lib.hid (HB.out.trans (hb.mono HB.out.size)); obtain ⟨S2, s2, rfl⟩ := h1.shape; have HS2 := Lib.hid h1; clear h1; clear hb)
                  | (go_at_call 21; clear F1; refine (sameInts_any _ _ _ _ HS1.out HS2.out).mono ?_; rintro e wc5 ⟨rfl, hq⟩; have hb := hq.below wc4.heap.size; clear hq; have HI1 := Lib.hid (HI1.out.below hb); have HI2 := Lib.hid (HI2.out.below hb); have HY := Lib.hid (HY.out.below hb); have HC1 := Lib.hid (HC1.out.below hb); have HD1 := Lib.hid (HD1.out.below hb); have HC2 := Lib.hid (HC2.out.below hb); have HD2 := Lib.hid (HD2.out.below hb); have HS1 := Lib.hid (HS1.out.below hb); have HS2 := Lib.hid (HS2.out.below hb); have HB := Lib.hid (HB.out.trans (hb.mono HB.out.size)); clear hb)
                  | (go_at_call 21; clear F2; refine (sameInts_any _ _ _ _ HC1.out HC2.out).mono ?_; rintro e wc6 ⟨rfl, hq⟩; have hb := hq.below wc5.heap.size; clear hq; have HI1 := Lib.hid (HI1.out.below hb); have HI2 := Lib.hid (HI2.out.below hb); have HY := Lib.hid (HY.out.below hb); have HC1 := Lib.hid (HC1.out.below hb); have HD1 := Lib.hid (HD1.out.below hb); have HC2 := Lib.hid (HC2.out.below hb); have HD2 := Lib.hid (HD2.out.below hb); have HS1 := Lib.hid (HS1.out.below hb); have HS2 := Lib.hid (HS2.out.below hb); have HB := Lib.hid (HB.out.trans (hb.mono HB.out.size)); clear hb)
                  | (go_at_call 21; refine (sameInts_any _ _ _ _ HD1.out HD2.out).mono ?_; rintro e wc7 ⟨rfl, hq⟩; have hb := hq.below wc6.heap.size; clear hq; have HI1 := Lib.hid (HI1.out.below hb); have HI2 := Lib.hid (HI2.out.below hb); have HY := Lib.hid (HY.out.below hb); have HC1 := Lib.hid (HC1.out.below hb); have HD1 := Lib.hid (HD1.out.below hb); have HC2 := Lib.hid (HC2.out.below hb); have HD2 := Lib.hid (HD2.out.below hb); have HS1 := Lib.hid (HS1.out.below hb); have HS2 := Lib.hid (HS2.out.below hb); have HB := Lib.hid (HB.out.trans (hb.mono HB.out.size)); clear hb)
                  | (go_at_call 15; refine (awake_any _).mono ?_; rintro e wc8 ⟨rfl, hb⟩; have HI1 := Lib.hid (HI1.out.below hb); have HI2 := Lib.hid (HI2.out.below hb); have HY := Lib.hid (HY.out.below hb); have HC1 := Lib.hid (HC1.out.below hb); have HD1 := Lib.hid (HD1.out.below hb); have HC2 := Lib.hid (HC2.out.below hb); have HD2 := Lib.hid (HD2.out.below hb); have HS1 := Lib.hid (HS1.out.below hb); have HS2 := Lib.hid (HS2.out.below hb); have HB := Lib.hid (HB.out.trans (hb.mono HB.out.size)); clear hb))
                go_ret
                exact ⟨rfl, HB.out⟩
end Go.Proofs.Ytecmpkcjeaiknaa
