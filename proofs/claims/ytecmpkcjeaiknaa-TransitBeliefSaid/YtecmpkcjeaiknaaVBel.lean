/- The walk of TransitBelief. -/
import Derived.Test.YtecmpkcjeaiknaaTx
import Derived.Test.YtecmpkcjeaiknaaTr
namespace Go.Proofs.Ytecmpkcjeaiknaa
open Go.RowKit
set_option linter.unusedVariables false

theorem wf_sl {w : World} {A : Option Addr} {c : Nat} {l : List Int} (h : SlI w A c l) : WfL l := fun x hx => wf_in (h.wf x hx)
theorem wf_seals {a : List Int} {lot : Int} {X : List Inc} (wa : WfL a) (wl : WfI X) : WfL (sealsF a lot X) := fun x hx => by
  unfold sealsF withoutF at hx
  rw [ascF_mem] at hx
  have hx := (List.mem_filter.1 (List.mem_filter.1 hx).1).1
  rcases List.mem_append.1 hx with hx | hx
  · exact wa x hx
  · exact wf_aff wl x hx
def BlRel (n : Nat) (X : List Inc) (wo : World) (m : Nat) (v i : Value) (wr : World) : Prop := ∃ (k : Nat) (Y : List Inc), k + m = n ∧ i = .int .i64 (k : Int) ∧ OwnX wr wo.heap.size 53 5 v Y.length (incsCs Y) ∧ (∀ y ∈ Y, y ∈ X) ∧ Y.length = k ∧ Below wo.heap.size wo wr
theorem incs_app {w : World} {B : Nat} {v : Value} {Y X : List Inc} (h : OwnX w B 53 5 v (Y.length + X.length) (incsCs Y ++ incsCs X)) : OwnX w B 53 5 v (Y ++ X).length (incsCs (Y ++ X)) := by
  have e1 : incsCs (Y ++ X) = incsCs Y ++ incsCs X := by simp [incsCs]
  rw [e1, List.length_append]
  exact h
theorem incsCs_one (l : List Inc) : ∀ u ∈ incsCs l, u.oneCell' = true := by
  intro u hu
  obtain ⟨x, _, hx⟩ := List.mem_flatMap.1 hu
  simp only [incCs, List.mem_cons, List.not_mem_nil, or_false] at hx
  rcases hx with rfl | rfl | rfl | rfl | rfl <;> rfl
theorem IncsAt.rd_ {w : World} {A : Option Addr} {n c : Nat} {l : List Inc} (h : IncsAt w (.slice A n c) l) : Rd w A (incsCs l) := by
  obtain ⟨A', c', e, h1, _⟩ := h
  injection e with e1 _ _
  subst e1; exact h1
theorem IntsAt.rd_ {w : World} {A : Option Addr} {n c : Nat} {l : List Int} (h : IntsAt w (.slice A n c) l) : Rd w A (ints l) := by
  obtain ⟨A', c', e, h1, _⟩ := h
  injection e with e1 _ _
  subst e1; exact h1
set_option maxRecDepth 100000 in
set_option maxHeartbeats 4000000 in
theorem transitBelief.walkTransitBelief (A0 : Option Addr) (c0 : Nat) (l : List Int) (A1 : Option Addr) (c1 : Nat) (a : List Int) (A2 : Option Addr) (c2 : Nat) (o : List Int) (w : World)
    (h0 : SlI w A0 c0 l) (h1 : SlI w A1 c1 a) (h2 : SlI w A2 c2 o) :
    Calls Try.prog 6 #[.slice A0 l.length c0, .slice A1 a.length c1, .slice A2 o.length c2] w fun e w' => e = .returned (.bool true) ∧ Below w.heap.size w w' := by
  have H0 := Lib.hid h0
  have H2 := Lib.hid h2
  have HB := Lib.hid (Below.refl w.heap.size w)
  have hc1 := h1.le
  have hc2 := h1.max
  have HC := Lib.hid (fun W => mcut_any A1 c1 a 8 W hc1 (by omega) (by omega))
  have HA := Lib.hid (show IntsAt w (.slice A1 (a.take 8).length c1) (a.take 8) from ⟨A1, c1, rfl, by rw [show ints (a.take 8) = (ints a).take 8 by simp [ints]]; exact h1.rd.take 8, by rw [List.length_take]; omega, by unfold maxLen; omega, by rw [List.length_take]; omega⟩)
  have HWA := Lib.hid (show WfL (a.take 8) from fun x hx => wf_sl h1 x (List.mem_of_mem_take hx))
  have ha8 : (a.take 8).length ≤ 1000000 := by rw [List.length_take]; omega
  generalize a.take 8 = L8 at HC HA HWA ha8
  have HA8 := Lib.hid ha8
  obtain ⟨i0, hi0, hz0, hz1, hz2⟩ := info_parts incInfo
  clear h0 h1 h2 hc1 hc2 ha8
  go_enter Try.func6, Try.ntmps6
  go_wp2_with fail
  refine (incidents_any A0 c0 l _ H0.out).mono ?_
  rintro e w1 ⟨vx, X, rfl, hx, hwx, hxl, hb⟩
  obtain ⟨Ax, cx, rfl⟩ := hx.shape
  have HX := Lib.hid hx
  have HWX := Lib.hid hwx
  have HXL := Lib.hid hxl
  have HB := Lib.hid (HB.out.trans (hb.mono HB.out.size))
  have HA := Lib.hid (HA.out.below hb)
  have H2 := Lib.hid (H2.out.below hb)
  clear hx hwx hxl hb H0
  go_wp2_with fail
  refine (order_any X.length A2 c2 o _ H2.out HXL.out).mono ?_
  rintro e w2 ⟨vo, O, rfl, ho, hin, hol, hb⟩
  obtain ⟨Ao, co, rfl⟩ := ho.shape
  have HO := Lib.hid ho
  have HIN := Lib.hid hin
  have HOL := Lib.hid hol
  have HB := Lib.hid (HB.out.trans (hb.mono HB.out.size))
  have HA := Lib.hid (HA.out.below hb)
  have HX := Lib.hid (HX.out.below hb)
  clear ho hin hol hb H2
  go_wp2
  generalize w2 = wo at *
  go_loopg [9, 10] O.length (fun m v i wr => BlRel O.length X wo m v i wr)
  case atStart => exact ⟨0, [], by omega, rfl, OwnX.nil_ _ _ _ _, fun x hx => (by cases hx), rfl, Below.refl _ _⟩
  case round =>
    obtain ⟨k, Y, hk, rfl, hy, hyx, hyl, hbl⟩ := hrel
    have HK := Lib.hid hk
    have HY := Lib.hid hy
    have HYX := Lib.hid hyx
    have HYL := Lib.hid hyl
    have HBL := Lib.hid hbl
    have hk2 : k ≤ O.length := by omega
    have hO60 : O.length ≤ 60 := by have := HOL.out; have := HXL.out; omega
    have hY60 : Y.length ≤ 60 := by omega
    obtain ⟨Ay, cy, rfl, -, -, -⟩ := hy.shape
    clear hk hy hyx hyl hbl
    by_cases hlt : k < O.length
    · obtain ⟨bo, oo, rfl, hco⟩ := (HO.out.rd_.below HBL.out).int hlt
      have hz := HIN.out (O[k]?.getD 0) (by rw [List.getElem?_eq_getElem hlt]; exact List.getElem_mem hlt)
      generalize O[k]?.getD 0 = z at *
      obtain ⟨j, rfl⟩ : ∃ j : Nat, z = j := ⟨z.toNat, by omega⟩
      have hj : j < X.length := by omega
      obtain ⟨bx, ox, rfl, m0, m1, m2, m3, m4⟩ := inc_get (HX.out.rd_.below HBL.out) hj
      have HM := Lib.hid (show X[j] ∈ X from List.getElem_mem hj)
      generalize X[j] = x at *
      obtain ⟨x0, x1, x2, x3, x4⟩ := x
      simp only at m0 m1 m2 m3 m4
      have s1 : (k : Int) < O.length := by omega
      have s2 : (j : Int) < X.length := by omega
      clear hz
      go_wp2_with (at_builtin; refine wpList_append_one wr rfl (.tmp 27) (.tmp 35) 44 rfl wo.heap.size 53 i0 _ 5 40 Try.underlying44 hi0 hz0 hz1 hz2 rfl (by omega) _ Y.length (incsCs Y) [.int .i64 x0, .int .i64 x1, .int .i64 x2, .int .i64 x3, .int .i64 x4] rfl (by intro u hu; simp only [List.mem_cons, List.not_mem_nil, or_false] at hu; rcases hu with rfl | rfl | rfl | rfl | rfl <;> rfl) rfl HY.out rfl (by unfold maxLen; omega) (by omega) HBL.out.size ?_; intro v3 w3 hown2 hg2 hbl; have HYn := Lib.hid (incs_snoc (x := ⟨x0, x1, x2, x3, x4⟩) hown2); have HBn := Lib.hid (HBL.out.trans (Below.of_grown hg2 wo.heap.size HBL.out.size (fun g e => (HY.out.block_lt e).1))); clear hown2 hg2 hbl)
      go_roundg (O.length - (k + 1))
      case measure => have := HK.out; omega
      case rel => exact ⟨k + 1, Y ++ [⟨x0, x1, x2, x3, x4⟩], by have := HK.out; omega, by go_num, HYn.out, fun y hy => by
        rcases List.mem_append.1 hy with hy | hy
        · exact HYX.out y hy
        · rw [List.mem_singleton] at hy; subst hy; exact HM.out, by have := HYL.out; simp; omega, HBn.out⟩
    · have s1 : ¬ (k : Int) < O.length := by omega
      have hX60 := HXL.out
      have HX0 := HX
      have HA0 := HA
      have HX := Lib.hid (HX.out.below HBL.out)
      have HA := Lib.hid (HA.out.below HBL.out)
      have HBW := Lib.hid HB.out.size
      have HB := Lib.hid (HB.out.trans (HBL.out.mono HB.out.size))
      have HES := Lib.hid (show sealsF L8 1 (Y ++ X) = sealsF L8 1 X from seals_same L8 1 fun x => by
        rw [List.mem_append]
        exact ⟨fun h => h.elim (HYX.out x) id, .inr⟩)
      have HWY := Lib.hid (show WfI (Y ++ X) from fun x hx => by
        rcases List.mem_append.1 hx with hx | hx
        · exact HWX.out x (HYX.out x hx)
        · exact HWX.out x hx)
      have HWS := Lib.hid (wf_seals (lot := 1) HWA.out HWX.out)
      have HLY := Lib.hid (show (Y ++ X).length ≤ 200 by rw [List.length_append]; omega)
      have F1 : True := trivial
      clear HO HIN HOL HYL HK HYX hlt hk2
      go_wp2_with (first
        | (at_builtin; refine wpList_append_x wr rfl (.tmp 37) (.tmp 38) 44 rfl wo.heap.size 53 i0 _ 5 40 Try.underlying44 hi0 hz0 hz1 hz2 rfl (by omega) _ Y.length (incsCs Y) rfl HY.out Ax X.length cx (incsCs X) rfl (incsCs_len X) HX.out.rd_ (incsCs_one X) (by unfold maxLen; omega) (by omega) HBL.out.size ?_; intro v3 w3 hown2 hg2 hbl; have HYX := Lib.hid (incs_app hown2); have hb3 := Below.of_grown hg2 wo.heap.size HBL.out.size (fun g e => (HY.out.block_lt e).1); have HX := Lib.hid (HX0.out.below (HBL.out.trans hb3)); have HA := Lib.hid (HA0.out.below (HBL.out.trans hb3)); have HB := Lib.hid (HB.out.trans (hb3.mono HBW.out)); obtain ⟨A9, c9, rfl, -, -, -⟩ := HYX.out.shape; have HYX := Lib.hid (IncsAt.of_own HYX.out (by have := HLY.out; omega)); generalize Y ++ X = YX at *; clear hown2 hg2 hbl hb3)
        | (go_at_call 25; refine (HC.out _).mono ?_; rintro e wk ⟨rfl, hw⟩; subst hw)
        | (go_at_call 22; clear F1; refine (seals_any _ _ L8 1 X _ HA.out HX.out HWA.out HWX.out HA8.out (by omega)).mono ?_; rintro e wc1 ⟨u1, rfl, h1, hb⟩; have HX := Lib.hid (HX.out.below hb); have HA := Lib.hid (HA.out.below hb); have HYX := Lib.hid (HYX.out.below hb); have HB := Lib.hid (HB.out.trans (hb.mono HB.out.size)); obtain ⟨S1, s1_, rfl⟩ := h1.shape; have HS1 := Lib.hid h1; clear h1; clear hb)
        | (go_at_call 22; refine (seals_any _ _ L8 1 YX _ HA.out HYX.out HWA.out HWY.out HA8.out (by have := HLY.out; omega)).mono ?_; rintro e wc2 ⟨u1, rfl, h1, hb⟩; have HX := Lib.hid (HX.out.below hb); have HA := Lib.hid (HA.out.below hb); have HYX := Lib.hid (HYX.out.below hb); have HS1 := Lib.hid (HS1.out.below hb); have HB := Lib.hid (HB.out.trans (hb.mono HB.out.size)); rw [HES.out] at h1; obtain ⟨S2, s2_, rfl⟩ := h1.shape; have HS2 := Lib.hid h1; clear h1; clear hb)
        | (go_at_call 19; refine (compare_any _ _ _ _ _ HS1.out HS2.out HWS.out HWS.out).mono ?_; rintro e wc3 ⟨u1, u2, rfl, h1, h2, hb⟩; have HX := Lib.hid (HX.out.below hb); have HA := Lib.hid (HA.out.below hb); have HYX := Lib.hid (HYX.out.below hb); have HS1 := Lib.hid (HS1.out.below hb); have HS2 := Lib.hid (HS2.out.below hb); have HB := Lib.hid (HB.out.trans (hb.mono HB.out.size)); rw [without_self] at h1 h2; obtain ⟨C1, c1_, rfl⟩ := h1.shape; obtain ⟨C2, c2_, rfl⟩ := h2.shape; clear h1 h2; clear hb)
        | (go_at_call 21; refine (sameInts_any _ _ _ _ HS1.out HS2.out).mono ?_; rintro e wc4 ⟨rfl, hq⟩; have hb := hq.below wc3.heap.size; clear hq; have HX := Lib.hid (HX.out.below hb); have HA := Lib.hid (HA.out.below hb); have HYX := Lib.hid (HYX.out.below hb); have HS1 := Lib.hid (HS1.out.below hb); have HS2 := Lib.hid (HS2.out.below hb); have HB := Lib.hid (HB.out.trans (hb.mono HB.out.size)); clear hb)
        | (go_at_call 15; refine (awake_any _).mono ?_; rintro e wc5 ⟨rfl, hb⟩; have HX := Lib.hid (HX.out.below hb); have HA := Lib.hid (HA.out.below hb); have HYX := Lib.hid (HYX.out.below hb); have HS1 := Lib.hid (HS1.out.below hb); have HS2 := Lib.hid (HS2.out.below hb); have HB := Lib.hid (HB.out.trans (hb.mono HB.out.size)); clear hb))
      go_ret
      exact ⟨rfl, HB.out⟩
end Go.Proofs.Ytecmpkcjeaiknaa
