/- The contract of the reference's may: an entry whose fields are in range. -/
import Derived.Test.YtefphkefgfoklaaGs
import Derived.Test.YtefphkefgfoklaaGr
import Derived.Test.YtefphkefgfoklaaOrd
import Derived.Deep.CutBlock
import Derived.Deep.DeepCutAuto
namespace Go.Proofs.Ytefphkefgfoklaa
open Go.RowKit
set_option linter.unusedVariables false
def MayRel (l : List En) (n : Nat) (a : Int) (W : World) (m : Nat) (i : Value) (wr : World) : Prop := ∃ j : Nat, j + m = n ∧ i = .int .i64 (j : Int) ∧ revB (l.take j) a = false ∧ Below W.heap.size W wr
set_option maxRecDepth 100000 in
set_option maxHeartbeats 4000000 in
theorem refMay_late (A : Option Addr) (c : Nat) (l : List En) (x : En) (w : World) (h : SlE w A l) (hl : l.length ≤ 1000000) (hv : ledF l = 0) (h0 : l.length < 2000) (hr : rangeB x = true) (hn : x.num = (l.length : Int) + 1) :
    Calls Try.prog 40 #[.slice A l.length c, enV x] w (IsRet w.heap.size (mayF l x) w) := by
  have hML := may_late h0 hr hn
  have hfin := exc_cases l x
  have hef := fun h9 => effs_snoc hv h0 hr h9
  have hnx := fun h9 => balF_next hv hr h9
  generalize nextB l x = nb at hnx hfin
  generalize excF l x = ex at hfin hML
  generalize mayF l x = mm at hML ⊢
  generalize hnn : l.length = n at hn h0 hML hef hnx
  have HRB := fun h9 A c W B ho => refBalance_own (hef h9) (hnx h9) hnn A c W B ho
  obtain ⟨⟨d0, d1⟩, ⟨k0, k1⟩, ⟨l0, l1⟩, ⟨a0, a1⟩, c0, c1⟩ := range_iff.1 hr
  have HLN := Lib.hid hnn
  have HS := Lib.hid h
  have HFIN := Lib.hid hfin
  clear hr hef hnx hl hv h hfin
  clear hnn
  obtain ⟨xn, xd, xk, xl, xa, xc⟩ := x
  unfold enV
  unfold enCs baV at HRB
  simp only at *
  have HRB := Lib.hid HRB
  have HML := Lib.hid hML
  clear hML
  subst hn
  have q0 := (Below.refl w.heap.size w).alloc (Nat.le_refl _) (.cells #[.int .i64 ((n : Int) + 1), .int .i64 xd, .int .i64 xk, .int .i64 xl, .int .i64 xa, .int .i64 xc] 26)
  have g0 := heap_alloc_new w (.cells #[.int .i64 ((n : Int) + 1), .int .i64 xd, .int .i64 xk, .int .i64 xl, .int .i64 xa, .int .i64 xc] 26)
  have QW := Lib.hid q0
  have G0 := Lib.hid g0
  clear q0 g0
  go_enter Try.func40, Try.ntmps40
  go_upto_if 67 with (fail)
  have HS := Lib.hid (HS.out.below QW.out)
  have X0 : Hid (BoxAt (w.alloc (.cells #[.int .i64 ((n : Int) + 1), .int .i64 xd, .int .i64 xk, .int .i64 xl, .int .i64 xa, .int .i64 xc] 26)) w.heap.size w.heap.size ⟨(n : Int) + 1, xd, xk, xl, xa, xc⟩) := ⟨G0.out, Nat.le_refl _⟩
  generalize (w.alloc (.cells #[.int .i64 ((n : Int) + 1), .int .i64 xd, .int .i64 xk, .int .i64 xl, .int .i64 xa, .int .i64 xc] 26)) = W at *
  have hBx : w.heap.size ≤ w.heap.size := Nat.le_refl _
  generalize hpxx : w.heap.size = px at X0 hBx ⊢
  have HPX := Lib.hid hpxx
  clear hpxx
  obtain ⟨x0, x1, x2, x3, x4, x5⟩ := X0.out.cell
  have hpx := X0.out.lt
  simp only at x0 x1 x2 x3 x4 x5
  go_cut [6] (fun s6 wx => (xk = 9 → xa ≤ (n : Int)) ∧ mm = ex ∧ Below W.heap.size W wx)
  case first =>
    by_cases h9 : xk = 9
    · have HM := HML.out
      subst h9
      by_cases hx : (n : Int) < xa
      · have HE := Lib.hid (HM.1 rfl hx)
        clear HM
        go_wp2_with fail
        go_ret
        exact ⟨by rw [HE.out]; rfl, by rw [← HPX.out]; exact QW.out⟩
      · obtain ⟨k, hk⟩ : ∃ k : Nat, xa = (k : Int) + 1 := ⟨(xa - 1).toNat, by omega⟩
        have hkn : k < n := by omega
        have hold := nth_get (l := l) (k := k) (by rw [HLN.out]; exact hkn)
        rw [← hk] at hold
        obtain ⟨b, off, rfl, e0, e1, e2, e3, e4, e5⟩ := HS.out.rd.en hold
        have hbl := block_lt_of_cell e0
        obtain ⟨_, hm1, hm2, hm3, hm4, _⟩ := HM
        have HM1 := Lib.hid (hm1 rfl hx)
        have HM2 := Lib.hid (hm2 rfl hx)
        have HM3 := Lib.hid (hm3 rfl hx)
        have HM4 := Lib.hid (hm4 rfl hx)
        clear hold hm1 hm2 hm3 hm4
        generalize nth l xa = od at *
        have hxle : xa ≤ (n : Int) := by omega
        have HXL := Lib.hid hxle
        have a2 : 1 ≤ xa := a0
        subst hk
        clear hx hxle a0 a1 a2
        have s1 : (k : Int) < n := by omega
        have b1 : Below W.heap.size W (W.alloc (.cells (enCs od).toArray 26)) := (Below.refl _ _).alloc (Nat.le_refl _) _
        have g1 : BoxAt (W.alloc (.cells (enCs od).toArray 26)) W.heap.size W.heap.size od := ⟨heap_alloc_new W _, Nat.le_refl _⟩
        have hpo : px < W.heap.size := hpx
        unfold enCs at b1 g1
        have B1 := Lib.hid b1
        have G1 := Lib.hid g1
        clear b1 g1
        by_cases ho : od.kind = 9
        · have HE := Lib.hid (HM1.out ho)
          have hob : (od.kind == 9) = true := by simpa using ho
          clear ho HM1 HM2 HM3 HM4
          go_wp2_with fail
          go_ret
          exact ⟨by rw [HE.out]; rfl, by rw [← HPX.out]; exact QW.out.trans (B1.out.mono QW.out.size)⟩
        · have HM2 := Lib.hid (HM2.out ho)
          have HM3 := Lib.hid (HM3.out ho)
          have HM4 := Lib.hid (HM4.out ho)
          have hob : (od.kind == 9) = false := by simpa using ho
          clear ho HM1
          go_wp2_with fail
          generalize W.alloc (.cells [.int .i64 od.num, .int .i64 od.day, .int .i64 od.kind, .int .i64 od.lot, .int .i64 od.amt, .int .i64 od.cause].toArray 26) = W1 at B1 G1 ⊢
          generalize W.heap.size = po at G1 hpo ⊢
          have HS := Lib.hid (HS.out.below B1.out)
          have X0 := Lib.hid (X0.out.below B1.out)
          clear x0 x1 x2 x3 x4 x5 e0 e1 e2 e3 e4 e5
          obtain ⟨x0, x1, x2, x3, x4, x5⟩ := X0.out.cell
          obtain ⟨o0, o1, o2, o3, o4, o5⟩ := G1.out.cell
          have hpx1 := X0.out.lt
          have hpo1 := G1.out.lt
          simp only at x0 x1 x2 x3 x4 x5
          go_loopg [6] n (fun m i wr => MayRel l n ((k : Int) + 1) W1 m i wr)
          case atStart => exact ⟨0, by omega, rfl, rfl, Below.refl _ _⟩
          case round =>
            obtain ⟨j, hj, rfl, hrev, hb⟩ := hrel
            have HJ := Lib.hid hj
            have hj2 : j ≤ n := by omega
            have HREV := Lib.hid hrev
            have HB := Lib.hid hb
            obtain ⟨rc, rf⟩ := bcell hb
            have hsz := hb.size
            clear hj hrev hb
            by_cases hlt : j < n
            · have hlt2 : j < l.length := by rw [HLN.out]; exact hlt
              have hy : l[j]? = some (l[j]?.getD default) := by rw [List.getElem?_eq_getElem hlt2]; rfl
              have H1 := Lib.hid (revB_take (n := (k : Int) + 1) hlt2)
              have H2 := Lib.hid (revB_hit (n := (k : Int) + 1) hlt2)
              obtain ⟨b', off', hbb, e0, e1, e2, e3, e4, e5⟩ := HS.out.rd.en hy
              injection hbb with hbb
              injection hbb with f1 f2 _
              subst f1; subst f2
              have hbl1 := block_lt_of_cell e0
              generalize l[j]?.getD default = y at *
              clear hy hlt2
              have s2 : (j : Int) < n := by omega
              by_cases hyk : y.kind = 9
              · by_cases hya : y.amt = (k : Int) + 1
                · have HE := Lib.hid (HM2.out (H2.out hyk hya))
                  have y1 : (y.kind == 9) = true := by simpa using hyk
                  have y2 : (y.amt == (k : Int) + 1) = true := by simpa using hya
                  clear hyk hya H1 H2
                  go_wp2_with fail
                  go_quiet (fail)
                  go_wp2_with fail
                  go_ret
                  exact ⟨by rw [HE.out]; rfl, by rw [← HPX.out]; exact (QW.out.trans (B1.out.mono QW.out.size)).trans (drewN_below (HB.out.mono (Nat.le_trans QW.out.size B1.out.size)) _)⟩
                · have HE := Lib.hid (show revB (l.take (j + 1)) ((k : Int) + 1) = false by rw [H1.out, HREV.out]; simp [hya])
                  have y1 : (y.kind == 9) = true := by simpa using hyk
                  have y2 : (y.amt == (k : Int) + 1) = false := by simpa using hya
                  clear hyk hya H1 H2
                  go_wp2_with fail
                  go_quiet (fail)
                  go_wp2_with fail
                  go_roundg (n - (j + 1))
                  case measure => have := HJ.out; omega
                  case rel => exact ⟨j + 1, by have := HJ.out; omega, by go_num, HE.out, drewN_below HB.out _⟩
              · have HE := Lib.hid (show revB (l.take (j + 1)) ((k : Int) + 1) = false by rw [H1.out, HREV.out]; simp [hyk])
                have y1 : (y.kind == 9) = false := by simpa using hyk
                clear hyk H1 H2
                go_wp2_with fail
                go_quiet (fail)
                go_wp2_with fail
                go_roundg (n - (j + 1))
                case measure => have := HJ.out; omega
                case rel => exact ⟨j + 1, by have := HJ.out; omega, by go_num, HE.out, drewN_below HB.out _⟩
            · have ht : l.take j = l := List.take_of_length_le (by rw [HLN.out]; omega)
              have hr2 := HREV.out
              rw [ht] at hr2
              have HM3 := Lib.hid (HM3.out hr2)
              have HM4 := Lib.hid (HM4.out hr2)
              clear ht hr2
              by_cases hlot : od.lot = xl
              · have HE := Lib.hid (HM4.out hlot)
                have y1 : (od.lot == xl) = true := by simpa using hlot
                have HLOT := Lib.hid hlot
                clear hlot HM3 HM4
                go_wp2_with fail
                go_meet
                exact ⟨fun _ => HXL.out, HE.out, B1.out.trans (HB.out.mono B1.out.size)⟩
              · have HE := Lib.hid (HM3.out hlot)
                have y1 : (od.lot == xl) = false := by simpa using hlot
                clear hlot HM3 HM4
                go_wp2_with fail
                go_ret
                exact ⟨by rw [HE.out]; rfl, by rw [← HPX.out]; exact (QW.out.trans (B1.out.mono QW.out.size)).trans (HB.out.mono (Nat.le_trans QW.out.size B1.out.size))⟩
    · have HE := Lib.hid (HML.out.2.2.2.2.2 h9)
      have H9 := Lib.hid h9
      have hk1 : (xk == 9) = false := by simpa using h9
      clear h9
      go_wp2_with fail
      go_meet
      exact ⟨fun h => absurd h H9.out, HE.out, Below.refl _ _⟩
  case rest =>
    obtain ⟨hcond, hmm, hbw⟩ := hcut
    have HRB := Lib.hid (HRB.out hcond)
    have HS := Lib.hid (HS.out.below hbw)
    have X0 := Lib.hid (X0.out.below hbw)
    have QW := Lib.hid (QW.out.trans (hbw.mono (by rw [HPX.out]; exact Nat.le_of_lt hpx)))
    clear hcond hbw x0 x1 x2 x3 x4 x5 hpx HML
    obtain rfl : mm = ex := hmm
    obtain ⟨x0, x1, x2, x3, x4, x5⟩ := X0.out.cell
    have hpx := X0.out.lt
    simp only at x0 x1 x2 x3 x4 x5
    go_upto_region 20 with (fail)
    go_cut [7] (fun s7 wx => ∃ g7, s7 = .pointer (some ⟨g7, 0, none⟩) ∧ BlkAt wx g7 (.cells (baArr xl nb) 37) ∧ Below wc.heap.size wc wx)
    case first =>
      obtain ⟨i0, hi0, hz0, hz1, hz2⟩ := info_parts entInfo
      refine wp_region_x 10 (by kernel_rfl) (fun w' => Below wc.heap.size wc w') ?_
      have hq : Hid (Below wc.heap.size wc wc.drew) := (Below.refl _ _).drew
      have hsz : Hid (wc.heap.size ≤ wc.drew.heap.size) := Nat.le_refl _
      generalize hV : wc.drew = V0 at hq hsz ⊢
      clear hV
      refine wpAnyX_take (i := 1) (v := .slice A n c) rfl (by kernel_rfl) (by kernel_rfl) (by kernel_rfl) (by kernel_rfl) (fun _ _ _ h => h) hq.out (Or.inl ⟨by rfl, fun w hS => by obtain ⟨rc, rf⟩ := below_cell hS rfl; go_simp⟩) ?_
      go_simp
      refine wpAnyX_take (i := 3) (v := .agg #[.int .i64 ((n : Int) + 1), .int .i64 xd, .int .i64 xk, .int .i64 xl, .int .i64 xa, .int .i64 xc]) rfl (by kernel_rfl) (by kernel_rfl) (by kernel_rfl) (by kernel_rfl) (fun _ _ _ h => h) hq.out (Or.inl ⟨by rfl, fun w hS => by obtain ⟨rc, rf⟩ := below_cell hS rfl; go_simp⟩) ?_
      go_simp
      refine wpAnyX_take (i := 6) (v := .pointer (some ⟨px, 3, none⟩)) rfl (by kernel_rfl) (by kernel_rfl) (by kernel_rfl) (by kernel_rfl) (fun _ _ _ h => h) hq.out (Or.inl ⟨by rfl, fun w hS => by obtain ⟨rc, rf⟩ := below_cell hS rfl; go_simp⟩) ?_
      go_simp
      refine wpAnyX_take (i := 7) (v := .int .i64 xl) rfl (by kernel_rfl) (by kernel_rfl) (by kernel_rfl) (by kernel_rfl) (fun _ _ _ h => h) hq.out (Or.inl ⟨by rfl, fun w hS => by obtain ⟨rc, rf⟩ := below_cell hS rfl; go_simp⟩) ?_
      go_simp
      refine wpAnyX_ready (rs := [0, 4, 9]) (by kernel_rfl) (by simp) (AllX.cons rfl (fun K hK => ?_) (AllX.cons rfl (fun K hK => ?_) (AllX.cons rfl (fun K hK => ?_) AllX.nil)))
      · go_simp
        have hsz0 := hsz
        have hb : Below V0.heap.size V0 (V0.alloc (.cells #[] 26)) := (Below.refl _ _).alloc (Nat.le_refl _) _
        have hq := Lib.hid (hq.out.trans (hb.mono hsz.out))
        have hsz := Lib.hid (Nat.le_trans hsz.out hb.size)
        have hO := Lib.hid (OwnX.lit0 V0 _ 26 6 hsz0.out)
        have hOge : Hid (wc.heap.size ≤ V0.heap.size) := hsz0.out
        refine hK.out _ _ (fun _ => hq.out) ?_
        clear hK K hb hsz0
        generalize hV : (V0.alloc (.cells #[] 26)) = V1 at hO hOge hq hsz ⊢
        clear hV
        generalize hV : V0.heap.size = g0 at hO hOge hq hsz ⊢
        clear hV
        refine wpAnyX_ready (rs := [2, 4, 9]) (by kernel_rfl) (by simp) (AllX.cons rfl (fun K hK => ?_) (AllX.cons rfl (fun K hK => ?_) (AllX.cons rfl (fun K hK => ?_) AllX.nil)))
        · refine step_append_zero V1 (by rfl) (.tmp 109) (.tmp 110) 23 (by rfl) _ 26 i0 _ 6 48 Try.underlying23 hi0 hz0 hz1 hz2 rfl (by omega) g0 0 (by rfl) hO.out A n c (ensCs l) (by rfl) (by rw [ensCs_len, HLN.out]) (HS.out.rd.below hq.out) (ensCs_one l) (by unfold maxLen; omega) (by omega) hsz.out ?_
          intro v w1 hown hb
          clear hO
          have hq := Lib.hid (hq.out.trans (hb.mono hsz.out))
          have hsz := Lib.hid (Nat.le_trans hsz.out hb.size)
          obtain ⟨A1, c1, rfl, _⟩ := OwnX.shape hown
          have hP := Lib.hid hown
          clear hown
          refine hK.out _ _ (fun _ => hq.out) ?_
          clear hK K hb
          go_simp
          generalize w1 = V2 at *
          refine wpAnyX_ready (rs := [4, 9]) (by kernel_rfl) (by simp) (AllX.cons rfl (fun K hK => ?_) (AllX.cons rfl (fun K hK => ?_) AllX.nil))
          · go_simp
            have hsz0 := hsz
            have hb : Below V2.heap.size V2 (V2.alloc (.cells #[.int .i64 ((n : Int) + 1), .int .i64 xd, .int .i64 xk, .int .i64 xl, .int .i64 xa, .int .i64 xc] 26)) := (Below.refl _ _).alloc (Nat.le_refl _) _
            have hP := Lib.hid (hP.out.below hb)
            have hq := Lib.hid (hq.out.trans (hb.mono hsz.out))
            have hsz := Lib.hid (Nat.le_trans hsz.out hb.size)
            have hN := Lib.hid (Rd.new_ V2 [.int .i64 ((n : Int) + 1), .int .i64 xd, .int .i64 xk, .int .i64 xl, .int .i64 xa, .int .i64 xc] 26)
            have hNge : Hid (wc.heap.size ≤ V2.heap.size) := hsz0.out
            refine hK.out _ _ (fun _ => hq.out) ?_
            clear hK K hb hsz0
            generalize hV : (V2.alloc (.cells #[.int .i64 ((n : Int) + 1), .int .i64 xd, .int .i64 xk, .int .i64 xl, .int .i64 xa, .int .i64 xc] 26)) = V3 at hOge hP hN hNge hq hsz ⊢
            clear hV
            generalize hV : V2.heap.size = g1 at hOge hP hN hNge hq hsz ⊢
            clear hV
            refine wpAnyX_ready (rs := [5, 9]) (by kernel_rfl) (by simp) (AllX.cons rfl (fun K hK => ?_) (AllX.cons rfl (fun K hK => ?_) AllX.nil))
            · refine step_append_x V3 (by rfl) (.tmp 111) (.tmp 113) 23 (by rfl) _ 26 i0 _ 6 48 Try.underlying23 hi0 hz0 hz1 hz2 rfl (by omega) (.slice A1 n c1) n (ensCs l) (by rfl) hP.out (some ⟨g1, 0, none⟩) 1 1 [.int .i64 ((n : Int) + 1), .int .i64 xd, .int .i64 xk, .int .i64 xl, .int .i64 xa, .int .i64 xc] (by rfl) rfl hN.out (by intro u hu; simp at hu; rcases hu with rfl | rfl | rfl | rfl | rfl | rfl <;> rfl) (by unfold maxLen; omega) (by omega) hsz.out ?_
              intro v w1 hown hg
              have hq := Lib.hid (hq.out.grown hg hsz.out (fun j e => (hP.out.block_lt e).1))
              have hsz := Lib.hid (Nat.le_trans hsz.out hg.size)
              clear hP
              clear hN
              obtain ⟨A2, c2, rfl, _⟩ := OwnX.shape hown
              have hF := Lib.hid hown
              clear hown hg
              refine hK.out _ _ (fun _ => hq.out) ?_
              clear hK K
              go_simp
              generalize w1 = V4 at *
              refine wpAnyX_ready (rs := [8, 9]) (by kernel_rfl) (by simp) (AllX.cons rfl (fun K hK => ?_) (AllX.cons rfl (fun K hK => ?_) AllX.nil))
              · go_simp
                go_wp2_with (go_at_call 39; refine (HRB.out _ _ V4 _ hF.out).mono ?_; rintro e w1 ⟨rfl, hb⟩)
                clear hF
                have hq := Lib.hid (hq.out.trans (hb.mono hsz.out))
                have hsz := Lib.hid (Nat.le_trans hsz.out hb.size)
                refine hK.out _ _ (fun _ => hq.out) ?_
                clear hK K hb
                generalize w1 = V5 at *
                refine wpAnyX_one (i := 9) (by kernel_rfl) rfl (fun K hK => ?_)
                go_simp
                have hsz0 := hsz
                have hb : Below V5.heap.size V5 (V5.alloc (.cells #[.int .i64 0, .int .i64 0, .int .i64 0, .int .i64 0, .int .i64 0] 37)) := (Below.refl _ _).alloc (Nat.le_refl _) _
                have hq := Lib.hid (hq.out.trans (hb.mono hsz.out))
                have hsz := Lib.hid (Nat.le_trans hsz.out hb.size)
                have hZ := Lib.hid (BlkAt.new_ V5 (.cells #[.int .i64 0, .int .i64 0, .int .i64 0, .int .i64 0, .int .i64 0] 37))
                have hZge : Hid (wc.heap.size ≤ V5.heap.size) := hsz0.out
                refine hK.out _ _ (fun _ => hq.out) ?_
                clear hK K hb hsz0
                generalize hV : (V5.alloc (.cells #[.int .i64 0, .int .i64 0, .int .i64 0, .int .i64 0, .int .i64 0] 37)) = V6 at hOge hNge hZ hZge hq hsz ⊢
                clear hV
                generalize hV : V5.heap.size = g7 at hOge hNge hZ hZge hq hsz ⊢
                clear hV
                refine wpAnyX_one (i := 10) (by kernel_rfl) rfl (fun K hK => ?_)
                have hgl := hZ.out.lt
                obtain ⟨⟨d0, d1, d2, d3, d4⟩, z0, z1, z2, z3, z4⟩ := cells5 hZ.out
                go_simp
                refine hK.out _ _ (fun h => absurd rfl h) ?_
                clear hK K
                refine wpAnyX_done (by kernel_rfl) ?_
                go_wp2_with fail
                go_meet
                exact ⟨_, rfl, set5 hZ.out, below_set5 hq.out hZge.out⟩
              · go_simp
                have hsz0 := hsz
                have hb : Below V4.heap.size V4 (V4.alloc (.cells #[.int .i64 0, .int .i64 0, .int .i64 0, .int .i64 0, .int .i64 0] 37)) := (Below.refl _ _).alloc (Nat.le_refl _) _
                have hF := Lib.hid (hF.out.below hb)
                have hq := Lib.hid (hq.out.trans (hb.mono hsz.out))
                have hsz := Lib.hid (Nat.le_trans hsz.out hb.size)
                have hZ := Lib.hid (BlkAt.new_ V4 (.cells #[.int .i64 0, .int .i64 0, .int .i64 0, .int .i64 0, .int .i64 0] 37))
                have hZge : Hid (wc.heap.size ≤ V4.heap.size) := hsz0.out
                refine hK.out _ _ (fun _ => hq.out) ?_
                clear hK K hb hsz0
                generalize hV : (V4.alloc (.cells #[.int .i64 0, .int .i64 0, .int .i64 0, .int .i64 0, .int .i64 0] 37)) = V7 at hOge hNge hF hZ hZge hq hsz ⊢
                clear hV
                generalize hV : V4.heap.size = g7 at hOge hNge hF hZ hZge hq hsz ⊢
                clear hV
                refine wpAnyX_one (i := 8) (by kernel_rfl) rfl (fun K hK => ?_)
                go_simp
                go_wp2_with (go_at_call 39; refine (HRB.out _ _ V7 _ hF.out).mono ?_; rintro e w1 ⟨rfl, hb⟩)
                clear hF
                have hZ := Lib.hid (hZ.out.below hb)
                have hq := Lib.hid (hq.out.trans (hb.mono hsz.out))
                have hsz := Lib.hid (Nat.le_trans hsz.out hb.size)
                refine hK.out _ _ (fun _ => hq.out) ?_
                clear hK K hb
                generalize w1 = V8 at *
                refine wpAnyX_one (i := 10) (by kernel_rfl) rfl (fun K hK => ?_)
                have hgl := hZ.out.lt
                obtain ⟨⟨d0, d1, d2, d3, d4⟩, z0, z1, z2, z3, z4⟩ := cells5 hZ.out
                go_simp
                refine hK.out _ _ (fun h => absurd rfl h) ?_
                clear hK K
                refine wpAnyX_done (by kernel_rfl) ?_
                go_wp2_with fail
                go_meet
                exact ⟨_, rfl, set5 hZ.out, below_set5 hq.out hZge.out⟩
            · go_simp
              have hsz0 := hsz
              have hb : Below V3.heap.size V3 (V3.alloc (.cells #[.int .i64 0, .int .i64 0, .int .i64 0, .int .i64 0, .int .i64 0] 37)) := (Below.refl _ _).alloc (Nat.le_refl _) _
              have hP := Lib.hid (hP.out.below hb)
              have hN := Lib.hid (hN.out.below hb)
              have hq := Lib.hid (hq.out.trans (hb.mono hsz.out))
              have hsz := Lib.hid (Nat.le_trans hsz.out hb.size)
              have hZ := Lib.hid (BlkAt.new_ V3 (.cells #[.int .i64 0, .int .i64 0, .int .i64 0, .int .i64 0, .int .i64 0] 37))
              have hZge : Hid (wc.heap.size ≤ V3.heap.size) := hsz0.out
              refine hK.out _ _ (fun _ => hq.out) ?_
              clear hK K hb hsz0
              generalize hV : (V3.alloc (.cells #[.int .i64 0, .int .i64 0, .int .i64 0, .int .i64 0, .int .i64 0] 37)) = V9 at hOge hP hN hNge hZ hZge hq hsz ⊢
              clear hV
              generalize hV : V3.heap.size = g7 at hOge hP hN hNge hZ hZge hq hsz ⊢
              clear hV
              refine wpAnyX_one (i := 5) (by kernel_rfl) rfl (fun K hK => ?_)
              refine step_append_x V9 (by rfl) (.tmp 111) (.tmp 113) 23 (by rfl) _ 26 i0 _ 6 48 Try.underlying23 hi0 hz0 hz1 hz2 rfl (by omega) (.slice A1 n c1) n (ensCs l) (by rfl) hP.out (some ⟨g1, 0, none⟩) 1 1 [.int .i64 ((n : Int) + 1), .int .i64 xd, .int .i64 xk, .int .i64 xl, .int .i64 xa, .int .i64 xc] (by rfl) rfl hN.out (by intro u hu; simp at hu; rcases hu with rfl | rfl | rfl | rfl | rfl | rfl <;> rfl) (by unfold maxLen; omega) (by omega) hsz.out ?_
              intro v w1 hown hg
              have hZ := Lib.hid (hZ.out.kept hg (hP.out.ne_blk hZ.out (by decide)))
              have hq := Lib.hid (hq.out.grown hg hsz.out (fun j e => (hP.out.block_lt e).1))
              have hsz := Lib.hid (Nat.le_trans hsz.out hg.size)
              clear hP
              clear hN
              obtain ⟨A2, c2, rfl, _⟩ := OwnX.shape hown
              have hF := Lib.hid hown
              clear hown hg
              refine hK.out _ _ (fun _ => hq.out) ?_
              clear hK K
              go_simp
              generalize w1 = V10 at *
              refine wpAnyX_one (i := 8) (by kernel_rfl) rfl (fun K hK => ?_)
              go_simp
              go_wp2_with (go_at_call 39; refine (HRB.out _ _ V10 _ hF.out).mono ?_; rintro e w1 ⟨rfl, hb⟩)
              clear hF
              have hZ := Lib.hid (hZ.out.below hb)
              have hq := Lib.hid (hq.out.trans (hb.mono hsz.out))
              have hsz := Lib.hid (Nat.le_trans hsz.out hb.size)
              refine hK.out _ _ (fun _ => hq.out) ?_
              clear hK K hb
              generalize w1 = V11 at *
              refine wpAnyX_one (i := 10) (by kernel_rfl) rfl (fun K hK => ?_)
              have hgl := hZ.out.lt
              obtain ⟨⟨d0, d1, d2, d3, d4⟩, z0, z1, z2, z3, z4⟩ := cells5 hZ.out
              go_simp
              refine hK.out _ _ (fun h => absurd rfl h) ?_
              clear hK K
              refine wpAnyX_done (by kernel_rfl) ?_
              go_wp2_with fail
              go_meet
              exact ⟨_, rfl, set5 hZ.out, below_set5 hq.out hZge.out⟩
          · go_simp
            have hsz0 := hsz
            have hb : Below V2.heap.size V2 (V2.alloc (.cells #[.int .i64 0, .int .i64 0, .int .i64 0, .int .i64 0, .int .i64 0] 37)) := (Below.refl _ _).alloc (Nat.le_refl _) _
            have hP := Lib.hid (hP.out.below hb)
            have hq := Lib.hid (hq.out.trans (hb.mono hsz.out))
            have hsz := Lib.hid (Nat.le_trans hsz.out hb.size)
            have hZ := Lib.hid (BlkAt.new_ V2 (.cells #[.int .i64 0, .int .i64 0, .int .i64 0, .int .i64 0, .int .i64 0] 37))
            have hZge : Hid (wc.heap.size ≤ V2.heap.size) := hsz0.out
            refine hK.out _ _ (fun _ => hq.out) ?_
            clear hK K hb hsz0
            generalize hV : (V2.alloc (.cells #[.int .i64 0, .int .i64 0, .int .i64 0, .int .i64 0, .int .i64 0] 37)) = V12 at hOge hP hZ hZge hq hsz ⊢
            clear hV
            generalize hV : V2.heap.size = g7 at hOge hP hZ hZge hq hsz ⊢
            clear hV
            refine wpAnyX_one (i := 4) (by kernel_rfl) rfl (fun K hK => ?_)
            go_simp
            have hsz0 := hsz
            have hb : Below V12.heap.size V12 (V12.alloc (.cells #[.int .i64 ((n : Int) + 1), .int .i64 xd, .int .i64 xk, .int .i64 xl, .int .i64 xa, .int .i64 xc] 26)) := (Below.refl _ _).alloc (Nat.le_refl _) _
            have hP := Lib.hid (hP.out.below hb)
            have hZ := Lib.hid (hZ.out.below hb)
            have hq := Lib.hid (hq.out.trans (hb.mono hsz.out))
            have hsz := Lib.hid (Nat.le_trans hsz.out hb.size)
            have hN := Lib.hid (Rd.new_ V12 [.int .i64 ((n : Int) + 1), .int .i64 xd, .int .i64 xk, .int .i64 xl, .int .i64 xa, .int .i64 xc] 26)
            have hNge : Hid (wc.heap.size ≤ V12.heap.size) := hsz0.out
            refine hK.out _ _ (fun _ => hq.out) ?_
            clear hK K hb hsz0
            generalize hV : (V12.alloc (.cells #[.int .i64 ((n : Int) + 1), .int .i64 xd, .int .i64 xk, .int .i64 xl, .int .i64 xa, .int .i64 xc] 26)) = V13 at hOge hP hZ hZge hN hNge hq hsz ⊢
            clear hV
            generalize hV : V12.heap.size = g1 at hOge hP hZ hZge hN hNge hq hsz ⊢
            clear hV
            refine wpAnyX_one (i := 5) (by kernel_rfl) rfl (fun K hK => ?_)
            refine step_append_x V13 (by rfl) (.tmp 111) (.tmp 113) 23 (by rfl) _ 26 i0 _ 6 48 Try.underlying23 hi0 hz0 hz1 hz2 rfl (by omega) (.slice A1 n c1) n (ensCs l) (by rfl) hP.out (some ⟨g1, 0, none⟩) 1 1 [.int .i64 ((n : Int) + 1), .int .i64 xd, .int .i64 xk, .int .i64 xl, .int .i64 xa, .int .i64 xc] (by rfl) rfl hN.out (by intro u hu; simp at hu; rcases hu with rfl | rfl | rfl | rfl | rfl | rfl <;> rfl) (by unfold maxLen; omega) (by omega) hsz.out ?_
            intro v w1 hown hg
            have hZ := Lib.hid (hZ.out.kept hg (hP.out.ne_blk hZ.out (by decide)))
            have hq := Lib.hid (hq.out.grown hg hsz.out (fun j e => (hP.out.block_lt e).1))
            have hsz := Lib.hid (Nat.le_trans hsz.out hg.size)
            clear hP
            clear hN
            obtain ⟨A2, c2, rfl, _⟩ := OwnX.shape hown
            have hF := Lib.hid hown
            clear hown hg
            refine hK.out _ _ (fun _ => hq.out) ?_
            clear hK K
            go_simp
            generalize w1 = V14 at *
            refine wpAnyX_one (i := 8) (by kernel_rfl) rfl (fun K hK => ?_)
            go_simp
            go_wp2_with (go_at_call 39; refine (HRB.out _ _ V14 _ hF.out).mono ?_; rintro e w1 ⟨rfl, hb⟩)
            clear hF
            have hZ := Lib.hid (hZ.out.below hb)
            have hq := Lib.hid (hq.out.trans (hb.mono hsz.out))
            have hsz := Lib.hid (Nat.le_trans hsz.out hb.size)
            refine hK.out _ _ (fun _ => hq.out) ?_
            clear hK K hb
            generalize w1 = V15 at *
            refine wpAnyX_one (i := 10) (by kernel_rfl) rfl (fun K hK => ?_)
            have hgl := hZ.out.lt
            obtain ⟨⟨d0, d1, d2, d3, d4⟩, z0, z1, z2, z3, z4⟩ := cells5 hZ.out
            go_simp
            refine hK.out _ _ (fun h => absurd rfl h) ?_
            clear hK K
            refine wpAnyX_done (by kernel_rfl) ?_
            go_wp2_with fail
            go_meet
            exact ⟨_, rfl, set5 hZ.out, below_set5 hq.out hZge.out⟩
        · go_simp
          have hsz0 := hsz
          have hb : Below V1.heap.size V1 (V1.alloc (.cells #[.int .i64 ((n : Int) + 1), .int .i64 xd, .int .i64 xk, .int .i64 xl, .int .i64 xa, .int .i64 xc] 26)) := (Below.refl _ _).alloc (Nat.le_refl _) _
          have hO := Lib.hid (hO.out.below hb)
          have hq := Lib.hid (hq.out.trans (hb.mono hsz.out))
          have hsz := Lib.hid (Nat.le_trans hsz.out hb.size)
          have hN := Lib.hid (Rd.new_ V1 [.int .i64 ((n : Int) + 1), .int .i64 xd, .int .i64 xk, .int .i64 xl, .int .i64 xa, .int .i64 xc] 26)
          have hNge : Hid (wc.heap.size ≤ V1.heap.size) := hsz0.out
          refine hK.out _ _ (fun _ => hq.out) ?_
          clear hK K hb hsz0
          generalize hV : (V1.alloc (.cells #[.int .i64 ((n : Int) + 1), .int .i64 xd, .int .i64 xk, .int .i64 xl, .int .i64 xa, .int .i64 xc] 26)) = V16 at hO hOge hN hNge hq hsz ⊢
          clear hV
          generalize hV : V1.heap.size = g1 at hO hOge hN hNge hq hsz ⊢
          clear hV
          refine wpAnyX_ready (rs := [2, 9]) (by kernel_rfl) (by simp) (AllX.cons rfl (fun K hK => ?_) (AllX.cons rfl (fun K hK => ?_) AllX.nil))
          · refine step_append_zero V16 (by rfl) (.tmp 109) (.tmp 110) 23 (by rfl) _ 26 i0 _ 6 48 Try.underlying23 hi0 hz0 hz1 hz2 rfl (by omega) g0 0 (by rfl) hO.out A n c (ensCs l) (by rfl) (by rw [ensCs_len, HLN.out]) (HS.out.rd.below hq.out) (ensCs_one l) (by unfold maxLen; omega) (by omega) hsz.out ?_
            intro v w1 hown hb
            clear hO
            have hN := Lib.hid (hN.out.below hb)
            have hq := Lib.hid (hq.out.trans (hb.mono hsz.out))
            have hsz := Lib.hid (Nat.le_trans hsz.out hb.size)
            obtain ⟨A1, c1, rfl, _⟩ := OwnX.shape hown
            have hP := Lib.hid hown
            clear hown
            refine hK.out _ _ (fun _ => hq.out) ?_
            clear hK K hb
            go_simp
            generalize w1 = V17 at *
            refine wpAnyX_ready (rs := [5, 9]) (by kernel_rfl) (by simp) (AllX.cons rfl (fun K hK => ?_) (AllX.cons rfl (fun K hK => ?_) AllX.nil))
            · refine step_append_x V17 (by rfl) (.tmp 111) (.tmp 113) 23 (by rfl) _ 26 i0 _ 6 48 Try.underlying23 hi0 hz0 hz1 hz2 rfl (by omega) (.slice A1 n c1) n (ensCs l) (by rfl) hP.out (some ⟨g1, 0, none⟩) 1 1 [.int .i64 ((n : Int) + 1), .int .i64 xd, .int .i64 xk, .int .i64 xl, .int .i64 xa, .int .i64 xc] (by rfl) rfl hN.out (by intro u hu; simp at hu; rcases hu with rfl | rfl | rfl | rfl | rfl | rfl <;> rfl) (by unfold maxLen; omega) (by omega) hsz.out ?_
              intro v w1 hown hg
              have hq := Lib.hid (hq.out.grown hg hsz.out (fun j e => (hP.out.block_lt e).1))
              have hsz := Lib.hid (Nat.le_trans hsz.out hg.size)
              clear hN
              clear hP
              obtain ⟨A2, c2, rfl, _⟩ := OwnX.shape hown
              have hF := Lib.hid hown
              clear hown hg
              refine hK.out _ _ (fun _ => hq.out) ?_
              clear hK K
              go_simp
              generalize w1 = V18 at *
              refine wpAnyX_ready (rs := [8, 9]) (by kernel_rfl) (by simp) (AllX.cons rfl (fun K hK => ?_) (AllX.cons rfl (fun K hK => ?_) AllX.nil))
              · go_simp
                go_wp2_with (go_at_call 39; refine (HRB.out _ _ V18 _ hF.out).mono ?_; rintro e w1 ⟨rfl, hb⟩)
                clear hF
                have hq := Lib.hid (hq.out.trans (hb.mono hsz.out))
                have hsz := Lib.hid (Nat.le_trans hsz.out hb.size)
                refine hK.out _ _ (fun _ => hq.out) ?_
                clear hK K hb
                generalize w1 = V19 at *
                refine wpAnyX_one (i := 9) (by kernel_rfl) rfl (fun K hK => ?_)
                go_simp
                have hsz0 := hsz
                have hb : Below V19.heap.size V19 (V19.alloc (.cells #[.int .i64 0, .int .i64 0, .int .i64 0, .int .i64 0, .int .i64 0] 37)) := (Below.refl _ _).alloc (Nat.le_refl _) _
                have hq := Lib.hid (hq.out.trans (hb.mono hsz.out))
                have hsz := Lib.hid (Nat.le_trans hsz.out hb.size)
                have hZ := Lib.hid (BlkAt.new_ V19 (.cells #[.int .i64 0, .int .i64 0, .int .i64 0, .int .i64 0, .int .i64 0] 37))
                have hZge : Hid (wc.heap.size ≤ V19.heap.size) := hsz0.out
                refine hK.out _ _ (fun _ => hq.out) ?_
                clear hK K hb hsz0
                generalize hV : (V19.alloc (.cells #[.int .i64 0, .int .i64 0, .int .i64 0, .int .i64 0, .int .i64 0] 37)) = V20 at hOge hNge hZ hZge hq hsz ⊢
                clear hV
                generalize hV : V19.heap.size = g7 at hOge hNge hZ hZge hq hsz ⊢
                clear hV
                refine wpAnyX_one (i := 10) (by kernel_rfl) rfl (fun K hK => ?_)
                have hgl := hZ.out.lt
                obtain ⟨⟨d0, d1, d2, d3, d4⟩, z0, z1, z2, z3, z4⟩ := cells5 hZ.out
                go_simp
                refine hK.out _ _ (fun h => absurd rfl h) ?_
                clear hK K
                refine wpAnyX_done (by kernel_rfl) ?_
                go_wp2_with fail
                go_meet
                exact ⟨_, rfl, set5 hZ.out, below_set5 hq.out hZge.out⟩
              · go_simp
                have hsz0 := hsz
                have hb : Below V18.heap.size V18 (V18.alloc (.cells #[.int .i64 0, .int .i64 0, .int .i64 0, .int .i64 0, .int .i64 0] 37)) := (Below.refl _ _).alloc (Nat.le_refl _) _
                have hF := Lib.hid (hF.out.below hb)
                have hq := Lib.hid (hq.out.trans (hb.mono hsz.out))
                have hsz := Lib.hid (Nat.le_trans hsz.out hb.size)
                have hZ := Lib.hid (BlkAt.new_ V18 (.cells #[.int .i64 0, .int .i64 0, .int .i64 0, .int .i64 0, .int .i64 0] 37))
                have hZge : Hid (wc.heap.size ≤ V18.heap.size) := hsz0.out
                refine hK.out _ _ (fun _ => hq.out) ?_
                clear hK K hb hsz0
                generalize hV : (V18.alloc (.cells #[.int .i64 0, .int .i64 0, .int .i64 0, .int .i64 0, .int .i64 0] 37)) = V21 at hOge hNge hF hZ hZge hq hsz ⊢
                clear hV
                generalize hV : V18.heap.size = g7 at hOge hNge hF hZ hZge hq hsz ⊢
                clear hV
                refine wpAnyX_one (i := 8) (by kernel_rfl) rfl (fun K hK => ?_)
                go_simp
                go_wp2_with (go_at_call 39; refine (HRB.out _ _ V21 _ hF.out).mono ?_; rintro e w1 ⟨rfl, hb⟩)
                clear hF
                have hZ := Lib.hid (hZ.out.below hb)
                have hq := Lib.hid (hq.out.trans (hb.mono hsz.out))
                have hsz := Lib.hid (Nat.le_trans hsz.out hb.size)
                refine hK.out _ _ (fun _ => hq.out) ?_
                clear hK K hb
                generalize w1 = V22 at *
                refine wpAnyX_one (i := 10) (by kernel_rfl) rfl (fun K hK => ?_)
                have hgl := hZ.out.lt
                obtain ⟨⟨d0, d1, d2, d3, d4⟩, z0, z1, z2, z3, z4⟩ := cells5 hZ.out
                go_simp
                refine hK.out _ _ (fun h => absurd rfl h) ?_
                clear hK K
                refine wpAnyX_done (by kernel_rfl) ?_
                go_wp2_with fail
                go_meet
                exact ⟨_, rfl, set5 hZ.out, below_set5 hq.out hZge.out⟩
            · go_simp
              have hsz0 := hsz
              have hb : Below V17.heap.size V17 (V17.alloc (.cells #[.int .i64 0, .int .i64 0, .int .i64 0, .int .i64 0, .int .i64 0] 37)) := (Below.refl _ _).alloc (Nat.le_refl _) _
              have hN := Lib.hid (hN.out.below hb)
              have hP := Lib.hid (hP.out.below hb)
              have hq := Lib.hid (hq.out.trans (hb.mono hsz.out))
              have hsz := Lib.hid (Nat.le_trans hsz.out hb.size)
              have hZ := Lib.hid (BlkAt.new_ V17 (.cells #[.int .i64 0, .int .i64 0, .int .i64 0, .int .i64 0, .int .i64 0] 37))
              have hZge : Hid (wc.heap.size ≤ V17.heap.size) := hsz0.out
              refine hK.out _ _ (fun _ => hq.out) ?_
              clear hK K hb hsz0
              generalize hV : (V17.alloc (.cells #[.int .i64 0, .int .i64 0, .int .i64 0, .int .i64 0, .int .i64 0] 37)) = V23 at hOge hN hNge hP hZ hZge hq hsz ⊢
              clear hV
              generalize hV : V17.heap.size = g7 at hOge hN hNge hP hZ hZge hq hsz ⊢
              clear hV
              refine wpAnyX_one (i := 5) (by kernel_rfl) rfl (fun K hK => ?_)
              refine step_append_x V23 (by rfl) (.tmp 111) (.tmp 113) 23 (by rfl) _ 26 i0 _ 6 48 Try.underlying23 hi0 hz0 hz1 hz2 rfl (by omega) (.slice A1 n c1) n (ensCs l) (by rfl) hP.out (some ⟨g1, 0, none⟩) 1 1 [.int .i64 ((n : Int) + 1), .int .i64 xd, .int .i64 xk, .int .i64 xl, .int .i64 xa, .int .i64 xc] (by rfl) rfl hN.out (by intro u hu; simp at hu; rcases hu with rfl | rfl | rfl | rfl | rfl | rfl <;> rfl) (by unfold maxLen; omega) (by omega) hsz.out ?_
              intro v w1 hown hg
              have hZ := Lib.hid (hZ.out.kept hg (hP.out.ne_blk hZ.out (by decide)))
              have hq := Lib.hid (hq.out.grown hg hsz.out (fun j e => (hP.out.block_lt e).1))
              have hsz := Lib.hid (Nat.le_trans hsz.out hg.size)
              clear hN
              clear hP
              obtain ⟨A2, c2, rfl, _⟩ := OwnX.shape hown
              have hF := Lib.hid hown
              clear hown hg
              refine hK.out _ _ (fun _ => hq.out) ?_
              clear hK K
              go_simp
              generalize w1 = V24 at *
              refine wpAnyX_one (i := 8) (by kernel_rfl) rfl (fun K hK => ?_)
              go_simp
              go_wp2_with (go_at_call 39; refine (HRB.out _ _ V24 _ hF.out).mono ?_; rintro e w1 ⟨rfl, hb⟩)
              clear hF
              have hZ := Lib.hid (hZ.out.below hb)
              have hq := Lib.hid (hq.out.trans (hb.mono hsz.out))
              have hsz := Lib.hid (Nat.le_trans hsz.out hb.size)
              refine hK.out _ _ (fun _ => hq.out) ?_
              clear hK K hb
              generalize w1 = V25 at *
              refine wpAnyX_one (i := 10) (by kernel_rfl) rfl (fun K hK => ?_)
              have hgl := hZ.out.lt
              obtain ⟨⟨d0, d1, d2, d3, d4⟩, z0, z1, z2, z3, z4⟩ := cells5 hZ.out
              go_simp
              refine hK.out _ _ (fun h => absurd rfl h) ?_
              clear hK K
              refine wpAnyX_done (by kernel_rfl) ?_
              go_wp2_with fail
              go_meet
              exact ⟨_, rfl, set5 hZ.out, below_set5 hq.out hZge.out⟩
          · go_simp
            have hsz0 := hsz
            have hb : Below V16.heap.size V16 (V16.alloc (.cells #[.int .i64 0, .int .i64 0, .int .i64 0, .int .i64 0, .int .i64 0] 37)) := (Below.refl _ _).alloc (Nat.le_refl _) _
            have hO := Lib.hid (hO.out.below hb)
            have hN := Lib.hid (hN.out.below hb)
            have hq := Lib.hid (hq.out.trans (hb.mono hsz.out))
            have hsz := Lib.hid (Nat.le_trans hsz.out hb.size)
            have hZ := Lib.hid (BlkAt.new_ V16 (.cells #[.int .i64 0, .int .i64 0, .int .i64 0, .int .i64 0, .int .i64 0] 37))
            have hZge : Hid (wc.heap.size ≤ V16.heap.size) := hsz0.out
            refine hK.out _ _ (fun _ => hq.out) ?_
            clear hK K hb hsz0
            generalize hV : (V16.alloc (.cells #[.int .i64 0, .int .i64 0, .int .i64 0, .int .i64 0, .int .i64 0] 37)) = V26 at hO hOge hN hNge hZ hZge hq hsz ⊢
            clear hV
            generalize hV : V16.heap.size = g7 at hO hOge hN hNge hZ hZge hq hsz ⊢
            clear hV
            refine wpAnyX_one (i := 2) (by kernel_rfl) rfl (fun K hK => ?_)
            refine step_append_zero V26 (by rfl) (.tmp 109) (.tmp 110) 23 (by rfl) _ 26 i0 _ 6 48 Try.underlying23 hi0 hz0 hz1 hz2 rfl (by omega) g0 0 (by rfl) hO.out A n c (ensCs l) (by rfl) (by rw [ensCs_len, HLN.out]) (HS.out.rd.below hq.out) (ensCs_one l) (by unfold maxLen; omega) (by omega) hsz.out ?_
            intro v w1 hown hb
            clear hO
            have hN := Lib.hid (hN.out.below hb)
            have hZ := Lib.hid (hZ.out.below hb)
            have hq := Lib.hid (hq.out.trans (hb.mono hsz.out))
            have hsz := Lib.hid (Nat.le_trans hsz.out hb.size)
            obtain ⟨A1, c1, rfl, _⟩ := OwnX.shape hown
            have hP := Lib.hid hown
            clear hown
            refine hK.out _ _ (fun _ => hq.out) ?_
            clear hK K hb
            go_simp
            generalize w1 = V27 at *
            refine wpAnyX_one (i := 5) (by kernel_rfl) rfl (fun K hK => ?_)
            refine step_append_x V27 (by rfl) (.tmp 111) (.tmp 113) 23 (by rfl) _ 26 i0 _ 6 48 Try.underlying23 hi0 hz0 hz1 hz2 rfl (by omega) (.slice A1 n c1) n (ensCs l) (by rfl) hP.out (some ⟨g1, 0, none⟩) 1 1 [.int .i64 ((n : Int) + 1), .int .i64 xd, .int .i64 xk, .int .i64 xl, .int .i64 xa, .int .i64 xc] (by rfl) rfl hN.out (by intro u hu; simp at hu; rcases hu with rfl | rfl | rfl | rfl | rfl | rfl <;> rfl) (by unfold maxLen; omega) (by omega) hsz.out ?_
            intro v w1 hown hg
            have hZ := Lib.hid (hZ.out.kept hg (hP.out.ne_blk hZ.out (by decide)))
            have hq := Lib.hid (hq.out.grown hg hsz.out (fun j e => (hP.out.block_lt e).1))
            have hsz := Lib.hid (Nat.le_trans hsz.out hg.size)
            clear hN
            clear hP
            obtain ⟨A2, c2, rfl, _⟩ := OwnX.shape hown
            have hF := Lib.hid hown
            clear hown hg
            refine hK.out _ _ (fun _ => hq.out) ?_
            clear hK K
            go_simp
            generalize w1 = V28 at *
            refine wpAnyX_one (i := 8) (by kernel_rfl) rfl (fun K hK => ?_)
            go_simp
            go_wp2_with (go_at_call 39; refine (HRB.out _ _ V28 _ hF.out).mono ?_; rintro e w1 ⟨rfl, hb⟩)
            clear hF
            have hZ := Lib.hid (hZ.out.below hb)
            have hq := Lib.hid (hq.out.trans (hb.mono hsz.out))
            have hsz := Lib.hid (Nat.le_trans hsz.out hb.size)
            refine hK.out _ _ (fun _ => hq.out) ?_
            clear hK K hb
            generalize w1 = V29 at *
            refine wpAnyX_one (i := 10) (by kernel_rfl) rfl (fun K hK => ?_)
            have hgl := hZ.out.lt
            obtain ⟨⟨d0, d1, d2, d3, d4⟩, z0, z1, z2, z3, z4⟩ := cells5 hZ.out
            go_simp
            refine hK.out _ _ (fun h => absurd rfl h) ?_
            clear hK K
            refine wpAnyX_done (by kernel_rfl) ?_
            go_wp2_with fail
            go_meet
            exact ⟨_, rfl, set5 hZ.out, below_set5 hq.out hZge.out⟩
        · go_simp
          have hsz0 := hsz
          have hb : Below V1.heap.size V1 (V1.alloc (.cells #[.int .i64 0, .int .i64 0, .int .i64 0, .int .i64 0, .int .i64 0] 37)) := (Below.refl _ _).alloc (Nat.le_refl _) _
          have hO := Lib.hid (hO.out.below hb)
          have hq := Lib.hid (hq.out.trans (hb.mono hsz.out))
          have hsz := Lib.hid (Nat.le_trans hsz.out hb.size)
          have hZ := Lib.hid (BlkAt.new_ V1 (.cells #[.int .i64 0, .int .i64 0, .int .i64 0, .int .i64 0, .int .i64 0] 37))
          have hZge : Hid (wc.heap.size ≤ V1.heap.size) := hsz0.out
          refine hK.out _ _ (fun _ => hq.out) ?_
          clear hK K hb hsz0
          generalize hV : (V1.alloc (.cells #[.int .i64 0, .int .i64 0, .int .i64 0, .int .i64 0, .int .i64 0] 37)) = V30 at hO hOge hZ hZge hq hsz ⊢
          clear hV
          generalize hV : V1.heap.size = g7 at hO hOge hZ hZge hq hsz ⊢
          clear hV
          refine wpAnyX_ready (rs := [2, 4]) (by kernel_rfl) (by simp) (AllX.cons rfl (fun K hK => ?_) (AllX.cons rfl (fun K hK => ?_) AllX.nil))
          · refine step_append_zero V30 (by rfl) (.tmp 109) (.tmp 110) 23 (by rfl) _ 26 i0 _ 6 48 Try.underlying23 hi0 hz0 hz1 hz2 rfl (by omega) g0 0 (by rfl) hO.out A n c (ensCs l) (by rfl) (by rw [ensCs_len, HLN.out]) (HS.out.rd.below hq.out) (ensCs_one l) (by unfold maxLen; omega) (by omega) hsz.out ?_
            intro v w1 hown hb
            clear hO
            have hZ := Lib.hid (hZ.out.below hb)
            have hq := Lib.hid (hq.out.trans (hb.mono hsz.out))
            have hsz := Lib.hid (Nat.le_trans hsz.out hb.size)
            obtain ⟨A1, c1, rfl, _⟩ := OwnX.shape hown
            have hP := Lib.hid hown
            clear hown
            refine hK.out _ _ (fun _ => hq.out) ?_
            clear hK K hb
            go_simp
            generalize w1 = V31 at *
            refine wpAnyX_one (i := 4) (by kernel_rfl) rfl (fun K hK => ?_)
            go_simp
            have hsz0 := hsz
            have hb : Below V31.heap.size V31 (V31.alloc (.cells #[.int .i64 ((n : Int) + 1), .int .i64 xd, .int .i64 xk, .int .i64 xl, .int .i64 xa, .int .i64 xc] 26)) := (Below.refl _ _).alloc (Nat.le_refl _) _
            have hZ := Lib.hid (hZ.out.below hb)
            have hP := Lib.hid (hP.out.below hb)
            have hq := Lib.hid (hq.out.trans (hb.mono hsz.out))
            have hsz := Lib.hid (Nat.le_trans hsz.out hb.size)
            have hN := Lib.hid (Rd.new_ V31 [.int .i64 ((n : Int) + 1), .int .i64 xd, .int .i64 xk, .int .i64 xl, .int .i64 xa, .int .i64 xc] 26)
            have hNge : Hid (wc.heap.size ≤ V31.heap.size) := hsz0.out
            refine hK.out _ _ (fun _ => hq.out) ?_
            clear hK K hb hsz0
            generalize hV : (V31.alloc (.cells #[.int .i64 ((n : Int) + 1), .int .i64 xd, .int .i64 xk, .int .i64 xl, .int .i64 xa, .int .i64 xc] 26)) = V32 at hOge hZ hZge hP hN hNge hq hsz ⊢
            clear hV
            generalize hV : V31.heap.size = g1 at hOge hZ hZge hP hN hNge hq hsz ⊢
            clear hV
            refine wpAnyX_one (i := 5) (by kernel_rfl) rfl (fun K hK => ?_)
            refine step_append_x V32 (by rfl) (.tmp 111) (.tmp 113) 23 (by rfl) _ 26 i0 _ 6 48 Try.underlying23 hi0 hz0 hz1 hz2 rfl (by omega) (.slice A1 n c1) n (ensCs l) (by rfl) hP.out (some ⟨g1, 0, none⟩) 1 1 [.int .i64 ((n : Int) + 1), .int .i64 xd, .int .i64 xk, .int .i64 xl, .int .i64 xa, .int .i64 xc] (by rfl) rfl hN.out (by intro u hu; simp at hu; rcases hu with rfl | rfl | rfl | rfl | rfl | rfl <;> rfl) (by unfold maxLen; omega) (by omega) hsz.out ?_
            intro v w1 hown hg
            have hZ := Lib.hid (hZ.out.kept hg (hP.out.ne_blk hZ.out (by decide)))
            have hq := Lib.hid (hq.out.grown hg hsz.out (fun j e => (hP.out.block_lt e).1))
            have hsz := Lib.hid (Nat.le_trans hsz.out hg.size)
            clear hP
            clear hN
            obtain ⟨A2, c2, rfl, _⟩ := OwnX.shape hown
            have hF := Lib.hid hown
            clear hown hg
            refine hK.out _ _ (fun _ => hq.out) ?_
            clear hK K
            go_simp
            generalize w1 = V33 at *
            refine wpAnyX_one (i := 8) (by kernel_rfl) rfl (fun K hK => ?_)
            go_simp
            go_wp2_with (go_at_call 39; refine (HRB.out _ _ V33 _ hF.out).mono ?_; rintro e w1 ⟨rfl, hb⟩)
            clear hF
            have hZ := Lib.hid (hZ.out.below hb)
            have hq := Lib.hid (hq.out.trans (hb.mono hsz.out))
            have hsz := Lib.hid (Nat.le_trans hsz.out hb.size)
            refine hK.out _ _ (fun _ => hq.out) ?_
            clear hK K hb
            generalize w1 = V34 at *
            refine wpAnyX_one (i := 10) (by kernel_rfl) rfl (fun K hK => ?_)
            have hgl := hZ.out.lt
            obtain ⟨⟨d0, d1, d2, d3, d4⟩, z0, z1, z2, z3, z4⟩ := cells5 hZ.out
            go_simp
            refine hK.out _ _ (fun h => absurd rfl h) ?_
            clear hK K
            refine wpAnyX_done (by kernel_rfl) ?_
            go_wp2_with fail
            go_meet
            exact ⟨_, rfl, set5 hZ.out, below_set5 hq.out hZge.out⟩
          · go_simp
            have hsz0 := hsz
            have hb : Below V30.heap.size V30 (V30.alloc (.cells #[.int .i64 ((n : Int) + 1), .int .i64 xd, .int .i64 xk, .int .i64 xl, .int .i64 xa, .int .i64 xc] 26)) := (Below.refl _ _).alloc (Nat.le_refl _) _
            have hO := Lib.hid (hO.out.below hb)
            have hZ := Lib.hid (hZ.out.below hb)
            have hq := Lib.hid (hq.out.trans (hb.mono hsz.out))
            have hsz := Lib.hid (Nat.le_trans hsz.out hb.size)
            have hN := Lib.hid (Rd.new_ V30 [.int .i64 ((n : Int) + 1), .int .i64 xd, .int .i64 xk, .int .i64 xl, .int .i64 xa, .int .i64 xc] 26)
            have hNge : Hid (wc.heap.size ≤ V30.heap.size) := hsz0.out
            refine hK.out _ _ (fun _ => hq.out) ?_
            clear hK K hb hsz0
            generalize hV : (V30.alloc (.cells #[.int .i64 ((n : Int) + 1), .int .i64 xd, .int .i64 xk, .int .i64 xl, .int .i64 xa, .int .i64 xc] 26)) = V35 at hO hOge hZ hZge hN hNge hq hsz ⊢
            clear hV
            generalize hV : V30.heap.size = g1 at hO hOge hZ hZge hN hNge hq hsz ⊢
            clear hV
            refine wpAnyX_one (i := 2) (by kernel_rfl) rfl (fun K hK => ?_)
            refine step_append_zero V35 (by rfl) (.tmp 109) (.tmp 110) 23 (by rfl) _ 26 i0 _ 6 48 Try.underlying23 hi0 hz0 hz1 hz2 rfl (by omega) g0 0 (by rfl) hO.out A n c (ensCs l) (by rfl) (by rw [ensCs_len, HLN.out]) (HS.out.rd.below hq.out) (ensCs_one l) (by unfold maxLen; omega) (by omega) hsz.out ?_
            intro v w1 hown hb
            clear hO
            have hZ := Lib.hid (hZ.out.below hb)
            have hN := Lib.hid (hN.out.below hb)
            have hq := Lib.hid (hq.out.trans (hb.mono hsz.out))
            have hsz := Lib.hid (Nat.le_trans hsz.out hb.size)
            obtain ⟨A1, c1, rfl, _⟩ := OwnX.shape hown
            have hP := Lib.hid hown
            clear hown
            refine hK.out _ _ (fun _ => hq.out) ?_
            clear hK K hb
            go_simp
            generalize w1 = V36 at *
            refine wpAnyX_one (i := 5) (by kernel_rfl) rfl (fun K hK => ?_)
            refine step_append_x V36 (by rfl) (.tmp 111) (.tmp 113) 23 (by rfl) _ 26 i0 _ 6 48 Try.underlying23 hi0 hz0 hz1 hz2 rfl (by omega) (.slice A1 n c1) n (ensCs l) (by rfl) hP.out (some ⟨g1, 0, none⟩) 1 1 [.int .i64 ((n : Int) + 1), .int .i64 xd, .int .i64 xk, .int .i64 xl, .int .i64 xa, .int .i64 xc] (by rfl) rfl hN.out (by intro u hu; simp at hu; rcases hu with rfl | rfl | rfl | rfl | rfl | rfl <;> rfl) (by unfold maxLen; omega) (by omega) hsz.out ?_
            intro v w1 hown hg
            have hZ := Lib.hid (hZ.out.kept hg (hP.out.ne_blk hZ.out (by decide)))
            have hq := Lib.hid (hq.out.grown hg hsz.out (fun j e => (hP.out.block_lt e).1))
            have hsz := Lib.hid (Nat.le_trans hsz.out hg.size)
            clear hN
            clear hP
            obtain ⟨A2, c2, rfl, _⟩ := OwnX.shape hown
            have hF := Lib.hid hown
            clear hown hg
            refine hK.out _ _ (fun _ => hq.out) ?_
            clear hK K
            go_simp
            generalize w1 = V37 at *
            refine wpAnyX_one (i := 8) (by kernel_rfl) rfl (fun K hK => ?_)
            go_simp
            go_wp2_with (go_at_call 39; refine (HRB.out _ _ V37 _ hF.out).mono ?_; rintro e w1 ⟨rfl, hb⟩)
            clear hF
            have hZ := Lib.hid (hZ.out.below hb)
            have hq := Lib.hid (hq.out.trans (hb.mono hsz.out))
            have hsz := Lib.hid (Nat.le_trans hsz.out hb.size)
            refine hK.out _ _ (fun _ => hq.out) ?_
            clear hK K hb
            generalize w1 = V38 at *
            refine wpAnyX_one (i := 10) (by kernel_rfl) rfl (fun K hK => ?_)
            have hgl := hZ.out.lt
            obtain ⟨⟨d0, d1, d2, d3, d4⟩, z0, z1, z2, z3, z4⟩ := cells5 hZ.out
            go_simp
            refine hK.out _ _ (fun h => absurd rfl h) ?_
            clear hK K
            refine wpAnyX_done (by kernel_rfl) ?_
            go_wp2_with fail
            go_meet
            exact ⟨_, rfl, set5 hZ.out, below_set5 hq.out hZge.out⟩
      · go_simp
        have hsz0 := hsz
        have hb : Below V0.heap.size V0 (V0.alloc (.cells #[.int .i64 ((n : Int) + 1), .int .i64 xd, .int .i64 xk, .int .i64 xl, .int .i64 xa, .int .i64 xc] 26)) := (Below.refl _ _).alloc (Nat.le_refl _) _
        have hq := Lib.hid (hq.out.trans (hb.mono hsz.out))
        have hsz := Lib.hid (Nat.le_trans hsz.out hb.size)
        have hN := Lib.hid (Rd.new_ V0 [.int .i64 ((n : Int) + 1), .int .i64 xd, .int .i64 xk, .int .i64 xl, .int .i64 xa, .int .i64 xc] 26)
        have hNge : Hid (wc.heap.size ≤ V0.heap.size) := hsz0.out
        refine hK.out _ _ (fun _ => hq.out) ?_
        clear hK K hb hsz0
        generalize hV : (V0.alloc (.cells #[.int .i64 ((n : Int) + 1), .int .i64 xd, .int .i64 xk, .int .i64 xl, .int .i64 xa, .int .i64 xc] 26)) = V39 at hN hNge hq hsz ⊢
        clear hV
        generalize hV : V0.heap.size = g1 at hN hNge hq hsz ⊢
        clear hV
        refine wpAnyX_ready (rs := [0, 9]) (by kernel_rfl) (by simp) (AllX.cons rfl (fun K hK => ?_) (AllX.cons rfl (fun K hK => ?_) AllX.nil))
        · go_simp
          have hsz0 := hsz
          have hb : Below V39.heap.size V39 (V39.alloc (.cells #[] 26)) := (Below.refl _ _).alloc (Nat.le_refl _) _
          have hN := Lib.hid (hN.out.below hb)
          have hq := Lib.hid (hq.out.trans (hb.mono hsz.out))
          have hsz := Lib.hid (Nat.le_trans hsz.out hb.size)
          have hO := Lib.hid (OwnX.lit0 V39 _ 26 6 hsz0.out)
          have hOge : Hid (wc.heap.size ≤ V39.heap.size) := hsz0.out
          refine hK.out _ _ (fun _ => hq.out) ?_
          clear hK K hb hsz0
          generalize hV : (V39.alloc (.cells #[] 26)) = V40 at hN hNge hO hOge hq hsz ⊢
          clear hV
          generalize hV : V39.heap.size = g0 at hN hNge hO hOge hq hsz ⊢
          clear hV
          refine wpAnyX_ready (rs := [2, 9]) (by kernel_rfl) (by simp) (AllX.cons rfl (fun K hK => ?_) (AllX.cons rfl (fun K hK => ?_) AllX.nil))
          · refine step_append_zero V40 (by rfl) (.tmp 109) (.tmp 110) 23 (by rfl) _ 26 i0 _ 6 48 Try.underlying23 hi0 hz0 hz1 hz2 rfl (by omega) g0 0 (by rfl) hO.out A n c (ensCs l) (by rfl) (by rw [ensCs_len, HLN.out]) (HS.out.rd.below hq.out) (ensCs_one l) (by unfold maxLen; omega) (by omega) hsz.out ?_
            intro v w1 hown hb
            clear hO
            have hN := Lib.hid (hN.out.below hb)
            have hq := Lib.hid (hq.out.trans (hb.mono hsz.out))
            have hsz := Lib.hid (Nat.le_trans hsz.out hb.size)
            obtain ⟨A1, c1, rfl, _⟩ := OwnX.shape hown
            have hP := Lib.hid hown
            clear hown
            refine hK.out _ _ (fun _ => hq.out) ?_
            clear hK K hb
            go_simp
            generalize w1 = V41 at *
            refine wpAnyX_ready (rs := [5, 9]) (by kernel_rfl) (by simp) (AllX.cons rfl (fun K hK => ?_) (AllX.cons rfl (fun K hK => ?_) AllX.nil))
            · refine step_append_x V41 (by rfl) (.tmp 111) (.tmp 113) 23 (by rfl) _ 26 i0 _ 6 48 Try.underlying23 hi0 hz0 hz1 hz2 rfl (by omega) (.slice A1 n c1) n (ensCs l) (by rfl) hP.out (some ⟨g1, 0, none⟩) 1 1 [.int .i64 ((n : Int) + 1), .int .i64 xd, .int .i64 xk, .int .i64 xl, .int .i64 xa, .int .i64 xc] (by rfl) rfl hN.out (by intro u hu; simp at hu; rcases hu with rfl | rfl | rfl | rfl | rfl | rfl <;> rfl) (by unfold maxLen; omega) (by omega) hsz.out ?_
              intro v w1 hown hg
              have hq := Lib.hid (hq.out.grown hg hsz.out (fun j e => (hP.out.block_lt e).1))
              have hsz := Lib.hid (Nat.le_trans hsz.out hg.size)
              clear hN
              clear hP
              obtain ⟨A2, c2, rfl, _⟩ := OwnX.shape hown
              have hF := Lib.hid hown
              clear hown hg
              refine hK.out _ _ (fun _ => hq.out) ?_
              clear hK K
              go_simp
              generalize w1 = V42 at *
              refine wpAnyX_ready (rs := [8, 9]) (by kernel_rfl) (by simp) (AllX.cons rfl (fun K hK => ?_) (AllX.cons rfl (fun K hK => ?_) AllX.nil))
              · go_simp
                go_wp2_with (go_at_call 39; refine (HRB.out _ _ V42 _ hF.out).mono ?_; rintro e w1 ⟨rfl, hb⟩)
                clear hF
                have hq := Lib.hid (hq.out.trans (hb.mono hsz.out))
                have hsz := Lib.hid (Nat.le_trans hsz.out hb.size)
                refine hK.out _ _ (fun _ => hq.out) ?_
                clear hK K hb
                generalize w1 = V43 at *
                refine wpAnyX_one (i := 9) (by kernel_rfl) rfl (fun K hK => ?_)
                go_simp
                have hsz0 := hsz
                have hb : Below V43.heap.size V43 (V43.alloc (.cells #[.int .i64 0, .int .i64 0, .int .i64 0, .int .i64 0, .int .i64 0] 37)) := (Below.refl _ _).alloc (Nat.le_refl _) _
                have hq := Lib.hid (hq.out.trans (hb.mono hsz.out))
                have hsz := Lib.hid (Nat.le_trans hsz.out hb.size)
                have hZ := Lib.hid (BlkAt.new_ V43 (.cells #[.int .i64 0, .int .i64 0, .int .i64 0, .int .i64 0, .int .i64 0] 37))
                have hZge : Hid (wc.heap.size ≤ V43.heap.size) := hsz0.out
                refine hK.out _ _ (fun _ => hq.out) ?_
                clear hK K hb hsz0
                generalize hV : (V43.alloc (.cells #[.int .i64 0, .int .i64 0, .int .i64 0, .int .i64 0, .int .i64 0] 37)) = V44 at hNge hOge hZ hZge hq hsz ⊢
                clear hV
                generalize hV : V43.heap.size = g7 at hNge hOge hZ hZge hq hsz ⊢
                clear hV
                refine wpAnyX_one (i := 10) (by kernel_rfl) rfl (fun K hK => ?_)
                have hgl := hZ.out.lt
                obtain ⟨⟨d0, d1, d2, d3, d4⟩, z0, z1, z2, z3, z4⟩ := cells5 hZ.out
                go_simp
                refine hK.out _ _ (fun h => absurd rfl h) ?_
                clear hK K
                refine wpAnyX_done (by kernel_rfl) ?_
                go_wp2_with fail
                go_meet
                exact ⟨_, rfl, set5 hZ.out, below_set5 hq.out hZge.out⟩
              · go_simp
                have hsz0 := hsz
                have hb : Below V42.heap.size V42 (V42.alloc (.cells #[.int .i64 0, .int .i64 0, .int .i64 0, .int .i64 0, .int .i64 0] 37)) := (Below.refl _ _).alloc (Nat.le_refl _) _
                have hF := Lib.hid (hF.out.below hb)
                have hq := Lib.hid (hq.out.trans (hb.mono hsz.out))
                have hsz := Lib.hid (Nat.le_trans hsz.out hb.size)
                have hZ := Lib.hid (BlkAt.new_ V42 (.cells #[.int .i64 0, .int .i64 0, .int .i64 0, .int .i64 0, .int .i64 0] 37))
                have hZge : Hid (wc.heap.size ≤ V42.heap.size) := hsz0.out
                refine hK.out _ _ (fun _ => hq.out) ?_
                clear hK K hb hsz0
                generalize hV : (V42.alloc (.cells #[.int .i64 0, .int .i64 0, .int .i64 0, .int .i64 0, .int .i64 0] 37)) = V45 at hNge hOge hF hZ hZge hq hsz ⊢
                clear hV
                generalize hV : V42.heap.size = g7 at hNge hOge hF hZ hZge hq hsz ⊢
                clear hV
                refine wpAnyX_one (i := 8) (by kernel_rfl) rfl (fun K hK => ?_)
                go_simp
                go_wp2_with (go_at_call 39; refine (HRB.out _ _ V45 _ hF.out).mono ?_; rintro e w1 ⟨rfl, hb⟩)
                clear hF
                have hZ := Lib.hid (hZ.out.below hb)
                have hq := Lib.hid (hq.out.trans (hb.mono hsz.out))
                have hsz := Lib.hid (Nat.le_trans hsz.out hb.size)
                refine hK.out _ _ (fun _ => hq.out) ?_
                clear hK K hb
                generalize w1 = V46 at *
                refine wpAnyX_one (i := 10) (by kernel_rfl) rfl (fun K hK => ?_)
                have hgl := hZ.out.lt
                obtain ⟨⟨d0, d1, d2, d3, d4⟩, z0, z1, z2, z3, z4⟩ := cells5 hZ.out
                go_simp
                refine hK.out _ _ (fun h => absurd rfl h) ?_
                clear hK K
                refine wpAnyX_done (by kernel_rfl) ?_
                go_wp2_with fail
                go_meet
                exact ⟨_, rfl, set5 hZ.out, below_set5 hq.out hZge.out⟩
            · go_simp
              have hsz0 := hsz
              have hb : Below V41.heap.size V41 (V41.alloc (.cells #[.int .i64 0, .int .i64 0, .int .i64 0, .int .i64 0, .int .i64 0] 37)) := (Below.refl _ _).alloc (Nat.le_refl _) _
              have hN := Lib.hid (hN.out.below hb)
              have hP := Lib.hid (hP.out.below hb)
              have hq := Lib.hid (hq.out.trans (hb.mono hsz.out))
              have hsz := Lib.hid (Nat.le_trans hsz.out hb.size)
              have hZ := Lib.hid (BlkAt.new_ V41 (.cells #[.int .i64 0, .int .i64 0, .int .i64 0, .int .i64 0, .int .i64 0] 37))
              have hZge : Hid (wc.heap.size ≤ V41.heap.size) := hsz0.out
              refine hK.out _ _ (fun _ => hq.out) ?_
              clear hK K hb hsz0
              generalize hV : (V41.alloc (.cells #[.int .i64 0, .int .i64 0, .int .i64 0, .int .i64 0, .int .i64 0] 37)) = V47 at hN hNge hOge hP hZ hZge hq hsz ⊢
              clear hV
              generalize hV : V41.heap.size = g7 at hN hNge hOge hP hZ hZge hq hsz ⊢
              clear hV
              refine wpAnyX_one (i := 5) (by kernel_rfl) rfl (fun K hK => ?_)
              refine step_append_x V47 (by rfl) (.tmp 111) (.tmp 113) 23 (by rfl) _ 26 i0 _ 6 48 Try.underlying23 hi0 hz0 hz1 hz2 rfl (by omega) (.slice A1 n c1) n (ensCs l) (by rfl) hP.out (some ⟨g1, 0, none⟩) 1 1 [.int .i64 ((n : Int) + 1), .int .i64 xd, .int .i64 xk, .int .i64 xl, .int .i64 xa, .int .i64 xc] (by rfl) rfl hN.out (by intro u hu; simp at hu; rcases hu with rfl | rfl | rfl | rfl | rfl | rfl <;> rfl) (by unfold maxLen; omega) (by omega) hsz.out ?_
              intro v w1 hown hg
              have hZ := Lib.hid (hZ.out.kept hg (hP.out.ne_blk hZ.out (by decide)))
              have hq := Lib.hid (hq.out.grown hg hsz.out (fun j e => (hP.out.block_lt e).1))
              have hsz := Lib.hid (Nat.le_trans hsz.out hg.size)
              clear hN
              clear hP
              obtain ⟨A2, c2, rfl, _⟩ := OwnX.shape hown
              have hF := Lib.hid hown
              clear hown hg
              refine hK.out _ _ (fun _ => hq.out) ?_
              clear hK K
              go_simp
              generalize w1 = V48 at *
              refine wpAnyX_one (i := 8) (by kernel_rfl) rfl (fun K hK => ?_)
              go_simp
              go_wp2_with (go_at_call 39; refine (HRB.out _ _ V48 _ hF.out).mono ?_; rintro e w1 ⟨rfl, hb⟩)
              clear hF
              have hZ := Lib.hid (hZ.out.below hb)
              have hq := Lib.hid (hq.out.trans (hb.mono hsz.out))
              have hsz := Lib.hid (Nat.le_trans hsz.out hb.size)
              refine hK.out _ _ (fun _ => hq.out) ?_
              clear hK K hb
              generalize w1 = V49 at *
              refine wpAnyX_one (i := 10) (by kernel_rfl) rfl (fun K hK => ?_)
              have hgl := hZ.out.lt
              obtain ⟨⟨d0, d1, d2, d3, d4⟩, z0, z1, z2, z3, z4⟩ := cells5 hZ.out
              go_simp
              refine hK.out _ _ (fun h => absurd rfl h) ?_
              clear hK K
              refine wpAnyX_done (by kernel_rfl) ?_
              go_wp2_with fail
              go_meet
              exact ⟨_, rfl, set5 hZ.out, below_set5 hq.out hZge.out⟩
          · go_simp
            have hsz0 := hsz
            have hb : Below V40.heap.size V40 (V40.alloc (.cells #[.int .i64 0, .int .i64 0, .int .i64 0, .int .i64 0, .int .i64 0] 37)) := (Below.refl _ _).alloc (Nat.le_refl _) _
            have hN := Lib.hid (hN.out.below hb)
            have hO := Lib.hid (hO.out.below hb)
            have hq := Lib.hid (hq.out.trans (hb.mono hsz.out))
            have hsz := Lib.hid (Nat.le_trans hsz.out hb.size)
            have hZ := Lib.hid (BlkAt.new_ V40 (.cells #[.int .i64 0, .int .i64 0, .int .i64 0, .int .i64 0, .int .i64 0] 37))
            have hZge : Hid (wc.heap.size ≤ V40.heap.size) := hsz0.out
            refine hK.out _ _ (fun _ => hq.out) ?_
            clear hK K hb hsz0
            generalize hV : (V40.alloc (.cells #[.int .i64 0, .int .i64 0, .int .i64 0, .int .i64 0, .int .i64 0] 37)) = V50 at hN hNge hO hOge hZ hZge hq hsz ⊢
            clear hV
            generalize hV : V40.heap.size = g7 at hN hNge hO hOge hZ hZge hq hsz ⊢
            clear hV
            refine wpAnyX_one (i := 2) (by kernel_rfl) rfl (fun K hK => ?_)
            refine step_append_zero V50 (by rfl) (.tmp 109) (.tmp 110) 23 (by rfl) _ 26 i0 _ 6 48 Try.underlying23 hi0 hz0 hz1 hz2 rfl (by omega) g0 0 (by rfl) hO.out A n c (ensCs l) (by rfl) (by rw [ensCs_len, HLN.out]) (HS.out.rd.below hq.out) (ensCs_one l) (by unfold maxLen; omega) (by omega) hsz.out ?_
            intro v w1 hown hb
            clear hO
            have hN := Lib.hid (hN.out.below hb)
            have hZ := Lib.hid (hZ.out.below hb)
            have hq := Lib.hid (hq.out.trans (hb.mono hsz.out))
            have hsz := Lib.hid (Nat.le_trans hsz.out hb.size)
            obtain ⟨A1, c1, rfl, _⟩ := OwnX.shape hown
            have hP := Lib.hid hown
            clear hown
            refine hK.out _ _ (fun _ => hq.out) ?_
            clear hK K hb
            go_simp
            generalize w1 = V51 at *
            refine wpAnyX_one (i := 5) (by kernel_rfl) rfl (fun K hK => ?_)
            refine step_append_x V51 (by rfl) (.tmp 111) (.tmp 113) 23 (by rfl) _ 26 i0 _ 6 48 Try.underlying23 hi0 hz0 hz1 hz2 rfl (by omega) (.slice A1 n c1) n (ensCs l) (by rfl) hP.out (some ⟨g1, 0, none⟩) 1 1 [.int .i64 ((n : Int) + 1), .int .i64 xd, .int .i64 xk, .int .i64 xl, .int .i64 xa, .int .i64 xc] (by rfl) rfl hN.out (by intro u hu; simp at hu; rcases hu with rfl | rfl | rfl | rfl | rfl | rfl <;> rfl) (by unfold maxLen; omega) (by omega) hsz.out ?_
            intro v w1 hown hg
            have hZ := Lib.hid (hZ.out.kept hg (hP.out.ne_blk hZ.out (by decide)))
            have hq := Lib.hid (hq.out.grown hg hsz.out (fun j e => (hP.out.block_lt e).1))
            have hsz := Lib.hid (Nat.le_trans hsz.out hg.size)
            clear hN
            clear hP
            obtain ⟨A2, c2, rfl, _⟩ := OwnX.shape hown
            have hF := Lib.hid hown
            clear hown hg
            refine hK.out _ _ (fun _ => hq.out) ?_
            clear hK K
            go_simp
            generalize w1 = V52 at *
            refine wpAnyX_one (i := 8) (by kernel_rfl) rfl (fun K hK => ?_)
            go_simp
            go_wp2_with (go_at_call 39; refine (HRB.out _ _ V52 _ hF.out).mono ?_; rintro e w1 ⟨rfl, hb⟩)
            clear hF
            have hZ := Lib.hid (hZ.out.below hb)
            have hq := Lib.hid (hq.out.trans (hb.mono hsz.out))
            have hsz := Lib.hid (Nat.le_trans hsz.out hb.size)
            refine hK.out _ _ (fun _ => hq.out) ?_
            clear hK K hb
            generalize w1 = V53 at *
            refine wpAnyX_one (i := 10) (by kernel_rfl) rfl (fun K hK => ?_)
            have hgl := hZ.out.lt
            obtain ⟨⟨d0, d1, d2, d3, d4⟩, z0, z1, z2, z3, z4⟩ := cells5 hZ.out
            go_simp
            refine hK.out _ _ (fun h => absurd rfl h) ?_
            clear hK K
            refine wpAnyX_done (by kernel_rfl) ?_
            go_wp2_with fail
            go_meet
            exact ⟨_, rfl, set5 hZ.out, below_set5 hq.out hZge.out⟩
        · go_simp
          have hsz0 := hsz
          have hb : Below V39.heap.size V39 (V39.alloc (.cells #[.int .i64 0, .int .i64 0, .int .i64 0, .int .i64 0, .int .i64 0] 37)) := (Below.refl _ _).alloc (Nat.le_refl _) _
          have hN := Lib.hid (hN.out.below hb)
          have hq := Lib.hid (hq.out.trans (hb.mono hsz.out))
          have hsz := Lib.hid (Nat.le_trans hsz.out hb.size)
          have hZ := Lib.hid (BlkAt.new_ V39 (.cells #[.int .i64 0, .int .i64 0, .int .i64 0, .int .i64 0, .int .i64 0] 37))
          have hZge : Hid (wc.heap.size ≤ V39.heap.size) := hsz0.out
          refine hK.out _ _ (fun _ => hq.out) ?_
          clear hK K hb hsz0
          generalize hV : (V39.alloc (.cells #[.int .i64 0, .int .i64 0, .int .i64 0, .int .i64 0, .int .i64 0] 37)) = V54 at hN hNge hZ hZge hq hsz ⊢
          clear hV
          generalize hV : V39.heap.size = g7 at hN hNge hZ hZge hq hsz ⊢
          clear hV
          refine wpAnyX_one (i := 0) (by kernel_rfl) rfl (fun K hK => ?_)
          go_simp
          have hsz0 := hsz
          have hb : Below V54.heap.size V54 (V54.alloc (.cells #[] 26)) := (Below.refl _ _).alloc (Nat.le_refl _) _
          have hN := Lib.hid (hN.out.below hb)
          have hZ := Lib.hid (hZ.out.below hb)
          have hq := Lib.hid (hq.out.trans (hb.mono hsz.out))
          have hsz := Lib.hid (Nat.le_trans hsz.out hb.size)
          have hO := Lib.hid (OwnX.lit0 V54 _ 26 6 hsz0.out)
          have hOge : Hid (wc.heap.size ≤ V54.heap.size) := hsz0.out
          refine hK.out _ _ (fun _ => hq.out) ?_
          clear hK K hb hsz0
          generalize hV : (V54.alloc (.cells #[] 26)) = V55 at hN hNge hZ hZge hO hOge hq hsz ⊢
          clear hV
          generalize hV : V54.heap.size = g0 at hN hNge hZ hZge hO hOge hq hsz ⊢
          clear hV
          refine wpAnyX_one (i := 2) (by kernel_rfl) rfl (fun K hK => ?_)
          refine step_append_zero V55 (by rfl) (.tmp 109) (.tmp 110) 23 (by rfl) _ 26 i0 _ 6 48 Try.underlying23 hi0 hz0 hz1 hz2 rfl (by omega) g0 0 (by rfl) hO.out A n c (ensCs l) (by rfl) (by rw [ensCs_len, HLN.out]) (HS.out.rd.below hq.out) (ensCs_one l) (by unfold maxLen; omega) (by omega) hsz.out ?_
          intro v w1 hown hb
          clear hO
          have hN := Lib.hid (hN.out.below hb)
          have hZ := Lib.hid (hZ.out.below hb)
          have hq := Lib.hid (hq.out.trans (hb.mono hsz.out))
          have hsz := Lib.hid (Nat.le_trans hsz.out hb.size)
          obtain ⟨A1, c1, rfl, _⟩ := OwnX.shape hown
          have hP := Lib.hid hown
          clear hown
          refine hK.out _ _ (fun _ => hq.out) ?_
          clear hK K hb
          go_simp
          generalize w1 = V56 at *
          refine wpAnyX_one (i := 5) (by kernel_rfl) rfl (fun K hK => ?_)
          refine step_append_x V56 (by rfl) (.tmp 111) (.tmp 113) 23 (by rfl) _ 26 i0 _ 6 48 Try.underlying23 hi0 hz0 hz1 hz2 rfl (by omega) (.slice A1 n c1) n (ensCs l) (by rfl) hP.out (some ⟨g1, 0, none⟩) 1 1 [.int .i64 ((n : Int) + 1), .int .i64 xd, .int .i64 xk, .int .i64 xl, .int .i64 xa, .int .i64 xc] (by rfl) rfl hN.out (by intro u hu; simp at hu; rcases hu with rfl | rfl | rfl | rfl | rfl | rfl <;> rfl) (by unfold maxLen; omega) (by omega) hsz.out ?_
          intro v w1 hown hg
          have hZ := Lib.hid (hZ.out.kept hg (hP.out.ne_blk hZ.out (by decide)))
          have hq := Lib.hid (hq.out.grown hg hsz.out (fun j e => (hP.out.block_lt e).1))
          have hsz := Lib.hid (Nat.le_trans hsz.out hg.size)
          clear hN
          clear hP
          obtain ⟨A2, c2, rfl, _⟩ := OwnX.shape hown
          have hF := Lib.hid hown
          clear hown hg
          refine hK.out _ _ (fun _ => hq.out) ?_
          clear hK K
          go_simp
          generalize w1 = V57 at *
          refine wpAnyX_one (i := 8) (by kernel_rfl) rfl (fun K hK => ?_)
          go_simp
          go_wp2_with (go_at_call 39; refine (HRB.out _ _ V57 _ hF.out).mono ?_; rintro e w1 ⟨rfl, hb⟩)
          clear hF
          have hZ := Lib.hid (hZ.out.below hb)
          have hq := Lib.hid (hq.out.trans (hb.mono hsz.out))
          have hsz := Lib.hid (Nat.le_trans hsz.out hb.size)
          refine hK.out _ _ (fun _ => hq.out) ?_
          clear hK K hb
          generalize w1 = V58 at *
          refine wpAnyX_one (i := 10) (by kernel_rfl) rfl (fun K hK => ?_)
          have hgl := hZ.out.lt
          obtain ⟨⟨d0, d1, d2, d3, d4⟩, z0, z1, z2, z3, z4⟩ := cells5 hZ.out
          go_simp
          refine hK.out _ _ (fun h => absurd rfl h) ?_
          clear hK K
          refine wpAnyX_done (by kernel_rfl) ?_
          go_wp2_with fail
          go_meet
          exact ⟨_, rfl, set5 hZ.out, below_set5 hq.out hZge.out⟩
      · go_simp
        have hsz0 := hsz
        have hb : Below V0.heap.size V0 (V0.alloc (.cells #[.int .i64 0, .int .i64 0, .int .i64 0, .int .i64 0, .int .i64 0] 37)) := (Below.refl _ _).alloc (Nat.le_refl _) _
        have hq := Lib.hid (hq.out.trans (hb.mono hsz.out))
        have hsz := Lib.hid (Nat.le_trans hsz.out hb.size)
        have hZ := Lib.hid (BlkAt.new_ V0 (.cells #[.int .i64 0, .int .i64 0, .int .i64 0, .int .i64 0, .int .i64 0] 37))
        have hZge : Hid (wc.heap.size ≤ V0.heap.size) := hsz0.out
        refine hK.out _ _ (fun _ => hq.out) ?_
        clear hK K hb hsz0
        generalize hV : (V0.alloc (.cells #[.int .i64 0, .int .i64 0, .int .i64 0, .int .i64 0, .int .i64 0] 37)) = V59 at hZ hZge hq hsz ⊢
        clear hV
        generalize hV : V0.heap.size = g7 at hZ hZge hq hsz ⊢
        clear hV
        refine wpAnyX_ready (rs := [0, 4]) (by kernel_rfl) (by simp) (AllX.cons rfl (fun K hK => ?_) (AllX.cons rfl (fun K hK => ?_) AllX.nil))
        · go_simp
          have hsz0 := hsz
          have hb : Below V59.heap.size V59 (V59.alloc (.cells #[] 26)) := (Below.refl _ _).alloc (Nat.le_refl _) _
          have hZ := Lib.hid (hZ.out.below hb)
          have hq := Lib.hid (hq.out.trans (hb.mono hsz.out))
          have hsz := Lib.hid (Nat.le_trans hsz.out hb.size)
          have hO := Lib.hid (OwnX.lit0 V59 _ 26 6 hsz0.out)
          have hOge : Hid (wc.heap.size ≤ V59.heap.size) := hsz0.out
          refine hK.out _ _ (fun _ => hq.out) ?_
          clear hK K hb hsz0
          generalize hV : (V59.alloc (.cells #[] 26)) = V60 at hZ hZge hO hOge hq hsz ⊢
          clear hV
          generalize hV : V59.heap.size = g0 at hZ hZge hO hOge hq hsz ⊢
          clear hV
          refine wpAnyX_ready (rs := [2, 4]) (by kernel_rfl) (by simp) (AllX.cons rfl (fun K hK => ?_) (AllX.cons rfl (fun K hK => ?_) AllX.nil))
          · refine step_append_zero V60 (by rfl) (.tmp 109) (.tmp 110) 23 (by rfl) _ 26 i0 _ 6 48 Try.underlying23 hi0 hz0 hz1 hz2 rfl (by omega) g0 0 (by rfl) hO.out A n c (ensCs l) (by rfl) (by rw [ensCs_len, HLN.out]) (HS.out.rd.below hq.out) (ensCs_one l) (by unfold maxLen; omega) (by omega) hsz.out ?_
            intro v w1 hown hb
            clear hO
            have hZ := Lib.hid (hZ.out.below hb)
            have hq := Lib.hid (hq.out.trans (hb.mono hsz.out))
            have hsz := Lib.hid (Nat.le_trans hsz.out hb.size)
            obtain ⟨A1, c1, rfl, _⟩ := OwnX.shape hown
            have hP := Lib.hid hown
            clear hown
            refine hK.out _ _ (fun _ => hq.out) ?_
            clear hK K hb
            go_simp
            generalize w1 = V61 at *
            refine wpAnyX_one (i := 4) (by kernel_rfl) rfl (fun K hK => ?_)
            go_simp
            have hsz0 := hsz
            have hb : Below V61.heap.size V61 (V61.alloc (.cells #[.int .i64 ((n : Int) + 1), .int .i64 xd, .int .i64 xk, .int .i64 xl, .int .i64 xa, .int .i64 xc] 26)) := (Below.refl _ _).alloc (Nat.le_refl _) _
            have hZ := Lib.hid (hZ.out.below hb)
            have hP := Lib.hid (hP.out.below hb)
            have hq := Lib.hid (hq.out.trans (hb.mono hsz.out))
            have hsz := Lib.hid (Nat.le_trans hsz.out hb.size)
            have hN := Lib.hid (Rd.new_ V61 [.int .i64 ((n : Int) + 1), .int .i64 xd, .int .i64 xk, .int .i64 xl, .int .i64 xa, .int .i64 xc] 26)
            have hNge : Hid (wc.heap.size ≤ V61.heap.size) := hsz0.out
            refine hK.out _ _ (fun _ => hq.out) ?_
            clear hK K hb hsz0
            generalize hV : (V61.alloc (.cells #[.int .i64 ((n : Int) + 1), .int .i64 xd, .int .i64 xk, .int .i64 xl, .int .i64 xa, .int .i64 xc] 26)) = V62 at hZ hZge hOge hP hN hNge hq hsz ⊢
            clear hV
            generalize hV : V61.heap.size = g1 at hZ hZge hOge hP hN hNge hq hsz ⊢
            clear hV
            refine wpAnyX_one (i := 5) (by kernel_rfl) rfl (fun K hK => ?_)
            refine step_append_x V62 (by rfl) (.tmp 111) (.tmp 113) 23 (by rfl) _ 26 i0 _ 6 48 Try.underlying23 hi0 hz0 hz1 hz2 rfl (by omega) (.slice A1 n c1) n (ensCs l) (by rfl) hP.out (some ⟨g1, 0, none⟩) 1 1 [.int .i64 ((n : Int) + 1), .int .i64 xd, .int .i64 xk, .int .i64 xl, .int .i64 xa, .int .i64 xc] (by rfl) rfl hN.out (by intro u hu; simp at hu; rcases hu with rfl | rfl | rfl | rfl | rfl | rfl <;> rfl) (by unfold maxLen; omega) (by omega) hsz.out ?_
            intro v w1 hown hg
            have hZ := Lib.hid (hZ.out.kept hg (hP.out.ne_blk hZ.out (by decide)))
            have hq := Lib.hid (hq.out.grown hg hsz.out (fun j e => (hP.out.block_lt e).1))
            have hsz := Lib.hid (Nat.le_trans hsz.out hg.size)
            clear hP
            clear hN
            obtain ⟨A2, c2, rfl, _⟩ := OwnX.shape hown
            have hF := Lib.hid hown
            clear hown hg
            refine hK.out _ _ (fun _ => hq.out) ?_
            clear hK K
            go_simp
            generalize w1 = V63 at *
            refine wpAnyX_one (i := 8) (by kernel_rfl) rfl (fun K hK => ?_)
            go_simp
            go_wp2_with (go_at_call 39; refine (HRB.out _ _ V63 _ hF.out).mono ?_; rintro e w1 ⟨rfl, hb⟩)
            clear hF
            have hZ := Lib.hid (hZ.out.below hb)
            have hq := Lib.hid (hq.out.trans (hb.mono hsz.out))
            have hsz := Lib.hid (Nat.le_trans hsz.out hb.size)
            refine hK.out _ _ (fun _ => hq.out) ?_
            clear hK K hb
            generalize w1 = V64 at *
            refine wpAnyX_one (i := 10) (by kernel_rfl) rfl (fun K hK => ?_)
            have hgl := hZ.out.lt
            obtain ⟨⟨d0, d1, d2, d3, d4⟩, z0, z1, z2, z3, z4⟩ := cells5 hZ.out
            go_simp
            refine hK.out _ _ (fun h => absurd rfl h) ?_
            clear hK K
            refine wpAnyX_done (by kernel_rfl) ?_
            go_wp2_with fail
            go_meet
            exact ⟨_, rfl, set5 hZ.out, below_set5 hq.out hZge.out⟩
          · go_simp
            have hsz0 := hsz
            have hb : Below V60.heap.size V60 (V60.alloc (.cells #[.int .i64 ((n : Int) + 1), .int .i64 xd, .int .i64 xk, .int .i64 xl, .int .i64 xa, .int .i64 xc] 26)) := (Below.refl _ _).alloc (Nat.le_refl _) _
            have hZ := Lib.hid (hZ.out.below hb)
            have hO := Lib.hid (hO.out.below hb)
            have hq := Lib.hid (hq.out.trans (hb.mono hsz.out))
            have hsz := Lib.hid (Nat.le_trans hsz.out hb.size)
            have hN := Lib.hid (Rd.new_ V60 [.int .i64 ((n : Int) + 1), .int .i64 xd, .int .i64 xk, .int .i64 xl, .int .i64 xa, .int .i64 xc] 26)
            have hNge : Hid (wc.heap.size ≤ V60.heap.size) := hsz0.out
            refine hK.out _ _ (fun _ => hq.out) ?_
            clear hK K hb hsz0
            generalize hV : (V60.alloc (.cells #[.int .i64 ((n : Int) + 1), .int .i64 xd, .int .i64 xk, .int .i64 xl, .int .i64 xa, .int .i64 xc] 26)) = V65 at hZ hZge hO hOge hN hNge hq hsz ⊢
            clear hV
            generalize hV : V60.heap.size = g1 at hZ hZge hO hOge hN hNge hq hsz ⊢
            clear hV
            refine wpAnyX_one (i := 2) (by kernel_rfl) rfl (fun K hK => ?_)
            refine step_append_zero V65 (by rfl) (.tmp 109) (.tmp 110) 23 (by rfl) _ 26 i0 _ 6 48 Try.underlying23 hi0 hz0 hz1 hz2 rfl (by omega) g0 0 (by rfl) hO.out A n c (ensCs l) (by rfl) (by rw [ensCs_len, HLN.out]) (HS.out.rd.below hq.out) (ensCs_one l) (by unfold maxLen; omega) (by omega) hsz.out ?_
            intro v w1 hown hb
            clear hO
            have hZ := Lib.hid (hZ.out.below hb)
            have hN := Lib.hid (hN.out.below hb)
            have hq := Lib.hid (hq.out.trans (hb.mono hsz.out))
            have hsz := Lib.hid (Nat.le_trans hsz.out hb.size)
            obtain ⟨A1, c1, rfl, _⟩ := OwnX.shape hown
            have hP := Lib.hid hown
            clear hown
            refine hK.out _ _ (fun _ => hq.out) ?_
            clear hK K hb
            go_simp
            generalize w1 = V66 at *
            refine wpAnyX_one (i := 5) (by kernel_rfl) rfl (fun K hK => ?_)
            refine step_append_x V66 (by rfl) (.tmp 111) (.tmp 113) 23 (by rfl) _ 26 i0 _ 6 48 Try.underlying23 hi0 hz0 hz1 hz2 rfl (by omega) (.slice A1 n c1) n (ensCs l) (by rfl) hP.out (some ⟨g1, 0, none⟩) 1 1 [.int .i64 ((n : Int) + 1), .int .i64 xd, .int .i64 xk, .int .i64 xl, .int .i64 xa, .int .i64 xc] (by rfl) rfl hN.out (by intro u hu; simp at hu; rcases hu with rfl | rfl | rfl | rfl | rfl | rfl <;> rfl) (by unfold maxLen; omega) (by omega) hsz.out ?_
            intro v w1 hown hg
            have hZ := Lib.hid (hZ.out.kept hg (hP.out.ne_blk hZ.out (by decide)))
            have hq := Lib.hid (hq.out.grown hg hsz.out (fun j e => (hP.out.block_lt e).1))
            have hsz := Lib.hid (Nat.le_trans hsz.out hg.size)
            clear hN
            clear hP
            obtain ⟨A2, c2, rfl, _⟩ := OwnX.shape hown
            have hF := Lib.hid hown
            clear hown hg
            refine hK.out _ _ (fun _ => hq.out) ?_
            clear hK K
            go_simp
            generalize w1 = V67 at *
            refine wpAnyX_one (i := 8) (by kernel_rfl) rfl (fun K hK => ?_)
            go_simp
            go_wp2_with (go_at_call 39; refine (HRB.out _ _ V67 _ hF.out).mono ?_; rintro e w1 ⟨rfl, hb⟩)
            clear hF
            have hZ := Lib.hid (hZ.out.below hb)
            have hq := Lib.hid (hq.out.trans (hb.mono hsz.out))
            have hsz := Lib.hid (Nat.le_trans hsz.out hb.size)
            refine hK.out _ _ (fun _ => hq.out) ?_
            clear hK K hb
            generalize w1 = V68 at *
            refine wpAnyX_one (i := 10) (by kernel_rfl) rfl (fun K hK => ?_)
            have hgl := hZ.out.lt
            obtain ⟨⟨d0, d1, d2, d3, d4⟩, z0, z1, z2, z3, z4⟩ := cells5 hZ.out
            go_simp
            refine hK.out _ _ (fun h => absurd rfl h) ?_
            clear hK K
            refine wpAnyX_done (by kernel_rfl) ?_
            go_wp2_with fail
            go_meet
            exact ⟨_, rfl, set5 hZ.out, below_set5 hq.out hZge.out⟩
        · go_simp
          have hsz0 := hsz
          have hb : Below V59.heap.size V59 (V59.alloc (.cells #[.int .i64 ((n : Int) + 1), .int .i64 xd, .int .i64 xk, .int .i64 xl, .int .i64 xa, .int .i64 xc] 26)) := (Below.refl _ _).alloc (Nat.le_refl _) _
          have hZ := Lib.hid (hZ.out.below hb)
          have hq := Lib.hid (hq.out.trans (hb.mono hsz.out))
          have hsz := Lib.hid (Nat.le_trans hsz.out hb.size)
          have hN := Lib.hid (Rd.new_ V59 [.int .i64 ((n : Int) + 1), .int .i64 xd, .int .i64 xk, .int .i64 xl, .int .i64 xa, .int .i64 xc] 26)
          have hNge : Hid (wc.heap.size ≤ V59.heap.size) := hsz0.out
          refine hK.out _ _ (fun _ => hq.out) ?_
          clear hK K hb hsz0
          generalize hV : (V59.alloc (.cells #[.int .i64 ((n : Int) + 1), .int .i64 xd, .int .i64 xk, .int .i64 xl, .int .i64 xa, .int .i64 xc] 26)) = V69 at hZ hZge hN hNge hq hsz ⊢
          clear hV
          generalize hV : V59.heap.size = g1 at hZ hZge hN hNge hq hsz ⊢
          clear hV
          refine wpAnyX_one (i := 0) (by kernel_rfl) rfl (fun K hK => ?_)
          go_simp
          have hsz0 := hsz
          have hb : Below V69.heap.size V69 (V69.alloc (.cells #[] 26)) := (Below.refl _ _).alloc (Nat.le_refl _) _
          have hZ := Lib.hid (hZ.out.below hb)
          have hN := Lib.hid (hN.out.below hb)
          have hq := Lib.hid (hq.out.trans (hb.mono hsz.out))
          have hsz := Lib.hid (Nat.le_trans hsz.out hb.size)
          have hO := Lib.hid (OwnX.lit0 V69 _ 26 6 hsz0.out)
          have hOge : Hid (wc.heap.size ≤ V69.heap.size) := hsz0.out
          refine hK.out _ _ (fun _ => hq.out) ?_
          clear hK K hb hsz0
          generalize hV : (V69.alloc (.cells #[] 26)) = V70 at hZ hZge hN hNge hO hOge hq hsz ⊢
          clear hV
          generalize hV : V69.heap.size = g0 at hZ hZge hN hNge hO hOge hq hsz ⊢
          clear hV
          refine wpAnyX_one (i := 2) (by kernel_rfl) rfl (fun K hK => ?_)
          refine step_append_zero V70 (by rfl) (.tmp 109) (.tmp 110) 23 (by rfl) _ 26 i0 _ 6 48 Try.underlying23 hi0 hz0 hz1 hz2 rfl (by omega) g0 0 (by rfl) hO.out A n c (ensCs l) (by rfl) (by rw [ensCs_len, HLN.out]) (HS.out.rd.below hq.out) (ensCs_one l) (by unfold maxLen; omega) (by omega) hsz.out ?_
          intro v w1 hown hb
          clear hO
          have hZ := Lib.hid (hZ.out.below hb)
          have hN := Lib.hid (hN.out.below hb)
          have hq := Lib.hid (hq.out.trans (hb.mono hsz.out))
          have hsz := Lib.hid (Nat.le_trans hsz.out hb.size)
          obtain ⟨A1, c1, rfl, _⟩ := OwnX.shape hown
          have hP := Lib.hid hown
          clear hown
          refine hK.out _ _ (fun _ => hq.out) ?_
          clear hK K hb
          go_simp
          generalize w1 = V71 at *
          refine wpAnyX_one (i := 5) (by kernel_rfl) rfl (fun K hK => ?_)
          refine step_append_x V71 (by rfl) (.tmp 111) (.tmp 113) 23 (by rfl) _ 26 i0 _ 6 48 Try.underlying23 hi0 hz0 hz1 hz2 rfl (by omega) (.slice A1 n c1) n (ensCs l) (by rfl) hP.out (some ⟨g1, 0, none⟩) 1 1 [.int .i64 ((n : Int) + 1), .int .i64 xd, .int .i64 xk, .int .i64 xl, .int .i64 xa, .int .i64 xc] (by rfl) rfl hN.out (by intro u hu; simp at hu; rcases hu with rfl | rfl | rfl | rfl | rfl | rfl <;> rfl) (by unfold maxLen; omega) (by omega) hsz.out ?_
          intro v w1 hown hg
          have hZ := Lib.hid (hZ.out.kept hg (hP.out.ne_blk hZ.out (by decide)))
          have hq := Lib.hid (hq.out.grown hg hsz.out (fun j e => (hP.out.block_lt e).1))
          have hsz := Lib.hid (Nat.le_trans hsz.out hg.size)
          clear hN
          clear hP
          obtain ⟨A2, c2, rfl, _⟩ := OwnX.shape hown
          have hF := Lib.hid hown
          clear hown hg
          refine hK.out _ _ (fun _ => hq.out) ?_
          clear hK K
          go_simp
          generalize w1 = V72 at *
          refine wpAnyX_one (i := 8) (by kernel_rfl) rfl (fun K hK => ?_)
          go_simp
          go_wp2_with (go_at_call 39; refine (HRB.out _ _ V72 _ hF.out).mono ?_; rintro e w1 ⟨rfl, hb⟩)
          clear hF
          have hZ := Lib.hid (hZ.out.below hb)
          have hq := Lib.hid (hq.out.trans (hb.mono hsz.out))
          have hsz := Lib.hid (Nat.le_trans hsz.out hb.size)
          refine hK.out _ _ (fun _ => hq.out) ?_
          clear hK K hb
          generalize w1 = V73 at *
          refine wpAnyX_one (i := 10) (by kernel_rfl) rfl (fun K hK => ?_)
          have hgl := hZ.out.lt
          obtain ⟨⟨d0, d1, d2, d3, d4⟩, z0, z1, z2, z3, z4⟩ := cells5 hZ.out
          go_simp
          refine hK.out _ _ (fun h => absurd rfl h) ?_
          clear hK K
          refine wpAnyX_done (by kernel_rfl) ?_
          go_wp2_with fail
          go_meet
          exact ⟨_, rfl, set5 hZ.out, below_set5 hq.out hZge.out⟩
    case rest =>
      obtain ⟨g7, rfl, hblk, hbx⟩ := hcut
      have hgl := hblk.lt
      obtain ⟨⟨d0, d1, d2, d3, d4⟩, z0, z1, z2, z3, z4⟩ := cells5 hblk
      have HBX := Lib.hid (QW.out.trans (hbx.mono (by rw [HPX.out]; exact Nat.le_of_lt hpx)))
      clear hblk hbx
      cases hok : nb.okB with
      | true =>
        have HE := Lib.hid (HFIN.out.1 hok)
        obtain ⟨n1, n2, n3, n4⟩ := Ba.ok_iff.1 hok
        clear hok
        go_wp2_with fail
        go_ret
        exact ⟨by rw [HE.out]; rfl, HBX.out⟩
      | false =>
        have HE := Lib.hid (HFIN.out.2 hok)
        have hcs : nb.ow < 0 ∨ 0 ≤ nb.ow ∧ (nb.se < 0 ∨ 0 ≤ nb.se ∧ (nb.pa < 0 ∨ 0 ≤ nb.pa ∧ nb.re < 0)) := by
          have : ¬ (0 ≤ nb.ow ∧ 0 ≤ nb.se ∧ 0 ≤ nb.pa ∧ 0 ≤ nb.re) := fun h => by rw [Ba.ok_iff.2 h] at hok; cases hok
          clear hok
          omega
        clear hok
        rcases hcs with n1 | ⟨n1, n2 | ⟨n2, n3 | ⟨n3, n4⟩⟩⟩
        all_goals
          go_wp2_with fail
          go_ret
          exact ⟨by rw [HE.out]; rfl, HBX.out⟩

end Go.Proofs.Ytefphkefgfoklaa
