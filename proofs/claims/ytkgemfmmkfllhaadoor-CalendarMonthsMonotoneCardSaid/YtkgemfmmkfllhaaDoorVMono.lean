/- AddMonths keeps the order of days; months may be added one after the other, up to three days: plain numbers, and the law's walk. -/
import Derived.Test.YtkgemfmmkfllhaaDoorCj
namespace Go.Proofs.YtkgemfmmkfllhaaDoor
open Go.RowKit
set_option linter.unusedVariables false

theorem ms_step {M : Int} (h0 : 0 ≤ M) (h1 : M ≤ 1199) : ms (M + 1) = ms M + mln M := by
  unfold ms mln
  have e := mb_step (2000 + M / 12) (M % 12 + 1) (by omega) (by omega)
  by_cases c : M % 12 = 11
  · have e1 : (M + 1) / 12 = M / 12 + 1 := by omega
    have e2 : (M + 1) % 12 = 0 := by omega
    rw [e1, e2, show (2000 : Int) + (M / 12 + 1) = 2000 + M / 12 + 1 by omega, yb_step (by omega) (by omega), show (0 : Int) + 1 = 1 from rfl, mb_one]
    rw [c, show (11 : Int) + 1 + 1 = 13 from rfl, mb_end] at e
    rw [c]
    omega
  · have e1 : (M + 1) / 12 = M / 12 := by omega
    have e2 : (M + 1) % 12 = M % 12 + 1 := by omega
    rw [e1, e2, e]
    omega
theorem mln_bd (M : Int) : 28 ≤ mln M ∧ mln M ≤ 31 := mlF_bd _ _
theorem ms_lt_nat (k : Nat) : ∀ M : Int, 0 ≤ M → M + 1 + k ≤ 1200 → ms M + mln M ≤ ms (M + 1 + k) := by
  induction k with
  | zero => intro M h0 h1; rw [show M + 1 + ((0 : Nat) : Int) = M + 1 by omega, ms_step h0 (by omega)]; omega
  | succ k ih =>
    intro M h0 h1
    have a := ih M h0 (by omega)
    have b := ms_step (M := M + 1 + k) (by omega) (by omega)
    have c := mln_bd (M + 1 + k)
    rw [show M + 1 + ((k + 1 : Nat) : Int) = M + 1 + k + 1 by omega, b]
    omega
theorem ms_lt {M M' : Int} (h0 : 0 ≤ M) (h : M < M') (h1 : M' ≤ 1200) : ms M + mln M ≤ ms M' := by
  have := ms_lt_nat (M' - (M + 1)).toNat M h0 (by omega)
  rwa [show M + 1 + ((M' - (M + 1)).toNat : Int) = M' by omega] at this
theorem day_ms {n : Int} (h0 : 0 ≤ n) (h1 : n ≤ 36524) : 0 ≤ mi n ∧ mi n < 1200 ∧ n = ms (mi n) + dF n - 1 ∧ 1 ≤ dF n ∧ dF n ≤ mln (mi n) := by
  obtain ⟨a1, a2, a3, a4, a5, a6, a7⟩ := date_spec h0 h1
  have e1 : 2000 + mi n / 12 = yF n := by unfold mi; omega
  have e2 : mi n % 12 + 1 = mF n := by unfold mi; omega
  refine ⟨by unfold mi; omega, by unfold mi; omega, ?_, a5, ?_⟩
  · unfold ms; rw [e1, e2]; exact a7
  · unfold mln; rw [e1, e2]; exact a6
theorem of_ms {M d : Int} (h0 : 0 ≤ M) (h1 : M < 1200) (h2 : 1 ≤ d) (h3 : d ≤ mln M) : 0 ≤ ms M + d - 1 ∧ ms M + d - 1 ≤ 36524 ∧ mi (ms M + d - 1) = M ∧ dF (ms M + d - 1) = d := by
  have hd : IsDate (ms M + d - 1) (2000 + M / 12) (M % 12 + 1) d := ⟨by omega, by omega, by omega, by omega, h2, h3, by unfold ms; omega⟩
  obtain ⟨r1, r2, r3⟩ := date_of hd
  refine ⟨hd.range.1, hd.range.2, ?_, r3⟩
  unfold mi
  rw [r1, r2]
  omega
theorem am_ok {n k : Int} (h : amE n k = 0) : AmOk n k ∧ 0 ≤ mi n + k ∧ mi n + k < 1200 ∧ amV n k = ms (mi n + k) + min (dF n) (mln (mi n + k)) - 1 := by
  unfold amE at h
  by_cases c : AmOk n k
  · rw [if_pos c] at h
    by_cases c2 : 0 ≤ mi n + k ∧ mi n + k < 1200
    · exact ⟨c, c2.1, c2.2, by unfold amV; rw [if_pos ⟨c, c2⟩]⟩
    · rw [if_neg c2] at h; cases h
  · rw [if_neg c] at h; cases h
theorem am_mono {n n' k : Int} (hn : n ≤ n') (h : amE n k = 0) (h' : amE n' k = 0) : amV n k ≤ amV n' k := by
  obtain ⟨o, a1, a2, a3⟩ := am_ok h
  obtain ⟨o', b1, b2, b3⟩ := am_ok h'
  obtain ⟨c1, c2, c3, c4, c5⟩ := day_ms o.1 o.2.1
  obtain ⟨d1, d2, d3, d4, d5⟩ := day_ms o'.1 o'.2.1
  have l1 := mln_bd (mi n + k)
  have l2 := mln_bd (mi n' + k)
  rcases Int.lt_trichotomy (mi n) (mi n') with c | c | c
  · have := ms_lt (M := mi n + k) (M' := mi n' + k) a1 (by omega) (by omega)
    omega
  · rw [← c] at b3 d3
    rw [a3, b3]
    omega
  · have := ms_lt (M := mi n') (M' := mi n) d1 c (by omega)
    omega
theorem am_twice {n k j : Int} (h : amE n k = 0) (h2 : amE n (k + j) = 0) (h3 : amE (amV n k) j = 0) : amV (amV n k) j ≤ amV n (k + j) ∧ amV n (k + j) - amV (amV n k) j ≤ 3 := by
  obtain ⟨o, a1, a2, a3⟩ := am_ok h
  obtain ⟨_, b1, b2, b3⟩ := am_ok h2
  obtain ⟨_, e1, e2, e3⟩ := am_ok h3
  obtain ⟨c1, c2, c3, c4, c5⟩ := day_ms o.1 o.2.1
  have l1 := mln_bd (mi n + k)
  have l0 := mln_bd (mi n)
  obtain ⟨_, _, f1, f2⟩ := of_ms (M := mi n + k) (d := min (dF n) (mln (mi n + k))) a1 a2 (by omega) (by omega)
  rw [← a3] at f1 f2
  rw [f1, f2] at e3
  have l2 := mln_bd (mi n + k + j)
  rw [show mi n + (k + j) = mi n + k + j by omega] at b3
  rw [e3, b3]
  omega
theorem am_bd (n k : Int) : 0 ≤ amV n k ∧ amV n k ≤ 36524 := by
  by_cases h : amE n k = 0
  · exact amV_bd h
  · unfold amV
    by_cases c : AmOk n k ∧ 0 ≤ mi n + k ∧ mi n + k < 1200
    · unfold amE at h; rw [if_pos c.1, if_pos c.2] at h; exact absurd rfl h
    · rw [if_neg c]; omega

set_option maxRecDepth 100000 in
set_option maxHeartbeats 4000000 in
theorem lawMono (n0 r0 k0 j0 : Int) (w : World) (ht : MTab w) :
    Calls Tryd.prog 7 #[.int .i64 n0, .int .i64 r0, .int .i64 k0, .int .i64 j0] w fun e w' => e = .returned (.bool true) ∧ Below w.heap.size w w' := by
  have HM := Lib.hid (fun w => mday_any n0 w)
  have HW1 := Lib.hid (fun w => within_any r0 100 w (by omega) (by omega))
  have HW2 := Lib.hid (fun w => within_any k0 600 w (by omega) (by omega))
  have HW3 := Lib.hid (fun w => within_any j0 600 w (by omega) (by omega))
  have b1 := Int.emod_nonneg n0 (by omega : (36525 : Int) ≠ 0)
  have b2 := Int.emod_lt_of_pos n0 (by omega : (0 : Int) < 36525)
  have b3 := Int.emod_nonneg r0 (by omega : (100 : Int) ≠ 0)
  have b4 := Int.emod_lt_of_pos r0 (by omega : (0 : Int) < 100)
  have b5 := Int.emod_nonneg k0 (by omega : (600 : Int) ≠ 0)
  have b6 := Int.emod_lt_of_pos k0 (by omega : (0 : Int) < 600)
  have b7 := Int.emod_nonneg j0 (by omega : (600 : Int) ≠ 0)
  have b8 := Int.emod_lt_of_pos j0 (by omega : (0 : Int) < 600)
  generalize n0 % 36525 = n at *
  generalize r0 % 100 = r at *
  generalize k0 % 600 = k at *
  generalize j0 % 600 = j at *
  have HA := Lib.hid (fun w h => addMonths_any n k w h)
  have HB := Lib.hid (fun w h => addMonths_any (n + r) k w h)
  have HC := Lib.hid (fun w h => addMonths_any n (k + j) w h)
  have HD := Lib.hid (fun w h => addMonths_any (amV n k) j w h)
  have L1 := Lib.hid (am_mono (n := n) (n' := n + r) (k := k) (by omega))
  have L2 := Lib.hid (am_twice (n := n) (k := k) (j := j))
  have v1 := am_bd n k
  have v2 := am_bd (n + r) k
  have v3 := am_bd n (k + j)
  have v4 := am_bd (amV n k) j
  generalize amV (amV n k) j = vd at *
  generalize amE (amV n k) j = ed at *
  generalize amV n (k + j) = vc at *
  generalize amE n (k + j) = ec at *
  generalize amV (n + r) k = vb at *
  generalize amE (n + r) k = eb at *
  generalize amV n k = va at *
  generalize amE n k = ea at *
  by_cases ca : ea = 0
  · have ga : (ea == 0) = true := by simpa using ca
    have ga2 : (ea != 0) = false := by simpa using ca
    have KEY : ((eb == 0) = false) ∨ ((eb == 0) = true ∧ decide (vb < va) = false) := by
      by_cases cb : eb = 0
      · refine .inr ⟨by simpa using cb, ?_⟩
        have := L1.out ca cb
        simp
        omega
      · exact .inl (by simpa using cb)
    by_cases cc : ec = 0
    · have gc : (ec != 0) = false := by simpa using cc
      by_cases cd : ed = 0
      · have gd : (ed != 0) = false := by simpa using cd
        have hl := L2.out ca cc cd
        have g1 : decide (vd ≤ vc) = true := by simpa using hl.1
        have g2 : decide (vc - vd ≤ 3) = true := by simpa using hl.2
        clear L1 L2 ca cc cd hl
        rcases KEY with kb | ⟨kb, kc⟩
        · go_enter Tryd.func7, Tryd.ntmps7
          go_wp2_with fail
          refine (HM.out _).mono ?_
          rintro e w' ⟨rfl, rfl⟩
          go_wp2_with fail
          refine (HW1.out _).mono ?_
          rintro e w' ⟨rfl, rfl⟩
          go_wp2_with fail
          refine (HW2.out _).mono ?_
          rintro e w' ⟨rfl, rfl⟩
          go_wp2_with fail
          refine (HW3.out _).mono ?_
          rintro e w' ⟨rfl, rfl⟩
          go_wp2_with fail
          refine (HA.out _ ht).mono ?_
          rintro e w1 ⟨rfl, hb1⟩
          have ht1 := ht.below hb1
          go_wp2_with fail
          refine (HB.out _ ht1).mono ?_
          rintro e w2 ⟨rfl, hb2⟩
          have ht2 := ht1.below hb2
          go_wp2_with fail
          refine (HC.out _ ht2).mono ?_
          rintro e w3 ⟨rfl, hb3⟩
          have ht3 := ht2.below hb3
          go_wp2_with fail
          refine (HD.out _ ht3).mono ?_
          rintro e w4 ⟨rfl, hb4⟩
          have ht4 := ht3.below hb4
          have h02 := hb1.trans (hb2.mono hb1.size)
          have h03 := h02.trans (hb3.mono h02.size)
          have h04 := h03.trans (hb4.mono h03.size)
          go_wp2_with (go_at_call 17; refine (awake_any _ ht4).mono ?_; rintro e w5 ⟨rfl, hb5⟩)
          go_ret
          exact ⟨rfl, h04.trans (hb5.mono h04.size)⟩
        · go_enter Tryd.func7, Tryd.ntmps7
          go_wp2_with fail
          refine (HM.out _).mono ?_
          rintro e w' ⟨rfl, rfl⟩
          go_wp2_with fail
          refine (HW1.out _).mono ?_
          rintro e w' ⟨rfl, rfl⟩
          go_wp2_with fail
          refine (HW2.out _).mono ?_
          rintro e w' ⟨rfl, rfl⟩
          go_wp2_with fail
          refine (HW3.out _).mono ?_
          rintro e w' ⟨rfl, rfl⟩
          go_wp2_with fail
          refine (HA.out _ ht).mono ?_
          rintro e w1 ⟨rfl, hb1⟩
          have ht1 := ht.below hb1
          go_wp2_with fail
          refine (HB.out _ ht1).mono ?_
          rintro e w2 ⟨rfl, hb2⟩
          have ht2 := ht1.below hb2
          go_wp2_with fail
          refine (HC.out _ ht2).mono ?_
          rintro e w3 ⟨rfl, hb3⟩
          have ht3 := ht2.below hb3
          go_wp2_with fail
          refine (HD.out _ ht3).mono ?_
          rintro e w4 ⟨rfl, hb4⟩
          have ht4 := ht3.below hb4
          have h02 := hb1.trans (hb2.mono hb1.size)
          have h03 := h02.trans (hb3.mono h02.size)
          have h04 := h03.trans (hb4.mono h03.size)
          go_wp2_with (go_at_call 17; refine (awake_any _ ht4).mono ?_; rintro e w5 ⟨rfl, hb5⟩)
          go_ret
          exact ⟨rfl, h04.trans (hb5.mono h04.size)⟩
      · have gd : (ed != 0) = true := by simpa using cd
        clear L1 L2 ca cc cd
        rcases KEY with kb | ⟨kb, kc⟩
        · go_enter Tryd.func7, Tryd.ntmps7
          go_wp2_with fail
          refine (HM.out _).mono ?_
          rintro e w' ⟨rfl, rfl⟩
          go_wp2_with fail
          refine (HW1.out _).mono ?_
          rintro e w' ⟨rfl, rfl⟩
          go_wp2_with fail
          refine (HW2.out _).mono ?_
          rintro e w' ⟨rfl, rfl⟩
          go_wp2_with fail
          refine (HW3.out _).mono ?_
          rintro e w' ⟨rfl, rfl⟩
          go_wp2_with fail
          refine (HA.out _ ht).mono ?_
          rintro e w1 ⟨rfl, hb1⟩
          have ht1 := ht.below hb1
          go_wp2_with fail
          refine (HB.out _ ht1).mono ?_
          rintro e w2 ⟨rfl, hb2⟩
          have ht2 := ht1.below hb2
          go_wp2_with fail
          refine (HC.out _ ht2).mono ?_
          rintro e w3 ⟨rfl, hb3⟩
          have ht3 := ht2.below hb3
          go_wp2_with fail
          refine (HD.out _ ht3).mono ?_
          rintro e w4 ⟨rfl, hb4⟩
          have ht4 := ht3.below hb4
          have h02 := hb1.trans (hb2.mono hb1.size)
          have h03 := h02.trans (hb3.mono h02.size)
          have h04 := h03.trans (hb4.mono h03.size)
          go_wp2_with (go_at_call 17; refine (awake_any _ ht4).mono ?_; rintro e w5 ⟨rfl, hb5⟩)
          go_ret
          exact ⟨rfl, h04.trans (hb5.mono h04.size)⟩
        · go_enter Tryd.func7, Tryd.ntmps7
          go_wp2_with fail
          refine (HM.out _).mono ?_
          rintro e w' ⟨rfl, rfl⟩
          go_wp2_with fail
          refine (HW1.out _).mono ?_
          rintro e w' ⟨rfl, rfl⟩
          go_wp2_with fail
          refine (HW2.out _).mono ?_
          rintro e w' ⟨rfl, rfl⟩
          go_wp2_with fail
          refine (HW3.out _).mono ?_
          rintro e w' ⟨rfl, rfl⟩
          go_wp2_with fail
          refine (HA.out _ ht).mono ?_
          rintro e w1 ⟨rfl, hb1⟩
          have ht1 := ht.below hb1
          go_wp2_with fail
          refine (HB.out _ ht1).mono ?_
          rintro e w2 ⟨rfl, hb2⟩
          have ht2 := ht1.below hb2
          go_wp2_with fail
          refine (HC.out _ ht2).mono ?_
          rintro e w3 ⟨rfl, hb3⟩
          have ht3 := ht2.below hb3
          go_wp2_with fail
          refine (HD.out _ ht3).mono ?_
          rintro e w4 ⟨rfl, hb4⟩
          have ht4 := ht3.below hb4
          have h02 := hb1.trans (hb2.mono hb1.size)
          have h03 := h02.trans (hb3.mono h02.size)
          have h04 := h03.trans (hb4.mono h03.size)
          go_wp2_with (go_at_call 17; refine (awake_any _ ht4).mono ?_; rintro e w5 ⟨rfl, hb5⟩)
          go_ret
          exact ⟨rfl, h04.trans (hb5.mono h04.size)⟩
    · have gc : (ec != 0) = true := by simpa using cc
      clear L1 L2 ca cc
      rcases KEY with kb | ⟨kb, kc⟩
      · go_enter Tryd.func7, Tryd.ntmps7
        go_wp2_with fail
        refine (HM.out _).mono ?_
        rintro e w' ⟨rfl, rfl⟩
        go_wp2_with fail
        refine (HW1.out _).mono ?_
        rintro e w' ⟨rfl, rfl⟩
        go_wp2_with fail
        refine (HW2.out _).mono ?_
        rintro e w' ⟨rfl, rfl⟩
        go_wp2_with fail
        refine (HW3.out _).mono ?_
        rintro e w' ⟨rfl, rfl⟩
        go_wp2_with fail
        refine (HA.out _ ht).mono ?_
        rintro e w1 ⟨rfl, hb1⟩
        have ht1 := ht.below hb1
        go_wp2_with fail
        refine (HB.out _ ht1).mono ?_
        rintro e w2 ⟨rfl, hb2⟩
        have ht2 := ht1.below hb2
        go_wp2_with fail
        refine (HC.out _ ht2).mono ?_
        rintro e w3 ⟨rfl, hb3⟩
        have ht3 := ht2.below hb3
        go_wp2_with fail
        refine (HD.out _ ht3).mono ?_
        rintro e w4 ⟨rfl, hb4⟩
        have ht4 := ht3.below hb4
        have h02 := hb1.trans (hb2.mono hb1.size)
        have h03 := h02.trans (hb3.mono h02.size)
        have h04 := h03.trans (hb4.mono h03.size)
        go_wp2_with (go_at_call 17; refine (awake_any _ ht4).mono ?_; rintro e w5 ⟨rfl, hb5⟩)
        go_ret
        exact ⟨rfl, h04.trans (hb5.mono h04.size)⟩
      · go_enter Tryd.func7, Tryd.ntmps7
        go_wp2_with fail
        refine (HM.out _).mono ?_
        rintro e w' ⟨rfl, rfl⟩
        go_wp2_with fail
        refine (HW1.out _).mono ?_
        rintro e w' ⟨rfl, rfl⟩
        go_wp2_with fail
        refine (HW2.out _).mono ?_
        rintro e w' ⟨rfl, rfl⟩
        go_wp2_with fail
        refine (HW3.out _).mono ?_
        rintro e w' ⟨rfl, rfl⟩
        go_wp2_with fail
        refine (HA.out _ ht).mono ?_
        rintro e w1 ⟨rfl, hb1⟩
        have ht1 := ht.below hb1
        go_wp2_with fail
        refine (HB.out _ ht1).mono ?_
        rintro e w2 ⟨rfl, hb2⟩
        have ht2 := ht1.below hb2
        go_wp2_with fail
        refine (HC.out _ ht2).mono ?_
        rintro e w3 ⟨rfl, hb3⟩
        have ht3 := ht2.below hb3
        go_wp2_with fail
        refine (HD.out _ ht3).mono ?_
        rintro e w4 ⟨rfl, hb4⟩
        have ht4 := ht3.below hb4
        have h02 := hb1.trans (hb2.mono hb1.size)
        have h03 := h02.trans (hb3.mono h02.size)
        have h04 := h03.trans (hb4.mono h03.size)
        go_wp2_with (go_at_call 17; refine (awake_any _ ht4).mono ?_; rintro e w5 ⟨rfl, hb5⟩)
        go_ret
        exact ⟨rfl, h04.trans (hb5.mono h04.size)⟩
  · have ga : (ea == 0) = false := by simpa using ca
    have ga2 : (ea != 0) = true := by simpa using ca
    clear L1 L2 ca
    go_enter Tryd.func7, Tryd.ntmps7
    go_wp2_with fail
    refine (HM.out _).mono ?_
    rintro e w' ⟨rfl, rfl⟩
    go_wp2_with fail
    refine (HW1.out _).mono ?_
    rintro e w' ⟨rfl, rfl⟩
    go_wp2_with fail
    refine (HW2.out _).mono ?_
    rintro e w' ⟨rfl, rfl⟩
    go_wp2_with fail
    refine (HW3.out _).mono ?_
    rintro e w' ⟨rfl, rfl⟩
    go_wp2_with fail
    refine (HA.out _ ht).mono ?_
    rintro e w1 ⟨rfl, hb1⟩
    have ht1 := ht.below hb1
    go_wp2_with fail
    refine (HB.out _ ht1).mono ?_
    rintro e w2 ⟨rfl, hb2⟩
    have ht2 := ht1.below hb2
    go_wp2_with fail
    refine (HC.out _ ht2).mono ?_
    rintro e w3 ⟨rfl, hb3⟩
    have ht3 := ht2.below hb3
    go_wp2_with fail
    refine (HD.out _ ht3).mono ?_
    rintro e w4 ⟨rfl, hb4⟩
    have ht4 := ht3.below hb4
    have h02 := hb1.trans (hb2.mono hb1.size)
    have h03 := h02.trans (hb3.mono h02.size)
    have h04 := h03.trans (hb4.mono h03.size)
    go_wp2_with (go_at_call 17; refine (awake_any _ ht4).mono ?_; rintro e w5 ⟨rfl, hb5⟩)
    go_ret
    exact ⟨rfl, h04.trans (hb5.mono h04.size)⟩
namespace calendarMonthsMonotone
theorem walkCalendarMonthsMonotone (n r k j : Int) (w : World) (_ : -9223372036854775808 ≤ n ∧ n ≤ 9223372036854775807) (_ : -9223372036854775808 ≤ r ∧ r ≤ 9223372036854775807) (_ : -9223372036854775808 ≤ k ∧ k ≤ 9223372036854775807) (_ : -9223372036854775808 ≤ j ∧ j ≤ 9223372036854775807) (hL : laidMetH Tryd.prog Rows.calendarMonthsMonotoneRow.laid w) :
    Calls Tryd.prog 7 #[.int .i64 n, .int .i64 r, .int .i64 k, .int .i64 j] w fun e w' => e = .returned (.bool true) ∧ Below w.heap.size w w' :=
  lawMono n r k j w (mtab_of_laid hL)
end calendarMonthsMonotone
end Go.Proofs.YtkgemfmmkfllhaaDoor
