/- The law WorkingSteps: plain law and walk. -/
import Derived.Test.YtkgemfmmkfllhaaDoorCm
namespace Go.Proofs.YtkgemfmmkfllhaaDoor
open Go.RowKit
set_option linter.unusedVariables false

theorem aw_comp (l : List Int) : ∀ (F : Nat) (d n k : Int), (36524 - d).toNat = F → 0 ≤ d → d ≤ 36524 → 0 ≤ n → 0 ≤ k →
    ((awS l F d n).2 ≠ 0 → (awS l F d (n + k)).2 = (awS l F d n).2) ∧
    ((awS l F d n).2 = 0 → (d ≤ (awS l F d n).1 ∧ (awS l F d n).1 ≤ 36524) ∧ awS l F d (n + k) = awS l (36524 - (awS l F d n).1).toNat (awS l F d n).1 k) := by
  intro F
  induction F with
  | zero =>
    intro d n k hF h0 h1 hn hk
    by_cases c : n ≤ 0
    · have e : awS l 0 d n = (d, 0) := by simp [awS, c]
      have e2 : n + k = k := by omega
      rw [e, e2]
      refine ⟨fun h => absurd rfl h, fun _ => ⟨⟨Int.le_refl _, h1⟩, ?_⟩⟩
      show awS l 0 d k = awS l (36524 - d).toNat d k
      rw [hF]
    · have e : awS l 0 d n = (0, 3) := by simp [awS, c]
      have e2 : awS l 0 d (n + k) = (0, 3) := by unfold awS; rw [if_neg (by omega)]
      rw [e, e2]
      exact ⟨fun _ => rfl, fun h => absurd h (by decide)⟩
  | succ F ih =>
    intro d n k hF h0 h1 hn hk
    by_cases c : n ≤ 0
    · have e : awS l (F + 1) d n = (d, 0) := by simp [awS, c]
      have e2 : n + k = k := by omega
      rw [e, e2]
      refine ⟨fun h => absurd rfl h, fun _ => ⟨⟨Int.le_refl _, h1⟩, ?_⟩⟩
      show awS l (F + 1) d k = awS l (36524 - d).toNat d k
      rw [hF]
    · cases hw : workB l (d + 1) with
      | true =>
        have e : awS l (F + 1) d n = awS l F (d + 1) (n - 1) := by conv => lhs; unfold awS
                                                                   rw [if_neg c, if_pos hw]
        have e2 : awS l (F + 1) d (n + k) = awS l F (d + 1) (n - 1 + k) := by conv => lhs; unfold awS
                                                                              rw [if_neg (by omega), if_pos hw, show n + k - 1 = n - 1 + k by omega]
        have := ih (d + 1) (n - 1) k (by omega) (by omega) (by omega) (by omega) hk
        rw [e, e2]
        exact ⟨this.1, fun h => ⟨⟨by have := (this.2 h).1.1; omega, (this.2 h).1.2⟩, (this.2 h).2⟩⟩
      | false =>
        have e : awS l (F + 1) d n = awS l F (d + 1) n := by conv => lhs; unfold awS
                                                             rw [if_neg c, if_neg (by simp [hw])]
        have e2 : awS l (F + 1) d (n + k) = awS l F (d + 1) (n + k) := by conv => lhs; unfold awS
                                                                          rw [if_neg (by omega), if_neg (by simp [hw])]
        have := ih (d + 1) n k (by omega) (by omega) (by omega) (by omega) hk
        rw [e, e2]
        exact ⟨this.1, fun h => ⟨⟨by have := (this.2 h).1.1; omega, (this.2 h).1.2⟩, (this.2 h).2⟩⟩
theorem awF_eq {l : List Int} {d n : Int} (hv : validE l = 0) (h0 : 0 ≤ d) (h1 : d ≤ 36524) (hn : 0 ≤ n) (hn2 : n ≤ 1000) : awF l d n = awS l (36524 - d).toNat d n := by
  unfold awF
  rw [if_neg (by simp [hv]), if_pos ⟨(dayB_iff d).2 ⟨h0, h1⟩, hn, hn2⟩]
theorem steps_bad (l : List Int) (d n k : Int) (h0 : 0 ≤ d) (h1 : d ≤ 36524) (hn : 0 ≤ n) (hn2 : n < 40) (hk : 0 ≤ k) (hk2 : k < 40) (hf : (awF l d n).2 ≠ 0) : (awF l d (n + k)).2 = (awF l d n).2 := by
  by_cases hv : validE l = 0
  · rw [awF_eq hv h0 h1 hn (by omega)] at hf
    rw [awF_eq hv h0 h1 hn (by omega), awF_eq hv h0 h1 (by omega) (by omega)]
    exact (aw_comp l _ d n k rfl h0 h1 hn hk).1 hf
  · unfold awF
    rw [if_pos hv, if_pos hv]
theorem steps_good (l : List Int) (d n k : Int) (h0 : 0 ≤ d) (h1 : d ≤ 36524) (hn : 0 ≤ n) (hn2 : n < 40) (hk : 0 ≤ k) (hk2 : k < 40) (hf : (awF l d n).2 = 0) : awF l d (n + k) = awF l (awF l d n).1 k := by
  by_cases hv : validE l = 0
  · rw [awF_eq hv h0 h1 hn (by omega)] at hf
    obtain ⟨⟨a1, a2⟩, a3⟩ := (aw_comp l _ d n k rfl h0 h1 hn hk).2 hf
    rw [awF_eq hv h0 h1 hn (by omega), awF_eq hv h0 h1 (by omega) (by omega), awF_eq hv (by omega) a2 hk (by omega)]
    exact a3
  · exfalso
    unfold awF at hf
    rw [if_pos hv] at hf
    exact hv hf

set_option maxHeartbeats 4000000 in
theorem lawSteps (A : Option Addr) (c : Nat) (l : List Int) (x y z : Int) (w : World) (hs : Rd w A (ints l)) (hl : l.length ≤ c) (hc : c ≤ 17592186044416) (ht : MTab w) :
    Calls Tryd.prog 9 #[.slice A l.length c, .int .i64 x, .int .i64 y, .int .i64 z] w fun e w' => e = .returned (.bool true) ∧ Below w.heap.size w w' := by
  have hs2 : Rd w A (ints (l.take 100)) := by have := hs.take 100; rwa [ints, ← List.map_take] at this
  have HH := holidays_any A c (l.take 100) w hs2 (by rw [List.length_take]; omega) hc
  have HD := Lib.hid (fun w => mday_any x w)
  have HY := Lib.hid (fun w => within_any y 40 w (by omega) (by omega))
  have HZ := Lib.hid (fun w => within_any z 40 w (by omega) (by omega))
  have b1 := Int.emod_nonneg x (by omega : (36525 : Int) ≠ 0)
  have b2 := Int.emod_lt_of_pos x (by omega : (0 : Int) < 36525)
  have b3 := Int.emod_nonneg y (by omega : (40 : Int) ≠ 0)
  have b4 := Int.emod_lt_of_pos y (by omega : (0 : Int) < 40)
  have b5 := Int.emod_nonneg z (by omega : (40 : Int) ≠ 0)
  have b6 := Int.emod_lt_of_pos z (by omega : (0 : Int) < 40)
  generalize x % 36525 = d at HD b1 b2
  generalize y % 40 = n at HY b3 b4
  generalize z % 40 = k at HZ b5 b6
  have L1 := Lib.hid (fun h => steps_bad h d n k b1 (by omega) b3 b4 b5 b6)
  have L2 := Lib.hid (fun h => steps_good h d n k b1 (by omega) b3 b4 b5 b6)
  have core : ∃ N : Nat, (N = if 100 < l.length then 100 else l.length) ∧ (l.take 100).length = N := ⟨_, rfl, by rw [List.length_take]; split <;> omega⟩
  obtain ⟨N, hN1, hN2⟩ := core
  rw [hN2] at HH
  have HHH := Lib.hid HH
  clear HH hs2 hs hN2
  by_cases h100 : 100 < l.length
  · rw [if_pos h100] at hN1
    subst hN1
    have hr : ∀ W, (Instr.slice 38 (.slice A l.length c) none (some (.int .i64 100)) none).run Tryd.prog W = .ok (.slice A 100 c) W := fun W => run_head W A l.length c 100 (by omega)
    go_enter Tryd.func9, Tryd.ntmps9
    go_wp2_with fail
    refine HHH.out.mono ?_
    rintro e w1 ⟨v, m, rfl, hm, hNu, hb1⟩
    obtain ⟨A', c', h, rfl, rfl, hR, hcap, hmax⟩ := hNu.shape
    clear hr h100 hNu HHH
    have ht1 := ht.below hb1
    have hlen : h.length ≤ 17592186044416 := by omega
    have HA1 := Lib.hid (fun W (q : Quiet w1 W) => addWorking_any A' c' h d (n + k) W (q.rd hR) hlen)
    have HA2 := Lib.hid (fun W (q : Quiet w1 W) => addWorking_any A' c' h d n W (q.rd hR) hlen)
    have HA3 := Lib.hid (fun W (q : Quiet w1 W) => addWorking_any A' c' h (awF h d n).1 k W (q.rd hR) hlen)
    have HAW := Lib.hid (fun W (q : Quiet w1 W) => awake_any W (ht1.below (q.below _)))
    have HFIN := Lib.hid (fun W W' (q : Quiet w1 W) (hb : Below W.heap.size W W') => (hb1.trans (q.below _)).trans (hb.mono (hb1.trans (q.below _)).size))
    by_cases hf : (awF h d n).2 = 0
    · have E := L2.out h hf
      rw [E] at HA1
      clear E L1 L2
      generalize awF h d n = P at HA2 HA3 HA1 hf
      obtain ⟨p1, p2⟩ := P
      simp only at HA1 HA2 HA3 hf
      subst hf
      generalize awF h p1 k = R at HA1 HA3
      obtain ⟨r1, r2⟩ := R
      simp only at HA1 HA3
      go_wp2_with fail
      refine (HD.out _).mono ?_
      rintro e w' ⟨rfl, rfl⟩
      go_wp2_with fail
      refine (HY.out _).mono ?_
      rintro e w' ⟨rfl, rfl⟩
      go_wp2_with fail
      refine (HZ.out _).mono ?_
      rintro e w' ⟨rfl, rfl⟩
      go_wp2_with fail
      refine (HA1.out _ (Quiet.refl _)).mono ?_
      rintro e w2 ⟨rfl, q2⟩
      go_wp2_with fail
      refine (HA2.out _ q2).mono ?_
      rintro e w3 ⟨rfl, q3⟩
      have q13 := q2.trans q3
      go_wp2_with fail
      refine (HA3.out _ q13).mono ?_
      rintro e w4 ⟨rfl, q4⟩
      have q14 := q13.trans q4
      go_wp2_with fail
      refine (HAW.out _ q14).mono ?_
      rintro e w5 ⟨rfl, hb5⟩
      go_wp2_with fail
      go_ret
      exact ⟨rfl, HFIN.out _ _ q14 hb5⟩
    · have E := L1.out h hf
      rw [E] at HA1
      clear E L1 L2 HA3
      generalize awF h d n = P at HA2 HA1 hf
      obtain ⟨p1, p2⟩ := P
      simp only at HA1 HA2 hf
      have hf2 : (p2 != 0) = true := by simpa using hf
      clear hf
      generalize (awF h d (n + k)).1 = r1 at HA1
      go_wp2_with fail
      refine (HD.out _).mono ?_
      rintro e w' ⟨rfl, rfl⟩
      go_wp2_with fail
      refine (HY.out _).mono ?_
      rintro e w' ⟨rfl, rfl⟩
      go_wp2_with fail
      refine (HZ.out _).mono ?_
      rintro e w' ⟨rfl, rfl⟩
      go_wp2_with fail
      refine (HA1.out _ (Quiet.refl _)).mono ?_
      rintro e w2 ⟨rfl, q2⟩
      go_wp2_with fail
      refine (HA2.out _ q2).mono ?_
      rintro e w3 ⟨rfl, q3⟩
      have q13 := q2.trans q3
      go_wp2_with fail
      refine (HAW.out _ q13).mono ?_
      rintro e w5 ⟨rfl, hb5⟩
      go_wp2_with fail
      go_ret
      exact ⟨rfl, HFIN.out _ _ q13 hb5⟩
  · have h2 : l.length ≤ 100 := by omega
    rw [if_neg h100] at hN1
    subst hN1
    clear h100
    go_enter Tryd.func9, Tryd.ntmps9
    go_wp2_with fail
    refine HHH.out.mono ?_
    rintro e w1 ⟨v, m, rfl, hm, hNu, hb1⟩
    obtain ⟨A', c', h, rfl, rfl, hR, hcap, hmax⟩ := hNu.shape
    clear hNu HHH
    have ht1 := ht.below hb1
    have hlen : h.length ≤ 17592186044416 := by omega
    have HA1 := Lib.hid (fun W (q : Quiet w1 W) => addWorking_any A' c' h d (n + k) W (q.rd hR) hlen)
    have HA2 := Lib.hid (fun W (q : Quiet w1 W) => addWorking_any A' c' h d n W (q.rd hR) hlen)
    have HA3 := Lib.hid (fun W (q : Quiet w1 W) => addWorking_any A' c' h (awF h d n).1 k W (q.rd hR) hlen)
    have HAW := Lib.hid (fun W (q : Quiet w1 W) => awake_any W (ht1.below (q.below _)))
    have HFIN := Lib.hid (fun W W' (q : Quiet w1 W) (hb : Below W.heap.size W W') => (hb1.trans (q.below _)).trans (hb.mono (hb1.trans (q.below _)).size))
    by_cases hf : (awF h d n).2 = 0
    · have E := L2.out h hf
      rw [E] at HA1
      clear E L1 L2
      generalize awF h d n = P at HA2 HA3 HA1 hf
      obtain ⟨p1, p2⟩ := P
      simp only at HA1 HA2 HA3 hf
      subst hf
      generalize awF h p1 k = R at HA1 HA3
      obtain ⟨r1, r2⟩ := R
      simp only at HA1 HA3
      go_wp2_with fail
      refine (HD.out _).mono ?_
      rintro e w' ⟨rfl, rfl⟩
      go_wp2_with fail
      refine (HY.out _).mono ?_
      rintro e w' ⟨rfl, rfl⟩
      go_wp2_with fail
      refine (HZ.out _).mono ?_
      rintro e w' ⟨rfl, rfl⟩
      go_wp2_with fail
      refine (HA1.out _ (Quiet.refl _)).mono ?_
      rintro e w2 ⟨rfl, q2⟩
      go_wp2_with fail
      refine (HA2.out _ q2).mono ?_
      rintro e w3 ⟨rfl, q3⟩
      have q13 := q2.trans q3
      go_wp2_with fail
      refine (HA3.out _ q13).mono ?_
      rintro e w4 ⟨rfl, q4⟩
      have q14 := q13.trans q4
      go_wp2_with fail
      refine (HAW.out _ q14).mono ?_
      rintro e w5 ⟨rfl, hb5⟩
      go_wp2_with fail
      go_ret
      exact ⟨rfl, HFIN.out _ _ q14 hb5⟩
    · have E := L1.out h hf
      rw [E] at HA1
      clear E L1 L2 HA3
      generalize awF h d n = P at HA2 HA1 hf
      obtain ⟨p1, p2⟩ := P
      simp only at HA1 HA2 hf
      have hf2 : (p2 != 0) = true := by simpa using hf
      clear hf
      generalize (awF h d (n + k)).1 = r1 at HA1
      go_wp2_with fail
      refine (HD.out _).mono ?_
      rintro e w' ⟨rfl, rfl⟩
      go_wp2_with fail
      refine (HY.out _).mono ?_
      rintro e w' ⟨rfl, rfl⟩
      go_wp2_with fail
      refine (HZ.out _).mono ?_
      rintro e w' ⟨rfl, rfl⟩
      go_wp2_with fail
      refine (HA1.out _ (Quiet.refl _)).mono ?_
      rintro e w2 ⟨rfl, q2⟩
      go_wp2_with fail
      refine (HA2.out _ q2).mono ?_
      rintro e w3 ⟨rfl, q3⟩
      have q13 := q2.trans q3
      go_wp2_with fail
      refine (HAW.out _ q13).mono ?_
      rintro e w5 ⟨rfl, hb5⟩
      go_wp2_with fail
      go_ret
      exact ⟨rfl, HFIN.out _ _ q13 hb5⟩
namespace calendarWorkingSteps
theorem walkCalendarWorkingSteps (A : Option Addr) (c : Nat) (l : List Int) (x y z : Int) (w : World) (hS : SlI w A c l) (_ : -9223372036854775808 ≤ x ∧ x ≤ 9223372036854775807) (_ : -9223372036854775808 ≤ y ∧ y ≤ 9223372036854775807) (_ : -9223372036854775808 ≤ z ∧ z ≤ 9223372036854775807) (hL : laidMetH Tryd.prog Rows.calendarWorkingStepsRow.laid w) :
    Calls Tryd.prog 9 #[.slice A l.length c, .int .i64 x, .int .i64 y, .int .i64 z] w fun e w' => e = .returned (.bool true) ∧ Below w.heap.size w w' :=
  lawSteps A c l x y z w hS.rd hS.le (by have := hS.max; omega) (mtab_of_laid hL)
end calendarWorkingSteps
end Go.Proofs.YtkgemfmmkfllhaaDoor
