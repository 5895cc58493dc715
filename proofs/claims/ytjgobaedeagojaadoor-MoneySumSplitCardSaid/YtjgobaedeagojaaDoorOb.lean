/- Contract of the reference's DivMod. -/
import Derived.Test.YtjgobaedeagojaaDoorOa
namespace Go.Proofs.YtjgobaedeagojaaDoor
open Go.RowKit
set_option linter.unusedVariables false

theorem and63 : ∀ i : Fin 128, bits .and .i64 (i.val : Int) 63 = ((i.val % 64 : Nat) : Int) := by decide +kernel
theorem lo_bit (N i : Nat) (h : i < 64) : N / 2 ^ i % 2 = N % 18446744073709551616 / 2 ^ i % 2 := by
  have h1 := Nat.testBit_mod_two_pow N 64 i
  rw [Nat.testBit_eq_decide_div_mod_eq, Nat.testBit_eq_decide_div_mod_eq] at h1
  have h2 : (N % 2 ^ 64 / 2 ^ i % 2 = 1) ↔ (N / 2 ^ i % 2 = 1) := by simpa [h] using h1
  have h3 := Nat.mod_lt (N / 2 ^ i) (show 0 < 2 by omega)
  have h4 := Nat.mod_lt (N % 2 ^ 64 / 2 ^ i) (show 0 < 2 by omega)
  show _ = N % 2 ^ 64 / 2 ^ i % 2
  omega
theorem hi_bit (N j : Nat) : N / 2 ^ (j + 64) % 2 = N / 18446744073709551616 / 2 ^ j % 2 := by
  rw [Nat.div_div_eq_div_mul, Nat.mul_comm, ← show (2 : Nat) ^ 64 = 18446744073709551616 from rfl, ← Nat.pow_add]
theorem or_bit (r b : Nat) (hr : r * 2 < 18446744073709551616) (hb : b < 2) : bits .or .u64 ((r * 2 : Nat) : Int) (b : Int) = ((r * 2 + b : Nat) : Int) := by
  have h := bits_or_u64_nat (r * 2) b hr (by omega)
  rw [h]
  congr 1
  have := Nat.two_pow_add_eq_or_of_lt (i := 1) (b := b) (by omega) r
  rw [Nat.pow_one, Nat.mul_comm] at this
  exact this.symm
theorem or_even (X y : Nat) (h : (X + X) % 18446744073709551616 = y) : bits .or .u64 (y : Int) 1 = (y : Int) + 1 := by
  have h1 := or_bit (y / 2) 1 (by omega) (by omega)
  have e : y / 2 * 2 = y := by omega
  rw [e] at h1
  exact h1
theorem add_one_even (X : Nat) : (X + X + 1) / 18446744073709551616 = (X + X) / 18446744073709551616 ∧ (X + X + 1) % 18446744073709551616 = (X + X) % 18446744073709551616 + 1 := by omega
def DivRel (N c : Nat) (w : World) (g : Nat) (v7 v8 : Value) (wr : World) : Prop :=
  v7 = .int .u64 ((N / 2 ^ g % c : Nat) : Int) ∧ v8 = .int .i64 ((g : Int) - 1) ∧ g ≤ 128 ∧ WBox wr w.heap.size N ∧ WBox wr (w.heap.size + 2) (N / 2 ^ g / c) ∧ (∃ z1 z2, wr.heap[w.heap.size + 1]? = some (.cells [z1, z2].toArray 58 (0, 0))) ∧ Below w.heap.size w wr
set_option maxHeartbeats 4000000 in
theorem refDivMod_any (N c : Nat) (hN : N < 340282366920938463463374607431768211456) (hc0 : 1 ≤ c) (hc : c ≤ 1000000000000) (w : World) :
    Calls Tryd.prog 39 #[wideV N, .int .u64 (c : Int)] w fun e w' => e = .returned (.tuple #[wideV (N / c), .int .u64 ((N % c : Nat) : Int)]) ∧ Below w.heap.size w w' := by
  unfold wideV
  generalize hn1 : N / 18446744073709551616 = n1
  generalize hn0 : N % 18446744073709551616 = n0
  have HN := Lib.hid (And.intro hn1 hn0)
  clear hn1 hn0
  go_enter Tryd.func39, Tryd.ntmps39
  go_wp2
  go_loopg [7, 8] 128 (fun g v7 v8 wr => DivRel N c w g v7 v8 wr)
  case atStart =>
    have h0 : N / 2 ^ 128 = 0 := Nat.div_eq_of_lt hN
    refine ⟨by rw [h0, Nat.zero_mod]; rfl, rfl, Nat.le_refl _, ?_, ?_, ⟨.int .u64 0, .int .u64 0, ?_⟩, (((Below.refl _ w).alloc (Nat.le_refl _) _).alloc (by simp) _).alloc (by simp; omega) _⟩
    · unfold WBox
      rw [HN.out.1, HN.out.2]
      exact (heap_alloc_old _ _ (by simp; omega)).trans ((heap_alloc_old _ _ (by simp)).trans (heap_alloc_new w _))
    · unfold WBox
      rw [h0, Nat.zero_div]
      have := heap_alloc_new ((w.alloc (.cells #[.int .u64 (n1 : Int), .int .u64 (n0 : Int)] 58)).alloc (.cells #[.int .u64 0, .int .u64 0] 58)) (.cells #[.int .u64 0, .int .u64 0] 58)
      simpa using this
    · have := heap_alloc_new (w.alloc (.cells #[.int .u64 (n1 : Int), .int .u64 (n0 : Int)] 58)) (.cells #[.int .u64 0, .int .u64 0] 58)
      refine (heap_alloc_old _ _ (by simp)).trans ?_
      simpa using this
  case round =>
    obtain ⟨h7, hv, hg, hN0, hB, ⟨z1, z2, hZ⟩, hbl⟩ := hrel
    have HZ := Lib.hid hZ
    have HBL := Lib.hid hbl
    have HSZ := Lib.hid hbl.size
    have HBB := Lib.hid hB
    have HNB := Lib.hid hN0
    clear hZ hbl hB hN0
    cases gk with
    | zero =>
      obtain rfl : u8 = .int .i64 (-1) := by rw [hv]; rfl
      clear hv hg
      rw [Nat.pow_zero, Nat.div_one] at h7 HBB
      subst h7
      unfold WBox at HBB
      generalize hx1 : N / c / 18446744073709551616 = x1 at HBB ⊢
      generalize hx0 : N / c % 18446744073709551616 = x0 at HBB ⊢
      generalize hr : N % c = r
      have HX := Lib.hid (And.intro hx1 (And.intro hx0 hr))
      clear hx1 hx0 hr
      go_wp2_with (first
        | (refine at_load 58 (.tmp 6) rfl ?_; refine wpList_load_box rfl 58 (.tmp 6) rfl (w.heap.size + 1 + 1) 0 rfl [.int .u64 (x1 : Int), .int .u64 (x0 : Int)] [.int .u64 (x1 : Int), .int .u64 (x0 : Int)] _ HBB.out _ Tryd.underlying58 rfl 2 rfl rfl (by kernel_rfl) ?_)
        | (refine at_store 58 (.tmp 4) (.tmp 56) rfl ?_; refine wpList_store_box rfl 58 (.tmp 4) (.tmp 56) rfl (w.heap.size + 1) 0 (.agg #[.int .u64 (x1 : Int), .int .u64 (x0 : Int)]) #[.int .u64 (x1 : Int), .int .u64 (x0 : Int)] rfl rfl rfl _ [.int .u64 (x1 : Int), .int .u64 (x0 : Int)] _ HZ.out (Nat.le_of_ble_eq_true rfl) rfl (by kernel_rfl) (by rfl) ?_; intro W2 hB2 hbut2; have HBL2 := Lib.hid (HBL.out.but hbut2 (by omega)); have HB2 := Lib.hid hB2; clear hB2 hbut2))
      refine ret2 (k := 4) (j := 5) (g := w.heap.size + 1) (T := 58) Tryd.results39 rfl HB2.out Tryd.underlying58 (by kernel_rfl) rfl ⟨?_, HBL2.out⟩
      rw [HX.out.1, HX.out.2.1, HX.out.2.2]
      rfl
    | succ i =>
      obtain rfl : u8 = .int .i64 (i : Int) := by rw [hv]; congr 1; omega
      clear hv
      have hi : i < 128 := by omega
      clear hg
      have HS := Lib.hid (div_step N c i hc0)
      have HL := Lib.hid (Nat.mod_lt (N / 2 ^ (i + 1)) hc0)
      have HXB := Lib.hid (show N / 2 ^ (i + 1) / c < 170141183460469231731687303715884105728 by
        have h1 := Nat.div_le_self (N / 2 ^ (i + 1)) c
        have h2 : N / 2 ^ (i + 1) ≤ N / 2 := by rw [Nat.pow_succ, Nat.mul_comm, ← Nat.div_div_eq_div_mul]; exact Nat.div_le_self _ _
        omega)
      generalize hr : N / 2 ^ (i + 1) % c = r at h7 HS HL
      have h63 := and63 ⟨i, hi⟩
      simp only at h63
      generalize hk : i % 64 = k at h63
      have HK := Lib.hid hk
      subst h7
      clear hr hk
      have HNX := HNB
      unfold WBox at HNB
      rw [HN.out.1, HN.out.2] at HNB
      have hcn0 : wr.cell? ⟨w.heap.size, 0, none⟩ = some (.int .u64 (n1 : Int)) := by rw [cell_of_row _ _ _ _ _ _ HNB.out]; rfl
      have hcn1 : wr.cell? ⟨w.heap.size, 1, none⟩ = some (.int .u64 (n0 : Int)) := by rw [cell_of_row _ _ _ _ _ _ HNB.out]; rfl
      generalize N / 2 ^ (i + 1) / c = X at HS HXB HBB
      unfold WBox at HBB
      generalize hx1 : X / 18446744073709551616 = x1 at HBB
      generalize hx0 : X % 18446744073709551616 = x0 at HBB
      have HX := Lib.hid (And.intro hx1 hx0)
      clear hx1 hx0
      have HADD := Lib.hid (fun W => refAdd_any X X (by have := HXB.out; omega) W)
      unfold wideV at HADD
      rw [HX.out.1, HX.out.2] at HADD
      have HBT := Lib.hid (Nat.mod_lt (N / 2 ^ i) (show 0 < 2 by omega))
      have hlt := HL.out
      have htop : (r : Int) / 9223372036854775808 = 0 := by omega
      have hor := or_bit r (N / 2 ^ i % 2) (by omega) HBT.out
      have hwr : IntKind.u64.wrap ((r : Int) * 2) = ((r * 2 : Nat) : Int) := by rw [IntKind.wrap_u64]; omega
      have hor' := hor
      rw [show ((r * 2 : Nat) : Int) = (r : Int) * 2 by omega] at hor'
      rw [← hwr] at hor
      clear hwr
      generalize hrho : r * 2 + N / 2 ^ i % 2 = rho at hor hor'
      have HRHO : Hid (rho = 2 * r + N / 2 ^ i % 2) := by show _ = _; omega
      clear hrho hlt
      have F1 : True := trivial
      by_cases h64 : i < 64
      · have hbv := bit_val n0 i (by have := HN.out.2; omega)
        have e := lo_bit N i h64
        rw [HN.out.2] at e
        rw [← e] at hbv
        have e2 : i = min k 64 := by have := HK.out; omega
        rw [show (2 : Int) ^ i = 2 ^ (min k 64) by rw [← e2]] at hbv
        clear e e2
        generalize N / 2 ^ i % 2 = bt at hbv hor hor' HBT HRHO HS
        by_cases hcr : c ≤ rho
        · have hcr1 : decide ((c : Int) ≤ (rho : Int)) = true := by simpa using hcr
          have HCR := Lib.hid hcr
          clear hcr
          go_wp2_with (first
            | (refine at_load 58 (.tmp 6) rfl ?_; refine wpList_load_box rfl 58 (.tmp 6) rfl (w.heap.size + 1 + 1) 0 rfl [.int .u64 (x1 : Int), .int .u64 (x0 : Int)] [.int .u64 (x1 : Int), .int .u64 (x0 : Int)] _ HBB.out _ Tryd.underlying58 rfl 2 rfl rfl (by kernel_rfl) ?_)
            | (go_at_call 40; clear F1; refine (HADD.out _).mono ?_; rintro e W1 ⟨o1, rfl, hb1⟩; unfold wideV; have HB1 := Lib.hid ((hb1.block (w.heap.size + 1 + 1) (lt_of_block HBB.out)).trans HBB.out); generalize hy1 : (X + X) / 18446744073709551616 = y1; generalize hy0 : (X + X) % 18446744073709551616 = y0; have HY2 := Lib.hid (And.intro hy1 hy0); clear hy1; have hor2 := or_even X y0 hy0; clear hy0; have HBL1 := Lib.hid (HBL.out.trans (hb1.mono HSZ.out)); have HZ1 := Lib.hid ((hb1.block (w.heap.size + 1) (lt_of_block HZ.out)).trans HZ.out); have HN1 := Lib.hid ((hb1.block w.heap.size (lt_of_block HNX.out)).trans HNX.out))
            | (refine at_store 58 (.tmp 6) (.tmp 40) rfl ?_; refine wpList_store_box rfl 58 (.tmp 6) (.tmp 40) rfl (w.heap.size + 1 + 1) 0 (.agg #[.int .u64 (y1 : Int), .int .u64 (y0 : Int)]) #[.int .u64 (y1 : Int), .int .u64 (y0 : Int)] rfl rfl rfl _ [.int .u64 (y1 : Int), .int .u64 (y0 : Int)] _ HB1.out (Nat.le_of_ble_eq_true rfl) rfl (by kernel_rfl) (by rfl) ?_; intro W2 hB2 hbut2; have HBL2 := Lib.hid (HBL1.out.but hbut2 (by omega)); have HZ2 := Lib.hid ((hbut2.block (w.heap.size + 1) (by omega)).trans HZ1.out); have HN2 := Lib.hid ((hbut2.block w.heap.size (by omega)).trans HN1.out); have HB2 := Lib.hid hB2; clear hcn0 hcn1 hB2 hbut2 hb1 HBL1 HZ1 HB1 HBB HZ HBL HN1 HNX HNB)
            | (refine at_load 45 (.tmp 52) rfl ?_; refine wpList_load_one rfl 45 (.tmp 52) rfl (w.heap.size + 1 + 1) 1 rfl [.int .u64 (y1 : Int), .int .u64 (y0 : Int)] (.int .u64 (y0 : Int)) _ HB2.out rfl _ Tryd.underlying45 rfl ?_)
            | (refine at_store 45 (.tmp 55) (.tmp 54) rfl ?_; refine wpList_store_box rfl 45 (.tmp 55) (.tmp 54) rfl (w.heap.size + 1 + 1) 1 (.int .u64 ((y0 : Int) + 1)) #[.int .u64 ((y0 : Int) + 1)] rfl rfl rfl _ [.int .u64 (y1 : Int), .int .u64 ((y0 : Int) + 1)] _ HB2.out (Nat.le_of_ble_eq_true rfl) rfl (by kernel_rfl) (by rfl) ?_; intro W4 hB4 hbut4; have HBL4 := Lib.hid (HBL2.out.but hbut4 (by omega)); have HZ4 := Lib.hid ((hbut4.block (w.heap.size + 1) (by omega)).trans HZ2.out); have HN4 := Lib.hid ((hbut4.block w.heap.size (by omega)).trans HN2.out); have HB4 := Lib.hid hB4; clear hB4 hbut4 HBL2 HZ2 HN2 HB2))
          go_roundg i
          case measure => omega
          case rel =>
            have e := HS.out
            rw [← HRHO.out, if_pos HCR.out, if_pos HCR.out] at e
            refine ⟨?_, rfl, by omega, HN4.out, ?_, ⟨z1, z2, HZ4.out⟩, HBL4.out⟩
            · rw [e.2]
              have := HCR.out
              have := HL.out
              have := HBT.out
              have := HRHO.out
              congr 1
              try rw [IntKind.wrap_u64]
              omega
            · unfold WBox
              rw [e.1, show 2 * X + 1 = X + X + 1 by omega, (add_one_even X).1, (add_one_even X).2, HY2.out.1, HY2.out.2]
              exact HB4.out
        · have hcr1 : decide ((c : Int) ≤ (rho : Int)) = false := by simpa using hcr
          have HCR := Lib.hid hcr
          clear hcr
          go_wp2_with (first
            | (refine at_load 58 (.tmp 6) rfl ?_; refine wpList_load_box rfl 58 (.tmp 6) rfl (w.heap.size + 1 + 1) 0 rfl [.int .u64 (x1 : Int), .int .u64 (x0 : Int)] [.int .u64 (x1 : Int), .int .u64 (x0 : Int)] _ HBB.out _ Tryd.underlying58 rfl 2 rfl rfl (by kernel_rfl) ?_)
            | (go_at_call 40; clear F1; refine (HADD.out _).mono ?_; rintro e W1 ⟨o1, rfl, hb1⟩; unfold wideV; have HB1 := Lib.hid ((hb1.block (w.heap.size + 1 + 1) (lt_of_block HBB.out)).trans HBB.out); generalize hy1 : (X + X) / 18446744073709551616 = y1; generalize hy0 : (X + X) % 18446744073709551616 = y0; have HY2 := Lib.hid (And.intro hy1 hy0); clear hy1; have hor2 := or_even X y0 hy0; clear hy0; have HBL1 := Lib.hid (HBL.out.trans (hb1.mono HSZ.out)); have HZ1 := Lib.hid ((hb1.block (w.heap.size + 1) (lt_of_block HZ.out)).trans HZ.out); have HN1 := Lib.hid ((hb1.block w.heap.size (lt_of_block HNX.out)).trans HNX.out))
            | (refine at_store 58 (.tmp 6) (.tmp 40) rfl ?_; refine wpList_store_box rfl 58 (.tmp 6) (.tmp 40) rfl (w.heap.size + 1 + 1) 0 (.agg #[.int .u64 (y1 : Int), .int .u64 (y0 : Int)]) #[.int .u64 (y1 : Int), .int .u64 (y0 : Int)] rfl rfl rfl _ [.int .u64 (y1 : Int), .int .u64 (y0 : Int)] _ HB1.out (Nat.le_of_ble_eq_true rfl) rfl (by kernel_rfl) (by rfl) ?_; intro W2 hB2 hbut2; have HBL2 := Lib.hid (HBL1.out.but hbut2 (by omega)); have HZ2 := Lib.hid ((hbut2.block (w.heap.size + 1) (by omega)).trans HZ1.out); have HN2 := Lib.hid ((hbut2.block w.heap.size (by omega)).trans HN1.out); have HB2 := Lib.hid hB2; clear hcn0 hcn1 hB2 hbut2 hb1 HBL1 HZ1 HB1 HBB HZ HBL HN1 HNX HNB))
          go_roundg i
          case measure => omega
          case rel =>
            have e := HS.out
            rw [← HRHO.out, if_neg HCR.out, if_neg HCR.out] at e
            refine ⟨?_, rfl, by omega, HN2.out, ?_, ⟨z1, z2, HZ2.out⟩, HBL2.out⟩
            · rw [e.2]
            · unfold WBox
              rw [e.1, show 2 * X + 0 = X + X by omega, HY2.out.1, HY2.out.2]
              exact HB2.out
      · obtain ⟨j, rfl⟩ : ∃ j, i = j + 64 := ⟨i - 64, by omega⟩
        have hbv := bit_val n1 j (by have := HN.out.1; omega)
        have e := hi_bit N j
        rw [HN.out.1] at e
        rw [← e] at hbv
        clear e
        generalize N / 2 ^ (j + 64) % 2 = bt at hbv hor hor' HBT HRHO HS
        rw [show ((j + 64 : Nat) : Int) = (j : Int) + 64 by omega] at h63
        have hi2 : j < 64 := by omega
        generalize hii : j + 64 = i at *
        have hii2 : (i : Int) = (j : Int) + 64 := by omega
        rw [hii2]
        have HII := Lib.hid hii
        clear hii hii2
        by_cases hcr : c ≤ rho
        · have hcr1 : decide ((c : Int) ≤ (rho : Int)) = true := by simpa using hcr
          have HCR := Lib.hid hcr
          clear hcr
          go_wp2_with (first
            | (refine at_load 58 (.tmp 6) rfl ?_; refine wpList_load_box rfl 58 (.tmp 6) rfl (w.heap.size + 1 + 1) 0 rfl [.int .u64 (x1 : Int), .int .u64 (x0 : Int)] [.int .u64 (x1 : Int), .int .u64 (x0 : Int)] _ HBB.out _ Tryd.underlying58 rfl 2 rfl rfl (by kernel_rfl) ?_)
            | (go_at_call 40; clear F1; refine (HADD.out _).mono ?_; rintro e W1 ⟨o1, rfl, hb1⟩; unfold wideV; have HB1 := Lib.hid ((hb1.block (w.heap.size + 1 + 1) (lt_of_block HBB.out)).trans HBB.out); generalize hy1 : (X + X) / 18446744073709551616 = y1; generalize hy0 : (X + X) % 18446744073709551616 = y0; have HY2 := Lib.hid (And.intro hy1 hy0); clear hy1; have hor2 := or_even X y0 hy0; clear hy0; have HBL1 := Lib.hid (HBL.out.trans (hb1.mono HSZ.out)); have HZ1 := Lib.hid ((hb1.block (w.heap.size + 1) (lt_of_block HZ.out)).trans HZ.out); have HN1 := Lib.hid ((hb1.block w.heap.size (lt_of_block HNX.out)).trans HNX.out))
            | (refine at_store 58 (.tmp 6) (.tmp 40) rfl ?_; refine wpList_store_box rfl 58 (.tmp 6) (.tmp 40) rfl (w.heap.size + 1 + 1) 0 (.agg #[.int .u64 (y1 : Int), .int .u64 (y0 : Int)]) #[.int .u64 (y1 : Int), .int .u64 (y0 : Int)] rfl rfl rfl _ [.int .u64 (y1 : Int), .int .u64 (y0 : Int)] _ HB1.out (Nat.le_of_ble_eq_true rfl) rfl (by kernel_rfl) (by rfl) ?_; intro W2 hB2 hbut2; have HBL2 := Lib.hid (HBL1.out.but hbut2 (by omega)); have HZ2 := Lib.hid ((hbut2.block (w.heap.size + 1) (by omega)).trans HZ1.out); have HN2 := Lib.hid ((hbut2.block w.heap.size (by omega)).trans HN1.out); have HB2 := Lib.hid hB2; clear hcn0 hcn1 hB2 hbut2 hb1 HBL1 HZ1 HB1 HBB HZ HBL HN1 HNX HNB)
            | (refine at_load 45 (.tmp 52) rfl ?_; refine wpList_load_one rfl 45 (.tmp 52) rfl (w.heap.size + 1 + 1) 1 rfl [.int .u64 (y1 : Int), .int .u64 (y0 : Int)] (.int .u64 (y0 : Int)) _ HB2.out rfl _ Tryd.underlying45 rfl ?_)
            | (refine at_store 45 (.tmp 55) (.tmp 54) rfl ?_; refine wpList_store_box rfl 45 (.tmp 55) (.tmp 54) rfl (w.heap.size + 1 + 1) 1 (.int .u64 ((y0 : Int) + 1)) #[.int .u64 ((y0 : Int) + 1)] rfl rfl rfl _ [.int .u64 (y1 : Int), .int .u64 ((y0 : Int) + 1)] _ HB2.out (Nat.le_of_ble_eq_true rfl) rfl (by kernel_rfl) (by rfl) ?_; intro W4 hB4 hbut4; have HBL4 := Lib.hid (HBL2.out.but hbut4 (by omega)); have HZ4 := Lib.hid ((hbut4.block (w.heap.size + 1) (by omega)).trans HZ2.out); have HN4 := Lib.hid ((hbut4.block w.heap.size (by omega)).trans HN2.out); have HB4 := Lib.hid hB4; clear hB4 hbut4 HBL2 HZ2 HN2 HB2))
          go_roundg i
          case measure => omega
          case rel =>
            have e := HS.out
            rw [← HRHO.out, if_pos HCR.out, if_pos HCR.out] at e
            refine ⟨?_, by (congr 1; have := HII.out; omega), by omega, HN4.out, ?_, ⟨z1, z2, HZ4.out⟩, HBL4.out⟩
            · rw [e.2]
              have := HCR.out
              have := HL.out
              have := HBT.out
              have := HRHO.out
              congr 1
              try rw [IntKind.wrap_u64]
              omega
            · unfold WBox
              rw [e.1, show 2 * X + 1 = X + X + 1 by omega, (add_one_even X).1, (add_one_even X).2, HY2.out.1, HY2.out.2]
              exact HB4.out
        · have hcr1 : decide ((c : Int) ≤ (rho : Int)) = false := by simpa using hcr
          have HCR := Lib.hid hcr
          clear hcr
          go_wp2_with (first
            | (refine at_load 58 (.tmp 6) rfl ?_; refine wpList_load_box rfl 58 (.tmp 6) rfl (w.heap.size + 1 + 1) 0 rfl [.int .u64 (x1 : Int), .int .u64 (x0 : Int)] [.int .u64 (x1 : Int), .int .u64 (x0 : Int)] _ HBB.out _ Tryd.underlying58 rfl 2 rfl rfl (by kernel_rfl) ?_)
            | (go_at_call 40; clear F1; refine (HADD.out _).mono ?_; rintro e W1 ⟨o1, rfl, hb1⟩; unfold wideV; have HB1 := Lib.hid ((hb1.block (w.heap.size + 1 + 1) (lt_of_block HBB.out)).trans HBB.out); generalize hy1 : (X + X) / 18446744073709551616 = y1; generalize hy0 : (X + X) % 18446744073709551616 = y0; have HY2 := Lib.hid (And.intro hy1 hy0); clear hy1; have hor2 := or_even X y0 hy0; clear hy0; have HBL1 := Lib.hid (HBL.out.trans (hb1.mono HSZ.out)); have HZ1 := Lib.hid ((hb1.block (w.heap.size + 1) (lt_of_block HZ.out)).trans HZ.out); have HN1 := Lib.hid ((hb1.block w.heap.size (lt_of_block HNX.out)).trans HNX.out))
            | (refine at_store 58 (.tmp 6) (.tmp 40) rfl ?_; refine wpList_store_box rfl 58 (.tmp 6) (.tmp 40) rfl (w.heap.size + 1 + 1) 0 (.agg #[.int .u64 (y1 : Int), .int .u64 (y0 : Int)]) #[.int .u64 (y1 : Int), .int .u64 (y0 : Int)] rfl rfl rfl _ [.int .u64 (y1 : Int), .int .u64 (y0 : Int)] _ HB1.out (Nat.le_of_ble_eq_true rfl) rfl (by kernel_rfl) (by rfl) ?_; intro W2 hB2 hbut2; have HBL2 := Lib.hid (HBL1.out.but hbut2 (by omega)); have HZ2 := Lib.hid ((hbut2.block (w.heap.size + 1) (by omega)).trans HZ1.out); have HN2 := Lib.hid ((hbut2.block w.heap.size (by omega)).trans HN1.out); have HB2 := Lib.hid hB2; clear hcn0 hcn1 hB2 hbut2 hb1 HBL1 HZ1 HB1 HBB HZ HBL HN1 HNX HNB))
          go_roundg i
          case measure => omega
          case rel =>
            have e := HS.out
            rw [← HRHO.out, if_neg HCR.out, if_neg HCR.out] at e
            refine ⟨?_, by (congr 1; have := HII.out; omega), by omega, HN2.out, ?_, ⟨z1, z2, HZ2.out⟩, HBL2.out⟩
            · rw [e.2]
            · unfold WBox
              rw [e.1, show 2 * X + 0 = X + X by omega, HY2.out.1, HY2.out.2]
              exact HB2.out
end Go.Proofs.YtjgobaedeagojaaDoor
