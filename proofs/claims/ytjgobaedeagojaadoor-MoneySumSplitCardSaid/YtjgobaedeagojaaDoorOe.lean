/- Contracts of package exact: Mul, raised, Div, MulDiv. -/
import Derived.Test.YtjgobaedeagojaaDoorOc
import Derived.Test.YtjgobaedeagojaaDoorOd
namespace Go.Proofs.YtjgobaedeagojaaDoor
open Go.RowKit
set_option linter.unusedVariables false

theorem div64_any (hi lo y : Nat) (hh : hi < y) (hl : lo < 18446744073709551616) (hy : 1 ≤ y) (hy2 : y ≤ 1000000000000) (w : World) :
    Calls Tryd.prog 36 #[.int .u64 (hi : Int), .int .u64 (lo : Int), .int .u64 (y : Int)] w fun e w' => e = .returned (.tuple #[.int .u64 (((hi * 18446744073709551616 + lo) / y : Nat) : Int), .int .u64 (((hi * 18446744073709551616 + lo) % y : Nat) : Int)]) ∧ Below w.heap.size w w' := by
  rcases Nat.eq_zero_or_pos hi with h | h
  · subst h
    rw [Nat.zero_mul, Nat.zero_add]
    exact div64_zero lo y hl hy hy2 w
  · exact (div64_some hi lo y h hh hl hy hy2 w).mono fun e w' ⟨h1, h2⟩ => ⟨h1, by subst h2; exact Below.refl _ _⟩
set_option maxHeartbeats 1000000 in
theorem exMul_any (a b : Nat) (ha : a < 18446744073709551616) (hb : b < 18446744073709551616) (w : World) :
    Calls Tryd.prog 30 #[.int .u64 (a : Int), .int .u64 (b : Int)] w fun e w' => e = .returned (wideV (a * b)) ∧ Below w.heap.size w w' := by
  have HM := Lib.hid (fun W => Tryd.bits_Mul64 a b ha hb W)
  unfold wideV
  generalize a * b / 18446744073709551616 = x1 at *
  generalize a * b % 18446744073709551616 = x0 at *
  go_enter Tryd.func30, Tryd.ntmps30
  go_wp2_with (first | (go_at_call 38; refine (HM.out _).mono ?_; rintro e W1 ⟨rfl, rfl⟩))
  exact ret1 (k := 4) (g := w.heap.size) (T := 55) (cs := #[.int .u64 (x1 : Int), .int .u64 (x0 : Int)]) Tryd.results30 rfl (heap_alloc_new w _) Tryd.underlying55 (by kernel_rfl) rfl ⟨rfl, (Below.refl _ w).alloc (Nat.le_refl _) _⟩
theorem upB_bool {q r c : Nat} {m : Int} {b : Bool} (h : b = upB q r c m) {w : World} : Ending.returned (.bool b) = .returned (.bool (upB q r c m)) := by rw [h]
set_option maxHeartbeats 1000000 in
theorem raised_any (q r c : Nat) (m : Int) (hr : r < c) (hc : c ≤ 1000000000000) (hq : q < 18446744073709551616) (hm0 : 0 ≤ m) (hm : m ≤ 3) (w : World) :
    Calls Tryd.prog 37 #[.int .u64 (q : Int), .int .u64 (r : Int), .int .u64 (c : Int), .int .i64 m] w fun e w' => e = .returned (.bool (upB q r c m)) ∧ w = w' := by
  have hcr : IntKind.u64.wrap ((c : Int) - (r : Int)) = ((c - r : Nat) : Int) := by rw [IntKind.wrap_u64]; omega
  have HE := Lib.hid (rfl : upB q r c m = upB q r c m)
  rcases (by omega : m = 0 ∨ m = 1 ∨ m = 2 ∨ m = 3) with rfl | rfl | rfl | rfl
  · have HU : Hid (upB q r c 0 = false) := rfl
    clear HE hm0 hm
    go_enter Tryd.func37, Tryd.ntmps37
    go_wp2
    go_ret
    rw [HU.out]
    exact ⟨rfl, rfl⟩
  · have HU : Hid (upB q r c 1 = decide (0 < r)) := rfl
    clear HE hm0 hm
    go_enter Tryd.func37, Tryd.ntmps37
    go_wp2
    go_ret
    rw [HU.out]
    exact ⟨by simp, rfl⟩
  · have HU : Hid (upB q r c 2 = decide (c - r ≤ r)) := rfl
    generalize c - r = k at *
    clear HE hm0 hm
    go_enter Tryd.func37, Tryd.ntmps37
    go_wp2
    go_ret
    rw [HU.out]
    exact ⟨by simp, rfl⟩
  · have HU : Hid (upB q r c 3 = (decide (c - r < r) || (decide (r = c - r) && decide (q % 2 = 1)))) := rfl
    generalize c - r = k at *
    clear HE hm0 hm
    by_cases h1 : k < r
    · have h2 : decide (k < r) = true := by simpa using h1
      go_enter Tryd.func37, Tryd.ntmps37
      go_wp2
      go_ret
      rw [HU.out, h2]
      exact ⟨rfl, rfl⟩
    · have h2 : decide (k < r) = false := by simpa using h1
      clear h1
      by_cases h3 : r = k
      · have h4 : ((r : Int) == (k : Int)) = true := by simp; omega
        have H3 := Lib.hid h3
        clear h3
        go_enter Tryd.func37, Tryd.ntmps37
        go_wp2
        go_ret
        rw [HU.out, h2]
        have h5 := H3.out
        refine ⟨?_, rfl⟩
        have e : ((q : Int) % 2 == 1) = (false || (decide (r = k) && decide (q % 2 = 1))) := by
          rw [decide_eq_true h5, Bool.false_or, Bool.true_and, Bool.eq_iff_iff]
          simp
          omega
        rw [← e]
        rfl
      · have h4 : ((r : Int) == (k : Int)) = false := by simp; omega
        have H3 := Lib.hid h3
        clear h3
        go_enter Tryd.func37, Tryd.ntmps37
        go_wp2
        go_ret
        rw [HU.out, h2]
        refine ⟨?_, rfl⟩
        rw [decide_eq_false H3.out]
        rfl
theorem qu_max {N c : Nat} (hc : 1 ≤ c) (h : c ≤ N / 18446744073709551616) (m : Int) : quV (divR N c m) = 0 ∧ quE (divR N c m) = 3 := by
  have h1 := (divR_bd N c m).1
  have h3 := (Nat.le_div_iff_mul_le (by decide)).1 h
  rw [Nat.mul_comm] at h3
  have h2 := (Nat.le_div_iff_mul_le (show 0 < c by omega)).2 h3
  unfold quV quE
  rw [if_neg (by omega), if_neg (by omega)]
  exact ⟨rfl, rfl⟩
set_option maxHeartbeats 2000000 in
theorem exDiv_any (N c : Nat) (m : Int) (hc0 : 1 ≤ c) (hc : c ≤ 1000000000000) (hm0 : 0 ≤ m) (hm : m ≤ 3) (w : World) :
    Calls Tryd.prog 29 #[wideV N, .int .u64 (c : Int), .int .i64 m] w (QuRet w (divR N c m)) := by
  have t1 : ((c : Int) == 0) = false := by simp; omega
  have t2 : decide (m < 0) = false := by simp; omega
  have t3 : decide (3 < m) = false := by simp; omega
  by_cases hbig : c ≤ N / 18446744073709551616
  · have HQ := Lib.hid (qu_max hc0 hbig m)
    unfold wideV
    generalize N / 18446744073709551616 = n1 at *
    generalize N % 18446744073709551616 = n0 at *
    have hb2 : decide (c ≤ n1) = true := by simpa using hbig
    clear hbig
    go_enter Tryd.func29, Tryd.ntmps29
    go_wp2
    go_ret2
    exact quRet HQ.out.1.symm HQ.out.2.symm ((Below.refl _ w).alloc (Nat.le_refl _) _)
  · have HD := Lib.hid (fun W => div64_any (N / 18446744073709551616) (N % 18446744073709551616) c (by omega) (Nat.mod_lt _ (by omega)) hc0 hc W)
    rw [Nat.mul_comm, Nat.div_add_mod] at HD
    have hq : N / c < 18446744073709551616 := by
      rw [Nat.div_lt_iff_lt_mul (by omega)]
      have h1 : N / 18446744073709551616 + 1 ≤ c := by omega
      have := Nat.mul_le_mul_left 18446744073709551616 h1
      have := Nat.div_add_mod N 18446744073709551616
      have := Nat.mod_lt N (show 0 < 18446744073709551616 by omega)
      omega
    have hr := Nat.mod_lt N hc0
    have HRS := Lib.hid (fun W => raised_any (N / c) (N % c) c m hr hc hq hm0 hm W)
    have HR : Hid (divR N c m = if upB (N / c) (N % c) c m = true then N / c + 1 else N / c) := rfl
    unfold wideV
    generalize N / 18446744073709551616 = n1 at *
    generalize N % 18446744073709551616 = n0 at *
    generalize divR N c m = R at *
    generalize upB (N / c) (N % c) c m = b at *
    generalize N / c = q at *
    generalize N % c = r at *
    have hb2 : decide (c ≤ n1) = false := by simpa using hbig
    clear hbig hr
    have HQL := Lib.hid hq
    clear hq
    cases b
    · go_enter Tryd.func29, Tryd.ntmps29
      go_wp2_with (first
        | (go_at_call 36; refine (HD.out _).mono ?_; rintro e W1 ⟨rfl, hb1⟩; have HB1 := Lib.hid (Below.trans ((Below.refl _ w).alloc (Nat.le_refl _) _) (hb1.mono (by simp))); clear hb1)
        | (go_at_call 37; refine (HRS.out _).mono ?_; rintro e W2 ⟨rfl, rfl⟩))
      go_ret2
      have e : R = q := HR.out
      refine quRet ?_ ?_ HB1.out
      · rw [e]; unfold quV; rw [if_pos HQL.out]
      · rw [e]; unfold quE; rw [if_pos HQL.out]
    · by_cases hm1 : q = 18446744073709551615
      · subst hm1
        go_enter Tryd.func29, Tryd.ntmps29
        go_wp2_with (first
          | (go_at_call 36; refine (HD.out _).mono ?_; rintro e W1 ⟨rfl, hb1⟩; have HB1 := Lib.hid (Below.trans ((Below.refl _ w).alloc (Nat.le_refl _) _) (hb1.mono (by simp))); clear hb1)
          | (go_at_call 37; refine (HRS.out _).mono ?_; rintro e W2 ⟨rfl, rfl⟩))
        go_ret2
        have e : R = 18446744073709551615 + 1 := HR.out
        refine quRet ?_ ?_ HB1.out
        · rw [e]; rfl
        · rw [e]; rfl
      · have hm2 : ((q : Int) == 18446744073709551615) = false := by simp; omega
        have hw : IntKind.u64.wrap ((q : Int) + 1) = ((q + 1 : Nat) : Int) := by rw [IntKind.wrap_u64]; have := HQL.out; omega
        have HM := Lib.hid hm1
        clear hm1
        go_enter Tryd.func29, Tryd.ntmps29
        go_wp2_with (first
          | (go_at_call 36; refine (HD.out _).mono ?_; rintro e W1 ⟨rfl, hb1⟩; have HB1 := Lib.hid (Below.trans ((Below.refl _ w).alloc (Nat.le_refl _) _) (hb1.mono (by simp))); clear hb1)
          | (go_at_call 37; refine (HRS.out _).mono ?_; rintro e W2 ⟨rfl, rfl⟩))
        go_ret2
        have e : R = q + 1 := HR.out
        have hlt : q + 1 < 18446744073709551616 := by have := HQL.out; have := HM.out; omega
        refine quRet ?_ ?_ HB1.out
        · rw [e]; unfold quV; rw [if_pos hlt]; first | rfl | exact hw
        · rw [e]; unfold quE; rw [if_pos hlt]
theorem exMulDiv_any (a b c : Nat) (m : Int) (ha : a ≤ 1000000000000) (hb : b ≤ 1000000000000) (hc0 : 1 ≤ c) (hc : c ≤ 1000000000000) (hm0 : 0 ≤ m) (hm : m ≤ 3) (w : World) :
    Calls Tryd.prog 23 #[.int .u64 (a : Int), .int .u64 (b : Int), .int .u64 (c : Int), .int .i64 m] w (QuRet w (divR (a * b) c m)) := by
  have HM := Lib.hid (exMul_any a b (by omega) (by omega) w)
  have HD := Lib.hid (fun W => exDiv_any (a * b) c m hc0 hc hm0 hm W)
  unfold wideV at HM HD
  generalize a * b = N at *
  generalize N / 18446744073709551616 = n1 at *
  generalize N % 18446744073709551616 = n0 at *
  generalize divR N c m = x at *
  unfold QuRet at *
  generalize quV x = y at *
  generalize quE x = z at *
  go_enter Tryd.func23, Tryd.ntmps23
  go_wp2_with (first
    | (go_at_call 30; refine HM.out.mono ?_; rintro e W1 ⟨rfl, hb1⟩; have HB1 := Lib.hid hb1; clear hb1)
    | (go_at_call 29; refine (HD.out _).mono ?_; rintro e W2 ⟨rfl, hb2⟩; have HB2 := Lib.hid (HB1.out.trans (hb2.mono HB1.out.size)); clear hb2))
  go_ret2
  exact ⟨rfl, HB2.out⟩
end Go.Proofs.YtjgobaedeagojaaDoor
