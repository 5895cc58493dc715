/- Contract of the reference's Div and MulDiv. -/
import Derived.Test.YtjgobaedeagojaaDoorOb
namespace Go.Proofs.YtjgobaedeagojaaDoor
open Go.RowKit
set_option linter.unusedVariables false

def quV (x : Nat) : Int := if x < 18446744073709551616 then (x : Int) else 0
def quE (x : Nat) : Int := if x < 18446744073709551616 then 0 else 3
def QuRet (w : World) (x : Nat) (e : Ending) (w' : World) : Prop := e = .returned (.tuple #[.int .u64 (quV x), .int .i64 (quE x)]) ∧ Below w.heap.size w w'
theorem quRet {w w' : World} {x : Nat} {a b : Int} (h1 : a = quV x) (h2 : b = quE x) (h : Below w.heap.size w w') : QuRet w x (.returned (.tuple #[.int .u64 a, .int .i64 b])) w' := ⟨by rw [h1, h2], h⟩
theorem par_val (y : Nat) (hy : y < 18446744073709551616) : bits .and .u64 (y : Int) 1 = ((y % 2 : Nat) : Int) := by
  have h := bits_and_u64_nat y 1 hy (by omega)
  rw [Nat.and_one_is_mod] at h
  exact h
theorem qu_small {x y1 y0 : Nat} (h1 : x / 18446744073709551616 = y1) (h0 : x % 18446744073709551616 = y0) (h : y1 = 0) : quV x = (y0 : Int) ∧ quE x = 0 := by
  unfold quV quE
  rw [if_pos (by omega), if_pos (by omega)]
  omega
theorem qu_big {x y1 : Nat} (h1 : x / 18446744073709551616 = y1) (h : 0 < y1) : quV x = 0 ∧ quE x = 3 := by
  unfold quV quE
  rw [if_neg (by omega), if_neg (by omega)]
  omega

set_option maxHeartbeats 4000000 in
theorem d0 (N c : Nat) (hN : N < 170141183460469231731687303715884105728) (hc0 : 1 ≤ c) (hc : c ≤ 1000000000000)  (w : World) : Calls Tryd.prog 31 #[wideV N, .int .u64 (c : Int), .int .i64 0] w (QuRet w (N / c)) := by
  have HDM := Lib.hid (fun W => refDivMod_any N c (by omega) hc0 hc W)
  have hrc := Nat.mod_lt N hc0
  have HQB := Lib.hid (Nat.lt_of_le_of_lt (Nat.div_le_self N c) hN)
  generalize N / c = q at *
  generalize N % c = r at *
  unfold wideV at HDM ⊢
  generalize hq1 : q / 18446744073709551616 = q1 at *
  generalize hq0 : q % 18446744073709551616 = q0 at *
  generalize N / 18446744073709551616 = n1 at *
  generalize N % 18446744073709551616 = n0 at *
  clear hN
  have hcr : IntKind.u64.wrap ((c : Int) - (r : Int)) = (c : Int) - (r : Int) := by rw [IntKind.wrap_u64]; omega
  have HQ := Lib.hid (And.intro hq1 hq0)
  have HX : Hid True := trivial
  clear hq1 hq0
  have hbig : (0 < q1 ∨ q1 = 0) := by omega
  rcases hbig with hz | hz
  · have hz1 : decide (0 < q1) = true := by simp; omega
    have HZ := Lib.hid hz
    clear hz
    go_enter Tryd.func31, Tryd.ntmps31
    go_wp2_with (go_at_call 39; refine (HDM.out _).mono ?_; rintro e W1 ⟨rfl, hb1⟩; clear HDM; have HB1 := Lib.hid (Below.trans (((Below.refl _ w).alloc (Nat.le_refl _) (.cells #[.int .u64 (n1 : Int), .int .u64 (n0 : Int)] 58))) (hb1.mono (by simp))); have HS1 := Lib.hid (show w.heap.size ≤ W1.heap.size from HB1.out.size); clear hb1)
    go_ret2
    have e := qu_big HQ.out.1 HZ.out
    exact quRet e.1.symm e.2.symm (HB1.out.alloc HS1.out _)
  · subst hz
    go_enter Tryd.func31, Tryd.ntmps31
    go_wp2_with (go_at_call 39; refine (HDM.out _).mono ?_; rintro e W1 ⟨rfl, hb1⟩; clear HDM; have HB1 := Lib.hid (Below.trans (((Below.refl _ w).alloc (Nat.le_refl _) (.cells #[.int .u64 (n1 : Int), .int .u64 (n0 : Int)] 58))) (hb1.mono (by simp))); have HS1 := Lib.hid (show w.heap.size ≤ W1.heap.size from HB1.out.size); clear hb1)
    go_ret2
    have e := qu_small HQ.out.1 HQ.out.2 rfl
    exact quRet e.1.symm e.2.symm (HB1.out.alloc HS1.out _)
set_option maxHeartbeats 4000000 in
theorem d1t (N c : Nat) (hN : N < 170141183460469231731687303715884105728) (hc0 : 1 ≤ c) (hc : c ≤ 1000000000000) (h1 : 0 < N % c) (w : World) : Calls Tryd.prog 31 #[wideV N, .int .u64 (c : Int), .int .i64 1] w (QuRet w (N / c + 1)) := by
  have HDM := Lib.hid (fun W => refDivMod_any N c (by omega) hc0 hc W)
  have hrc := Nat.mod_lt N hc0
  have HQB := Lib.hid (Nat.lt_of_le_of_lt (Nat.div_le_self N c) hN)
  generalize N / c = q at *
  generalize N % c = r at *
  unfold wideV at HDM ⊢
  generalize hq1 : q / 18446744073709551616 = q1 at *
  generalize hq0 : q % 18446744073709551616 = q0 at *
  generalize N / 18446744073709551616 = n1 at *
  generalize N % 18446744073709551616 = n0 at *
  clear hN
  have ht1 : decide (0 < r) = true := by simp; omega
  have hcr : IntKind.u64.wrap ((c : Int) - (r : Int)) = (c : Int) - (r : Int) := by rw [IntKind.wrap_u64]; omega
  have HQ := Lib.hid (And.intro hq1 hq0)
  have HX : Hid True := trivial
  have HADD := Lib.hid (fun W => refAdd_any q 1 (by have := HQB.out; omega) W)
  unfold wideV at HADD
  rw [HQ.out.1, HQ.out.2, show (1 : Nat) / 18446744073709551616 = 0 from rfl, show (1 : Nat) % 18446744073709551616 = 1 from rfl] at HADD
  clear hq1 hq0
  clear h1
  have hbig : (0 < (q + 1) / 18446744073709551616 ∨ (q + 1) / 18446744073709551616 = 0) := by omega
  rcases hbig with hz | hz
  · have hz1 : decide (0 < (q + 1) / 18446744073709551616) = true := by simp; omega
    have HZ := Lib.hid hz
    clear hz
    go_enter Tryd.func31, Tryd.ntmps31
    go_wp2_with (first | (go_at_call 39; refine (HDM.out _).mono ?_; rintro e W1 ⟨rfl, hb1⟩; clear HDM; have HB1 := Lib.hid (Below.trans (((Below.refl _ w).alloc (Nat.le_refl _) (.cells #[.int .u64 (n1 : Int), .int .u64 (n0 : Int)] 58))) (hb1.mono (by simp))); have HS1 := Lib.hid (show w.heap.size ≤ W1.heap.size from HB1.out.size); clear hb1) | (go_at_call 40; refine (HADD.out _).mono ?_; rintro e W2 ⟨o2, rfl, hb2⟩; clear HADD; unfold wideV; generalize hy1 : (q + 1) / 18446744073709551616 = y1 at *; generalize hy0 : (q + 1) % 18446744073709551616 = y0 at *; have HY := Lib.hid (And.intro hy1 hy0); clear hy1 hy0; have HB2 := Lib.hid ((HB1.out.alloc HS1.out _).trans (hb2.mono (by simp; have := HS1.out; omega))); have HC2 : Hid (W2.heap[W1.heap.size]? = some (.cells [.int .u64 (q1 : Int), .int .u64 (q0 : Int)].toArray 58 (0, 0))) := (hb2.block W1.heap.size (by simp)).trans (heap_alloc_new W1 _); clear hb2) | (refine at_store 58 (.tmp 8) (.tmp 64) rfl ?_; refine wpList_store_box rfl 58 (.tmp 8) (.tmp 64) rfl W1.heap.size 0 (.agg #[.int .u64 (y1 : Int), .int .u64 (y0 : Int)]) #[.int .u64 (y1 : Int), .int .u64 (y0 : Int)] rfl rfl rfl _ [.int .u64 (y1 : Int), .int .u64 (y0 : Int)] _ HC2.out (Nat.le_of_ble_eq_true rfl) rfl (by kernel_rfl) (by rfl) ?_; intro W3 hB3 hbut3; have HB3 := Lib.hid (HB2.out.but hbut3 HS1.out); have hc30 : W3.cell? ⟨W1.heap.size, 0, none⟩ = some (.int .u64 (y1 : Int)) := (by rw [cell_of_row _ _ _ _ _ _ hB3]; rfl); have hc31 : W3.cell? ⟨W1.heap.size, 1, none⟩ = some (.int .u64 (y0 : Int)) := (by rw [cell_of_row _ _ _ _ _ _ hB3]; rfl); clear hB3 hbut3 HB2 HC2))
    go_ret2
    have e := qu_big HY.out.1 HZ.out
    exact quRet e.1.symm e.2.symm HB3.out
  · have hz1 : decide (0 < (q + 1) / 18446744073709551616) = false := by simp; omega
    have HZ := Lib.hid hz
    clear hz
    go_enter Tryd.func31, Tryd.ntmps31
    go_wp2_with (first | (go_at_call 39; refine (HDM.out _).mono ?_; rintro e W1 ⟨rfl, hb1⟩; clear HDM; have HB1 := Lib.hid (Below.trans (((Below.refl _ w).alloc (Nat.le_refl _) (.cells #[.int .u64 (n1 : Int), .int .u64 (n0 : Int)] 58))) (hb1.mono (by simp))); have HS1 := Lib.hid (show w.heap.size ≤ W1.heap.size from HB1.out.size); clear hb1) | (go_at_call 40; refine (HADD.out _).mono ?_; rintro e W2 ⟨o2, rfl, hb2⟩; clear HADD; unfold wideV; generalize hy1 : (q + 1) / 18446744073709551616 = y1 at *; generalize hy0 : (q + 1) % 18446744073709551616 = y0 at *; have HY := Lib.hid (And.intro hy1 hy0); clear hy1 hy0; have HB2 := Lib.hid ((HB1.out.alloc HS1.out _).trans (hb2.mono (by simp; have := HS1.out; omega))); have HC2 : Hid (W2.heap[W1.heap.size]? = some (.cells [.int .u64 (q1 : Int), .int .u64 (q0 : Int)].toArray 58 (0, 0))) := (hb2.block W1.heap.size (by simp)).trans (heap_alloc_new W1 _); clear hb2) | (refine at_store 58 (.tmp 8) (.tmp 64) rfl ?_; refine wpList_store_box rfl 58 (.tmp 8) (.tmp 64) rfl W1.heap.size 0 (.agg #[.int .u64 (y1 : Int), .int .u64 (y0 : Int)]) #[.int .u64 (y1 : Int), .int .u64 (y0 : Int)] rfl rfl rfl _ [.int .u64 (y1 : Int), .int .u64 (y0 : Int)] _ HC2.out (Nat.le_of_ble_eq_true rfl) rfl (by kernel_rfl) (by rfl) ?_; intro W3 hB3 hbut3; have HB3 := Lib.hid (HB2.out.but hbut3 HS1.out); have hc30 : W3.cell? ⟨W1.heap.size, 0, none⟩ = some (.int .u64 (y1 : Int)) := (by rw [cell_of_row _ _ _ _ _ _ hB3]; rfl); have hc31 : W3.cell? ⟨W1.heap.size, 1, none⟩ = some (.int .u64 (y0 : Int)) := (by rw [cell_of_row _ _ _ _ _ _ hB3]; rfl); clear hB3 hbut3 HB2 HC2))
    go_ret2
    have e := qu_small HY.out.1 HY.out.2 HZ.out
    exact quRet e.1.symm e.2.symm HB3.out
set_option maxHeartbeats 4000000 in
theorem d1f (N c : Nat) (hN : N < 170141183460469231731687303715884105728) (hc0 : 1 ≤ c) (hc : c ≤ 1000000000000) (h1 : N % c = 0) (w : World) : Calls Tryd.prog 31 #[wideV N, .int .u64 (c : Int), .int .i64 1] w (QuRet w (N / c)) := by
  have HDM := Lib.hid (fun W => refDivMod_any N c (by omega) hc0 hc W)
  have hrc := Nat.mod_lt N hc0
  have HQB := Lib.hid (Nat.lt_of_le_of_lt (Nat.div_le_self N c) hN)
  generalize N / c = q at *
  generalize N % c = r at *
  unfold wideV at HDM ⊢
  generalize hq1 : q / 18446744073709551616 = q1 at *
  generalize hq0 : q % 18446744073709551616 = q0 at *
  generalize N / 18446744073709551616 = n1 at *
  generalize N % 18446744073709551616 = n0 at *
  clear hN
  have ht1 : decide (0 < r) = false := by simp; omega
  have hcr : IntKind.u64.wrap ((c : Int) - (r : Int)) = (c : Int) - (r : Int) := by rw [IntKind.wrap_u64]; omega
  have HQ := Lib.hid (And.intro hq1 hq0)
  have HX : Hid True := trivial
  clear hq1 hq0
  clear h1
  have hbig : (0 < q1 ∨ q1 = 0) := by omega
  rcases hbig with hz | hz
  · have hz1 : decide (0 < q1) = true := by simp; omega
    have HZ := Lib.hid hz
    clear hz
    go_enter Tryd.func31, Tryd.ntmps31
    go_wp2_with (go_at_call 39; refine (HDM.out _).mono ?_; rintro e W1 ⟨rfl, hb1⟩; clear HDM; have HB1 := Lib.hid (Below.trans (((Below.refl _ w).alloc (Nat.le_refl _) (.cells #[.int .u64 (n1 : Int), .int .u64 (n0 : Int)] 58))) (hb1.mono (by simp))); have HS1 := Lib.hid (show w.heap.size ≤ W1.heap.size from HB1.out.size); clear hb1)
    go_ret2
    have e := qu_big HQ.out.1 HZ.out
    exact quRet e.1.symm e.2.symm (HB1.out.alloc HS1.out _)
  · subst hz
    go_enter Tryd.func31, Tryd.ntmps31
    go_wp2_with (go_at_call 39; refine (HDM.out _).mono ?_; rintro e W1 ⟨rfl, hb1⟩; clear HDM; have HB1 := Lib.hid (Below.trans (((Below.refl _ w).alloc (Nat.le_refl _) (.cells #[.int .u64 (n1 : Int), .int .u64 (n0 : Int)] 58))) (hb1.mono (by simp))); have HS1 := Lib.hid (show w.heap.size ≤ W1.heap.size from HB1.out.size); clear hb1)
    go_ret2
    have e := qu_small HQ.out.1 HQ.out.2 rfl
    exact quRet e.1.symm e.2.symm (HB1.out.alloc HS1.out _)
set_option maxHeartbeats 4000000 in
theorem d2t (N c : Nat) (hN : N < 170141183460469231731687303715884105728) (hc0 : 1 ≤ c) (hc : c ≤ 1000000000000) (h1 : c - N % c ≤ N % c) (w : World) : Calls Tryd.prog 31 #[wideV N, .int .u64 (c : Int), .int .i64 2] w (QuRet w (N / c + 1)) := by
  have HDM := Lib.hid (fun W => refDivMod_any N c (by omega) hc0 hc W)
  have hrc := Nat.mod_lt N hc0
  have HQB := Lib.hid (Nat.lt_of_le_of_lt (Nat.div_le_self N c) hN)
  generalize N / c = q at *
  generalize N % c = r at *
  unfold wideV at HDM ⊢
  generalize hq1 : q / 18446744073709551616 = q1 at *
  generalize hq0 : q % 18446744073709551616 = q0 at *
  generalize N / 18446744073709551616 = n1 at *
  generalize N % 18446744073709551616 = n0 at *
  clear hN
  have ht1 : decide ((c : Int) - (r : Int) ≤ (r : Int)) = true := by simp; omega
  have hcr : IntKind.u64.wrap ((c : Int) - (r : Int)) = (c : Int) - (r : Int) := by rw [IntKind.wrap_u64]; omega
  have HQ := Lib.hid (And.intro hq1 hq0)
  have HX : Hid True := trivial
  have HADD := Lib.hid (fun W => refAdd_any q 1 (by have := HQB.out; omega) W)
  unfold wideV at HADD
  rw [HQ.out.1, HQ.out.2, show (1 : Nat) / 18446744073709551616 = 0 from rfl, show (1 : Nat) % 18446744073709551616 = 1 from rfl] at HADD
  clear hq1 hq0
  clear h1
  have hbig : (0 < (q + 1) / 18446744073709551616 ∨ (q + 1) / 18446744073709551616 = 0) := by omega
  rcases hbig with hz | hz
  · have hz1 : decide (0 < (q + 1) / 18446744073709551616) = true := by simp; omega
    have HZ := Lib.hid hz
    clear hz
    go_enter Tryd.func31, Tryd.ntmps31
    go_wp2_with (first | (go_at_call 39; refine (HDM.out _).mono ?_; rintro e W1 ⟨rfl, hb1⟩; clear HDM; have HB1 := Lib.hid (Below.trans (((Below.refl _ w).alloc (Nat.le_refl _) (.cells #[.int .u64 (n1 : Int), .int .u64 (n0 : Int)] 58))) (hb1.mono (by simp))); have HS1 := Lib.hid (show w.heap.size ≤ W1.heap.size from HB1.out.size); clear hb1) | (go_at_call 40; refine (HADD.out _).mono ?_; rintro e W2 ⟨o2, rfl, hb2⟩; clear HADD; unfold wideV; generalize hy1 : (q + 1) / 18446744073709551616 = y1 at *; generalize hy0 : (q + 1) % 18446744073709551616 = y0 at *; have HY := Lib.hid (And.intro hy1 hy0); clear hy1 hy0; have HB2 := Lib.hid ((HB1.out.alloc HS1.out _).trans (hb2.mono (by simp; have := HS1.out; omega))); have HC2 : Hid (W2.heap[W1.heap.size]? = some (.cells [.int .u64 (q1 : Int), .int .u64 (q0 : Int)].toArray 58 (0, 0))) := (hb2.block W1.heap.size (by simp)).trans (heap_alloc_new W1 _); clear hb2) | (refine at_store 58 (.tmp 8) (.tmp 64) rfl ?_; refine wpList_store_box rfl 58 (.tmp 8) (.tmp 64) rfl W1.heap.size 0 (.agg #[.int .u64 (y1 : Int), .int .u64 (y0 : Int)]) #[.int .u64 (y1 : Int), .int .u64 (y0 : Int)] rfl rfl rfl _ [.int .u64 (y1 : Int), .int .u64 (y0 : Int)] _ HC2.out (Nat.le_of_ble_eq_true rfl) rfl (by kernel_rfl) (by rfl) ?_; intro W3 hB3 hbut3; have HB3 := Lib.hid (HB2.out.but hbut3 HS1.out); have hc30 : W3.cell? ⟨W1.heap.size, 0, none⟩ = some (.int .u64 (y1 : Int)) := (by rw [cell_of_row _ _ _ _ _ _ hB3]; rfl); have hc31 : W3.cell? ⟨W1.heap.size, 1, none⟩ = some (.int .u64 (y0 : Int)) := (by rw [cell_of_row _ _ _ _ _ _ hB3]; rfl); clear hB3 hbut3 HB2 HC2))
    go_ret2
    have e := qu_big HY.out.1 HZ.out
    exact quRet e.1.symm e.2.symm HB3.out
  · have hz1 : decide (0 < (q + 1) / 18446744073709551616) = false := by simp; omega
    have HZ := Lib.hid hz
    clear hz
    go_enter Tryd.func31, Tryd.ntmps31
    go_wp2_with (first | (go_at_call 39; refine (HDM.out _).mono ?_; rintro e W1 ⟨rfl, hb1⟩; clear HDM; have HB1 := Lib.hid (Below.trans (((Below.refl _ w).alloc (Nat.le_refl _) (.cells #[.int .u64 (n1 : Int), .int .u64 (n0 : Int)] 58))) (hb1.mono (by simp))); have HS1 := Lib.hid (show w.heap.size ≤ W1.heap.size from HB1.out.size); clear hb1) | (go_at_call 40; refine (HADD.out _).mono ?_; rintro e W2 ⟨o2, rfl, hb2⟩; clear HADD; unfold wideV; generalize hy1 : (q + 1) / 18446744073709551616 = y1 at *; generalize hy0 : (q + 1) % 18446744073709551616 = y0 at *; have HY := Lib.hid (And.intro hy1 hy0); clear hy1 hy0; have HB2 := Lib.hid ((HB1.out.alloc HS1.out _).trans (hb2.mono (by simp; have := HS1.out; omega))); have HC2 : Hid (W2.heap[W1.heap.size]? = some (.cells [.int .u64 (q1 : Int), .int .u64 (q0 : Int)].toArray 58 (0, 0))) := (hb2.block W1.heap.size (by simp)).trans (heap_alloc_new W1 _); clear hb2) | (refine at_store 58 (.tmp 8) (.tmp 64) rfl ?_; refine wpList_store_box rfl 58 (.tmp 8) (.tmp 64) rfl W1.heap.size 0 (.agg #[.int .u64 (y1 : Int), .int .u64 (y0 : Int)]) #[.int .u64 (y1 : Int), .int .u64 (y0 : Int)] rfl rfl rfl _ [.int .u64 (y1 : Int), .int .u64 (y0 : Int)] _ HC2.out (Nat.le_of_ble_eq_true rfl) rfl (by kernel_rfl) (by rfl) ?_; intro W3 hB3 hbut3; have HB3 := Lib.hid (HB2.out.but hbut3 HS1.out); have hc30 : W3.cell? ⟨W1.heap.size, 0, none⟩ = some (.int .u64 (y1 : Int)) := (by rw [cell_of_row _ _ _ _ _ _ hB3]; rfl); have hc31 : W3.cell? ⟨W1.heap.size, 1, none⟩ = some (.int .u64 (y0 : Int)) := (by rw [cell_of_row _ _ _ _ _ _ hB3]; rfl); clear hB3 hbut3 HB2 HC2))
    go_ret2
    have e := qu_small HY.out.1 HY.out.2 HZ.out
    exact quRet e.1.symm e.2.symm HB3.out
set_option maxHeartbeats 4000000 in
theorem d2f (N c : Nat) (hN : N < 170141183460469231731687303715884105728) (hc0 : 1 ≤ c) (hc : c ≤ 1000000000000) (h1 : N % c < c - N % c) (w : World) : Calls Tryd.prog 31 #[wideV N, .int .u64 (c : Int), .int .i64 2] w (QuRet w (N / c)) := by
  have HDM := Lib.hid (fun W => refDivMod_any N c (by omega) hc0 hc W)
  have hrc := Nat.mod_lt N hc0
  have HQB := Lib.hid (Nat.lt_of_le_of_lt (Nat.div_le_self N c) hN)
  generalize N / c = q at *
  generalize N % c = r at *
  unfold wideV at HDM ⊢
  generalize hq1 : q / 18446744073709551616 = q1 at *
  generalize hq0 : q % 18446744073709551616 = q0 at *
  generalize N / 18446744073709551616 = n1 at *
  generalize N % 18446744073709551616 = n0 at *
  clear hN
  have ht1 : decide ((c : Int) - (r : Int) ≤ (r : Int)) = false := by simp; omega
  have hcr : IntKind.u64.wrap ((c : Int) - (r : Int)) = (c : Int) - (r : Int) := by rw [IntKind.wrap_u64]; omega
  have HQ := Lib.hid (And.intro hq1 hq0)
  have HX : Hid True := trivial
  clear hq1 hq0
  clear h1
  have hbig : (0 < q1 ∨ q1 = 0) := by omega
  rcases hbig with hz | hz
  · have hz1 : decide (0 < q1) = true := by simp; omega
    have HZ := Lib.hid hz
    clear hz
    go_enter Tryd.func31, Tryd.ntmps31
    go_wp2_with (go_at_call 39; refine (HDM.out _).mono ?_; rintro e W1 ⟨rfl, hb1⟩; clear HDM; have HB1 := Lib.hid (Below.trans (((Below.refl _ w).alloc (Nat.le_refl _) (.cells #[.int .u64 (n1 : Int), .int .u64 (n0 : Int)] 58))) (hb1.mono (by simp))); have HS1 := Lib.hid (show w.heap.size ≤ W1.heap.size from HB1.out.size); clear hb1)
    go_ret2
    have e := qu_big HQ.out.1 HZ.out
    exact quRet e.1.symm e.2.symm (HB1.out.alloc HS1.out _)
  · subst hz
    go_enter Tryd.func31, Tryd.ntmps31
    go_wp2_with (go_at_call 39; refine (HDM.out _).mono ?_; rintro e W1 ⟨rfl, hb1⟩; clear HDM; have HB1 := Lib.hid (Below.trans (((Below.refl _ w).alloc (Nat.le_refl _) (.cells #[.int .u64 (n1 : Int), .int .u64 (n0 : Int)] 58))) (hb1.mono (by simp))); have HS1 := Lib.hid (show w.heap.size ≤ W1.heap.size from HB1.out.size); clear hb1)
    go_ret2
    have e := qu_small HQ.out.1 HQ.out.2 rfl
    exact quRet e.1.symm e.2.symm (HB1.out.alloc HS1.out _)
set_option maxHeartbeats 4000000 in
theorem d3g (N c : Nat) (hN : N < 170141183460469231731687303715884105728) (hc0 : 1 ≤ c) (hc : c ≤ 1000000000000) (h1 : c - N % c < N % c) (w : World) : Calls Tryd.prog 31 #[wideV N, .int .u64 (c : Int), .int .i64 3] w (QuRet w (N / c + 1)) := by
  have HDM := Lib.hid (fun W => refDivMod_any N c (by omega) hc0 hc W)
  have hrc := Nat.mod_lt N hc0
  have HQB := Lib.hid (Nat.lt_of_le_of_lt (Nat.div_le_self N c) hN)
  generalize N / c = q at *
  generalize N % c = r at *
  unfold wideV at HDM ⊢
  generalize hq1 : q / 18446744073709551616 = q1 at *
  generalize hq0 : q % 18446744073709551616 = q0 at *
  generalize N / 18446744073709551616 = n1 at *
  generalize N % 18446744073709551616 = n0 at *
  clear hN
  have ht1 : decide ((c : Int) - (r : Int) < (r : Int)) = true := by simp; omega
  have hcr : IntKind.u64.wrap ((c : Int) - (r : Int)) = (c : Int) - (r : Int) := by rw [IntKind.wrap_u64]; omega
  have HQ := Lib.hid (And.intro hq1 hq0)
  have HX : Hid True := trivial
  have HADD := Lib.hid (fun W => refAdd_any q 1 (by have := HQB.out; omega) W)
  unfold wideV at HADD
  rw [HQ.out.1, HQ.out.2, show (1 : Nat) / 18446744073709551616 = 0 from rfl, show (1 : Nat) % 18446744073709551616 = 1 from rfl] at HADD
  clear hq1 hq0
  clear h1
  have hbig : (0 < (q + 1) / 18446744073709551616 ∨ (q + 1) / 18446744073709551616 = 0) := by omega
  rcases hbig with hz | hz
  · have hz1 : decide (0 < (q + 1) / 18446744073709551616) = true := by simp; omega
    have HZ := Lib.hid hz
    clear hz
    go_enter Tryd.func31, Tryd.ntmps31
    go_wp2_with (first | (go_at_call 39; refine (HDM.out _).mono ?_; rintro e W1 ⟨rfl, hb1⟩; clear HDM; have HB1 := Lib.hid (Below.trans (((Below.refl _ w).alloc (Nat.le_refl _) (.cells #[.int .u64 (n1 : Int), .int .u64 (n0 : Int)] 58))) (hb1.mono (by simp))); have HS1 := Lib.hid (show w.heap.size ≤ W1.heap.size from HB1.out.size); clear hb1) | (go_at_call 40; refine (HADD.out _).mono ?_; rintro e W2 ⟨o2, rfl, hb2⟩; clear HADD; unfold wideV; generalize hy1 : (q + 1) / 18446744073709551616 = y1 at *; generalize hy0 : (q + 1) % 18446744073709551616 = y0 at *; have HY := Lib.hid (And.intro hy1 hy0); clear hy1 hy0; have HB2 := Lib.hid ((HB1.out.alloc HS1.out _).trans (hb2.mono (by simp; have := HS1.out; omega))); have HC2 : Hid (W2.heap[W1.heap.size]? = some (.cells [.int .u64 (q1 : Int), .int .u64 (q0 : Int)].toArray 58 (0, 0))) := (hb2.block W1.heap.size (by simp)).trans (heap_alloc_new W1 _); clear hb2) | (refine at_store 58 (.tmp 8) (.tmp 64) rfl ?_; refine wpList_store_box rfl 58 (.tmp 8) (.tmp 64) rfl W1.heap.size 0 (.agg #[.int .u64 (y1 : Int), .int .u64 (y0 : Int)]) #[.int .u64 (y1 : Int), .int .u64 (y0 : Int)] rfl rfl rfl _ [.int .u64 (y1 : Int), .int .u64 (y0 : Int)] _ HC2.out (Nat.le_of_ble_eq_true rfl) rfl (by kernel_rfl) (by rfl) ?_; intro W3 hB3 hbut3; have HB3 := Lib.hid (HB2.out.but hbut3 HS1.out); have hc30 : W3.cell? ⟨W1.heap.size, 0, none⟩ = some (.int .u64 (y1 : Int)) := (by rw [cell_of_row _ _ _ _ _ _ hB3]; rfl); have hc31 : W3.cell? ⟨W1.heap.size, 1, none⟩ = some (.int .u64 (y0 : Int)) := (by rw [cell_of_row _ _ _ _ _ _ hB3]; rfl); clear hB3 hbut3 HB2 HC2))
    go_ret2
    have e := qu_big HY.out.1 HZ.out
    exact quRet e.1.symm e.2.symm HB3.out
  · have hz1 : decide (0 < (q + 1) / 18446744073709551616) = false := by simp; omega
    have HZ := Lib.hid hz
    clear hz
    go_enter Tryd.func31, Tryd.ntmps31
    go_wp2_with (first | (go_at_call 39; refine (HDM.out _).mono ?_; rintro e W1 ⟨rfl, hb1⟩; clear HDM; have HB1 := Lib.hid (Below.trans (((Below.refl _ w).alloc (Nat.le_refl _) (.cells #[.int .u64 (n1 : Int), .int .u64 (n0 : Int)] 58))) (hb1.mono (by simp))); have HS1 := Lib.hid (show w.heap.size ≤ W1.heap.size from HB1.out.size); clear hb1) | (go_at_call 40; refine (HADD.out _).mono ?_; rintro e W2 ⟨o2, rfl, hb2⟩; clear HADD; unfold wideV; generalize hy1 : (q + 1) / 18446744073709551616 = y1 at *; generalize hy0 : (q + 1) % 18446744073709551616 = y0 at *; have HY := Lib.hid (And.intro hy1 hy0); clear hy1 hy0; have HB2 := Lib.hid ((HB1.out.alloc HS1.out _).trans (hb2.mono (by simp; have := HS1.out; omega))); have HC2 : Hid (W2.heap[W1.heap.size]? = some (.cells [.int .u64 (q1 : Int), .int .u64 (q0 : Int)].toArray 58 (0, 0))) := (hb2.block W1.heap.size (by simp)).trans (heap_alloc_new W1 _); clear hb2) | (refine at_store 58 (.tmp 8) (.tmp 64) rfl ?_; refine wpList_store_box rfl 58 (.tmp 8) (.tmp 64) rfl W1.heap.size 0 (.agg #[.int .u64 (y1 : Int), .int .u64 (y0 : Int)]) #[.int .u64 (y1 : Int), .int .u64 (y0 : Int)] rfl rfl rfl _ [.int .u64 (y1 : Int), .int .u64 (y0 : Int)] _ HC2.out (Nat.le_of_ble_eq_true rfl) rfl (by kernel_rfl) (by rfl) ?_; intro W3 hB3 hbut3; have HB3 := Lib.hid (HB2.out.but hbut3 HS1.out); have hc30 : W3.cell? ⟨W1.heap.size, 0, none⟩ = some (.int .u64 (y1 : Int)) := (by rw [cell_of_row _ _ _ _ _ _ hB3]; rfl); have hc31 : W3.cell? ⟨W1.heap.size, 1, none⟩ = some (.int .u64 (y0 : Int)) := (by rw [cell_of_row _ _ _ _ _ _ hB3]; rfl); clear hB3 hbut3 HB2 HC2))
    go_ret2
    have e := qu_small HY.out.1 HY.out.2 HZ.out
    exact quRet e.1.symm e.2.symm HB3.out
set_option maxHeartbeats 4000000 in
theorem d3o (N c : Nat) (hN : N < 170141183460469231731687303715884105728) (hc0 : 1 ≤ c) (hc : c ≤ 1000000000000) (h1 : N % c = c - N % c) (h2 : N / c % 2 = 1) (w : World) : Calls Tryd.prog 31 #[wideV N, .int .u64 (c : Int), .int .i64 3] w (QuRet w (N / c + 1)) := by
  have HDM := Lib.hid (fun W => refDivMod_any N c (by omega) hc0 hc W)
  have hrc := Nat.mod_lt N hc0
  have HQB := Lib.hid (Nat.lt_of_le_of_lt (Nat.div_le_self N c) hN)
  generalize N / c = q at *
  generalize N % c = r at *
  unfold wideV at HDM ⊢
  generalize hq1 : q / 18446744073709551616 = q1 at *
  generalize hq0 : q % 18446744073709551616 = q0 at *
  generalize N / 18446744073709551616 = n1 at *
  generalize N % 18446744073709551616 = n0 at *
  clear hN
  have ht1 : decide ((c : Int) - (r : Int) < (r : Int)) = false := by simp; omega
  have ht2 : ((r : Int) == (c : Int) - (r : Int)) = true := by simp; omega
  have hcr : IntKind.u64.wrap ((c : Int) - (r : Int)) = (c : Int) - (r : Int) := by rw [IntKind.wrap_u64]; omega
  have hpar := par_val q0 (by omega)
  have hp2 : q0 % 2 = 1 := by omega
  rw [hp2] at hpar
  have hpar2 : bits .and .u64 (q0 : Int) 1 = 1 := hpar
  clear hpar hp2
  have HQ := Lib.hid (And.intro hq1 hq0)
  have HX : Hid True := trivial
  clear h2
  have HADD := Lib.hid (fun W => refAdd_any q 1 (by have := HQB.out; omega) W)
  unfold wideV at HADD
  rw [HQ.out.1, HQ.out.2, show (1 : Nat) / 18446744073709551616 = 0 from rfl, show (1 : Nat) % 18446744073709551616 = 1 from rfl] at HADD
  clear hq1 hq0
  clear h1
  have hbig : (0 < (q + 1) / 18446744073709551616 ∨ (q + 1) / 18446744073709551616 = 0) := by omega
  rcases hbig with hz | hz
  · have hz1 : decide (0 < (q + 1) / 18446744073709551616) = true := by simp; omega
    have HZ := Lib.hid hz
    clear hz
    go_enter Tryd.func31, Tryd.ntmps31
    go_wp2_with (first | (go_at_call 39; refine (HDM.out _).mono ?_; rintro e W1 ⟨rfl, hb1⟩; clear HDM; have HB1 := Lib.hid (Below.trans (((Below.refl _ w).alloc (Nat.le_refl _) (.cells #[.int .u64 (n1 : Int), .int .u64 (n0 : Int)] 58))) (hb1.mono (by simp))); have HS1 := Lib.hid (show w.heap.size ≤ W1.heap.size from HB1.out.size); clear hb1) | (go_at_call 40; refine (HADD.out _).mono ?_; rintro e W2 ⟨o2, rfl, hb2⟩; clear HADD; unfold wideV; generalize hy1 : (q + 1) / 18446744073709551616 = y1 at *; generalize hy0 : (q + 1) % 18446744073709551616 = y0 at *; have HY := Lib.hid (And.intro hy1 hy0); clear hy1 hy0; have HB2 := Lib.hid ((HB1.out.alloc HS1.out _).trans (hb2.mono (by simp; have := HS1.out; omega))); have HC2 : Hid (W2.heap[W1.heap.size]? = some (.cells [.int .u64 (q1 : Int), .int .u64 (q0 : Int)].toArray 58 (0, 0))) := (hb2.block W1.heap.size (by simp)).trans (heap_alloc_new W1 _); clear hb2) | (refine at_store 58 (.tmp 8) (.tmp 64) rfl ?_; refine wpList_store_box rfl 58 (.tmp 8) (.tmp 64) rfl W1.heap.size 0 (.agg #[.int .u64 (y1 : Int), .int .u64 (y0 : Int)]) #[.int .u64 (y1 : Int), .int .u64 (y0 : Int)] rfl rfl rfl _ [.int .u64 (y1 : Int), .int .u64 (y0 : Int)] _ HC2.out (Nat.le_of_ble_eq_true rfl) rfl (by kernel_rfl) (by rfl) ?_; intro W3 hB3 hbut3; have HB3 := Lib.hid (HB2.out.but hbut3 HS1.out); have hc30 : W3.cell? ⟨W1.heap.size, 0, none⟩ = some (.int .u64 (y1 : Int)) := (by rw [cell_of_row _ _ _ _ _ _ hB3]; rfl); have hc31 : W3.cell? ⟨W1.heap.size, 1, none⟩ = some (.int .u64 (y0 : Int)) := (by rw [cell_of_row _ _ _ _ _ _ hB3]; rfl); clear hB3 hbut3 HB2 HC2))
    go_ret2
    have e := qu_big HY.out.1 HZ.out
    exact quRet e.1.symm e.2.symm HB3.out
  · have hz1 : decide (0 < (q + 1) / 18446744073709551616) = false := by simp; omega
    have HZ := Lib.hid hz
    clear hz
    go_enter Tryd.func31, Tryd.ntmps31
    go_wp2_with (first | (go_at_call 39; refine (HDM.out _).mono ?_; rintro e W1 ⟨rfl, hb1⟩; clear HDM; have HB1 := Lib.hid (Below.trans (((Below.refl _ w).alloc (Nat.le_refl _) (.cells #[.int .u64 (n1 : Int), .int .u64 (n0 : Int)] 58))) (hb1.mono (by simp))); have HS1 := Lib.hid (show w.heap.size ≤ W1.heap.size from HB1.out.size); clear hb1) | (go_at_call 40; refine (HADD.out _).mono ?_; rintro e W2 ⟨o2, rfl, hb2⟩; clear HADD; unfold wideV; generalize hy1 : (q + 1) / 18446744073709551616 = y1 at *; generalize hy0 : (q + 1) % 18446744073709551616 = y0 at *; have HY := Lib.hid (And.intro hy1 hy0); clear hy1 hy0; have HB2 := Lib.hid ((HB1.out.alloc HS1.out _).trans (hb2.mono (by simp; have := HS1.out; omega))); have HC2 : Hid (W2.heap[W1.heap.size]? = some (.cells [.int .u64 (q1 : Int), .int .u64 (q0 : Int)].toArray 58 (0, 0))) := (hb2.block W1.heap.size (by simp)).trans (heap_alloc_new W1 _); clear hb2) | (refine at_store 58 (.tmp 8) (.tmp 64) rfl ?_; refine wpList_store_box rfl 58 (.tmp 8) (.tmp 64) rfl W1.heap.size 0 (.agg #[.int .u64 (y1 : Int), .int .u64 (y0 : Int)]) #[.int .u64 (y1 : Int), .int .u64 (y0 : Int)] rfl rfl rfl _ [.int .u64 (y1 : Int), .int .u64 (y0 : Int)] _ HC2.out (Nat.le_of_ble_eq_true rfl) rfl (by kernel_rfl) (by rfl) ?_; intro W3 hB3 hbut3; have HB3 := Lib.hid (HB2.out.but hbut3 HS1.out); have hc30 : W3.cell? ⟨W1.heap.size, 0, none⟩ = some (.int .u64 (y1 : Int)) := (by rw [cell_of_row _ _ _ _ _ _ hB3]; rfl); have hc31 : W3.cell? ⟨W1.heap.size, 1, none⟩ = some (.int .u64 (y0 : Int)) := (by rw [cell_of_row _ _ _ _ _ _ hB3]; rfl); clear hB3 hbut3 HB2 HC2))
    go_ret2
    have e := qu_small HY.out.1 HY.out.2 HZ.out
    exact quRet e.1.symm e.2.symm HB3.out
set_option maxHeartbeats 4000000 in
theorem d3e (N c : Nat) (hN : N < 170141183460469231731687303715884105728) (hc0 : 1 ≤ c) (hc : c ≤ 1000000000000) (h1 : N % c = c - N % c) (h2 : N / c % 2 = 0) (w : World) : Calls Tryd.prog 31 #[wideV N, .int .u64 (c : Int), .int .i64 3] w (QuRet w (N / c)) := by
  have HDM := Lib.hid (fun W => refDivMod_any N c (by omega) hc0 hc W)
  have hrc := Nat.mod_lt N hc0
  have HQB := Lib.hid (Nat.lt_of_le_of_lt (Nat.div_le_self N c) hN)
  generalize N / c = q at *
  generalize N % c = r at *
  unfold wideV at HDM ⊢
  generalize hq1 : q / 18446744073709551616 = q1 at *
  generalize hq0 : q % 18446744073709551616 = q0 at *
  generalize N / 18446744073709551616 = n1 at *
  generalize N % 18446744073709551616 = n0 at *
  clear hN
  have ht1 : decide ((c : Int) - (r : Int) < (r : Int)) = false := by simp; omega
  have ht2 : ((r : Int) == (c : Int) - (r : Int)) = true := by simp; omega
  have hcr : IntKind.u64.wrap ((c : Int) - (r : Int)) = (c : Int) - (r : Int) := by rw [IntKind.wrap_u64]; omega
  have hpar := par_val q0 (by omega)
  have hp2 : q0 % 2 = 0 := by omega
  rw [hp2] at hpar
  have hpar2 : bits .and .u64 (q0 : Int) 1 = 0 := hpar
  clear hpar hp2
  have HQ := Lib.hid (And.intro hq1 hq0)
  have HX : Hid True := trivial
  clear h2
  clear hq1 hq0
  clear h1
  have hbig : (0 < q1 ∨ q1 = 0) := by omega
  rcases hbig with hz | hz
  · have hz1 : decide (0 < q1) = true := by simp; omega
    have HZ := Lib.hid hz
    clear hz
    go_enter Tryd.func31, Tryd.ntmps31
    go_wp2_with (go_at_call 39; refine (HDM.out _).mono ?_; rintro e W1 ⟨rfl, hb1⟩; clear HDM; have HB1 := Lib.hid (Below.trans (((Below.refl _ w).alloc (Nat.le_refl _) (.cells #[.int .u64 (n1 : Int), .int .u64 (n0 : Int)] 58))) (hb1.mono (by simp))); have HS1 := Lib.hid (show w.heap.size ≤ W1.heap.size from HB1.out.size); clear hb1)
    go_ret2
    have e := qu_big HQ.out.1 HZ.out
    exact quRet e.1.symm e.2.symm (HB1.out.alloc HS1.out _)
  · subst hz
    go_enter Tryd.func31, Tryd.ntmps31
    go_wp2_with (go_at_call 39; refine (HDM.out _).mono ?_; rintro e W1 ⟨rfl, hb1⟩; clear HDM; have HB1 := Lib.hid (Below.trans (((Below.refl _ w).alloc (Nat.le_refl _) (.cells #[.int .u64 (n1 : Int), .int .u64 (n0 : Int)] 58))) (hb1.mono (by simp))); have HS1 := Lib.hid (show w.heap.size ≤ W1.heap.size from HB1.out.size); clear hb1)
    go_ret2
    have e := qu_small HQ.out.1 HQ.out.2 rfl
    exact quRet e.1.symm e.2.symm (HB1.out.alloc HS1.out _)
set_option maxHeartbeats 4000000 in
theorem d3l (N c : Nat) (hN : N < 170141183460469231731687303715884105728) (hc0 : 1 ≤ c) (hc : c ≤ 1000000000000) (h1 : N % c < c - N % c) (w : World) : Calls Tryd.prog 31 #[wideV N, .int .u64 (c : Int), .int .i64 3] w (QuRet w (N / c)) := by
  have HDM := Lib.hid (fun W => refDivMod_any N c (by omega) hc0 hc W)
  have hrc := Nat.mod_lt N hc0
  have HQB := Lib.hid (Nat.lt_of_le_of_lt (Nat.div_le_self N c) hN)
  generalize N / c = q at *
  generalize N % c = r at *
  unfold wideV at HDM ⊢
  generalize hq1 : q / 18446744073709551616 = q1 at *
  generalize hq0 : q % 18446744073709551616 = q0 at *
  generalize N / 18446744073709551616 = n1 at *
  generalize N % 18446744073709551616 = n0 at *
  clear hN
  have ht1 : decide ((c : Int) - (r : Int) < (r : Int)) = false := by simp; omega
  have ht2 : ((r : Int) == (c : Int) - (r : Int)) = false := by simp; omega
  have hcr : IntKind.u64.wrap ((c : Int) - (r : Int)) = (c : Int) - (r : Int) := by rw [IntKind.wrap_u64]; omega
  have HQ := Lib.hid (And.intro hq1 hq0)
  have HX : Hid True := trivial
  clear hq1 hq0
  clear h1
  have hbig : (0 < q1 ∨ q1 = 0) := by omega
  rcases hbig with hz | hz
  · have hz1 : decide (0 < q1) = true := by simp; omega
    have HZ := Lib.hid hz
    clear hz
    go_enter Tryd.func31, Tryd.ntmps31
    go_wp2_with (go_at_call 39; refine (HDM.out _).mono ?_; rintro e W1 ⟨rfl, hb1⟩; clear HDM; have HB1 := Lib.hid (Below.trans (((Below.refl _ w).alloc (Nat.le_refl _) (.cells #[.int .u64 (n1 : Int), .int .u64 (n0 : Int)] 58))) (hb1.mono (by simp))); have HS1 := Lib.hid (show w.heap.size ≤ W1.heap.size from HB1.out.size); clear hb1)
    go_ret2
    have e := qu_big HQ.out.1 HZ.out
    exact quRet e.1.symm e.2.symm (HB1.out.alloc HS1.out _)
  · subst hz
    go_enter Tryd.func31, Tryd.ntmps31
    go_wp2_with (go_at_call 39; refine (HDM.out _).mono ?_; rintro e W1 ⟨rfl, hb1⟩; clear HDM; have HB1 := Lib.hid (Below.trans (((Below.refl _ w).alloc (Nat.le_refl _) (.cells #[.int .u64 (n1 : Int), .int .u64 (n0 : Int)] 58))) (hb1.mono (by simp))); have HS1 := Lib.hid (show w.heap.size ≤ W1.heap.size from HB1.out.size); clear hb1)
    go_ret2
    have e := qu_small HQ.out.1 HQ.out.2 rfl
    exact quRet e.1.symm e.2.symm (HB1.out.alloc HS1.out _)
theorem refDiv_any (N c : Nat) (m : Int) (hN : N < 170141183460469231731687303715884105728) (hc0 : 1 ≤ c) (hc : c ≤ 1000000000000) (hm0 : 0 ≤ m) (hm : m ≤ 3) (w : World) :
    Calls Tryd.prog 31 #[wideV N, .int .u64 (c : Int), .int .i64 m] w (QuRet w (divR N c m)) := by
  unfold divR upB
  rcases (by omega : m = 0 ∨ m = 1 ∨ m = 2 ∨ m = 3) with rfl | rfl | rfl | rfl
  · exact d0 N c hN hc0 hc w
  · by_cases h : 0 < N % c
    · rw [if_pos (by simpa using h)]
      exact d1t N c hN hc0 hc h w
    · rw [if_neg (by simpa using h)]
      exact d1f N c hN hc0 hc (by omega) w
  · by_cases h : c - N % c ≤ N % c
    · rw [if_pos (by simpa using h)]
      exact d2t N c hN hc0 hc h w
    · rw [if_neg (by simpa using h)]
      exact d2f N c hN hc0 hc (by omega) w
  · by_cases h : c - N % c < N % c
    · rw [if_pos (by simp [h])]
      exact d3g N c hN hc0 hc h w
    · by_cases h2 : N % c = c - N % c
      · by_cases h3 : N / c % 2 = 1
        · rw [if_pos (by simp only [show ¬ (3 : Int) = 1 by decide, show ¬ (3 : Int) = 2 by decide, if_false, if_true, Bool.or_eq_true, Bool.and_eq_true, decide_eq_true_eq]; exact .inr ⟨h2, h3⟩)]
          exact d3o N c hN hc0 hc h2 h3 w
        · rw [if_neg (by simp only [show ¬ (3 : Int) = 1 by decide, show ¬ (3 : Int) = 2 by decide, if_false, if_true, Bool.or_eq_true, Bool.and_eq_true, decide_eq_true_eq]; rintro (h4 | ⟨_, h4⟩) <;> omega)]
          exact d3e N c hN hc0 hc h2 (by omega) w
      · rw [if_neg (by simp only [show ¬ (3 : Int) = 1 by decide, show ¬ (3 : Int) = 2 by decide, if_false, if_true, Bool.or_eq_true, Bool.and_eq_true, decide_eq_true_eq]; rintro (h4 | ⟨h4, _⟩) <;> omega)]
        exact d3l N c hN hc0 hc (by omega) w
theorem refMulDiv_any (a b c : Nat) (m : Int) (ha : a ≤ 1000000000000) (hb : b ≤ 1000000000000) (hc0 : 1 ≤ c) (hc : c ≤ 1000000000000) (hm0 : 0 ≤ m) (hm : m ≤ 3) (w : World) :
    Calls Tryd.prog 25 #[.int .u64 (a : Int), .int .u64 (b : Int), .int .u64 (c : Int), .int .i64 m] w (QuRet w (divR (a * b) c m)) := by
  have HM := Lib.hid (refMul_any a b (by omega) (by omega) w)
  have hN := Nat.mul_le_mul ha hb
  have HD := Lib.hid (fun W => refDiv_any (a * b) c m (by omega) hc0 hc hm0 hm W)
  clear hN
  unfold wideV at HM HD
  generalize a * b = N at *
  generalize N / 18446744073709551616 = n1 at *
  generalize N % 18446744073709551616 = n0 at *
  generalize divR N c m = x at *
  unfold QuRet at *
  generalize quV x = y at *
  generalize quE x = z at *
  go_enter Tryd.func25, Tryd.ntmps25
  go_wp2_with (first
    | (go_at_call 32; refine HM.out.mono ?_; rintro e W1 ⟨rfl, hb1⟩; have HB1 := Lib.hid hb1; clear hb1)
    | (go_at_call 31; refine (HD.out _).mono ?_; rintro e W2 ⟨rfl, hb2⟩; have HB2 := Lib.hid (HB1.out.trans (hb2.mono HB1.out.size)); clear hb2))
  go_ret2
  exact ⟨rfl, HB2.out⟩
end Go.Proofs.YtjgobaedeagojaaDoor
