/- Contracts of money: within, isAmount, Scale, Part, and of the reference's Amount, Scale, Part. -/
import Derived.Test.YtjgobaedeagojaaDoorOe
import Derived.Test.YtjgobaedeagojaaDoorNf
import Derived.Test.YtjgobaedeagojaaDoorFrame
namespace Go.Proofs.YtjgobaedeagojaaDoor
open Go.RowKit
set_option linter.unusedVariables false

theorem ret_bool {a b : Bool} (h : a = b) : Ending.returned (.bool a) = .returned (.bool b) := by rw [h]
theorem Rd.intAt {w : World} {A : Option Addr} {l : List Int} (h : Rd w A (ints l)) {k : Nat} (hk : k < l.length) : ∃ b off, A = some ⟨b, off, none⟩ ∧ w.cell? ⟨b, off + k, none⟩ = some (.int .i64 (l[k]?.getD 0)) := Rd.int h hk
def inB (lo hi x : Int) : Bool := decide (lo ≤ x) && decide (x ≤ hi)
def WiRel (lo hi : Int) (l : List Int) (w : World) (g : Nat) (v : Value) (wr : World) : Prop := ∃ k : Nat, k + g = l.length ∧ v = .int .i64 (k : Int) ∧ l.all (inB lo hi) = (l.drop k).all (inB lo hi) ∧ w = wr
set_option maxHeartbeats 2000000 in
theorem withinA_any (lo hi : Int) (A : Option Addr) (c : Nat) (l : List Int) (w : World) (h : Rd w A (ints l)) (hl : l.length ≤ 1000000000) :
    Calls Tryd.prog 22 #[.int .i64 lo, .int .i64 hi, .slice A l.length c] w fun e w' => e = .returned (.bool (l.all (inB lo hi))) ∧ w = w' := by
  go_enter Tryd.func22, Tryd.ntmps22
  go_wp2
  go_loopg [11] l.length (fun g v wr => WiRel lo hi l w g v wr)
  case atStart => exact ⟨0, by omega, rfl, rfl, rfl⟩
  case round =>
    obtain ⟨k, hk, rfl, he, rfl⟩ := hrel
    have HK := Lib.hid hk
    have HE := Lib.hid he
    have hk2 : k ≤ l.length := by omega
    clear hk he
    by_cases hlt : k < l.length
    · obtain ⟨b, off, rfl, hc⟩ := h.intAt hlt
      have HST : Hid ((l.drop k).all (inB lo hi) = (inB lo hi (l[k]?.getD 0) && (l.drop (k + 1)).all (inB lo hi))) := by
        show _ = _
        rw [List.drop_eq_getElem_cons hlt, List.all_cons, List.getElem?_eq_getElem hlt]
        rfl
      generalize l[k]?.getD 0 = x at *
      by_cases h1 : lo ≤ x
      · by_cases h2 : x ≤ hi
        · have HI : Hid (inB lo hi x = true) := by show _ = _; unfold inB; simp [h1, h2]
          go_wp2
          go_roundg (l.length - (k + 1))
          case measure => have := HK.out; omega
          case rel => exact ⟨k + 1, by omega, by go_num, by rw [HE.out, HST.out, HI.out, Bool.true_and], rfl⟩
        · have HI : Hid (inB lo hi x = false) := by show _ = _; unfold inB; simp [h2]
          go_wp2
          go_ret
          exact ⟨ret_bool (by rw [HE.out, HST.out, HI.out, Bool.false_and]), rfl⟩
      · have HI : Hid (inB lo hi x = false) := by show _ = _; unfold inB; simp [h1]
        go_wp2
        go_ret
        exact ⟨ret_bool (by rw [HE.out, HST.out, HI.out, Bool.false_and]), rfl⟩
    · have hge : l.length ≤ k := by omega
      have HN : Hid ((l.drop k).all (inB lo hi) = true) := by show _ = _; rw [List.drop_eq_nil_of_le hge]; rfl
      clear hlt
      go_wp2
      go_ret
      exact ⟨ret_bool (by rw [HE.out, HN.out]), rfl⟩
theorem rd_one (w : World) (x : Int) (t : TypeId) : Rd (w.alloc (.cells #[.int .i64 x] t)) (some ⟨w.heap.size, 0, none⟩) (ints [x]) := fun j u hu => by
  cases j with
  | zero =>
    refine ⟨_, rfl, ?_⟩
    rw [Addr.add_lit, cell_of_row _ _ _ _ _ _ (heap_alloc_new w _)]
    simpa [ints] using hu
  | succ j => simp [ints] at hu
theorem within1_any (lo hi x : Int) (w : World) : Calls Tryd.prog 22 #[.int .i64 lo, .int .i64 hi, .slice (some ⟨w.heap.size, 0, none⟩) 1 1] (w.alloc (.cells #[.int .i64 x] 3)) fun e w' => e = .returned (.bool (inB lo hi x)) ∧ w' = w.alloc (.cells #[.int .i64 x] 3) :=
  (withinA_any lo hi _ 1 [x] _ (rd_one w x _) (by simp)).mono fun e w' ⟨h1, h2⟩ => ⟨by rw [h1]; simp [inB], h2.symm⟩
theorem within1b_any (lo hi x : Int) (W : World) (g : Nat) (hg : g = W.heap.size) : Calls Tryd.prog 22 #[.int .i64 lo, .int .i64 hi, .slice (some ⟨g, 0, none⟩) 1 1] (W.alloc (.cells #[.int .i64 x] 3)) fun e w' => e = .returned (.bool (inB lo hi x)) ∧ w' = W.alloc (.cells #[.int .i64 x] 3) := by
  subst hg
  exact within1_any lo hi x W
theorem inB_amt (x : Int) : inB (-1000000000000) 1000000000000 x = amtB x := rfl
set_option maxHeartbeats 1000000 in
theorem isAmount_any (x : Int) (w : World) : Calls Tryd.prog 21 #[.int .i64 x] w fun e w' => e = .returned (.bool (amtB x)) ∧ Below w.heap.size w w' := by
  have HW := Lib.hid (within1_any (-1000000000000) 1000000000000 x w)
  rw [inB_amt] at HW
  generalize amtB x = b at *
  go_enter Tryd.func21, Tryd.ntmps21
  go_wp2_with (go_at_call 22; refine HW.out.mono ?_; rintro e w' ⟨rfl, rfl⟩)
  go_ret
  exact ⟨rfl, (Below.refl _ w).alloc (Nat.le_refl _) _⟩
set_option maxHeartbeats 1000000 in
theorem refAmount_any (x : Int) (w : World) : Calls Tryd.prog 24 #[.int .i64 x] w fun e w' => e = .returned (.bool (amtB x)) ∧ w = w' := by
  by_cases h0 : -1000000000000 ≤ x
  · have hd : Hid (amtB x = decide (x ≤ 1000000000000)) := by show _ = _; simp [amtB, h0]
    go_enter Tryd.func24, Tryd.ntmps24
    go_wp2
    go_ret
    exact ⟨by rw [hd.out]; rfl, rfl⟩
  · have hd : Hid (amtB x = false) := by show _ = _; simp [amtB, h0]
    have h1 : x < -1000000000000 := by omega
    clear h0
    go_enter Tryd.func24, Tryd.ntmps24
    go_wp2
    go_ret
    exact ⟨by rw [hd.out]; rfl, rfl⟩
def ScRet (w : World) (v e : Int) (en : Ending) (w' : World) : Prop := en = .returned (.tuple #[.int .i64 v, .int .i64 e]) ∧ Below w.heap.size w w'
theorem scRet {w w' : World} {v e a b : Int} (h1 : a = v) (h2 : b = e) (h : Below w.heap.size w w') : ScRet w v e (.returned (.tuple #[.int .i64 a, .int .i64 b])) w' := ⟨by rw [h1, h2], h⟩
theorem sc_bad {a n d m : Int} (h : scOk a n d m = false) : scV a n d m = 0 ∧ scE a n d m = 2 := by
  unfold scV scE
  rw [if_neg (by simp [h]), if_neg (by simp [h])]
  exact ⟨rfl, rfl⟩
theorem sc_parts (a n d m : Int) : scOk a n d m = (amtB a && inB 0 1000000000000 n && inB 1 1000000000000 d && (decide (0 ≤ m) && decide (m ≤ 3))) := rfl
/-- the three ways in which a product ends -/
theorem ends (R : Nat) : (R ≤ 1000000000000 ∧ quV R = (R : Int) ∧ quE R = 0) ∨ (1000000000000 < R ∧ quV R = (R : Int) ∧ quE R = 0) ∨ (1000000000000 < R ∧ quV R = 0 ∧ quE R = 3) := by
  unfold quV quE
  by_cases h : R < 18446744073709551616
  · rw [if_pos h, if_pos h]; omega
  · rw [if_neg h, if_neg h]; omega
theorem sc_small {a n d m : Int} {R : Nat} (h : scOk a n d m = true) (hR : scR a n d m = R) (h2 : R ≤ 1000000000000) : (scV a n d m = if a < 0 then -(R : Int) else (R : Int)) ∧ scE a n d m = 0 := by
  unfold scV scE
  rw [if_pos h, if_pos h, hR, if_pos h2, if_pos h2]
  exact ⟨rfl, rfl⟩
theorem sc_big {a n d m : Int} {R : Nat} (h : scOk a n d m = true) (hR : scR a n d m = R) (h2 : 1000000000000 < R) : scV a n d m = 0 ∧ scE a n d m = 3 := by
  unfold scV scE
  rw [if_pos h, if_pos h, hR, if_neg (by omega), if_neg (by omega)]
  exact ⟨rfl, rfl⟩
theorem maxabs_neg {k : Nat} (h : 0 < k) : max (-(k : Int)) (k : Int) = (k : Int) := by omega
theorem maxabs_pos (k : Nat) : max (k : Int) (-(k : Int)) = (k : Int) := by omega

set_option maxRecDepth 100000 in
set_option maxHeartbeats 4000000 in
theorem scale_any (a n d m : Int) (ha : -9223372036854775808 ≤ a ∧ a ≤ 9223372036854775807) (w : World) : Calls Tryd.prog 10 #[.int .i64 a, .int .i64 n, .int .i64 d, .int .i64 m] w (ScRet w (scV a n d m) (scE a n d m)) := by
  have HA := Lib.hid (fun W => isAmount_any a W)
  have HW1 := Lib.hid (fun W g hg => within1b_any 0 1000000000000 n W g hg)
  have HW2 := Lib.hid (fun W g hg => within1b_any 1 1000000000000 d W g hg)
  have F1 : True := trivial
  have F2 : True := trivial
  cases e1 : amtB a
  · have HQ := Lib.hid (sc_bad (a := a) (n := n) (d := d) (m := m) (by rw [sc_parts, e1]; rfl))
    rw [e1] at HA
    clear e1 HW1 HW2 F1 F2
    go_enter Tryd.func10, Tryd.ntmps10
    go_wp2_with (first
      | (go_at_call 21; refine (HA.out _).mono ?_; rintro e W1 ⟨rfl, hb1⟩; have HB1 := Lib.hid hb1; clear hb1))
    go_ret2
    exact scRet HQ.out.1.symm HQ.out.2.symm HB1.out
  · rw [e1] at HA
    cases e2 : inB 0 1000000000000 n
    · have HQ := Lib.hid (sc_bad (a := a) (n := n) (d := d) (m := m) (by rw [sc_parts, e1, e2]; rfl))
      rw [e2] at HW1
      clear e1 e2 HW2 F2
      go_enter Tryd.func10, Tryd.ntmps10
      go_wp2_with (first
        | (go_at_call 21; refine (HA.out _).mono ?_; rintro e W1 ⟨rfl, hb1⟩; have HB1 := Lib.hid hb1; clear hb1)
        | (go_at_call 22; clear F1; refine (HW1.out _ _ (by first | rfl | simp)).mono ?_; rintro e w' ⟨rfl, rfl⟩))
      go_ret2
      exact scRet HQ.out.1.symm HQ.out.2.symm (HB1.out.alloc HB1.out.size _)
    · rw [e2] at HW1
      cases e3 : inB 1 1000000000000 d
      · have HQ := Lib.hid (sc_bad (a := a) (n := n) (d := d) (m := m) (by rw [sc_parts, e1, e2, e3]; rfl))
        rw [e3] at HW2
        clear e1 e2 e3
        go_enter Tryd.func10, Tryd.ntmps10
        go_wp2_with (first
          | (go_at_call 21; refine (HA.out _).mono ?_; rintro e W1 ⟨rfl, hb1⟩; have HB1 := Lib.hid hb1; clear hb1)
          | (go_at_call 22; clear F1; refine (HW1.out _ _ (by first | rfl | simp)).mono ?_; rintro e w' ⟨rfl, rfl⟩)
          | (go_at_call 22; clear F2; refine (HW2.out _ _ (by first | rfl | simp)).mono ?_; rintro e w' ⟨rfl, rfl⟩))
        go_ret2
        exact scRet HQ.out.1.symm HQ.out.2.symm ((HB1.out.alloc HB1.out.size _).alloc (by simp; have := HB1.out.size; omega) _)
      · rw [e3] at HW2
        by_cases hm0 : m < 0
        · have HQ := Lib.hid (sc_bad (a := a) (n := n) (d := d) (m := m) (by rw [sc_parts, e1, e2, e3]; simp; omega))
          clear e1 e2 e3
          go_enter Tryd.func10, Tryd.ntmps10
          go_wp2_with (first
            | (go_at_call 21; refine (HA.out _).mono ?_; rintro e W1 ⟨rfl, hb1⟩; have HB1 := Lib.hid hb1; clear hb1)
            | (go_at_call 22; clear F1; refine (HW1.out _ _ (by first | rfl | simp)).mono ?_; rintro e w' ⟨rfl, rfl⟩)
            | (go_at_call 22; clear F2; refine (HW2.out _ _ (by first | rfl | simp)).mono ?_; rintro e w' ⟨rfl, rfl⟩))
          go_ret2
          exact scRet HQ.out.1.symm HQ.out.2.symm ((HB1.out.alloc HB1.out.size _).alloc (by simp; have := HB1.out.size; omega) _)
        by_cases hm3 : 3 < m
        · have HQ := Lib.hid (sc_bad (a := a) (n := n) (d := d) (m := m) (by rw [sc_parts, e1, e2, e3]; simp; omega))
          clear e1 e2 e3
          go_enter Tryd.func10, Tryd.ntmps10
          go_wp2_with (first
            | (go_at_call 21; refine (HA.out _).mono ?_; rintro e W1 ⟨rfl, hb1⟩; have HB1 := Lib.hid hb1; clear hb1)
            | (go_at_call 22; clear F1; refine (HW1.out _ _ (by first | rfl | simp)).mono ?_; rintro e w' ⟨rfl, rfl⟩)
            | (go_at_call 22; clear F2; refine (HW2.out _ _ (by first | rfl | simp)).mono ?_; rintro e w' ⟨rfl, rfl⟩))
          go_ret2
          exact scRet HQ.out.1.symm HQ.out.2.symm ((HB1.out.alloc HB1.out.size _).alloc (by simp; have := HB1.out.size; omega) _)
        have hok : scOk a n d m = true := by rw [sc_parts, e1, e2, e3]; simp; omega
        have ham := amt_iff.1 e1
        have hn0 : 0 ≤ n ∧ n ≤ 1000000000000 := by unfold inB at e2; simpa using e2
        have hd0 : 1 ≤ d ∧ d ≤ 1000000000000 := by unfold inB at e3; simpa using e3
        clear e1 e2 e3
        obtain ⟨N, rfl⟩ := Int.eq_ofNat_of_zero_le hn0.1
        obtain ⟨D, rfl⟩ := Int.eq_ofNat_of_zero_le (show 0 ≤ d by omega)
        have HMD := Lib.hid (fun W => exMulDiv_any a.natAbs N D m (by omega) (by omega) (by omega) (by omega) (by omega) (by omega) W)
        have HR : Hid (scR a N D m = divR (a.natAbs * N) D m) := rfl
        have HEN := Lib.hid (ends (divR (a.natAbs * N) D m))
        have HOK := Lib.hid hok
        unfold QuRet at HMD
        generalize divR (a.natAbs * N) D m = R at *
        have hN1 := hn0.2
        have hD1 := hd0.2
        have hD0 := hd0.1
        clear hok hn0 hd0
        by_cases hs : a < 0
        · obtain ⟨K, hK⟩ : ∃ K : Nat, a = -(K : Int) := ⟨a.natAbs, by omega⟩
          have hK0 : 0 < K := by omega
          rw [show a.natAbs = K by omega] at HMD
          have HK := Lib.hid hK
          subst hK
          have hmx := maxabs_neg hK0
          have hKb : K ≤ 1000000000000 := by omega
          clear ham ha hK0
          rcases HEN.out with ⟨hr, hv, he⟩ | ⟨hr, hv, he⟩ | ⟨hr, hv, he⟩
          · rw [hv, he] at HMD
            have HQ := Lib.hid (sc_small HOK.out HR.out hr)
            have hcm : decide ((1000000000000 : Int) < (R : Int)) = false := by simp; omega
            have HRB := Lib.hid hr
            clear hr hv he
            have hRi : (R : Int) ≤ 1000000000000 := by have := HRB.out; omega
            go_enter Tryd.func10, Tryd.ntmps10
            go_wp2_with (first
              | (go_at_call 21; refine (HA.out _).mono ?_; rintro e W1 ⟨rfl, hb1⟩; have HB1 := Lib.hid hb1; clear hb1)
              | (go_at_call 22; clear F1; refine (HW1.out _ _ (by first | rfl | simp)).mono ?_; rintro e w' ⟨rfl, rfl⟩)
              | (go_at_call 22; clear F2; refine (HW2.out _ _ (by first | rfl | simp)).mono ?_; rintro e w' ⟨rfl, rfl⟩)
              | (go_at_call 23; refine (HMD.out _).mono ?_; rintro e W5 ⟨rfl, hb5⟩; have HB5 := Lib.hid (Below.trans ((HB1.out.alloc HB1.out.size _).alloc (by simp; have := HB1.out.size; omega) _) (hb5.mono (by first | exact Nat.le_refl _ | (simp; have := HB1.out.size; omega)))); clear hb5))
            go_ret2
            have e := HQ.out.1
            rw [if_pos (show -(K : Int) < 0 by omega)] at e
            exact scRet (by rw [e]) HQ.out.2.symm HB5.out
          · rw [hv, he] at HMD
            have HQ := Lib.hid (sc_big HOK.out HR.out hr)
            have hcm : decide ((1000000000000 : Int) < (R : Int)) = true := by simp; omega
            clear hr hv he
            go_enter Tryd.func10, Tryd.ntmps10
            go_wp2_with (first
              | (go_at_call 21; refine (HA.out _).mono ?_; rintro e W1 ⟨rfl, hb1⟩; have HB1 := Lib.hid hb1; clear hb1)
              | (go_at_call 22; clear F1; refine (HW1.out _ _ (by first | rfl | simp)).mono ?_; rintro e w' ⟨rfl, rfl⟩)
              | (go_at_call 22; clear F2; refine (HW2.out _ _ (by first | rfl | simp)).mono ?_; rintro e w' ⟨rfl, rfl⟩)
              | (go_at_call 23; refine (HMD.out _).mono ?_; rintro e W5 ⟨rfl, hb5⟩; have HB5 := Lib.hid (Below.trans ((HB1.out.alloc HB1.out.size _).alloc (by simp; have := HB1.out.size; omega) _) (hb5.mono (by first | exact Nat.le_refl _ | (simp; have := HB1.out.size; omega)))); clear hb5))
            go_ret2
            exact scRet HQ.out.1.symm HQ.out.2.symm HB5.out
          · rw [hv, he] at HMD
            have HQ := Lib.hid (sc_big HOK.out HR.out hr)
            clear hr hv he
            go_enter Tryd.func10, Tryd.ntmps10
            go_wp2_with (first
              | (go_at_call 21; refine (HA.out _).mono ?_; rintro e W1 ⟨rfl, hb1⟩; have HB1 := Lib.hid hb1; clear hb1)
              | (go_at_call 22; clear F1; refine (HW1.out _ _ (by first | rfl | simp)).mono ?_; rintro e w' ⟨rfl, rfl⟩)
              | (go_at_call 22; clear F2; refine (HW2.out _ _ (by first | rfl | simp)).mono ?_; rintro e w' ⟨rfl, rfl⟩)
              | (go_at_call 23; refine (HMD.out _).mono ?_; rintro e W5 ⟨rfl, hb5⟩; have HB5 := Lib.hid (Below.trans ((HB1.out.alloc HB1.out.size _).alloc (by simp; have := HB1.out.size; omega) _) (hb5.mono (by first | exact Nat.le_refl _ | (simp; have := HB1.out.size; omega)))); clear hb5))
            go_ret2
            exact scRet HQ.out.1.symm HQ.out.2.symm HB5.out
        · obtain ⟨K, hK⟩ : ∃ K : Nat, a = (K : Int) := ⟨a.natAbs, by omega⟩
          rw [show a.natAbs = K by omega] at HMD
          have HK := Lib.hid hK
          subst hK
          have hmx := maxabs_pos K
          have hKb : K ≤ 1000000000000 := by omega
          clear ham ha
          have hs2 : decide ((K : Int) < 0) = false := decide_eq_false (by omega)
          clear hs
          rcases HEN.out with ⟨hr, hv, he⟩ | ⟨hr, hv, he⟩ | ⟨hr, hv, he⟩
          · rw [hv, he] at HMD
            have HQ := Lib.hid (sc_small HOK.out HR.out hr)
            have hcm : decide ((1000000000000 : Int) < (R : Int)) = false := by simp; omega
            have HRB := Lib.hid hr
            clear hr hv he
            have hRi : (R : Int) ≤ 1000000000000 := by have := HRB.out; omega
            go_enter Tryd.func10, Tryd.ntmps10
            go_wp2_with (first
              | (go_at_call 21; refine (HA.out _).mono ?_; rintro e W1 ⟨rfl, hb1⟩; have HB1 := Lib.hid hb1; clear hb1)
              | (go_at_call 22; clear F1; refine (HW1.out _ _ (by first | rfl | simp)).mono ?_; rintro e w' ⟨rfl, rfl⟩)
              | (go_at_call 22; clear F2; refine (HW2.out _ _ (by first | rfl | simp)).mono ?_; rintro e w' ⟨rfl, rfl⟩)
              | (go_at_call 23; refine (HMD.out _).mono ?_; rintro e W5 ⟨rfl, hb5⟩; have HB5 := Lib.hid (Below.trans ((HB1.out.alloc HB1.out.size _).alloc (by simp; have := HB1.out.size; omega) _) (hb5.mono (by first | exact Nat.le_refl _ | (simp; have := HB1.out.size; omega)))); clear hb5))
            go_ret2
            have e := HQ.out.1
            rw [if_neg (show ¬ (K : Int) < 0 by omega)] at e
            exact scRet (by rw [e]) HQ.out.2.symm HB5.out
          · rw [hv, he] at HMD
            have HQ := Lib.hid (sc_big HOK.out HR.out hr)
            have hcm : decide ((1000000000000 : Int) < (R : Int)) = true := by simp; omega
            clear hr hv he
            go_enter Tryd.func10, Tryd.ntmps10
            go_wp2_with (first
              | (go_at_call 21; refine (HA.out _).mono ?_; rintro e W1 ⟨rfl, hb1⟩; have HB1 := Lib.hid hb1; clear hb1)
              | (go_at_call 22; clear F1; refine (HW1.out _ _ (by first | rfl | simp)).mono ?_; rintro e w' ⟨rfl, rfl⟩)
              | (go_at_call 22; clear F2; refine (HW2.out _ _ (by first | rfl | simp)).mono ?_; rintro e w' ⟨rfl, rfl⟩)
              | (go_at_call 23; refine (HMD.out _).mono ?_; rintro e W5 ⟨rfl, hb5⟩; have HB5 := Lib.hid (Below.trans ((HB1.out.alloc HB1.out.size _).alloc (by simp; have := HB1.out.size; omega) _) (hb5.mono (by first | exact Nat.le_refl _ | (simp; have := HB1.out.size; omega)))); clear hb5))
            go_ret2
            exact scRet HQ.out.1.symm HQ.out.2.symm HB5.out
          · rw [hv, he] at HMD
            have HQ := Lib.hid (sc_big HOK.out HR.out hr)
            clear hr hv he
            go_enter Tryd.func10, Tryd.ntmps10
            go_wp2_with (first
              | (go_at_call 21; refine (HA.out _).mono ?_; rintro e W1 ⟨rfl, hb1⟩; have HB1 := Lib.hid hb1; clear hb1)
              | (go_at_call 22; clear F1; refine (HW1.out _ _ (by first | rfl | simp)).mono ?_; rintro e w' ⟨rfl, rfl⟩)
              | (go_at_call 22; clear F2; refine (HW2.out _ _ (by first | rfl | simp)).mono ?_; rintro e w' ⟨rfl, rfl⟩)
              | (go_at_call 23; refine (HMD.out _).mono ?_; rintro e W5 ⟨rfl, hb5⟩; have HB5 := Lib.hid (Below.trans ((HB1.out.alloc HB1.out.size _).alloc (by simp; have := HB1.out.size; omega) _) (hb5.mono (by first | exact Nat.le_refl _ | (simp; have := HB1.out.size; omega)))); clear hb5))
            go_ret2
            exact scRet HQ.out.1.symm HQ.out.2.symm HB5.out

set_option maxRecDepth 100000 in
set_option maxHeartbeats 4000000 in
theorem refScale_any (a n d m : Int) (ha : -9223372036854775808 ≤ a ∧ a ≤ 9223372036854775807) (w : World) : Calls Tryd.prog 11 #[.int .i64 a, .int .i64 n, .int .i64 d, .int .i64 m] w (ScRet w (scV a n d m) (scE a n d m)) := by
  have HA := Lib.hid (fun W => refAmount_any a W)
  cases e1 : amtB a
  · have HQ := Lib.hid (sc_bad (a := a) (n := n) (d := d) (m := m) (by rw [sc_parts, e1]; rfl))
    rw [e1] at HA
    clear e1
    go_enter Tryd.func11, Tryd.ntmps11
    go_wp2_with (first
      | (go_at_call 24; refine (HA.out _).mono ?_; rintro e W1 ⟨rfl, rfl⟩))
    go_ret2
    exact scRet HQ.out.1.symm HQ.out.2.symm (Below.refl _ _)
  · rw [e1] at HA
    have e1c := e1
    by_cases hq : n < 0
    · have HQ := Lib.hid (sc_bad (a := a) (n := n) (d := d) (m := m) (by rw [sc_parts, e1]; unfold inB; simp; omega))
      clear e1 e1c
      go_enter Tryd.func11, Tryd.ntmps11
      go_wp2_with (first
        | (go_at_call 24; refine (HA.out _).mono ?_; rintro e W1 ⟨rfl, rfl⟩))
      go_ret2
      exact scRet HQ.out.1.symm HQ.out.2.symm (Below.refl _ _)
    have hn112 : 0 ≤ n := by omega
    clear hq
    by_cases hq : 1000000000000 < n
    · have HQ := Lib.hid (sc_bad (a := a) (n := n) (d := d) (m := m) (by rw [sc_parts, e1]; unfold inB; simp; omega))
      clear e1 e1c
      go_enter Tryd.func11, Tryd.ntmps11
      go_wp2_with (first
        | (go_at_call 24; refine (HA.out _).mono ?_; rintro e W1 ⟨rfl, rfl⟩))
      go_ret2
      exact scRet HQ.out.1.symm HQ.out.2.symm (Below.refl _ _)
    have hn118 : n ≤ 1000000000000 := by omega
    clear hq
    by_cases hq : d < 1
    · have HQ := Lib.hid (sc_bad (a := a) (n := n) (d := d) (m := m) (by rw [sc_parts, e1]; unfold inB; simp; omega))
      clear e1 e1c
      go_enter Tryd.func11, Tryd.ntmps11
      go_wp2_with (first
        | (go_at_call 24; refine (HA.out _).mono ?_; rintro e W1 ⟨rfl, rfl⟩))
      go_ret2
      exact scRet HQ.out.1.symm HQ.out.2.symm (Below.refl _ _)
    have hn124 : 1 ≤ d := by omega
    clear hq
    by_cases hq : 1000000000000 < d
    · have HQ := Lib.hid (sc_bad (a := a) (n := n) (d := d) (m := m) (by rw [sc_parts, e1]; unfold inB; simp; omega))
      clear e1 e1c
      go_enter Tryd.func11, Tryd.ntmps11
      go_wp2_with (first
        | (go_at_call 24; refine (HA.out _).mono ?_; rintro e W1 ⟨rfl, rfl⟩))
      go_ret2
      exact scRet HQ.out.1.symm HQ.out.2.symm (Below.refl _ _)
    have hn130 : d ≤ 1000000000000 := by omega
    clear hq
    have e2 : inB 0 1000000000000 n = true := by unfold inB; simp; omega
    have e3 : inB 1 1000000000000 d = true := by unfold inB; simp; omega
    by_cases hm0 : m < 0
    · have HQ := Lib.hid (sc_bad (a := a) (n := n) (d := d) (m := m) (by rw [sc_parts, e1, e2, e3]; simp; omega))
      clear e1 e2 e3 e1c
      go_enter Tryd.func11, Tryd.ntmps11
      go_wp2_with (first
        | (go_at_call 24; refine (HA.out _).mono ?_; rintro e W1 ⟨rfl, rfl⟩))
      go_ret2
      exact scRet HQ.out.1.symm HQ.out.2.symm (Below.refl _ _)
    by_cases hm3 : 3 < m
    · have HQ := Lib.hid (sc_bad (a := a) (n := n) (d := d) (m := m) (by rw [sc_parts, e1, e2, e3]; simp; omega))
      clear e1 e2 e3 e1c
      go_enter Tryd.func11, Tryd.ntmps11
      go_wp2_with (first
        | (go_at_call 24; refine (HA.out _).mono ?_; rintro e W1 ⟨rfl, rfl⟩))
      go_ret2
      exact scRet HQ.out.1.symm HQ.out.2.symm (Below.refl _ _)
    have hok : scOk a n d m = true := by rw [sc_parts, e1, e2, e3]; simp; omega
    have ham := amt_iff.1 e1
    have hn0 : 0 ≤ n ∧ n ≤ 1000000000000 := by unfold inB at e2; simpa using e2
    have hd0 : 1 ≤ d ∧ d ≤ 1000000000000 := by unfold inB at e3; simpa using e3
    clear e1 e2 e3 e1c
    obtain ⟨N, rfl⟩ := Int.eq_ofNat_of_zero_le hn0.1
    obtain ⟨D, rfl⟩ := Int.eq_ofNat_of_zero_le (show 0 ≤ d by omega)
    have HMD := Lib.hid (fun W => refMulDiv_any a.natAbs N D m (by omega) (by omega) (by omega) (by omega) (by omega) (by omega) W)
    have HR : Hid (scR a N D m = divR (a.natAbs * N) D m) := rfl
    have HEN := Lib.hid (ends (divR (a.natAbs * N) D m))
    have HOK := Lib.hid hok
    unfold QuRet at HMD
    generalize divR (a.natAbs * N) D m = R at *
    have hN1 := hn0.2
    have hD1 := hd0.2
    have hD0 := hd0.1
    clear hok hn0 hd0
    by_cases hs : a < 0
    · obtain ⟨K, hK⟩ : ∃ K : Nat, a = -(K : Int) := ⟨a.natAbs, by omega⟩
      have hK0 : 0 < K := by omega
      rw [show a.natAbs = K by omega] at HMD
      have HK := Lib.hid hK
      subst hK
      have hmx := maxabs_neg hK0
      have hKb : K ≤ 1000000000000 := by omega
      clear ham ha hK0
      rcases HEN.out with ⟨hr, hv, he⟩ | ⟨hr, hv, he⟩ | ⟨hr, hv, he⟩
      · rw [hv, he] at HMD
        have HQ := Lib.hid (sc_small HOK.out HR.out hr)
        have hcm : decide ((1000000000000 : Int) < (R : Int)) = false := by simp; omega
        have HRB := Lib.hid hr
        clear hr hv he
        have hRi : (R : Int) ≤ 1000000000000 := by have := HRB.out; omega
        go_enter Tryd.func11, Tryd.ntmps11
        go_wp2_with (first
          | (go_at_call 24; refine (HA.out _).mono ?_; rintro e W1 ⟨rfl, rfl⟩)
          | (go_at_call 25; refine (HMD.out _).mono ?_; rintro e W5 ⟨rfl, hb5⟩; have HB5 := Lib.hid (Below.trans (Below.refl _ _) (hb5.mono (by first | exact Nat.le_refl _ | (simp; have := HB1.out.size; omega)))); clear hb5))
        go_ret2
        have e := HQ.out.1
        rw [if_pos (show -(K : Int) < 0 by omega)] at e
        exact scRet (by rw [e]) HQ.out.2.symm HB5.out
      · rw [hv, he] at HMD
        have HQ := Lib.hid (sc_big HOK.out HR.out hr)
        have hcm : decide ((1000000000000 : Int) < (R : Int)) = true := by simp; omega
        clear hr hv he
        go_enter Tryd.func11, Tryd.ntmps11
        go_wp2_with (first
          | (go_at_call 24; refine (HA.out _).mono ?_; rintro e W1 ⟨rfl, rfl⟩)
          | (go_at_call 25; refine (HMD.out _).mono ?_; rintro e W5 ⟨rfl, hb5⟩; have HB5 := Lib.hid (Below.trans (Below.refl _ _) (hb5.mono (by first | exact Nat.le_refl _ | (simp; have := HB1.out.size; omega)))); clear hb5))
        go_ret2
        exact scRet HQ.out.1.symm HQ.out.2.symm HB5.out
      · rw [hv, he] at HMD
        have HQ := Lib.hid (sc_big HOK.out HR.out hr)
        clear hr hv he
        go_enter Tryd.func11, Tryd.ntmps11
        go_wp2_with (first
          | (go_at_call 24; refine (HA.out _).mono ?_; rintro e W1 ⟨rfl, rfl⟩)
          | (go_at_call 25; refine (HMD.out _).mono ?_; rintro e W5 ⟨rfl, hb5⟩; have HB5 := Lib.hid (Below.trans (Below.refl _ _) (hb5.mono (by first | exact Nat.le_refl _ | (simp; have := HB1.out.size; omega)))); clear hb5))
        go_ret2
        exact scRet HQ.out.1.symm HQ.out.2.symm HB5.out
    · obtain ⟨K, hK⟩ : ∃ K : Nat, a = (K : Int) := ⟨a.natAbs, by omega⟩
      rw [show a.natAbs = K by omega] at HMD
      have HK := Lib.hid hK
      subst hK
      have hmx := maxabs_pos K
      have hKb : K ≤ 1000000000000 := by omega
      clear ham ha
      have hs2 : decide ((K : Int) < 0) = false := decide_eq_false (by omega)
      clear hs
      rcases HEN.out with ⟨hr, hv, he⟩ | ⟨hr, hv, he⟩ | ⟨hr, hv, he⟩
      · rw [hv, he] at HMD
        have HQ := Lib.hid (sc_small HOK.out HR.out hr)
        have hcm : decide ((1000000000000 : Int) < (R : Int)) = false := by simp; omega
        have HRB := Lib.hid hr
        clear hr hv he
        have hRi : (R : Int) ≤ 1000000000000 := by have := HRB.out; omega
        go_enter Tryd.func11, Tryd.ntmps11
        go_wp2_with (first
          | (go_at_call 24; refine (HA.out _).mono ?_; rintro e W1 ⟨rfl, rfl⟩)
          | (go_at_call 25; refine (HMD.out _).mono ?_; rintro e W5 ⟨rfl, hb5⟩; have HB5 := Lib.hid (Below.trans (Below.refl _ _) (hb5.mono (by first | exact Nat.le_refl _ | (simp; have := HB1.out.size; omega)))); clear hb5))
        go_ret2
        have e := HQ.out.1
        rw [if_neg (show ¬ (K : Int) < 0 by omega)] at e
        exact scRet (by rw [e]) HQ.out.2.symm HB5.out
      · rw [hv, he] at HMD
        have HQ := Lib.hid (sc_big HOK.out HR.out hr)
        have hcm : decide ((1000000000000 : Int) < (R : Int)) = true := by simp; omega
        clear hr hv he
        go_enter Tryd.func11, Tryd.ntmps11
        go_wp2_with (first
          | (go_at_call 24; refine (HA.out _).mono ?_; rintro e W1 ⟨rfl, rfl⟩)
          | (go_at_call 25; refine (HMD.out _).mono ?_; rintro e W5 ⟨rfl, hb5⟩; have HB5 := Lib.hid (Below.trans (Below.refl _ _) (hb5.mono (by first | exact Nat.le_refl _ | (simp; have := HB1.out.size; omega)))); clear hb5))
        go_ret2
        exact scRet HQ.out.1.symm HQ.out.2.symm HB5.out
      · rw [hv, he] at HMD
        have HQ := Lib.hid (sc_big HOK.out HR.out hr)
        clear hr hv he
        go_enter Tryd.func11, Tryd.ntmps11
        go_wp2_with (first
          | (go_at_call 24; refine (HA.out _).mono ?_; rintro e W1 ⟨rfl, rfl⟩)
          | (go_at_call 25; refine (HMD.out _).mono ?_; rintro e W5 ⟨rfl, hb5⟩; have HB5 := Lib.hid (Below.trans (Below.refl _ _) (hb5.mono (by first | exact Nat.le_refl _ | (simp; have := HB1.out.size; omega)))); clear hb5))
        go_ret2
        exact scRet HQ.out.1.symm HQ.out.2.symm HB5.out

theorem pt_bad {a r m : Int} (h : inB 0 10000000 r = false) : ptV a r m = 0 ∧ ptE a r m = 2 := by
  have h2 : ¬ (0 ≤ r ∧ r ≤ 10000000) := by intro hh; unfold inB at h; simp at h; omega
  unfold ptV ptE
  rw [if_neg h2, if_neg h2]
  exact ⟨rfl, rfl⟩
theorem pt_good {a r m : Int} (h : inB 0 10000000 r = true) : ptV a r m = scV a r 1000000 m ∧ ptE a r m = scE a r 1000000 m := by
  have h2 : 0 ≤ r ∧ r ≤ 10000000 := by unfold inB at h; simpa using h
  unfold ptV ptE
  rw [if_pos h2, if_pos h2]
  exact ⟨rfl, rfl⟩
set_option maxHeartbeats 1000000 in
theorem part_any (a r m : Int) (ha : -9223372036854775808 ≤ a ∧ a ≤ 9223372036854775807) (w : World) : Calls Tryd.prog 13 #[.int .i64 a, .int .i64 r, .int .i64 m] w (ScRet w (ptV a r m) (ptE a r m)) := by
  have HW := Lib.hid (within1_any 0 10000000 r w)
  cases e1 : inB 0 10000000 r
  · have HQ := Lib.hid (pt_bad (a := a) (m := m) e1)
    rw [e1] at HW
    clear e1
    go_enter Tryd.func13, Tryd.ntmps13
    go_wp2_with (go_at_call 22; refine HW.out.mono ?_; rintro e w' ⟨rfl, rfl⟩)
    go_ret2
    exact scRet HQ.out.1.symm HQ.out.2.symm ((Below.refl _ w).alloc (Nat.le_refl _) _)
  · have HQ := Lib.hid (pt_good (a := a) (m := m) e1)
    have HS := Lib.hid (fun W => scale_any a r 1000000 m ha W)
    unfold ScRet at HS
    rw [← HQ.out.1, ← HQ.out.2] at HS
    rw [e1] at HW
    clear e1
    go_enter Tryd.func13, Tryd.ntmps13
    go_wp2_with (first
      | (go_at_call 22; refine HW.out.mono ?_; rintro e w' ⟨rfl, rfl⟩)
      | (go_at_call 10; refine (HS.out _).mono ?_; rintro e W2 ⟨rfl, hb2⟩; have HB2 := Lib.hid (Below.trans ((Below.refl _ w).alloc (Nat.le_refl _) _) (hb2.mono (by simp))); clear hb2))
    go_ret2
    exact scRet rfl rfl HB2.out
set_option maxHeartbeats 1000000 in
theorem refPart_any (a r m : Int) (ha : -9223372036854775808 ≤ a ∧ a ≤ 9223372036854775807) (w : World) : Calls Tryd.prog 14 #[.int .i64 a, .int .i64 r, .int .i64 m] w (ScRet w (ptV a r m) (ptE a r m)) := by
  by_cases h1 : r < 0
  · have HQ := Lib.hid (pt_bad (a := a) (m := m) (show inB 0 10000000 r = false by unfold inB; simp; omega))
    go_enter Tryd.func14, Tryd.ntmps14
    go_wp2
    go_ret2
    exact scRet HQ.out.1.symm HQ.out.2.symm (Below.refl _ w)
  by_cases h2 : 10000000 < r
  · have HQ := Lib.hid (pt_bad (a := a) (m := m) (show inB 0 10000000 r = false by unfold inB; simp; omega))
    go_enter Tryd.func14, Tryd.ntmps14
    go_wp2
    go_ret2
    exact scRet HQ.out.1.symm HQ.out.2.symm (Below.refl _ w)
  have HQ := Lib.hid (pt_good (a := a) (m := m) (show inB 0 10000000 r = true by unfold inB; simp; omega))
  have HS := Lib.hid (fun W => refScale_any a r 1000000 m ha W)
  unfold ScRet at HS
  rw [← HQ.out.1, ← HQ.out.2] at HS
  go_enter Tryd.func14, Tryd.ntmps14
  go_wp2_with (go_at_call 11; refine (HS.out _).mono ?_; rintro e W2 ⟨rfl, hb2⟩; have HB2 := Lib.hid hb2; clear hb2)
  go_ret2
  exact scRet rfl rfl HB2.out
end Go.Proofs.YtjgobaedeagojaaDoor
