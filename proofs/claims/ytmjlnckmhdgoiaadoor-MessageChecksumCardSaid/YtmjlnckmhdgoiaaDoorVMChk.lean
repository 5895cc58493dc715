/- The law MessageChecksum: the walk. -/
import Derived.Test.YtmjlnckmhdgoiaaDoorMn
import Derived.Test.YtmjlnckmhdgoiaaDoorMo
import Derived.Test.YtmjlnckmhdgoiaaDoorSx
import Derived.Test.YtmjlnckmhdgoiaaDoorSt
namespace Go.Proofs.YtmjlnckmhdgoiaaDoor
open Go.RowKit
set_option linter.unusedVariables false

theorem OwnXB.open_ {w : World} {B n cap : Nat} {A : Option Addr} {xs : Bs} (h : OwnXB w B (.slice A n cap) xs) (hl : 0 < xs.length) :
    ∃ g off, A = some ⟨g, off, none⟩ ∧ B ≤ g ∧ ∀ (j : Nat) (hj : j < xs.length), w.cell? ⟨g, off + j, none⟩ = some (.int .u8 (xs[j].toNat : Int)) ∧ w.frozen? ⟨g, off + j, none⟩ = false ∧
      ∀ c : UInt8, Rd (w.setCell ⟨g, off + j, none⟩ (.int .u8 (c.toNat : Int))) A (u8s (xs.set j c)) := by
  obtain ⟨h1, h2⟩ := h
  rcases h2 with ⟨hv, h0⟩ | ⟨g, off, cap', cur, hv, hb, hh, k1, k2, k3, k4⟩
  · rw [h0] at hl; exact absurd hl (by omega)
  · injection hv with e1 e2 e3
    subst e1
    refine ⟨g, off, rfl, hb, fun j hj => ⟨?_, frozen_of_row _ _ _ _ _ hh, fun c => ?_⟩⟩
    · rw [cell_of_row _ _ _ _ _ _ hh]
      exact k4 j _ (u8s_at hj)
    · intro i u hu
      refine ⟨_, rfl, ?_⟩
      rw [Addr.add_lit, cell_of_row _ _ _ _ _ _ (heap_setCell_m hh _), Array.getElem?_setIfInBounds]
      have hil : i < xs.length := by
        have := (List.getElem?_eq_some_iff.1 hu).1
        rw [u8s_len, List.length_set] at this
        exact this
      rw [u8s, List.map_set, List.getElem?_set] at hu
      by_cases hij : j = i
      · subst hij
        rw [if_pos rfl] at hu
        rw [if_pos rfl, if_pos (by omega)]
        simp only [List.length_map, hil, if_true] at hu
        exact hu
      · rw [if_neg hij] at hu
        rw [if_neg (by omega)]
        exact k4 i u hu
theorem xor_u8 (a b : UInt8) : bits .xor .u8 (a.toNat : Int) (b.toNat : Int) = ((a ^^^ b).toNat : Int) := by
  have h1 : BitVec.ofInt 8 (a.toNat : Int) = a.toBitVec := by
    rw [BitVec.ofInt_natCast]; exact BitVec.ofNat_toNat ..|>.trans (by simp)
  have h2 : BitVec.ofInt 8 (b.toNat : Int) = b.toBitVec := by
    rw [BitVec.ofInt_natCast]; exact BitVec.ofNat_toNat ..|>.trans (by simp)
  show IntKind.u8.wrap ((BitVec.ofInt 8 (a.toNat : Int) ^^^ BitVec.ofInt 8 (b.toNat : Int)).toNat : Int) = _
  rw [h1, h2]
  have h3 : (a.toBitVec ^^^ b.toBitVec).toNat = (a ^^^ b).toNat := rfl
  rw [h3]
  have := (a ^^^ b).toNat_lt
  exact IntWalk.u8_in _ (by omega)
theorem mod_nat (x : Int) (n : Nat) (h : 0 < n) : ∃ j : Nat, x % (n : Int) = (j : Int) ∧ j < n := by
  have h1 := Int.emod_nonneg x (show (n : Int) ≠ 0 by omega)
  have h2 := Int.emod_lt_of_pos x (show (0 : Int) < (n : Int) by omega)
  exact ⟨(x % (n : Int)).toNat, by omega, by omega⟩
namespace messageChecksum
set_option maxHeartbeats 4000000 in
set_option maxRecDepth 100000 in
theorem walkMessageChecksum (A : Option Addr) (c : Nat) (l : Bs) (x : Int) (y : UInt8) (w : World) (hs : SlB w A c l) (hx : -9223372036854775808 ≤ x ∧ x ≤ 9223372036854775807) (hL : laidMetH Tryd.prog Rows.messageChecksumRow.laid w) :
    Calls Tryd.prog 7 #[.slice A l.length c, .int .i64 x, .int .u8 (y.toNat : Int)] w fun e w' => e = .returned (.bool true) ∧ Below w.heap.size w w' := by
  have ht : Tab w := tab_of_laid hL rfl rfl
  obtain ⟨hr, hle, hmax⟩ := hs
  obtain ⟨l5, hl5⟩ : ∃ l5, l.take 5000 = l5 := ⟨_, rfl⟩
  have hr5 : Rd w A (u8s l5) := by have := hr.take 5000; rwa [u8s, ← List.map_take, hl5] at this
  have hlen : l5.length = min 5000 l.length := by rw [← hl5, List.length_take]
  have HAW := Lib.hid (fun (W : World) (h : Below w.heap.size w W) => awakeM_any W (ht.below h))
  have HCK := Lib.hid (fun (n : Nat) (hn : l5.length = n) => (show Calls Tryd.prog 22 #[.slice A n c] w fun e w' => e = .returned (.int .i64 (adlF l5)) ∧ w = w' by subst hn; exact checksum_any A c _ w hr5 (by omega)))
  have HCR := Lib.hid (fun (n : Nat) (hn : l5.length = n) => (show Calls Tryd.prog 23 #[.slice A n c] w fun e w' => e = .returned (.int .i64 (adlF l5)) ∧ w = w' by subst hn; exact refChecksum_any A c _ w hr5 (by omega)))
  have q1 := (Below.refl w.heap.size w).alloc (Nat.le_refl _) (.cells #[] 5)
  have hown0 := OwnXB.empty w w.heap.size (Nat.le_refl _)
  have hr1 := hr5.below q1
  unfold maxLen at hmax
  clear hr hL ht hr5 hx
  rcases Nat.eq_zero_or_pos l.length with h0 | h0
  · have hl : l = [] := List.eq_nil_of_length_eq_zero h0
    subst hl
    have hl5 : l5 = [] := hl5.symm
    subst hl5
    have HCK := Lib.hid (HCK.out 0 rfl)
    have HCR := Lib.hid (HCR.out 0 rfl)
    rw [show adlF [] = 1 from rfl] at HCK HCR
    have hAW := HAW.out w (Below.refl _ _)
    have HAW := Lib.hid hAW
    clear hAW hlen
    go_enter Tryd.func7, Tryd.ntmps7
    go_wp2_with fail
    refine HCK.out.mono ?_
    rintro e w1 ⟨rfl, rfl⟩
    go_wp2_with fail
    refine HCR.out.mono ?_
    rintro e w1 ⟨rfl, rfl⟩
    go_wp2_with fail
    refine HAW.out.mono ?_
    rintro e w1 ⟨rfl, hb1⟩
    go_wp2_with fail
    go_ret
    exact ⟨rfl, hb1⟩
  · have hne : (l.length == 0) = false := by rw [beq_eq_false_iff_ne]; omega
    have hl5b : l5.length ≤ 5000 := by omega
    obtain ⟨n, hn, hn0, hn5, hcase⟩ : ∃ n : Nat, l5.length = n ∧ 0 < n ∧ n ≤ 5000 ∧ ((5000 < l.length ∧ n = 5000) ∨ (l.length ≤ 5000 ∧ n = l.length)) := ⟨_, rfl, by omega, by omega, by omega⟩
    obtain ⟨j, hj, hjn⟩ := mod_nat x n hn0
    have HCK := Lib.hid (HCK.out n hn)
    have HCR := Lib.hid (HCR.out n hn)
    have HWI := Lib.hid (fun (W : World) => (show Calls Tryd.prog 15 #[.int .i64 x, .int .i64 (n : Int)] W fun e w' => e = .returned (.int .i64 (j : Int)) ∧ W = w' by have := within_any x n W (by omega) (by omega); rwa [hj] at this))
    have hj5 : j < l5.length := by omega
    obtain ⟨z, hz⟩ : ∃ z, l5[j] = z := ⟨_, rfl⟩
    have hcmp : (adlF (l5.set j (z ^^^ y)) == adlF l5) = ((y.toNat : Int) == 0) := by
      rw [Bool.eq_iff_iff, beq_iff_eq, beq_iff_eq, adl_set hj5, hz, xor_same]
      constructor
      · rintro rfl; rfl
      · intro h; exact UInt8.toNat_inj.1 (by simp; omega)
    have HXU := Lib.hid (xor_u8 z y)
    have HCC := Lib.hid (fun (A2 : Option Addr) (c2 : Nat) (W : World) (hr : Rd W A2 (u8s (l5.set j (z ^^^ y)))) => (show Calls Tryd.prog 22 #[.slice A2 n c2] W fun e w' => e = .returned (.int .i64 (adlF (l5.set j (z ^^^ y)))) ∧ W = w' by have := checksum_any A2 c2 _ W hr (by rw [List.length_set]; omega); rwa [List.length_set, hn] at this))
    generalize adlF (l5.set j (z ^^^ y)) = x2 at hcmp HCC
    generalize adlF l5 = x1 at hcmp HCK HCR
    generalize hu : z ^^^ y = u at HCC HXU
    have HN := Lib.hid hn
    have HZ := Lib.hid hz
    have HCM := Lib.hid hcmp
    have hyb : ∃ b : Bool, ((y.toNat : Int) == 0) = b := ⟨_, rfl⟩
    obtain ⟨b, hyb⟩ := hyb
    rw [hyb] at hcmp
    clear hj hn hz HCM hlen hl5 hu
    have HP := Lib.hid (fun (v : Value) (W : World) (h : OwnXB W w.heap.size v l5) => (show ∃ A2 c2 g off, v = .slice A2 n c2 ∧ A2 = some ⟨g, off, none⟩ ∧ w.heap.size ≤ g ∧ W.cell? ⟨g, off + j, none⟩ = some (.int .u8 (z.toNat : Int)) ∧ W.frozen? ⟨g, off + j, none⟩ = false ∧ ∀ c : UInt8, Rd (W.setCell ⟨g, off + j, none⟩ (.int .u8 (c.toNat : Int))) A2 (u8s (l5.set j c)) by
      obtain ⟨A2, c2, rfl, _, _, _⟩ := h.shape
      obtain ⟨g, off, rfl, hg, hk⟩ := h.open_ (by omega)
      obtain ⟨k1, k2, k3⟩ := hk j hj5
      rw [HZ.out] at k1
      exact ⟨_, c2, g, off, by rw [HN.out], rfl, hg, k1, k2, k3⟩))
    rcases hcase with ⟨hgt, rfl⟩ | ⟨hgt, rfl⟩
    · have hhd := fun W => head_run W A l.length c 5000 (by omega)
      cases b
      all_goals
        go_enter Tryd.func7, Tryd.ntmps7
        go_wp2_with fail
        refine HCK.out.mono ?_
        rintro e w1 ⟨rfl, rfl⟩
        go_wp2_with fail
        refine HCR.out.mono ?_
        rintro e w1 ⟨rfl, rfl⟩
        go_wp2_with (at_builtin; refine wpList_append_bytes _ rfl (.tmp 28) (.tmp 29) rfl w.heap.size _ [] rfl hown0 A _ c l5 HN.out.symm rfl hr1 (by simp only [List.length_nil]; omega) (by simp) ?_; intro v1 w2 hown2 hb2; obtain ⟨A2, c2, g, off, rfl, rfl, hg, k1, k2, k3⟩ := HP.out v1 w2 hown2; have HK3 := Lib.hid k3; clear k3)
        refine (HWI.out _).mono ?_
        rintro e w3 ⟨rfl, rfl⟩
        have hxu := HXU.out
        go_wp2_with fail
        refine (HCC.out _ _ _ (HK3.out u)).mono ?_
        rintro e w3 ⟨rfl, rfl⟩
        have hB3 := (q1.trans (hb2.mono (Nat.le_refl _))).setCell (p := ⟨g, off + j, none⟩) hg (.int .u8 (u.toNat : Int))
        go_wp2_with fail
        refine (HAW.out _ hB3).mono ?_
        rintro e w4 ⟨rfl, hb4⟩
        go_wp2_with fail
        go_ret
        exact ⟨rfl, hB3.trans (hb4.mono hB3.size)⟩
    · clear HZ
      cases b
      all_goals
        go_enter Tryd.func7, Tryd.ntmps7
        go_wp2_with fail
        refine HCK.out.mono ?_
        rintro e w1 ⟨rfl, rfl⟩
        go_wp2_with fail
        refine HCR.out.mono ?_
        rintro e w1 ⟨rfl, rfl⟩
        go_wp2_with (at_builtin; refine wpList_append_bytes _ rfl (.tmp 28) (.tmp 29) rfl w.heap.size _ [] rfl hown0 A _ c l5 HN.out.symm rfl hr1 (by simp only [List.length_nil]; omega) (by simp) ?_; intro v1 w2 hown2 hb2; obtain ⟨A2, c2, g, off, rfl, rfl, hg, k1, k2, k3⟩ := HP.out v1 w2 hown2; have HK3 := Lib.hid k3; clear k3)
        refine (HWI.out _).mono ?_
        rintro e w3 ⟨rfl, rfl⟩
        have hxu := HXU.out
        go_wp2_with fail
        refine (HCC.out _ _ _ (HK3.out u)).mono ?_
        rintro e w3 ⟨rfl, rfl⟩
        have hB3 := (q1.trans (hb2.mono (Nat.le_refl _))).setCell (p := ⟨g, off + j, none⟩) hg (.int .u8 (u.toNat : Int))
        go_wp2_with fail
        refine (HAW.out _ hB3).mono ?_
        rintro e w4 ⟨rfl, hb4⟩
        go_wp2_with fail
        go_ret
        exact ⟨rfl, hB3.trans (hb4.mono hB3.size)⟩
end messageChecksum
end Go.Proofs.YtmjlnckmhdgoiaaDoor
