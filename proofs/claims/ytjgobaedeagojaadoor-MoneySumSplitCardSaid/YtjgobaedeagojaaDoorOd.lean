/- Contract of math/bits.Div64. -/
import Derived.Test.YtjgobaedeagojaaDoorShelf
import Derived.Test.YtjgobaedeagojaaDoorNd
import Derived.Test.YtjgobaedeagojaaDoorOa
namespace Go.Proofs.YtjgobaedeagojaaDoor
open Go.RowKit
set_option linter.unusedVariables false

theorem wrapN64 (a : Nat) (h : a < 18446744073709551616) : IntKind.u64.wrap (a : Int) = (a : Int) := by rw [IntKind.wrap_u64]; omega
theorem shlN (a s : Nat) : (a : Int) * 2 ^ s = ((a * 2 ^ s : Nat) : Int) := by rw [Int.natCast_mul, Int.natCast_pow]; rfl
theorem shrN (a s : Nat) : (a : Int) / 2 ^ s = ((a / 2 ^ s : Nat) : Int) := by rw [Int.natCast_ediv, Int.natCast_pow]; rfl
set_option maxHeartbeats 1000000 in
theorem div64_zero (lo y : Nat) (hl : lo < 18446744073709551616) (hy : 1 ≤ y) (hy2 : y ≤ 1000000000000) (w : World) :
    Calls Tryd.prog 36 #[.int .u64 0, .int .u64 (lo : Int), .int .u64 (y : Int)] w fun e w' => e = .returned (.tuple #[.int .u64 ((lo / y : Nat) : Int), .int .u64 ((lo % y : Nat) : Int)]) ∧ Below w.heap.size w w' := by
  have hy0 : (y : Int) ≠ 0 := by omega
  go_enter Tryd.func36, Tryd.ntmps36
  go_wp2
  go_quiet (fail)
  go_wp2
  go_ret2
  have e1 : IntKind.u64.wrap ((lo : Int) / (y : Int)) = ((lo / y : Nat) : Int) := by
    rw [← Int.natCast_ediv]
    exact wrapN64 _ (Nat.lt_of_le_of_lt (Nat.div_le_self lo y) hl)
  refine ⟨?_, drewN_below (Below.refl _ _) nq⟩
  show Ending.returned (.tuple #[.int .u64 (IntKind.u64.wrap ((lo : Int) / (y : Int))), .int .u64 ((lo : Int) % (y : Int))]) = _
  rw [e1]
  rfl
/-- the parts that Div64 makes of its arguments: s is the shift -/
structure Parts (hi lo y s Y H L Q u y1 y0 v1 v0 : Nat) : Prop where
  hs : s ≤ 63
  eY : y * 2 ^ s = Y
  Yb : 9223372036854775808 ≤ Y ∧ Y < 18446744073709551616
  eH : hi * 2 ^ s = H
  eL : lo * 2 ^ s % 18446744073709551616 = L
  eQ : lo / 2 ^ (64 - s) = Q
  eu : u = H + Q
  uY : u < Y
  eN : u * 18446744073709551616 + L = (hi * 18446744073709551616 + lo) * 2 ^ s
  ey1 : Y / 4294967296 = y1
  ey0 : Y % 4294967296 = y0
  ev1 : L / 4294967296 = v1
  ev0 : L % 4294967296 = v0
  or : H ||| Q = u
theorem parts_of (hi lo y : Nat) (hh : hi < y) (hl : lo < 18446744073709551616) (hy2 : y < 18446744073709551616) :
    ∃ s Y H L Q u y1 y0 v1 v0, Parts hi lo y s Y H L Q u y1 y0 v1 v0 ∧ 64 - (Lib.bitLen y : Int) = (s : Int) := by
  obtain ⟨h1, h2, h3⟩ := Lib.bitLenAux_bounds 64 y hy2 (by omega)
  have h4 : Lib.bitLen y ≤ 64 := Lib.bitLen_le y 64 (Nat.le_refl _) hy2
  have hbl : Lib.bitLenAux 64 y = Lib.bitLen y := rfl
  rw [hbl] at h1 h2 h3
  generalize Lib.bitLen y = B at *
  obtain ⟨s, hs⟩ : ∃ s, s = 64 - B := ⟨_, rfl⟩
  have hY1 : 2 ^ (B - 1) * 2 ^ s = 9223372036854775808 := by rw [← Nat.pow_add, show B - 1 + s = 63 by omega]
  have hY2 : 2 ^ B * 2 ^ s = 18446744073709551616 := by rw [← Nat.pow_add, show B + s = 64 by omega]
  have hp : 0 < 2 ^ s := Nat.two_pow_pos s
  have g1 := Nat.mul_le_mul_right (2 ^ s) h2
  have g2 := Nat.mul_lt_mul_of_pos_right h3 hp
  rw [hY1] at g1
  rw [hY2] at g2
  have hpp : 2 ^ s * 2 ^ (64 - s) = 18446744073709551616 := by rw [← Nat.pow_add, show s + (64 - s) = 64 by omega]
  obtain ⟨k1, k2, k3⟩ := shift_parts hpp hl hh g2
  have hor := Nat.two_pow_add_eq_or_of_lt (i := s) k3 hi
  rw [Nat.mul_comm] at hor
  exact ⟨s, _, _, _, _, _, _, _, _, _, ⟨by omega, rfl, ⟨g1, g2⟩, rfl, rfl, rfl, rfl, k1, k2, rfl, rfl, rfl, rfl, hor.symm⟩, by omega⟩
def K1 (u v y1 y0 : Nat) (w : World) (g : Nat) (v15 v16 : Value) (wr : World) : Prop := ∃ r : Nat, g < 18446744073709551616 ∧ v15 = .int .u64 (g : Int) ∧ v16 = .int .u64 (r : Int) ∧ KD u v y1 y0 g r ∧ r < 4294967296 ∧ w = wr
/-- the numbers of one round's test -/
theorem round_test {q r v y0 : Nat} (hq : q < 4294967296) (hr : r < 4294967296) (hv : v < 4294967296) (hy : y0 < 4294967296) :
    ∃ A B C : Nat, IntKind.u64.wrap ((q : Int) * (y0 : Int)) = (A : Int) ∧ IntKind.u64.wrap (4294967296 * (r : Int)) = (B : Int) ∧ IntKind.u64.wrap ((B : Int) + (v : Int)) = (C : Int) ∧ A = q * y0 ∧ C = 4294967296 * r + v := by
  have h := Nat.mul_le_mul (show q ≤ 4294967295 by omega) (show y0 ≤ 4294967295 by omega)
  refine ⟨q * y0, 4294967296 * r, 4294967296 * r + v, ?_, ?_, ?_, rfl, rfl⟩
  · rw [← Int.natCast_mul]; exact wrapN64 _ (by omega)
  · rw [show (4294967296 : Int) * (r : Int) = ((4294967296 * r : Nat) : Int) by omega]; exact wrapN64 _ (by omega)
  · rw [← Int.natCast_add]; exact wrapN64 _ (by omega)
theorem round_next {q r y1 : Nat} (hq : q < 18446744073709551616) (hq1 : 1 ≤ q) (hr : r < 4294967296) (hy : y1 < 4294967296) :
    ∃ k r' : Nat, IntKind.u64.wrap ((q : Int) - 1) = (k : Int) ∧ IntKind.u64.wrap ((r : Int) + (y1 : Int)) = (r' : Int) ∧ q = k + 1 ∧ r' = r + y1 := by
  refine ⟨q - 1, r + y1, ?_, ?_, by omega, rfl⟩
  · rw [IntKind.wrap_u64]; omega
  · rw [← Int.natCast_add]; exact wrapN64 _ (by omega)
/-- the first guess of a digit -/
theorem guess {u v y1 y0 : Nat} (hu : u < 18446744073709551616) (hv : v < 4294967296) (hy : 1 ≤ y1) (hy2 : y1 < 4294967296) :
    ∃ q m r : Nat, (u : Int) / (y1 : Int) = (q : Int) ∧ IntKind.u64.wrap ((q : Int) * (y1 : Int)) = (m : Int) ∧ IntKind.u64.wrap ((u : Int) - (m : Int)) = (r : Int) ∧ KD u v y1 y0 q r ∧ r < 4294967296 ∧ q < 18446744073709551616 := by
  have h1 := Nat.div_mul_le_self u y1
  have h2 := Nat.div_le_self u y1
  have h3 := Nat.mod_lt u (show 0 < y1 by omega)
  have h4 := Nat.div_add_mod u y1
  rw [Nat.mul_comm] at h4
  refine ⟨u / y1, u / y1 * y1, u - u / y1 * y1, by rw [Int.natCast_ediv], ?_, ?_, kd_start hv hy, by omega, by omega⟩
  · rw [← Int.natCast_mul]; exact wrapN64 _ (by omega)
  · rw [IntKind.wrap_u64]; omega
/-- what is left behind the digit, as the program reckons it -/
theorem left {u v Y q : Nat} (hq : q = tD u v Y) (hY : Y < 18446744073709551616) (h0 : 0 < Y) :
    ∃ U U2 M : Nat, IntKind.u64.wrap ((u : Int) * 4294967296) = (U : Int) ∧ IntKind.u64.wrap ((U : Int) + (v : Int)) = (U2 : Int) ∧ IntKind.u64.wrap ((q : Int) * (Y : Int)) = (M : Int) ∧
      IntKind.u64.wrap ((U2 : Int) - (M : Int)) = ((rD u v Y : Nat) : Int) := by
  have h1 := rD_eq u v Y
  have h2 := rD_lt (u := u) (v := v) h0
  rw [← hq] at h1
  generalize rD u v Y = R at *
  have e := (Int.natCast_mul q Y).symm
  rw [e]
  generalize q * Y = P at *
  refine ⟨u * 4294967296 % 18446744073709551616, (u * 4294967296 % 18446744073709551616 + v) % 18446744073709551616, P % 18446744073709551616, ?_, ?_, ?_, ?_⟩
  · rw [IntKind.wrap_u64]; omega
  · rw [IntKind.wrap_u64]; omega
  · rw [IntKind.wrap_u64]; omega
  · rw [IntKind.wrap_u64]; omega
set_option maxHeartbeats 1000000 in
theorem div64_some (hi lo y : Nat) (h0 : 0 < hi) (hh : hi < y) (hl : lo < 18446744073709551616) (hy : 1 ≤ y) (hy2 : y ≤ 1000000000000) (w : World) :
    Calls Tryd.prog 36 #[.int .u64 (hi : Int), .int .u64 (lo : Int), .int .u64 (y : Int)] w fun e w' => e = .returned (.tuple #[.int .u64 (((hi * 18446744073709551616 + lo) / y : Nat) : Int), .int .u64 (((hi * 18446744073709551616 + lo) % y : Nat) : Int)]) ∧ w = w' := by
  obtain ⟨s, Y, H, L, Q, u, y1, y0, v1, v0, HP, hsB⟩ := parts_of hi lo y hh hl (by omega)
  have HLZ : Hid (∀ W, Calls Tryd.prog 47 #[.int .u64 (y : Int)] W fun e w' => e = .returned (.int .i64 (s : Int)) ∧ W = w') := fun W => (Tryd.bits_LeadingZeros64 (y : Int) W (by omega) (by omega)).mono fun e w' ⟨h1, h2⟩ => ⟨by rw [h1, Int.toNat_natCast, hsB], h2.symm⟩
  have HR : Hid (((hi * 18446744073709551616 + lo) / y = (u * 18446744073709551616 + L) / Y) ∧ (hi * 18446744073709551616 + lo) % y = (u * 18446744073709551616 + L) % Y / 2 ^ s) := by
    have h := shift_back (N := hi * 18446744073709551616 + lo) (y := y) (Nat.two_pow_pos s)
    rw [HP.eY, ← HP.eN] at h
    exact ⟨h.1.symm, h.2.symm⟩
  have a1 : IntKind.u64.wrap (s : Int) = (s : Int) := by rw [IntKind.wrap_u64]; have := HP.hs; omega
  have a2 : min s 64 = s := by have := HP.hs; omega
  have a3 : IntKind.u64.wrap (64 - (s : Int)) = ((64 - s : Nat) : Int) := by rw [IntKind.wrap_u64]; have := HP.hs; omega
  have a3' : min (64 - s) 64 = 64 - s := by omega
  have a4 : IntKind.u64.wrap ((y : Int) * 2 ^ s) = (Y : Int) := by rw [shlN, HP.eY]; exact wrapN64 _ HP.Yb.2
  have huH : H < 18446744073709551616 ∧ u < 18446744073709551616 := by have := HP.uY; have := HP.Yb; have := HP.eu; omega
  have a5 : IntKind.u64.wrap ((hi : Int) * 2 ^ s) = (H : Int) := by rw [shlN, HP.eH]; exact wrapN64 _ huH.1
  have a6 : IntKind.u64.wrap ((lo : Int) * 2 ^ s) = (L : Int) := by rw [shlN, IntKind.wrap_u64, ← HP.eL]; omega
  have a7 : (lo : Int) / 2 ^ (64 - s) = (Q : Int) := by rw [shrN, HP.eQ]
  have a8 : bits .or .u64 (H : Int) (Q : Int) = (u : Int) := by
    have h := bits_or_u64_nat H Q huH.1 (by have := HP.eu; omega)
    rw [HP.or] at h
    exact h
  have a9 : (Y : Int) / 4294967296 = (y1 : Int) := by have := HP.ey1; omega
  have a10 : bits .and .u64 (Y : Int) 4294967295 = (y0 : Int) := by rw [Mul64.maskN Y HP.Yb.2, HP.ey0]
  have hL : L < 18446744073709551616 := by rw [← HP.eL]; exact Nat.mod_lt _ (by omega)
  have a11 : (L : Int) / 4294967296 = (v1 : Int) := by have := HP.ev1; omega
  have a12 : bits .and .u64 (L : Int) 4294967295 = (v0 : Int) := by rw [Mul64.maskN L hL, HP.ev0]
  have hy1 : 2147483648 ≤ y1 ∧ y1 < 4294967296 := by have := HP.Yb; have := HP.ey1; omega
  have a13 : (y1 : Int) ≠ 0 := by omega
  have HPP := Lib.hid HP
  have HY := Lib.hid (show y1 * 4294967296 + y0 = Y by have := HP.ey1; have := HP.ey0; omega)
  have HY1 := Lib.hid hy1
  have HY0 := Lib.hid (show y0 < 4294967296 by have := HP.ey0; omega)
  have HV1 := Lib.hid (show v1 < 4294967296 by have := HP.ev1; omega)
  have HV0 := Lib.hid (show v0 < 4294967296 by have := HP.ev0; omega)
  have HU1 := Lib.hid (show u < y1 * 4294967296 + y0 by rw [HY.out]; exact HP.uY)
  obtain ⟨qa, ma, ra, a14, a15, a16, k1, k2, k3⟩ := guess (u := u) (v := v1) (y1 := y1) (y0 := y0) huH.2 HV1.out (by omega) hy1.2
  have HK0 := Lib.hid (And.intro k1 (And.intro k2 k3))
  have a17 : IntKind.u64.wrap (qa : Int) = (qa : Int) := wrapN64 _ k3
  have HYB := Lib.hid HP.Yb
  clear HP a2 a3' k1 k2 k3 hy1 hL huH
  go_enter Tryd.func36, Tryd.ntmps36
  go_wp2_with (first | (go_at_call 47; refine (HLZ.out _).mono ?_; rintro e W1 ⟨rfl, rfl⟩))
  clear a4 a5 a6 a7 a8 a9 a10 a11 a12 HLZ a17 a14 a15 a16 hh hy h0 a3
  go_loopg [15, 16] qa (fun g v15 v16 wr => K1 u v1 y1 y0 w g v15 v16 wr)
  case atStart => exact ⟨ra, HK0.out.2.2, rfl, rfl, HK0.out.1, HK0.out.2.1, rfl⟩
  case round =>
    obtain ⟨r, hgb, rfl, rfl, hK, hr, rfl⟩ := hrel
    have HK := Lib.hid hK
    have HGB := Lib.hid hgb
    have HRB := Lib.hid hr
    have F : Hid (4294967296 ≤ gk ∨ gk < 4294967296) := by show _ ∨ _; omega
    clear hK hgb hr
    rcases F.out with hc | hc
    · have hc1 : decide ((4294967296 : Int) ≤ (gk : Int)) = true := by simp; omega
      have HS := Lib.hid (kd_step HK.out HU1.out HV1.out (.inl hc))
      obtain ⟨k, r', b4, b5, HE1, HE2⟩ := round_next HGB.out HS.out.1 HRB.out HY1.out.2
      have HQK := Lib.hid (And.intro HE1 HE2)
      clear HE1 HE2 hc
      by_cases hbr : 4294967296 ≤ r'
      · have hc2 : decide ((4294967296 : Int) ≤ (r' : Int)) = true := by simp; omega
        have HT : Hid (k = tD u v1 Y) := by
          have h := HS.out.2
          rw [HQK.out.1, Nat.add_sub_cancel, ← HQK.out.2] at h
          rw [← HY.out]
          exact kd_break h HU1.out HY0.out hbr
        clear hbr
        obtain ⟨kz, hkz⟩ : ∃ kz, kz = k := ⟨_, rfl⟩
        subst hkz
        have HTT := HT
        have HTB := Lib.hid (show kz < 4294967296 by rw [HT.out]; exact tD_lt (by have := HU1.out; rw [HY.out] at this; exact this) HV1.out)
        obtain ⟨U, U2, M, c1, c2, c3, c4⟩ := left HT.out HYB.out.2 (by have := HYB.out; omega)
        have hRY := rD_lt (u := u) (v := v1) (Y := Y) (by have := HYB.out; omega)
        generalize hR : rD u v1 Y = R at c4 hRY
        have HRR := Lib.hid hR
        obtain ⟨qb, mb, rb, c5, c6, c7, k1, k2, k3⟩ := guess (u := R) (v := v0) (y1 := y1) (y0 := y0) (by have := HYB.out; omega) HV0.out (by have := HY1.out; omega) HY1.out.2
        have HK2 := Lib.hid (And.intro k1 (And.intro k2 k3))
        have c8 : IntKind.u64.wrap (qb : Int) = (qb : Int) := wrapN64 _ k3
        have HU2 := Lib.hid (show R < y1 * 4294967296 + y0 by rw [HY.out]; exact hRY)
        clear hR hRY k1 k2 k3
        go_wp2
        clear c1 c2 c3 c4 c5 c6 c7 c8
        go_loopg [18, 16] qb (fun g v18 v16 wr => K1 R v0 y1 y0 w g v18 v16 wr)
        case atStart => exact ⟨rb, HK2.out.2.2, rfl, rfl, HK2.out.1, HK2.out.2.1, rfl⟩
        case round =>
          obtain ⟨r, hgb, rfl, rfl, hK, hr, rfl⟩ := hrel
          have HK := Lib.hid hK
          have HGB := Lib.hid hgb
          have HRB := Lib.hid hr
          have F : Hid (4294967296 ≤ gk ∨ gk < 4294967296) := by show _ ∨ _; omega
          clear hK hgb hr
          rcases F.out with hc | hc
          · have hc1 : decide ((4294967296 : Int) ≤ (gk : Int)) = true := by simp; omega
            have HS := Lib.hid (kd_step HK.out HU2.out HV0.out (.inl hc))
            obtain ⟨k, r', b4, b5, HE1, HE2⟩ := round_next HGB.out HS.out.1 HRB.out HY1.out.2
            have HQK := Lib.hid (And.intro HE1 HE2)
            clear HE1 HE2 hc
            by_cases hbr : 4294967296 ≤ r'
            · have hc2 : decide ((4294967296 : Int) ≤ (r' : Int)) = true := by simp; omega
              have HT : Hid (k = tD R v0 Y) := by
                have h := HS.out.2
                rw [HQK.out.1, Nat.add_sub_cancel, ← HQK.out.2] at h
                rw [← HY.out]
                exact kd_break h HU2.out HY0.out hbr
              clear hbr
              obtain ⟨U', U2', M', d3, d4, d5, d6⟩ := left HT.out HYB.out.2 (by have := HYB.out; omega)
              have d1 : IntKind.u64.wrap ((kz : Int) * 4294967296) = ((kz * 4294967296 : Nat) : Int) := by
                rw [show ((kz : Int) * 4294967296) = ((kz * 4294967296 : Nat) : Int) by omega]
                exact wrapN64 _ (by have := HTB.out; omega)
              have HT2B : k < 4294967296 := by rw [HT.out]; exact tD_lt (by have := HU2.out; rw [HY.out] at this; exact this) HV0.out
              have d2 : IntKind.u64.wrap (((kz * 4294967296 : Nat) : Int) + (k : Int)) = ((kz * 4294967296 + k : Nat) : Int) := by
                rw [← Int.natCast_add]
                exact wrapN64 _ (by have := HTB.out; omega)
              generalize hq3 : kz * 4294967296 + k = q3 at d2
              generalize kz * 4294967296 = q4 at d1 d2
              generalize hr3 : rD R v0 Y = r3 at d6
              have HQ3 := Lib.hid (And.intro hq3 hr3)
              clear hq3 hr3 HT2B
              go_wp2
              go_ret2
              refine ⟨?_, rfl⟩
              have hd := two_digits (N := u * 18446744073709551616 + L) (u := u) (v1 := v1) (v0 := v0) (Y := Y) (by have := HYB.out; omega) (by have := HPP.out.ev1; have := HPP.out.ev0; omega)
              rw [HRR.out, ← HTT.out, ← HT.out, HQ3.out.1, HQ3.out.2] at hd
              rw [HR.out.1, HR.out.2, ← hd.1, ← hd.2, ← shrN]
              rfl
            · have hc2 : decide ((4294967296 : Int) ≤ (r' : Int)) = false := by simp; omega
              have HBR := Lib.hid hbr
              clear hbr
              go_wp2
              go_roundg k
              case measure => have := HQK.out.1; omega
              case rel =>
                refine ⟨r', by have := HQK.out.1; have := HGB.out; omega, rfl, rfl, ?_, by have := HBR.out; omega, rfl⟩
                have h := HS.out.2
                rw [HQK.out.1, Nat.add_sub_cancel, ← HQK.out.2] at h
                exact h
          · have hc1 : decide ((4294967296 : Int) ≤ (gk : Int)) = false := by simp; omega
            obtain ⟨A, B, C, b1, b2, b3, HA, HC⟩ := round_test (y0 := y0) hc HRB.out HV0.out HY0.out
            have HAC := Lib.hid (And.intro HA HC)
            clear HA HC hc
            by_cases hlt : C < A
            · have HS := Lib.hid (kd_step HK.out HU2.out HV0.out (.inr (by rw [← HAC.out.1, ← HAC.out.2]; exact hlt)))
              have hc3 : decide (C < A) = true := by simpa using hlt
              obtain ⟨k, r', b4, b5, HE1, HE2⟩ := round_next HGB.out HS.out.1 HRB.out HY1.out.2
              have HQK := Lib.hid (And.intro HE1 HE2)
              clear HE1 HE2 hlt
              by_cases hbr : 4294967296 ≤ r'
              · have hc2 : decide ((4294967296 : Int) ≤ (r' : Int)) = true := by simp; omega
                have HT : Hid (k = tD R v0 Y) := by
                  have h := HS.out.2
                  rw [HQK.out.1, Nat.add_sub_cancel, ← HQK.out.2] at h
                  rw [← HY.out]
                  exact kd_break h HU2.out HY0.out hbr
                clear hbr
                obtain ⟨U', U2', M', d3, d4, d5, d6⟩ := left HT.out HYB.out.2 (by have := HYB.out; omega)
                have d1 : IntKind.u64.wrap ((kz : Int) * 4294967296) = ((kz * 4294967296 : Nat) : Int) := by
                  rw [show ((kz : Int) * 4294967296) = ((kz * 4294967296 : Nat) : Int) by omega]
                  exact wrapN64 _ (by have := HTB.out; omega)
                have HT2B : k < 4294967296 := by rw [HT.out]; exact tD_lt (by have := HU2.out; rw [HY.out] at this; exact this) HV0.out
                have d2 : IntKind.u64.wrap (((kz * 4294967296 : Nat) : Int) + (k : Int)) = ((kz * 4294967296 + k : Nat) : Int) := by
                  rw [← Int.natCast_add]
                  exact wrapN64 _ (by have := HTB.out; omega)
                generalize hq3 : kz * 4294967296 + k = q3 at d2
                generalize kz * 4294967296 = q4 at d1 d2
                generalize hr3 : rD R v0 Y = r3 at d6
                have HQ3 := Lib.hid (And.intro hq3 hr3)
                clear hq3 hr3 HT2B
                go_wp2
                go_ret2
                refine ⟨?_, rfl⟩
                have hd := two_digits (N := u * 18446744073709551616 + L) (u := u) (v1 := v1) (v0 := v0) (Y := Y) (by have := HYB.out; omega) (by have := HPP.out.ev1; have := HPP.out.ev0; omega)
                rw [HRR.out, ← HTT.out, ← HT.out, HQ3.out.1, HQ3.out.2] at hd
                rw [HR.out.1, HR.out.2, ← hd.1, ← hd.2, ← shrN]
                rfl
              · have hc2 : decide ((4294967296 : Int) ≤ (r' : Int)) = false := by simp; omega
                have HBR := Lib.hid hbr
                clear hbr
                go_wp2
                go_roundg k
                case measure => have := HQK.out.1; omega
                case rel =>
                  refine ⟨r', by have := HQK.out.1; have := HGB.out; omega, rfl, rfl, ?_, by have := HBR.out; omega, rfl⟩
                  have h := HS.out.2
                  rw [HQK.out.1, Nat.add_sub_cancel, ← HQK.out.2] at h
                  exact h
            · have hc3 : decide (C < A) = false := by simpa using hlt
              have HT : Hid (gk = tD R v0 Y) := by
                rw [← HY.out]
                exact kd_done HK.out HU2.out (by rw [← HAC.out.1, ← HAC.out.2]; omega)
              clear hlt
              obtain ⟨U', U2', M', d3, d4, d5, d6⟩ := left HT.out HYB.out.2 (by have := HYB.out; omega)
              have d1 : IntKind.u64.wrap ((kz : Int) * 4294967296) = ((kz * 4294967296 : Nat) : Int) := by
                rw [show ((kz : Int) * 4294967296) = ((kz * 4294967296 : Nat) : Int) by omega]
                exact wrapN64 _ (by have := HTB.out; omega)
              have HT2B : gk < 4294967296 := by rw [HT.out]; exact tD_lt (by have := HU2.out; rw [HY.out] at this; exact this) HV0.out
              have d2 : IntKind.u64.wrap (((kz * 4294967296 : Nat) : Int) + (gk : Int)) = ((kz * 4294967296 + gk : Nat) : Int) := by
                rw [← Int.natCast_add]
                exact wrapN64 _ (by have := HTB.out; omega)
              generalize hq3 : kz * 4294967296 + gk = q3 at d2
              generalize kz * 4294967296 = q4 at d1 d2
              generalize hr3 : rD R v0 Y = r3 at d6
              have HQ3 := Lib.hid (And.intro hq3 hr3)
              clear hq3 hr3 HT2B
              go_wp2
              go_ret2
              refine ⟨?_, rfl⟩
              have hd := two_digits (N := u * 18446744073709551616 + L) (u := u) (v1 := v1) (v0 := v0) (Y := Y) (by have := HYB.out; omega) (by have := HPP.out.ev1; have := HPP.out.ev0; omega)
              rw [HRR.out, ← HTT.out, ← HT.out, HQ3.out.1, HQ3.out.2] at hd
              rw [HR.out.1, HR.out.2, ← hd.1, ← hd.2, ← shrN]
              rfl
      · have hc2 : decide ((4294967296 : Int) ≤ (r' : Int)) = false := by simp; omega
        have HBR := Lib.hid hbr
        clear hbr
        go_wp2
        go_roundg k
        case measure => have := HQK.out.1; omega
        case rel =>
          refine ⟨r', by have := HQK.out.1; have := HGB.out; omega, rfl, rfl, ?_, by have := HBR.out; omega, rfl⟩
          have h := HS.out.2
          rw [HQK.out.1, Nat.add_sub_cancel, ← HQK.out.2] at h
          exact h
    · have hc1 : decide ((4294967296 : Int) ≤ (gk : Int)) = false := by simp; omega
      obtain ⟨A, B, C, b1, b2, b3, HA, HC⟩ := round_test (y0 := y0) hc HRB.out HV1.out HY0.out
      have HAC := Lib.hid (And.intro HA HC)
      clear HA HC hc
      by_cases hlt : C < A
      · have HS := Lib.hid (kd_step HK.out HU1.out HV1.out (.inr (by rw [← HAC.out.1, ← HAC.out.2]; exact hlt)))
        have hc3 : decide (C < A) = true := by simpa using hlt
        obtain ⟨k, r', b4, b5, HE1, HE2⟩ := round_next HGB.out HS.out.1 HRB.out HY1.out.2
        have HQK := Lib.hid (And.intro HE1 HE2)
        clear HE1 HE2 hlt
        by_cases hbr : 4294967296 ≤ r'
        · have hc2 : decide ((4294967296 : Int) ≤ (r' : Int)) = true := by simp; omega
          have HT : Hid (k = tD u v1 Y) := by
            have h := HS.out.2
            rw [HQK.out.1, Nat.add_sub_cancel, ← HQK.out.2] at h
            rw [← HY.out]
            exact kd_break h HU1.out HY0.out hbr
          clear hbr
          obtain ⟨kz, hkz⟩ : ∃ kz, kz = k := ⟨_, rfl⟩
          subst hkz
          have HTT := HT
          have HTB := Lib.hid (show kz < 4294967296 by rw [HT.out]; exact tD_lt (by have := HU1.out; rw [HY.out] at this; exact this) HV1.out)
          obtain ⟨U, U2, M, c1, c2, c3, c4⟩ := left HT.out HYB.out.2 (by have := HYB.out; omega)
          have hRY := rD_lt (u := u) (v := v1) (Y := Y) (by have := HYB.out; omega)
          generalize hR : rD u v1 Y = R at c4 hRY
          have HRR := Lib.hid hR
          obtain ⟨qb, mb, rb, c5, c6, c7, k1, k2, k3⟩ := guess (u := R) (v := v0) (y1 := y1) (y0 := y0) (by have := HYB.out; omega) HV0.out (by have := HY1.out; omega) HY1.out.2
          have HK2 := Lib.hid (And.intro k1 (And.intro k2 k3))
          have c8 : IntKind.u64.wrap (qb : Int) = (qb : Int) := wrapN64 _ k3
          have HU2 := Lib.hid (show R < y1 * 4294967296 + y0 by rw [HY.out]; exact hRY)
          clear hR hRY k1 k2 k3
          go_wp2
          clear c1 c2 c3 c4 c5 c6 c7 c8
          go_loopg [18, 16] qb (fun g v18 v16 wr => K1 R v0 y1 y0 w g v18 v16 wr)
          case atStart => exact ⟨rb, HK2.out.2.2, rfl, rfl, HK2.out.1, HK2.out.2.1, rfl⟩
          case round =>
            obtain ⟨r, hgb, rfl, rfl, hK, hr, rfl⟩ := hrel
            have HK := Lib.hid hK
            have HGB := Lib.hid hgb
            have HRB := Lib.hid hr
            have F : Hid (4294967296 ≤ gk ∨ gk < 4294967296) := by show _ ∨ _; omega
            clear hK hgb hr
            rcases F.out with hc | hc
            · have hc1 : decide ((4294967296 : Int) ≤ (gk : Int)) = true := by simp; omega
              have HS := Lib.hid (kd_step HK.out HU2.out HV0.out (.inl hc))
              obtain ⟨k, r', b4, b5, HE1, HE2⟩ := round_next HGB.out HS.out.1 HRB.out HY1.out.2
              have HQK := Lib.hid (And.intro HE1 HE2)
              clear HE1 HE2 hc
              by_cases hbr : 4294967296 ≤ r'
              · have hc2 : decide ((4294967296 : Int) ≤ (r' : Int)) = true := by simp; omega
                have HT : Hid (k = tD R v0 Y) := by
                  have h := HS.out.2
                  rw [HQK.out.1, Nat.add_sub_cancel, ← HQK.out.2] at h
                  rw [← HY.out]
                  exact kd_break h HU2.out HY0.out hbr
                clear hbr
                obtain ⟨U', U2', M', d3, d4, d5, d6⟩ := left HT.out HYB.out.2 (by have := HYB.out; omega)
                have d1 : IntKind.u64.wrap ((kz : Int) * 4294967296) = ((kz * 4294967296 : Nat) : Int) := by
                  rw [show ((kz : Int) * 4294967296) = ((kz * 4294967296 : Nat) : Int) by omega]
                  exact wrapN64 _ (by have := HTB.out; omega)
                have HT2B : k < 4294967296 := by rw [HT.out]; exact tD_lt (by have := HU2.out; rw [HY.out] at this; exact this) HV0.out
                have d2 : IntKind.u64.wrap (((kz * 4294967296 : Nat) : Int) + (k : Int)) = ((kz * 4294967296 + k : Nat) : Int) := by
                  rw [← Int.natCast_add]
                  exact wrapN64 _ (by have := HTB.out; omega)
                generalize hq3 : kz * 4294967296 + k = q3 at d2
                generalize kz * 4294967296 = q4 at d1 d2
                generalize hr3 : rD R v0 Y = r3 at d6
                have HQ3 := Lib.hid (And.intro hq3 hr3)
                clear hq3 hr3 HT2B
                go_wp2
                go_ret2
                refine ⟨?_, rfl⟩
                have hd := two_digits (N := u * 18446744073709551616 + L) (u := u) (v1 := v1) (v0 := v0) (Y := Y) (by have := HYB.out; omega) (by have := HPP.out.ev1; have := HPP.out.ev0; omega)
                rw [HRR.out, ← HTT.out, ← HT.out, HQ3.out.1, HQ3.out.2] at hd
                rw [HR.out.1, HR.out.2, ← hd.1, ← hd.2, ← shrN]
                rfl
              · have hc2 : decide ((4294967296 : Int) ≤ (r' : Int)) = false := by simp; omega
                have HBR := Lib.hid hbr
                clear hbr
                go_wp2
                go_roundg k
                case measure => have := HQK.out.1; omega
                case rel =>
                  refine ⟨r', by have := HQK.out.1; have := HGB.out; omega, rfl, rfl, ?_, by have := HBR.out; omega, rfl⟩
                  have h := HS.out.2
                  rw [HQK.out.1, Nat.add_sub_cancel, ← HQK.out.2] at h
                  exact h
            · have hc1 : decide ((4294967296 : Int) ≤ (gk : Int)) = false := by simp; omega
              obtain ⟨A, B, C, b1, b2, b3, HA, HC⟩ := round_test (y0 := y0) hc HRB.out HV0.out HY0.out
              have HAC := Lib.hid (And.intro HA HC)
              clear HA HC hc
              by_cases hlt : C < A
              · have HS := Lib.hid (kd_step HK.out HU2.out HV0.out (.inr (by rw [← HAC.out.1, ← HAC.out.2]; exact hlt)))
                have hc3 : decide (C < A) = true := by simpa using hlt
                obtain ⟨k, r', b4, b5, HE1, HE2⟩ := round_next HGB.out HS.out.1 HRB.out HY1.out.2
                have HQK := Lib.hid (And.intro HE1 HE2)
                clear HE1 HE2 hlt
                by_cases hbr : 4294967296 ≤ r'
                · have hc2 : decide ((4294967296 : Int) ≤ (r' : Int)) = true := by simp; omega
                  have HT : Hid (k = tD R v0 Y) := by
                    have h := HS.out.2
                    rw [HQK.out.1, Nat.add_sub_cancel, ← HQK.out.2] at h
                    rw [← HY.out]
                    exact kd_break h HU2.out HY0.out hbr
                  clear hbr
                  obtain ⟨U', U2', M', d3, d4, d5, d6⟩ := left HT.out HYB.out.2 (by have := HYB.out; omega)
                  have d1 : IntKind.u64.wrap ((kz : Int) * 4294967296) = ((kz * 4294967296 : Nat) : Int) := by
                    rw [show ((kz : Int) * 4294967296) = ((kz * 4294967296 : Nat) : Int) by omega]
                    exact wrapN64 _ (by have := HTB.out; omega)
                  have HT2B : k < 4294967296 := by rw [HT.out]; exact tD_lt (by have := HU2.out; rw [HY.out] at this; exact this) HV0.out
                  have d2 : IntKind.u64.wrap (((kz * 4294967296 : Nat) : Int) + (k : Int)) = ((kz * 4294967296 + k : Nat) : Int) := by
                    rw [← Int.natCast_add]
                    exact wrapN64 _ (by have := HTB.out; omega)
                  generalize hq3 : kz * 4294967296 + k = q3 at d2
                  generalize kz * 4294967296 = q4 at d1 d2
                  generalize hr3 : rD R v0 Y = r3 at d6
                  have HQ3 := Lib.hid (And.intro hq3 hr3)
                  clear hq3 hr3 HT2B
                  go_wp2
                  go_ret2
                  refine ⟨?_, rfl⟩
                  have hd := two_digits (N := u * 18446744073709551616 + L) (u := u) (v1 := v1) (v0 := v0) (Y := Y) (by have := HYB.out; omega) (by have := HPP.out.ev1; have := HPP.out.ev0; omega)
                  rw [HRR.out, ← HTT.out, ← HT.out, HQ3.out.1, HQ3.out.2] at hd
                  rw [HR.out.1, HR.out.2, ← hd.1, ← hd.2, ← shrN]
                  rfl
                · have hc2 : decide ((4294967296 : Int) ≤ (r' : Int)) = false := by simp; omega
                  have HBR := Lib.hid hbr
                  clear hbr
                  go_wp2
                  go_roundg k
                  case measure => have := HQK.out.1; omega
                  case rel =>
                    refine ⟨r', by have := HQK.out.1; have := HGB.out; omega, rfl, rfl, ?_, by have := HBR.out; omega, rfl⟩
                    have h := HS.out.2
                    rw [HQK.out.1, Nat.add_sub_cancel, ← HQK.out.2] at h
                    exact h
              · have hc3 : decide (C < A) = false := by simpa using hlt
                have HT : Hid (gk = tD R v0 Y) := by
                  rw [← HY.out]
                  exact kd_done HK.out HU2.out (by rw [← HAC.out.1, ← HAC.out.2]; omega)
                clear hlt
                obtain ⟨U', U2', M', d3, d4, d5, d6⟩ := left HT.out HYB.out.2 (by have := HYB.out; omega)
                have d1 : IntKind.u64.wrap ((kz : Int) * 4294967296) = ((kz * 4294967296 : Nat) : Int) := by
                  rw [show ((kz : Int) * 4294967296) = ((kz * 4294967296 : Nat) : Int) by omega]
                  exact wrapN64 _ (by have := HTB.out; omega)
                have HT2B : gk < 4294967296 := by rw [HT.out]; exact tD_lt (by have := HU2.out; rw [HY.out] at this; exact this) HV0.out
                have d2 : IntKind.u64.wrap (((kz * 4294967296 : Nat) : Int) + (gk : Int)) = ((kz * 4294967296 + gk : Nat) : Int) := by
                  rw [← Int.natCast_add]
                  exact wrapN64 _ (by have := HTB.out; omega)
                generalize hq3 : kz * 4294967296 + gk = q3 at d2
                generalize kz * 4294967296 = q4 at d1 d2
                generalize hr3 : rD R v0 Y = r3 at d6
                have HQ3 := Lib.hid (And.intro hq3 hr3)
                clear hq3 hr3 HT2B
                go_wp2
                go_ret2
                refine ⟨?_, rfl⟩
                have hd := two_digits (N := u * 18446744073709551616 + L) (u := u) (v1 := v1) (v0 := v0) (Y := Y) (by have := HYB.out; omega) (by have := HPP.out.ev1; have := HPP.out.ev0; omega)
                rw [HRR.out, ← HTT.out, ← HT.out, HQ3.out.1, HQ3.out.2] at hd
                rw [HR.out.1, HR.out.2, ← hd.1, ← hd.2, ← shrN]
                rfl
        · have hc2 : decide ((4294967296 : Int) ≤ (r' : Int)) = false := by simp; omega
          have HBR := Lib.hid hbr
          clear hbr
          go_wp2
          go_roundg k
          case measure => have := HQK.out.1; omega
          case rel =>
            refine ⟨r', by have := HQK.out.1; have := HGB.out; omega, rfl, rfl, ?_, by have := HBR.out; omega, rfl⟩
            have h := HS.out.2
            rw [HQK.out.1, Nat.add_sub_cancel, ← HQK.out.2] at h
            exact h
      · have hc3 : decide (C < A) = false := by simpa using hlt
        have HT : Hid (gk = tD u v1 Y) := by
          rw [← HY.out]
          exact kd_done HK.out HU1.out (by rw [← HAC.out.1, ← HAC.out.2]; omega)
        clear hlt
        obtain ⟨kz, hkz⟩ : ∃ kz, kz = gk := ⟨_, rfl⟩
        subst hkz
        have HTT := HT
        have HTB := Lib.hid (show kz < 4294967296 by rw [HT.out]; exact tD_lt (by have := HU1.out; rw [HY.out] at this; exact this) HV1.out)
        obtain ⟨U, U2, M, c1, c2, c3, c4⟩ := left HT.out HYB.out.2 (by have := HYB.out; omega)
        have hRY := rD_lt (u := u) (v := v1) (Y := Y) (by have := HYB.out; omega)
        generalize hR : rD u v1 Y = R at c4 hRY
        have HRR := Lib.hid hR
        obtain ⟨qb, mb, rb, c5, c6, c7, k1, k2, k3⟩ := guess (u := R) (v := v0) (y1 := y1) (y0 := y0) (by have := HYB.out; omega) HV0.out (by have := HY1.out; omega) HY1.out.2
        have HK2 := Lib.hid (And.intro k1 (And.intro k2 k3))
        have c8 : IntKind.u64.wrap (qb : Int) = (qb : Int) := wrapN64 _ k3
        have HU2 := Lib.hid (show R < y1 * 4294967296 + y0 by rw [HY.out]; exact hRY)
        clear hR hRY k1 k2 k3
        go_wp2
        clear c1 c2 c3 c4 c5 c6 c7 c8
        go_loopg [18, 16] qb (fun g v18 v16 wr => K1 R v0 y1 y0 w g v18 v16 wr)
        case atStart => exact ⟨rb, HK2.out.2.2, rfl, rfl, HK2.out.1, HK2.out.2.1, rfl⟩
        case round =>
          obtain ⟨r, hgb, rfl, rfl, hK, hr, rfl⟩ := hrel
          have HK := Lib.hid hK
          have HGB := Lib.hid hgb
          have HRB := Lib.hid hr
          have F : Hid (4294967296 ≤ gk ∨ gk < 4294967296) := by show _ ∨ _; omega
          clear hK hgb hr
          rcases F.out with hc | hc
          · have hc1 : decide ((4294967296 : Int) ≤ (gk : Int)) = true := by simp; omega
            have HS := Lib.hid (kd_step HK.out HU2.out HV0.out (.inl hc))
            obtain ⟨k, r', b4, b5, HE1, HE2⟩ := round_next HGB.out HS.out.1 HRB.out HY1.out.2
            have HQK := Lib.hid (And.intro HE1 HE2)
            clear HE1 HE2 hc
            by_cases hbr : 4294967296 ≤ r'
            · have hc2 : decide ((4294967296 : Int) ≤ (r' : Int)) = true := by simp; omega
              have HT : Hid (k = tD R v0 Y) := by
                have h := HS.out.2
                rw [HQK.out.1, Nat.add_sub_cancel, ← HQK.out.2] at h
                rw [← HY.out]
                exact kd_break h HU2.out HY0.out hbr
              clear hbr
              obtain ⟨U', U2', M', d3, d4, d5, d6⟩ := left HT.out HYB.out.2 (by have := HYB.out; omega)
              have d1 : IntKind.u64.wrap ((kz : Int) * 4294967296) = ((kz * 4294967296 : Nat) : Int) := by
                rw [show ((kz : Int) * 4294967296) = ((kz * 4294967296 : Nat) : Int) by omega]
                exact wrapN64 _ (by have := HTB.out; omega)
              have HT2B : k < 4294967296 := by rw [HT.out]; exact tD_lt (by have := HU2.out; rw [HY.out] at this; exact this) HV0.out
              have d2 : IntKind.u64.wrap (((kz * 4294967296 : Nat) : Int) + (k : Int)) = ((kz * 4294967296 + k : Nat) : Int) := by
                rw [← Int.natCast_add]
                exact wrapN64 _ (by have := HTB.out; omega)
              generalize hq3 : kz * 4294967296 + k = q3 at d2
              generalize kz * 4294967296 = q4 at d1 d2
              generalize hr3 : rD R v0 Y = r3 at d6
              have HQ3 := Lib.hid (And.intro hq3 hr3)
              clear hq3 hr3 HT2B
              go_wp2
              go_ret2
              refine ⟨?_, rfl⟩
              have hd := two_digits (N := u * 18446744073709551616 + L) (u := u) (v1 := v1) (v0 := v0) (Y := Y) (by have := HYB.out; omega) (by have := HPP.out.ev1; have := HPP.out.ev0; omega)
              rw [HRR.out, ← HTT.out, ← HT.out, HQ3.out.1, HQ3.out.2] at hd
              rw [HR.out.1, HR.out.2, ← hd.1, ← hd.2, ← shrN]
              rfl
            · have hc2 : decide ((4294967296 : Int) ≤ (r' : Int)) = false := by simp; omega
              have HBR := Lib.hid hbr
              clear hbr
              go_wp2
              go_roundg k
              case measure => have := HQK.out.1; omega
              case rel =>
                refine ⟨r', by have := HQK.out.1; have := HGB.out; omega, rfl, rfl, ?_, by have := HBR.out; omega, rfl⟩
                have h := HS.out.2
                rw [HQK.out.1, Nat.add_sub_cancel, ← HQK.out.2] at h
                exact h
          · have hc1 : decide ((4294967296 : Int) ≤ (gk : Int)) = false := by simp; omega
            obtain ⟨A, B, C, b1, b2, b3, HA, HC⟩ := round_test (y0 := y0) hc HRB.out HV0.out HY0.out
            have HAC := Lib.hid (And.intro HA HC)
            clear HA HC hc
            by_cases hlt : C < A
            · have HS := Lib.hid (kd_step HK.out HU2.out HV0.out (.inr (by rw [← HAC.out.1, ← HAC.out.2]; exact hlt)))
              have hc3 : decide (C < A) = true := by simpa using hlt
              obtain ⟨k, r', b4, b5, HE1, HE2⟩ := round_next HGB.out HS.out.1 HRB.out HY1.out.2
              have HQK := Lib.hid (And.intro HE1 HE2)
              clear HE1 HE2 hlt
              by_cases hbr : 4294967296 ≤ r'
              · have hc2 : decide ((4294967296 : Int) ≤ (r' : Int)) = true := by simp; omega
                have HT : Hid (k = tD R v0 Y) := by
                  have h := HS.out.2
                  rw [HQK.out.1, Nat.add_sub_cancel, ← HQK.out.2] at h
                  rw [← HY.out]
                  exact kd_break h HU2.out HY0.out hbr
                clear hbr
                obtain ⟨U', U2', M', d3, d4, d5, d6⟩ := left HT.out HYB.out.2 (by have := HYB.out; omega)
                have d1 : IntKind.u64.wrap ((kz : Int) * 4294967296) = ((kz * 4294967296 : Nat) : Int) := by
                  rw [show ((kz : Int) * 4294967296) = ((kz * 4294967296 : Nat) : Int) by omega]
                  exact wrapN64 _ (by have := HTB.out; omega)
                have HT2B : k < 4294967296 := by rw [HT.out]; exact tD_lt (by have := HU2.out; rw [HY.out] at this; exact this) HV0.out
                have d2 : IntKind.u64.wrap (((kz * 4294967296 : Nat) : Int) + (k : Int)) = ((kz * 4294967296 + k : Nat) : Int) := by
                  rw [← Int.natCast_add]
                  exact wrapN64 _ (by have := HTB.out; omega)
                generalize hq3 : kz * 4294967296 + k = q3 at d2
                generalize kz * 4294967296 = q4 at d1 d2
                generalize hr3 : rD R v0 Y = r3 at d6
                have HQ3 := Lib.hid (And.intro hq3 hr3)
                clear hq3 hr3 HT2B
                go_wp2
                go_ret2
                refine ⟨?_, rfl⟩
                have hd := two_digits (N := u * 18446744073709551616 + L) (u := u) (v1 := v1) (v0 := v0) (Y := Y) (by have := HYB.out; omega) (by have := HPP.out.ev1; have := HPP.out.ev0; omega)
                rw [HRR.out, ← HTT.out, ← HT.out, HQ3.out.1, HQ3.out.2] at hd
                rw [HR.out.1, HR.out.2, ← hd.1, ← hd.2, ← shrN]
                rfl
              · have hc2 : decide ((4294967296 : Int) ≤ (r' : Int)) = false := by simp; omega
                have HBR := Lib.hid hbr
                clear hbr
                go_wp2
                go_roundg k
                case measure => have := HQK.out.1; omega
                case rel =>
                  refine ⟨r', by have := HQK.out.1; have := HGB.out; omega, rfl, rfl, ?_, by have := HBR.out; omega, rfl⟩
                  have h := HS.out.2
                  rw [HQK.out.1, Nat.add_sub_cancel, ← HQK.out.2] at h
                  exact h
            · have hc3 : decide (C < A) = false := by simpa using hlt
              have HT : Hid (gk = tD R v0 Y) := by
                rw [← HY.out]
                exact kd_done HK.out HU2.out (by rw [← HAC.out.1, ← HAC.out.2]; omega)
              clear hlt
              obtain ⟨U', U2', M', d3, d4, d5, d6⟩ := left HT.out HYB.out.2 (by have := HYB.out; omega)
              have d1 : IntKind.u64.wrap ((kz : Int) * 4294967296) = ((kz * 4294967296 : Nat) : Int) := by
                rw [show ((kz : Int) * 4294967296) = ((kz * 4294967296 : Nat) : Int) by omega]
                exact wrapN64 _ (by have := HTB.out; omega)
              have HT2B : gk < 4294967296 := by rw [HT.out]; exact tD_lt (by have := HU2.out; rw [HY.out] at this; exact this) HV0.out
              have d2 : IntKind.u64.wrap (((kz * 4294967296 : Nat) : Int) + (gk : Int)) = ((kz * 4294967296 + gk : Nat) : Int) := by
                rw [← Int.natCast_add]
                exact wrapN64 _ (by have := HTB.out; omega)
              generalize hq3 : kz * 4294967296 + gk = q3 at d2
              generalize kz * 4294967296 = q4 at d1 d2
              generalize hr3 : rD R v0 Y = r3 at d6
              have HQ3 := Lib.hid (And.intro hq3 hr3)
              clear hq3 hr3 HT2B
              go_wp2
              go_ret2
              refine ⟨?_, rfl⟩
              have hd := two_digits (N := u * 18446744073709551616 + L) (u := u) (v1 := v1) (v0 := v0) (Y := Y) (by have := HYB.out; omega) (by have := HPP.out.ev1; have := HPP.out.ev0; omega)
              rw [HRR.out, ← HTT.out, ← HT.out, HQ3.out.1, HQ3.out.2] at hd
              rw [HR.out.1, HR.out.2, ← hd.1, ← hd.2, ← shrN]
              rfl
end Go.Proofs.YtjgobaedeagojaaDoor
