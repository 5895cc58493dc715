/- Contracts of find, plain and cut. -/
import Derived.Test.YtmjlnckmhdgoiaaGreatDoorSk
import Derived.Test.YtmjlnckmhdgoiaaGreatDoorOne
namespace Go.Proofs.YtmjlnckmhdgoiaaGreatDoor
open Go.RowKit
set_option linter.unusedVariables false

theorem u8s_at {l : Bs} {k : Nat} (h : k < l.length) : (u8s l)[k]? = some (.int .u8 (l[k].toNat : Int)) := u8s_get h
def findI (d : UInt8) (b : Bs) : Int := match findF d b with | none => -1 | some n => (n : Int)
theorem findI_none {d : UInt8} {b : Bs} (h : findF d b = none) : findI d b = -1 := by unfold findI; rw [h]
theorem findI_some {d : UInt8} {b : Bs} {n : Nat} (h : findF d b = some n) : findI d b = n := by unfold findI; rw [h]
theorem map_add (o : Option Nat) (j k : Nat) : (o.map (· + j)).map (· + k) = o.map (· + (k + j)) := by cases o <;> simp; omega
theorem find_pair_at {d : UInt8} {b : Bs} {k : Nat} (h : k < b.length) (h1 : b[k] = 63) : (findF d (b.drop k)).map (· + k) = (findF d (b.drop (k + 2))).map (· + (k + 2)) := by
  rw [List.drop_eq_getElem_cons h, h1]
  by_cases h2 : k + 1 < b.length
  · rw [List.drop_eq_getElem_cons h2, find_pair, map_add]
  · rw [List.drop_eq_nil_of_le (by omega), List.drop_eq_nil_of_le (by omega)]
    simp [findF]
theorem find_hit_at {d : UInt8} {b : Bs} {k : Nat} (h : k < b.length) (h1 : b[k] ≠ 63) (h2 : b[k] = d) : (findF d (b.drop k)).map (· + k) = some k := by
  rw [List.drop_eq_getElem_cons h]
  subst h2
  rw [find_hit h1]
  simp
theorem find_step_at {d : UInt8} {b : Bs} {k : Nat} (h : k < b.length) (h1 : b[k] ≠ 63) (h2 : b[k] ≠ d) : (findF d (b.drop k)).map (· + k) = (findF d (b.drop (k + 1))).map (· + (k + 1)) := by
  rw [List.drop_eq_getElem_cons h, find_step h1 h2, map_add]
def FindRel (d : UInt8) (b : Bs) (w : World) (g : Nat) (x i : Value) (wr : World) : Prop :=
  ∃ k : Nat, k + g = b.length + 1 ∧ i = .int .i64 (k : Int) ∧ x = .int .i64 (-1) ∧ findF d b = (findF d (b.drop k)).map (· + k) ∧ wr = w
theorem u8_eq_beq (a b : UInt8) : ((a.toNat : Int) == (b.toNat : Int)) = decide (a = b) := by
  rw [Bool.eq_iff_iff, beq_iff_eq, decide_eq_true_eq, ← UInt8.toNat_inj]
  omega
theorem u8_ne (a : UInt8) (n : Nat) (hn : n < 256) : ((a.toNat : Int) == (n : Int)) = decide (a = UInt8.ofNat n) := by
  have := u8_eq_beq a (UInt8.ofNat n)
  rwa [show (UInt8.ofNat n).toNat = n by simp [UInt8.toNat_ofNat']; omega] at this
set_option maxRecDepth 100000 in
set_option maxHeartbeats 1000000 in
theorem find_any (A : Option Addr) (c : Nat) (b : Bs) (d : UInt8) (w : World) (hr : Rd w A (u8s b)) (hl : b.length ≤ 1000000000) :
    Calls Tryz.prog 75 #[.slice A b.length c, .int .u8 (d.toNat : Int)] w fun e w' => e = .returned (.int .i64 (findI d b)) ∧ w = w' := by
  have hd0 : 0 ≤ (d.toNat : Int) := by omega
  go_enter Tryz.func75, Tryz.ntmps75
  go_wp2
  go_step3
  go_wp2
  go_step3
  go_wp2
  go_loopg [5, 6] (b.length + 1) (fun g x i wr => FindRel d b w g x i wr)
  case atStart => exact ⟨0, by omega, rfl, rfl, by simp, rfl⟩
  case round =>
    obtain ⟨k, hk, rfl, rfl, hh, rfl⟩ := hrel
    have HK := Lib.hid hk
    have HH := Lib.hid hh
    have hk2 : k ≤ b.length + 1 := by omega
    clear hk hh
    by_cases hlt : k < b.length
    · obtain ⟨b0, off, rfl, hc⟩ := hr.at_lit (u8s_at hlt)
      have H1 := Lib.hid (find_pair_at (d := d) hlt)
      have H2 := Lib.hid (find_hit_at (d := d) hlt)
      have H3 := Lib.hid (find_step_at (d := d) hlt)
      have hb1 := u8_ne b[k] 63 (by omega)
      have hb2 := u8_eq_beq b[k] d
      generalize b[k] = y at *
      by_cases e1 : y = 63
      · have t1 : ((y.toNat : Int) == 63) = true := by rw [show (63 : Int) = ((63 : Nat) : Int) from rfl, hb1]; simpa using e1
        have H4 := Lib.hid (HH.out.trans (H1.out e1))
        clear e1 H1 H2 H3 HH hb1 hb2
        go_wp2
        go_roundg (b.length - (k + 1))
        case measure => have := HK.out; omega
        case rel => exact ⟨k + 2, by omega, by go_num, rfl, H4.out, rfl⟩
      · have t1 : ((y.toNat : Int) == 63) = false := by rw [show (63 : Int) = ((63 : Nat) : Int) from rfl, hb1]; simpa using e1
        by_cases e2 : y = d
        · have t2 : ((y.toNat : Int) == (d.toNat : Int)) = true := by rw [hb2]; simpa using e2
          have H4 : Hid (findI d b = (k : Int)) := findI_some (HH.out.trans (H2.out e1 e2))
          clear e1 H1 H2 H3 HH hb1 hb2 e2
          go_wp2
          rw [Exit.noGoto_ret]
          go_ret
          exact ⟨by rw [H4.out]; rfl, rfl⟩
        · have t2 : ((y.toNat : Int) == (d.toNat : Int)) = false := by rw [hb2]; simpa using e2
          have H4 := Lib.hid (HH.out.trans (H3.out e1 e2))
          clear e1 H1 H2 H3 HH hb1 hb2 e2
          go_wp2
          go_roundg (b.length - k)
          case measure => have := HK.out; omega
          case rel => exact ⟨k + 1, by omega, by go_num, rfl, H4.out, rfl⟩
    · have hge : b.length ≤ k := by omega
      have H4 : Hid (findI d b = -1) := findI_none (by rw [HH.out, List.drop_eq_nil_of_le hge]; rfl)
      clear hlt HH
      go_wp2
      rw [Exit.noGoto_ret]
      go_ret
      exact ⟨by rw [H4.out]; rfl, rfl⟩
theorem plain_pair_at {b : Bs} {k : Nat} (h : k + 1 < b.length) (h1 : b[k] = 63) : plainF (b.drop k) = b[k + 1] :: plainF (b.drop (k + 2)) := by
  rw [List.drop_eq_getElem_cons (by omega : k < b.length), List.drop_eq_getElem_cons h, h1]
  conv => lhs; unfold plainF
  rw [if_pos rfl]
set_option maxRecDepth 100000 in
theorem plain_one_at {b : Bs} {k : Nat} (h : k < b.length) (h1 : b[k] ≠ 63 ∨ b.length ≤ k + 1) : plainF (b.drop k) = b[k] :: plainF (b.drop (k + 1)) := by
  rw [List.drop_eq_getElem_cons h]
  conv => lhs; unfold plainF
  by_cases h2 : b[k] = 63
  · have hd : b.length ≤ k + 1 := by
      rcases h1 with h1 | h1
      · exact absurd h2 h1
      · exact h1
    rw [if_pos h2, List.drop_eq_nil_of_le hd, h2]
    rfl
  · rw [if_neg h2]
def PlainRel (b : Bs) (w : World) (g : Nat) (v i : Value) (wr : World) : Prop :=
  ∃ (k : Nat) (ys : Bs), k + g = b.length ∧ i = .int .i64 (k : Int) ∧ OwnB wr w.heap.size v ys ∧ ys ++ plainF (b.drop k) = plainF b ∧ Below w.heap.size w wr ∧ ys.length ≤ k
set_option maxRecDepth 100000 in
set_option maxHeartbeats 1000000 in
theorem plain_any (A : Option Addr) (c : Nat) (b : Bs) (w : World) (hr : Rd w A (u8s b)) (hl : b.length ≤ 1000000000) :
    Calls Tryz.prog 77 #[.slice A b.length c] w fun e w' => e = .returned (.string ⟨(plainF b).toArray⟩) ∧ Below w.heap.size w w' := by
  have hrB := RdB.of_rd hr
  go_enter Tryz.func77, Tryz.ntmps77
  go_wp2
  go_loopg [3, 4] b.length (fun g v i wr => PlainRel b w g v i wr)
  case atStart => exact ⟨0, [], by omega, rfl, OwnB.nil_ _ _, by simp, Below.refl _ _, by simp⟩
  case round =>
    obtain ⟨k, ys, hk, rfl, hown, hys, hb, hyl⟩ := hrel
    have HK := Lib.hid hk
    have HY := Lib.hid hys
    have hk2 : k ≤ b.length := by omega
    have hBr := hb.size
    clear hk hys
    by_cases hlt : k < b.length
    · have hb1 := u8_ne b[k] 63 (by omega)
      have H2 := Lib.hid (plain_one_at hlt)
      by_cases e1 : b[k] = 63 ∧ k + 1 < b.length
      · have H1 := plain_pair_at e1.2 e1.1
        have t1 : ((b[k].toNat : Int) == 63) = true := by rw [show (63 : Int) = ((63 : Nat) : Int) from rfl, hb1]; simpa using e1.1
        have e2 := e1.2
        obtain ⟨b0, off, rfl, hc⟩ := (hrB.below hb).rd.at_lit (u8s_at hlt)
        have hc2 : wr.cell? ⟨b0, off + (k + 1), none⟩ = some (.int .u8 (b[k + 1].toNat : Int)) := by
          obtain ⟨b0', off', e, hc'⟩ := (hrB.below hb).rd.at_lit (u8s_at e2)
          injection e with e
          injection e with e3 e4
          subst e3; subst e4
          exact hc'
        have HY2 : Hid ((ys ++ [b[k + 1]]) ++ plainF (b.drop (k + 2)) = plainF b) := by show _ = _; rw [← HY.out, H1]; simp
        have hdk : decide ((k : Int) + 1 < (b.length : Int)) = true := by simp; omega
        clear H1 H2 hb1 e1 HY
        generalize b[k] = y at hc t1
        generalize b[k + 1] = x at hc2 HY2
        go_wp2_with (at_builtin; refine wpList_append_byte wr rfl (.tmp 25) (.tmp 30) rfl w.heap.size _ ys x _ rfl rfl hown rfl (by omega) hBr ?_; intro v2 w2 hown2 hb2 _ _)
        go_roundg (b.length - (k + 2))
        case measure => have := HK.out; omega
        case rel => exact ⟨k + 2, _, by omega, by go_num, hown2, HY2.out, hb.trans hb2, by simp; omega⟩
      · have hor : b[k] ≠ 63 ∨ b.length ≤ k + 1 := by
          by_cases h : b[k] = 63
          · exact .inr (by have : ¬ (k + 1 < b.length) := fun h2 => e1 ⟨h, h2⟩; omega)
          · exact .inl h
        have HY2 : Hid ((ys ++ [b[k]]) ++ plainF (b.drop (k + 1)) = plainF b) := by show _ = _; rw [← HY.out, H2.out hor]; simp
        obtain ⟨b0, off, rfl, hc⟩ := (hrB.below hb).rd.at_lit (u8s_at hlt)
        by_cases e3 : b[k] = 63
        · have t1 : ((b[k].toNat : Int) == 63) = true := by rw [show (63 : Int) = ((63 : Nat) : Int) from rfl, hb1]; simpa using e3
          have hdk : decide ((k : Int) + 1 < (b.length : Int)) = false := by have : ¬ (k + 1 < b.length) := fun h2 => e1 ⟨e3, h2⟩; simp; omega
          clear e1 e3 hor H2 hb1 HY
          generalize b[k] = y at hc t1 HY2
          go_wp2_with (at_builtin; refine wpList_append_byte wr rfl (.tmp 25) (.tmp 30) rfl w.heap.size _ ys y _ rfl rfl hown rfl (by omega) hBr ?_; intro v2 w2 hown2 hb2 _ _)
          go_roundg (b.length - (k + 1))
          case measure => have := HK.out; omega
          case rel => exact ⟨k + 1, _, by omega, by go_num, hown2, HY2.out, hb.trans hb2, by simp; omega⟩
        · have t1 : ((b[k].toNat : Int) == 63) = false := by rw [show (63 : Int) = ((63 : Nat) : Int) from rfl, hb1]; simpa using e3
          clear e1 e3 hor H2 hb1 HY
          generalize b[k] = y at hc t1 HY2
          go_wp2_with (at_builtin; refine wpList_append_byte wr rfl (.tmp 25) (.tmp 30) rfl w.heap.size _ ys y _ rfl rfl hown rfl (by omega) hBr ?_; intro v2 w2 hown2 hb2 _ _)
          go_roundg (b.length - (k + 1))
          case measure => have := HK.out; omega
          case rel => exact ⟨k + 1, _, by omega, by go_num, hown2, HY2.out, hb.trans hb2, by simp; omega⟩
    · have hge : b.length ≤ k := by omega
      have HY2 : Hid (ys = plainF b) := by show _ = _; rw [← HY.out, List.drop_eq_nil_of_le hge]; simp [plainF]
      obtain ⟨A2, c2, rfl, hr2, _, _⟩ := hown.shape
      have hcv2 := conv_back wr A2 c2 ys hr2
      clear hlt HY
      go_wp2
      go_ret
      exact ⟨by rw [← HY2.out]; rfl, hb⟩
end Go.Proofs.YtmjlnckmhdgoiaaGreatDoor
