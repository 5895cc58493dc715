/- The contract of the reference's Rise: a number more in an ascending list. -/
import Derived.Test.YtecmpkcjeaiknaaTt
import Derived.Test.YtecmpkcjeaiknaaOrd
namespace Go.Proofs.Ytecmpkcjeaiknaa
open Go.RowKit
set_option linter.unusedVariables false

theorem rise_split : ∀ (l : List Int) (n : Int) (k : Nat), k ≤ l.length → (∀ x ∈ l.take k, x < n) → (k < l.length → ¬ l[k]?.getD 0 < n ∧ l[k]?.getD 0 ≠ n) → riseF l n = l.take k ++ n :: l.drop k
  | [], n, k, hk, _, _ => by
    have : k = 0 := by simpa using hk
    subst this; rfl
  | a :: r, n, 0, hk, _, h => by
    obtain ⟨h1, h2⟩ := h (by simp)
    simp only [List.getElem?_cons_zero, Option.getD_some] at h1 h2
    unfold riseF
    rw [if_neg h1, if_neg h2]; rfl
  | a :: r, n, k + 1, hk, h1, h => by
    have ha : a < n := h1 a (by simp)
    unfold riseF
    rw [if_pos ha, rise_split r n k (by simpa using hk) (fun x hx => h1 x (by simp [hx])) (fun hlt => by have := h (by simpa using hlt); simpa using this)]
    rfl
theorem rise_has : ∀ (l : List Int) (n : Int) (k : Nat), k < l.length → (∀ x ∈ l.take k, x < n) → l[k]?.getD 0 = n → riseF l n = l
  | [], n, k, hk, _, _ => by simp at hk
  | a :: r, n, 0, _, _, h => by
    simp only [List.getElem?_cons_zero, Option.getD_some] at h
    unfold riseF
    rw [if_neg (by omega), if_pos h]
  | a :: r, n, k + 1, hk, h1, h => by
    have ha : a < n := h1 a (by simp)
    unfold riseF
    rw [if_pos ha, rise_has r n k (by simpa using hk) (fun x hx => h1 x (by simp [hx])) (by simpa using h)]
theorem rise_own {l : List Int} {n : Int} {k : Nat} {w : World} {B : Nat} {A : Option Addr} {m c : Nat} (h : riseF l n = l.take k ++ n :: l.drop k) (ho : OwnX w B 3 1 (.slice A m c) m (ints (l.take k) ++ [.int .i64 n] ++ ints (l.drop k))) : Rd w A (ints (riseF l n)) ∧ m ≤ c ∧ c ≤ maxLen := by
  obtain ⟨A', c', e, h1, h2, h3⟩ := ho.shape
  injection e with e1 _ e3
  subst e1; subst e3
  have : ints (riseF l n) = ints (l.take k) ++ [.int .i64 n] ++ ints (l.drop k) := by rw [h]; simp [ints]
  rw [this]
  exact ⟨h1, h2, h3⟩
theorem rise_done {l : List Int} {n : Int} {k : Nat} {w : World} {B : Nat} {A : Option Addr} {m c : Nat} (h : riseF l n = l.take k ++ n :: l.drop k) (hm : (riseF l n).length = m) (h8 : m * 8 ≤ 140737488351232) (ho : OwnX w B 3 1 (.slice A m c) m (ints (l.take k) ++ [.int .i64 n] ++ ints (l.drop k))) : IntsAt w (.slice A m c) (riseF l n) := by
  obtain ⟨h1, h2, h3⟩ := rise_own h ho
  exact ⟨A, c, by rw [hm], h1, by rw [hm]; exact h2, h3, by rw [hm]; exact h8⟩
theorem rd_cut {w : World} {A : Option Addr} {l : List Int} {k c : Nat} (h : Rd w A (ints l)) (hc : l.length ≤ c) : Rd w (if c = k then A else A.map (·.add (k * 1))) (ints (l.drop k)) := by
  have e : ints (l.drop k) = (ints l).drop k := by simp [ints]
  rw [e]
  by_cases hk : c = k
  · rw [List.drop_of_length_le (by rw [ints_len]; omega)]; exact Rd.nil _ _
  · rw [if_neg hk, Nat.mul_one]; exact h.drop k
theorem rd_take {w : World} {A : Option Addr} {l : List Int} (h : Rd w A (ints l)) (k : Nat) : Rd w A (ints (l.take k)) := by
  have e : ints (l.take k) = (ints l).take k := by simp [ints]
  rw [e]; exact h.take k
def RiseRet (l : List Int) (n : Int) (w : World) (e : Ending) (w' : World) : Prop := ∃ v, e = .returned v ∧ IntsAt w' v (riseF l n) ∧ Below w.heap.size w w'
def RiseRel (l : List Int) (n : Int) (w : World) (m : Nat) (i : Value) (wr : World) : Prop := ∃ k : Nat, k + m = l.length ∧ i = .int .i64 (k : Int) ∧ (∀ x ∈ l.take k, x < n) ∧ w = wr
set_option maxHeartbeats 4000000 in
theorem rise_any (A : Option Addr) (c : Nat) (l : List Int) (n : Int) (w : World) (hs : Rd w A (ints l)) (hl : l.length ≤ 1000000000) (hc : l.length ≤ c) (hcm : c ≤ maxLen) :
    Calls Try.prog 42 #[.slice A l.length c, .int .i64 n] w (RiseRet l n w) := by
  have HCM := Lib.hid hcm
  have hcm2 : c ≤ 9223372036854775807 := hcm
  have HCM2 := Lib.hid hcm2
  clear hcm hcm2
  have HS := Lib.hid hs
  clear hs
  go_enter Try.func42, Try.ntmps42
  go_wp2
  go_loopg [5] l.length (fun m i wr => RiseRel l n w m i wr)
  case atStart => exact ⟨0, by omega, rfl, by simp, rfl⟩
  case round =>
    obtain ⟨k, hk, rfl, hall, rfl⟩ := hrel
    have HK := Lib.hid hk
    have hk2 : k ≤ l.length := by omega
    have HALL := Lib.hid hall
    clear hk hall
    by_cases hlt : k < l.length
    · obtain ⟨b, off, rfl, hcell⟩ := HS.out.int hlt
      have HN := Lib.hid (fun (h : l[k]?.getD 0 < n) => (show ∀ x ∈ l.take (k + 1), x < n from fun x hx => by
        rw [List.take_succ_eq_append_getElem hlt] at hx
        rcases List.mem_append.1 hx with hx | hx
        · exact HALL.out x hx
        · simp only [List.mem_singleton] at hx
          subst hx
          rw [List.getElem?_eq_getElem hlt] at h
          exact h))
      have HSP := Lib.hid (rise_split l n k hk2 HALL.out)
      have HHAS := Lib.hid (rise_has l n k hlt HALL.out)
      generalize l[k]?.getD 0 = a at *
      have s1 : (k : Int) < l.length := by omega
      have s2 : (k : Int) ≤ c := by omega
      have s3 : k ≤ c := by omega
      by_cases h1 : a < n
      · have HN := Lib.hid (HN.out h1)
        go_wp2
        go_roundg (l.length - (k + 1))
        case measure => have := HK.out; omega
        case rel => exact ⟨k + 1, by have := HK.out; omega, by go_num, HN.out, rfl⟩
      · by_cases h2 : a = n
        · have HR := Lib.hid (HHAS.out h2)
          have y1 : (a == n) = true := by simpa using h2
          have y2 : decide (a < n) = false := by simpa using h1
          clear h1 h2
          go_wp2
          go_ret
          exact ⟨_, rfl, by rw [HR.out]; exact ⟨_, c, rfl, HS.out, hc, HCM.out, by omega⟩, Below.refl _ _⟩
        · have HR := Lib.hid (HSP.out (fun _ => ⟨h1, h2⟩))
          have y1 : (a == n) = false := by simpa using h2
          have y2 : decide (a < n) = false := by simpa using h1
          clear h1 h2 HSP HHAS HN
          have HLEN := Lib.hid (show (riseF l n).length = k + 1 + (l.length - k) by rw [HR.out, List.length_append, List.length_take, List.length_cons, List.length_drop]; omega)
          have HD := Lib.hid (fun (W : World) (hb : Below w.heap.size w W) => rd_cut (k := k) (HS.out.below hb) hc)
          have HT := Lib.hid (fun (W : World) (hb : Below w.heap.size w W) => rd_take (HS.out.below hb) k)
          have hcut := fun (W : World) => run_cut (P := Try.prog) W 25 3 1 Try.underlying25 (by kernel_rfl) (by kernel_rfl) (some (⟨b, off, none⟩ : Addr)) l.length c k hk2
          generalize (if c = k then (some (⟨b, off, none⟩ : Addr)) else (some (⟨b, off, none⟩ : Addr)).map (·.add (k * 1))) = AK at HD hcut
          have HK2 := Lib.hid hk2
          have HC := Lib.hid hc
          obtain ⟨i0, hi0, hz0, hz1, hz2⟩ := info_parts intInfo
          go_wp2
          refine wp_region_x 12 (by kernel_rfl) (fun w' => Below w.heap.size w w') ?_
          have hq : Hid (Below w.heap.size w w.drew) := (Below.refl _ _).drew
          have hsz : Hid (w.heap.size ≤ w.drew.heap.size) := Nat.le_refl _
          generalize hV : w.drew = V0 at hq hsz ⊢
          clear hV
          refine wpAnyX_take (i := 1) (v := .slice (some (⟨b, off, none⟩ : Addr)) l.length c) rfl (by kernel_rfl) (by kernel_rfl) (by kernel_rfl) (by kernel_rfl) (fun _ _ _ h => h) hq.out (Or.inl ⟨by rfl, fun w hS => by obtain ⟨rc, rf⟩ := below_cell hS rfl; go_simp⟩) ?_
          go_simp
          refine wpAnyX_take (i := 2) (v := .int .i64 (k : Int)) rfl (by kernel_rfl) (by kernel_rfl) (by kernel_rfl) (by kernel_rfl) (fun _ _ _ h => h) hq.out (Or.inl ⟨by rfl, fun w hS => by obtain ⟨rc, rf⟩ := below_cell hS rfl; go_simp⟩) ?_
          go_simp
          refine wpAnyX_take (i := 3) (v := .slice (some (⟨b, off, none⟩ : Addr)) k c) rfl (by kernel_rfl) (by kernel_rfl) (by kernel_rfl) (by kernel_rfl) (fun _ _ _ h => h) hq.out (Or.inl ⟨by rfl, fun w hS => by obtain ⟨rc, rf⟩ := below_cell hS rfl; go_simp⟩) ?_
          go_simp
          refine wpAnyX_take (i := 5) (v := .int .i64 n) rfl (by kernel_rfl) (by kernel_rfl) (by kernel_rfl) (by kernel_rfl) (fun _ _ _ h => h) hq.out (Or.inl ⟨by rfl, fun w hS => by obtain ⟨rc, rf⟩ := below_cell hS rfl; go_simp⟩) ?_
          go_simp
          refine wpAnyX_take (i := 8) (v := .slice (some (⟨b, off, none⟩ : Addr)) l.length c) rfl (by kernel_rfl) (by kernel_rfl) (by kernel_rfl) (by kernel_rfl) (fun _ _ _ h => h) hq.out (Or.inl ⟨by rfl, fun w hS => by obtain ⟨rc, rf⟩ := below_cell hS rfl; go_simp⟩) ?_
          go_simp
          refine wpAnyX_take (i := 9) (v := .int .i64 (k : Int)) rfl (by kernel_rfl) (by kernel_rfl) (by kernel_rfl) (by kernel_rfl) (fun _ _ _ h => h) hq.out (Or.inl ⟨by rfl, fun w hS => by obtain ⟨rc, rf⟩ := below_cell hS rfl; go_simp⟩) ?_
          go_simp
          refine wpAnyX_take (i := 10) (v := .slice AK (l.length - k) (c - k)) rfl (by kernel_rfl) (by kernel_rfl) (by kernel_rfl) (by kernel_rfl) (fun _ _ _ h => h) hq.out (Or.inl ⟨by rfl, fun w hS => by obtain ⟨rc, rf⟩ := below_cell hS rfl; go_simp⟩) ?_
          go_simp
          refine wpAnyX_ready (rs := [0, 6]) (by kernel_rfl) (by simp) (AllX.cons rfl (fun K hK => ?_) (AllX.cons rfl (fun K hK => ?_) AllX.nil))
          · go_simp
            have hsz0 := hsz
            have hb : Below V0.heap.size V0 (V0.alloc (.cells #[] 3)) := (Below.refl _ _).alloc (Nat.le_refl _) _
            have hq := Lib.hid (hq.out.trans (hb.mono hsz.out))
            have hsz := Lib.hid (Nat.le_trans hsz.out hb.size)
            have hO := Lib.hid (OwnX.lit0 V0 _ 3 1 hsz0.out)
            have hOge : Hid (w.heap.size ≤ V0.heap.size) := hsz0.out
            refine hK.out _ _ (fun _ => hq.out) ?_
            clear hK K hb hsz0
            generalize hV : (V0.alloc (.cells #[] 3)) = V1 at hO hOge hq hsz ⊢
            clear hV
            generalize hV : V0.heap.size = g0 at hO hOge hq hsz ⊢
            clear hV
            refine wpAnyX_ready (rs := [4, 6]) (by kernel_rfl) (by simp) (AllX.cons rfl (fun K hK => ?_) (AllX.cons rfl (fun K hK => ?_) AllX.nil))
            · refine step_append_zero V1 (by rfl) (.tmp 33) (.tmp 36) 25 (by rfl) _ 3 i0 _ 1 8 Try.underlying25 hi0 hz0 hz1 hz2 rfl (by omega) g0 0 (by rfl) hO.out (some (⟨b, off, none⟩ : Addr)) k c (ints (l.take k)) (by rfl) (by rw [ints_len, List.length_take]; omega) (HT.out _ hq.out) (ints_one _) (by unfold maxLen; omega) (by omega) hsz.out ?_
              intro v w1 hown hb
              clear hO
              have hq := Lib.hid (hq.out.trans (hb.mono hsz.out))
              have hsz := Lib.hid (Nat.le_trans hsz.out hb.size)
              obtain ⟨A1, c1, rfl, _⟩ := OwnX.shape hown
              have hP := Lib.hid hown
              clear hown
              refine hK.out _ _ (fun _ => hq.out) ?_
              clear hK K hb
              go_simp
              generalize w1 = V2 at *
              refine wpAnyX_one (i := 6) (by kernel_rfl) rfl (fun K hK => ?_)
              go_simp
              have hsz0 := hsz
              have hb : Below V2.heap.size V2 (V2.alloc (.cells #[.int .i64 n] 3)) := (Below.refl _ _).alloc (Nat.le_refl _) _
              have hP := Lib.hid (hP.out.below hb)
              have hq := Lib.hid (hq.out.trans (hb.mono hsz.out))
              have hsz := Lib.hid (Nat.le_trans hsz.out hb.size)
              have hN := Lib.hid (Rd.new_ V2 [.int .i64 n] 3)
              have hNge : Hid (w.heap.size ≤ V2.heap.size) := hsz0.out
              refine hK.out _ _ (fun _ => hq.out) ?_
              clear hK K hb hsz0
              generalize hV : (V2.alloc (.cells #[.int .i64 n] 3)) = V3 at hOge hP hN hNge hq hsz ⊢
              clear hV
              generalize hV : V2.heap.size = g1 at hOge hP hN hNge hq hsz ⊢
              clear hV
              refine wpAnyX_one (i := 7) (by kernel_rfl) rfl (fun K hK => ?_)
              refine step_append_x V3 (by rfl) (.tmp 37) (.tmp 39) 25 (by rfl) _ 3 i0 _ 1 8 Try.underlying25 hi0 hz0 hz1 hz2 rfl (by omega) (.slice A1 k c1) k (ints (l.take k)) (by rfl) hP.out (some ⟨g1, 0, none⟩) 1 1 [.int .i64 n] (by rfl) rfl hN.out (by intro u hu; simp at hu; subst hu; rfl) (by unfold maxLen; omega) (by omega) hsz.out ?_
              intro v w1 hown hg
              have hq := Lib.hid (hq.out.grown hg hsz.out (fun j e => (hP.out.block_lt e).1))
              have hsz := Lib.hid (Nat.le_trans hsz.out hg.size)
              clear hP
              clear hN
              obtain ⟨A2, c2, rfl, _⟩ := OwnX.shape hown
              have hF := Lib.hid hown
              clear hown hg
              refine hK.out _ _ (fun _ => hq.out) ?_
              clear hK K
              go_simp
              generalize w1 = V4 at *
              refine wpAnyX_one (i := 11) (by kernel_rfl) rfl (fun K hK => ?_)
              refine step_append_x V4 (by rfl) (.tmp 40) (.tmp 43) 25 (by rfl) _ 3 i0 _ 1 8 Try.underlying25 hi0 hz0 hz1 hz2 rfl (by omega) (.slice A2 (k + 1) c2) (k + 1) (ints (l.take k) ++ [.int .i64 n]) (by rfl) hF.out AK (l.length - k) (c - k) (ints (l.drop k)) (by rfl) (by rw [ints_len, List.length_drop]; omega) (HD.out _ hq.out) (ints_one _) (by unfold maxLen; omega) (by omega) hsz.out ?_
              intro v w1 hown hg
              have hq := Lib.hid (hq.out.grown hg hsz.out (fun j e => (hF.out.block_lt e).1))
              have hsz := Lib.hid (Nat.le_trans hsz.out hg.size)
              clear hF
              obtain ⟨A3, c3, rfl, _⟩ := OwnX.shape hown
              have hR := Lib.hid hown
              clear hown hg
              refine hK.out _ _ (fun _ => hq.out) ?_
              clear hK K
              go_simp
              generalize w1 = V5 at *
              refine wpAnyX_one (i := 12) (by kernel_rfl) rfl (fun K hK => ?_)
              go_simp
              refine hK.out _ _ (fun h => absurd rfl h) ?_
              clear hK K
              refine wpAnyX_done (by kernel_rfl) ?_
              go_wp2_with fail
              go_ret
              exact ⟨.slice A3 (k + 1 + (l.length - k)) c3, rfl, rise_done HR.out HLEN.out (by omega) hR.out, hq.out⟩
            · go_simp
              have hsz0 := hsz
              have hb : Below V1.heap.size V1 (V1.alloc (.cells #[.int .i64 n] 3)) := (Below.refl _ _).alloc (Nat.le_refl _) _
              have hO := Lib.hid (hO.out.below hb)
              have hq := Lib.hid (hq.out.trans (hb.mono hsz.out))
              have hsz := Lib.hid (Nat.le_trans hsz.out hb.size)
              have hN := Lib.hid (Rd.new_ V1 [.int .i64 n] 3)
              have hNge : Hid (w.heap.size ≤ V1.heap.size) := hsz0.out
              refine hK.out _ _ (fun _ => hq.out) ?_
              clear hK K hb hsz0
              generalize hV : (V1.alloc (.cells #[.int .i64 n] 3)) = V6 at hO hOge hN hNge hq hsz ⊢
              clear hV
              generalize hV : V1.heap.size = g1 at hO hOge hN hNge hq hsz ⊢
              clear hV
              refine wpAnyX_one (i := 4) (by kernel_rfl) rfl (fun K hK => ?_)
              refine step_append_zero V6 (by rfl) (.tmp 33) (.tmp 36) 25 (by rfl) _ 3 i0 _ 1 8 Try.underlying25 hi0 hz0 hz1 hz2 rfl (by omega) g0 0 (by rfl) hO.out (some (⟨b, off, none⟩ : Addr)) k c (ints (l.take k)) (by rfl) (by rw [ints_len, List.length_take]; omega) (HT.out _ hq.out) (ints_one _) (by unfold maxLen; omega) (by omega) hsz.out ?_
              intro v w1 hown hb
              clear hO
              have hN := Lib.hid (hN.out.below hb)
              have hq := Lib.hid (hq.out.trans (hb.mono hsz.out))
              have hsz := Lib.hid (Nat.le_trans hsz.out hb.size)
              obtain ⟨A1, c1, rfl, _⟩ := OwnX.shape hown
              have hP := Lib.hid hown
              clear hown
              refine hK.out _ _ (fun _ => hq.out) ?_
              clear hK K hb
              go_simp
              generalize w1 = V7 at *
              refine wpAnyX_one (i := 7) (by kernel_rfl) rfl (fun K hK => ?_)
              refine step_append_x V7 (by rfl) (.tmp 37) (.tmp 39) 25 (by rfl) _ 3 i0 _ 1 8 Try.underlying25 hi0 hz0 hz1 hz2 rfl (by omega) (.slice A1 k c1) k (ints (l.take k)) (by rfl) hP.out (some ⟨g1, 0, none⟩) 1 1 [.int .i64 n] (by rfl) rfl hN.out (by intro u hu; simp at hu; subst hu; rfl) (by unfold maxLen; omega) (by omega) hsz.out ?_
              intro v w1 hown hg
              have hq := Lib.hid (hq.out.grown hg hsz.out (fun j e => (hP.out.block_lt e).1))
              have hsz := Lib.hid (Nat.le_trans hsz.out hg.size)
              clear hN
              clear hP
              obtain ⟨A2, c2, rfl, _⟩ := OwnX.shape hown
              have hF := Lib.hid hown
              clear hown hg
              refine hK.out _ _ (fun _ => hq.out) ?_
              clear hK K
              go_simp
              generalize w1 = V8 at *
              refine wpAnyX_one (i := 11) (by kernel_rfl) rfl (fun K hK => ?_)
              refine step_append_x V8 (by rfl) (.tmp 40) (.tmp 43) 25 (by rfl) _ 3 i0 _ 1 8 Try.underlying25 hi0 hz0 hz1 hz2 rfl (by omega) (.slice A2 (k + 1) c2) (k + 1) (ints (l.take k) ++ [.int .i64 n]) (by rfl) hF.out AK (l.length - k) (c - k) (ints (l.drop k)) (by rfl) (by rw [ints_len, List.length_drop]; omega) (HD.out _ hq.out) (ints_one _) (by unfold maxLen; omega) (by omega) hsz.out ?_
              intro v w1 hown hg
              have hq := Lib.hid (hq.out.grown hg hsz.out (fun j e => (hF.out.block_lt e).1))
              have hsz := Lib.hid (Nat.le_trans hsz.out hg.size)
              clear hF
              obtain ⟨A3, c3, rfl, _⟩ := OwnX.shape hown
              have hR := Lib.hid hown
              clear hown hg
              refine hK.out _ _ (fun _ => hq.out) ?_
              clear hK K
              go_simp
              generalize w1 = V9 at *
              refine wpAnyX_one (i := 12) (by kernel_rfl) rfl (fun K hK => ?_)
              go_simp
              refine hK.out _ _ (fun h => absurd rfl h) ?_
              clear hK K
              refine wpAnyX_done (by kernel_rfl) ?_
              go_wp2_with fail
              go_ret
              exact ⟨.slice A3 (k + 1 + (l.length - k)) c3, rfl, rise_done HR.out HLEN.out (by omega) hR.out, hq.out⟩
          · go_simp
            have hsz0 := hsz
            have hb : Below V0.heap.size V0 (V0.alloc (.cells #[.int .i64 n] 3)) := (Below.refl _ _).alloc (Nat.le_refl _) _
            have hq := Lib.hid (hq.out.trans (hb.mono hsz.out))
            have hsz := Lib.hid (Nat.le_trans hsz.out hb.size)
            have hN := Lib.hid (Rd.new_ V0 [.int .i64 n] 3)
            have hNge : Hid (w.heap.size ≤ V0.heap.size) := hsz0.out
            refine hK.out _ _ (fun _ => hq.out) ?_
            clear hK K hb hsz0
            generalize hV : (V0.alloc (.cells #[.int .i64 n] 3)) = V10 at hN hNge hq hsz ⊢
            clear hV
            generalize hV : V0.heap.size = g1 at hN hNge hq hsz ⊢
            clear hV
            refine wpAnyX_one (i := 0) (by kernel_rfl) rfl (fun K hK => ?_)
            go_simp
            have hsz0 := hsz
            have hb : Below V10.heap.size V10 (V10.alloc (.cells #[] 3)) := (Below.refl _ _).alloc (Nat.le_refl _) _
            have hN := Lib.hid (hN.out.below hb)
            have hq := Lib.hid (hq.out.trans (hb.mono hsz.out))
            have hsz := Lib.hid (Nat.le_trans hsz.out hb.size)
            have hO := Lib.hid (OwnX.lit0 V10 _ 3 1 hsz0.out)
            have hOge : Hid (w.heap.size ≤ V10.heap.size) := hsz0.out
            refine hK.out _ _ (fun _ => hq.out) ?_
            clear hK K hb hsz0
            generalize hV : (V10.alloc (.cells #[] 3)) = V11 at hN hNge hO hOge hq hsz ⊢
            clear hV
            generalize hV : V10.heap.size = g0 at hN hNge hO hOge hq hsz ⊢
            clear hV
            refine wpAnyX_one (i := 4) (by kernel_rfl) rfl (fun K hK => ?_)
            refine step_append_zero V11 (by rfl) (.tmp 33) (.tmp 36) 25 (by rfl) _ 3 i0 _ 1 8 Try.underlying25 hi0 hz0 hz1 hz2 rfl (by omega) g0 0 (by rfl) hO.out (some (⟨b, off, none⟩ : Addr)) k c (ints (l.take k)) (by rfl) (by rw [ints_len, List.length_take]; omega) (HT.out _ hq.out) (ints_one _) (by unfold maxLen; omega) (by omega) hsz.out ?_
            intro v w1 hown hb
            clear hO
            have hN := Lib.hid (hN.out.below hb)
            have hq := Lib.hid (hq.out.trans (hb.mono hsz.out))
            have hsz := Lib.hid (Nat.le_trans hsz.out hb.size)
            obtain ⟨A1, c1, rfl, _⟩ := OwnX.shape hown
            have hP := Lib.hid hown
            clear hown
            refine hK.out _ _ (fun _ => hq.out) ?_
            clear hK K hb
            go_simp
            generalize w1 = V12 at *
            refine wpAnyX_one (i := 7) (by kernel_rfl) rfl (fun K hK => ?_)
            refine step_append_x V12 (by rfl) (.tmp 37) (.tmp 39) 25 (by rfl) _ 3 i0 _ 1 8 Try.underlying25 hi0 hz0 hz1 hz2 rfl (by omega) (.slice A1 k c1) k (ints (l.take k)) (by rfl) hP.out (some ⟨g1, 0, none⟩) 1 1 [.int .i64 n] (by rfl) rfl hN.out (by intro u hu; simp at hu; subst hu; rfl) (by unfold maxLen; omega) (by omega) hsz.out ?_
            intro v w1 hown hg
            have hq := Lib.hid (hq.out.grown hg hsz.out (fun j e => (hP.out.block_lt e).1))
            have hsz := Lib.hid (Nat.le_trans hsz.out hg.size)
            clear hN
            clear hP
            obtain ⟨A2, c2, rfl, _⟩ := OwnX.shape hown
            have hF := Lib.hid hown
            clear hown hg
            refine hK.out _ _ (fun _ => hq.out) ?_
            clear hK K
            go_simp
            generalize w1 = V13 at *
            refine wpAnyX_one (i := 11) (by kernel_rfl) rfl (fun K hK => ?_)
            refine step_append_x V13 (by rfl) (.tmp 40) (.tmp 43) 25 (by rfl) _ 3 i0 _ 1 8 Try.underlying25 hi0 hz0 hz1 hz2 rfl (by omega) (.slice A2 (k + 1) c2) (k + 1) (ints (l.take k) ++ [.int .i64 n]) (by rfl) hF.out AK (l.length - k) (c - k) (ints (l.drop k)) (by rfl) (by rw [ints_len, List.length_drop]; omega) (HD.out _ hq.out) (ints_one _) (by unfold maxLen; omega) (by omega) hsz.out ?_
            intro v w1 hown hg
            have hq := Lib.hid (hq.out.grown hg hsz.out (fun j e => (hF.out.block_lt e).1))
            have hsz := Lib.hid (Nat.le_trans hsz.out hg.size)
            clear hF
            obtain ⟨A3, c3, rfl, _⟩ := OwnX.shape hown
            have hR := Lib.hid hown
            clear hown hg
            refine hK.out _ _ (fun _ => hq.out) ?_
            clear hK K
            go_simp
            generalize w1 = V14 at *
            refine wpAnyX_one (i := 12) (by kernel_rfl) rfl (fun K hK => ?_)
            go_simp
            refine hK.out _ _ (fun h => absurd rfl h) ?_
            clear hK K
            refine wpAnyX_done (by kernel_rfl) ?_
            go_wp2_with fail
            go_ret
            exact ⟨.slice A3 (k + 1 + (l.length - k)) c3, rfl, rise_done HR.out HLEN.out (by omega) hR.out, hq.out⟩
    · have HR := Lib.hid (rise_split l n k hk2 HALL.out (fun h => absurd h hlt))
      have s1 : (k : Int) ≤ l.length := by omega
      have s2 : (k : Int) ≤ c := by omega
      have s3 : k ≤ c := by omega
      have HLEN := Lib.hid (show (riseF l n).length = k + 1 + (l.length - k) by rw [HR.out, List.length_append, List.length_take, List.length_cons, List.length_drop]; omega)
      have HD := Lib.hid (fun (W : World) (hb : Below w.heap.size w W) => rd_cut (k := k) (HS.out.below hb) hc)
      have HT := Lib.hid (fun (W : World) (hb : Below w.heap.size w W) => rd_take (HS.out.below hb) k)
      have hcut := fun (W : World) => run_cut (P := Try.prog) W 25 3 1 Try.underlying25 (by kernel_rfl) (by kernel_rfl) A l.length c k hk2
      generalize (if c = k then A else A.map (·.add (k * 1))) = AK at HD hcut
      have HK2 := Lib.hid hk2
      have HC := Lib.hid hc
      obtain ⟨i0, hi0, hz0, hz1, hz2⟩ := info_parts intInfo
      go_wp2
      refine wp_region_x 12 (by kernel_rfl) (fun w' => Below w.heap.size w w') ?_
      have hq : Hid (Below w.heap.size w w.drew) := (Below.refl _ _).drew
      have hsz : Hid (w.heap.size ≤ w.drew.heap.size) := Nat.le_refl _
      generalize hV : w.drew = V0 at hq hsz ⊢
      clear hV
      refine wpAnyX_take (i := 1) (v := .slice A l.length c) rfl (by kernel_rfl) (by kernel_rfl) (by kernel_rfl) (by kernel_rfl) (fun _ _ _ h => h) hq.out (Or.inl ⟨by rfl, fun w hS => by obtain ⟨rc, rf⟩ := below_cell hS rfl; go_simp⟩) ?_
      go_simp
      refine wpAnyX_take (i := 2) (v := .int .i64 (k : Int)) rfl (by kernel_rfl) (by kernel_rfl) (by kernel_rfl) (by kernel_rfl) (fun _ _ _ h => h) hq.out (Or.inl ⟨by rfl, fun w hS => by obtain ⟨rc, rf⟩ := below_cell hS rfl; go_simp⟩) ?_
      go_simp
      refine wpAnyX_take (i := 3) (v := .slice A k c) rfl (by kernel_rfl) (by kernel_rfl) (by kernel_rfl) (by kernel_rfl) (fun _ _ _ h => h) hq.out (Or.inl ⟨by rfl, fun w hS => by obtain ⟨rc, rf⟩ := below_cell hS rfl; go_simp⟩) ?_
      go_simp
      refine wpAnyX_take (i := 5) (v := .int .i64 n) rfl (by kernel_rfl) (by kernel_rfl) (by kernel_rfl) (by kernel_rfl) (fun _ _ _ h => h) hq.out (Or.inl ⟨by rfl, fun w hS => by obtain ⟨rc, rf⟩ := below_cell hS rfl; go_simp⟩) ?_
      go_simp
      refine wpAnyX_take (i := 8) (v := .slice A l.length c) rfl (by kernel_rfl) (by kernel_rfl) (by kernel_rfl) (by kernel_rfl) (fun _ _ _ h => h) hq.out (Or.inl ⟨by rfl, fun w hS => by obtain ⟨rc, rf⟩ := below_cell hS rfl; go_simp⟩) ?_
      go_simp
      refine wpAnyX_take (i := 9) (v := .int .i64 (k : Int)) rfl (by kernel_rfl) (by kernel_rfl) (by kernel_rfl) (by kernel_rfl) (fun _ _ _ h => h) hq.out (Or.inl ⟨by rfl, fun w hS => by obtain ⟨rc, rf⟩ := below_cell hS rfl; go_simp⟩) ?_
      go_simp
      refine wpAnyX_take (i := 10) (v := .slice AK (l.length - k) (c - k)) rfl (by kernel_rfl) (by kernel_rfl) (by kernel_rfl) (by kernel_rfl) (fun _ _ _ h => h) hq.out (Or.inl ⟨by rfl, fun w hS => by obtain ⟨rc, rf⟩ := below_cell hS rfl; go_simp⟩) ?_
      go_simp
      refine wpAnyX_ready (rs := [0, 6]) (by kernel_rfl) (by simp) (AllX.cons rfl (fun K hK => ?_) (AllX.cons rfl (fun K hK => ?_) AllX.nil))
      · go_simp
        have hsz0 := hsz
        have hb : Below V0.heap.size V0 (V0.alloc (.cells #[] 3)) := (Below.refl _ _).alloc (Nat.le_refl _) _
        have hq := Lib.hid (hq.out.trans (hb.mono hsz.out))
        have hsz := Lib.hid (Nat.le_trans hsz.out hb.size)
        have hO := Lib.hid (OwnX.lit0 V0 _ 3 1 hsz0.out)
        have hOge : Hid (w.heap.size ≤ V0.heap.size) := hsz0.out
        refine hK.out _ _ (fun _ => hq.out) ?_
        clear hK K hb hsz0
        generalize hV : (V0.alloc (.cells #[] 3)) = V1 at hO hOge hq hsz ⊢
        clear hV
        generalize hV : V0.heap.size = g0 at hO hOge hq hsz ⊢
        clear hV
        refine wpAnyX_ready (rs := [4, 6]) (by kernel_rfl) (by simp) (AllX.cons rfl (fun K hK => ?_) (AllX.cons rfl (fun K hK => ?_) AllX.nil))
        · refine step_append_zero V1 (by rfl) (.tmp 33) (.tmp 36) 25 (by rfl) _ 3 i0 _ 1 8 Try.underlying25 hi0 hz0 hz1 hz2 rfl (by omega) g0 0 (by rfl) hO.out A k c (ints (l.take k)) (by rfl) (by rw [ints_len, List.length_take]; omega) (HT.out _ hq.out) (ints_one _) (by unfold maxLen; omega) (by omega) hsz.out ?_
          intro v w1 hown hb
          clear hO
          have hq := Lib.hid (hq.out.trans (hb.mono hsz.out))
          have hsz := Lib.hid (Nat.le_trans hsz.out hb.size)
          obtain ⟨A1, c1, rfl, _⟩ := OwnX.shape hown
          have hP := Lib.hid hown
          clear hown
          refine hK.out _ _ (fun _ => hq.out) ?_
          clear hK K hb
          go_simp
          generalize w1 = V2 at *
          refine wpAnyX_one (i := 6) (by kernel_rfl) rfl (fun K hK => ?_)
          go_simp
          have hsz0 := hsz
          have hb : Below V2.heap.size V2 (V2.alloc (.cells #[.int .i64 n] 3)) := (Below.refl _ _).alloc (Nat.le_refl _) _
          have hP := Lib.hid (hP.out.below hb)
          have hq := Lib.hid (hq.out.trans (hb.mono hsz.out))
          have hsz := Lib.hid (Nat.le_trans hsz.out hb.size)
          have hN := Lib.hid (Rd.new_ V2 [.int .i64 n] 3)
          have hNge : Hid (w.heap.size ≤ V2.heap.size) := hsz0.out
          refine hK.out _ _ (fun _ => hq.out) ?_
          clear hK K hb hsz0
          generalize hV : (V2.alloc (.cells #[.int .i64 n] 3)) = V3 at hOge hP hN hNge hq hsz ⊢
          clear hV
          generalize hV : V2.heap.size = g1 at hOge hP hN hNge hq hsz ⊢
          clear hV
          refine wpAnyX_one (i := 7) (by kernel_rfl) rfl (fun K hK => ?_)
          refine step_append_x V3 (by rfl) (.tmp 37) (.tmp 39) 25 (by rfl) _ 3 i0 _ 1 8 Try.underlying25 hi0 hz0 hz1 hz2 rfl (by omega) (.slice A1 k c1) k (ints (l.take k)) (by rfl) hP.out (some ⟨g1, 0, none⟩) 1 1 [.int .i64 n] (by rfl) rfl hN.out (by intro u hu; simp at hu; subst hu; rfl) (by unfold maxLen; omega) (by omega) hsz.out ?_
          intro v w1 hown hg
          have hq := Lib.hid (hq.out.grown hg hsz.out (fun j e => (hP.out.block_lt e).1))
          have hsz := Lib.hid (Nat.le_trans hsz.out hg.size)
          clear hP
          clear hN
          obtain ⟨A2, c2, rfl, _⟩ := OwnX.shape hown
          have hF := Lib.hid hown
          clear hown hg
          refine hK.out _ _ (fun _ => hq.out) ?_
          clear hK K
          go_simp
          generalize w1 = V4 at *
          refine wpAnyX_one (i := 11) (by kernel_rfl) rfl (fun K hK => ?_)
          refine step_append_x V4 (by rfl) (.tmp 40) (.tmp 43) 25 (by rfl) _ 3 i0 _ 1 8 Try.underlying25 hi0 hz0 hz1 hz2 rfl (by omega) (.slice A2 (k + 1) c2) (k + 1) (ints (l.take k) ++ [.int .i64 n]) (by rfl) hF.out AK (l.length - k) (c - k) (ints (l.drop k)) (by rfl) (by rw [ints_len, List.length_drop]; omega) (HD.out _ hq.out) (ints_one _) (by unfold maxLen; omega) (by omega) hsz.out ?_
          intro v w1 hown hg
          have hq := Lib.hid (hq.out.grown hg hsz.out (fun j e => (hF.out.block_lt e).1))
          have hsz := Lib.hid (Nat.le_trans hsz.out hg.size)
          clear hF
          obtain ⟨A3, c3, rfl, _⟩ := OwnX.shape hown
          have hR := Lib.hid hown
          clear hown hg
          refine hK.out _ _ (fun _ => hq.out) ?_
          clear hK K
          go_simp
          generalize w1 = V5 at *
          refine wpAnyX_one (i := 12) (by kernel_rfl) rfl (fun K hK => ?_)
          go_simp
          refine hK.out _ _ (fun h => absurd rfl h) ?_
          clear hK K
          refine wpAnyX_done (by kernel_rfl) ?_
          go_wp2_with fail
          go_ret
          exact ⟨.slice A3 (k + 1 + (l.length - k)) c3, rfl, rise_done HR.out HLEN.out (by omega) hR.out, hq.out⟩
        · go_simp
          have hsz0 := hsz
          have hb : Below V1.heap.size V1 (V1.alloc (.cells #[.int .i64 n] 3)) := (Below.refl _ _).alloc (Nat.le_refl _) _
          have hO := Lib.hid (hO.out.below hb)
          have hq := Lib.hid (hq.out.trans (hb.mono hsz.out))
          have hsz := Lib.hid (Nat.le_trans hsz.out hb.size)
          have hN := Lib.hid (Rd.new_ V1 [.int .i64 n] 3)
          have hNge : Hid (w.heap.size ≤ V1.heap.size) := hsz0.out
          refine hK.out _ _ (fun _ => hq.out) ?_
          clear hK K hb hsz0
          generalize hV : (V1.alloc (.cells #[.int .i64 n] 3)) = V6 at hO hOge hN hNge hq hsz ⊢
          clear hV
          generalize hV : V1.heap.size = g1 at hO hOge hN hNge hq hsz ⊢
          clear hV
          refine wpAnyX_one (i := 4) (by kernel_rfl) rfl (fun K hK => ?_)
          refine step_append_zero V6 (by rfl) (.tmp 33) (.tmp 36) 25 (by rfl) _ 3 i0 _ 1 8 Try.underlying25 hi0 hz0 hz1 hz2 rfl (by omega) g0 0 (by rfl) hO.out A k c (ints (l.take k)) (by rfl) (by rw [ints_len, List.length_take]; omega) (HT.out _ hq.out) (ints_one _) (by unfold maxLen; omega) (by omega) hsz.out ?_
          intro v w1 hown hb
          clear hO
          have hN := Lib.hid (hN.out.below hb)
          have hq := Lib.hid (hq.out.trans (hb.mono hsz.out))
          have hsz := Lib.hid (Nat.le_trans hsz.out hb.size)
          obtain ⟨A1, c1, rfl, _⟩ := OwnX.shape hown
          have hP := Lib.hid hown
          clear hown
          refine hK.out _ _ (fun _ => hq.out) ?_
          clear hK K hb
          go_simp
          generalize w1 = V7 at *
          refine wpAnyX_one (i := 7) (by kernel_rfl) rfl (fun K hK => ?_)
          refine step_append_x V7 (by rfl) (.tmp 37) (.tmp 39) 25 (by rfl) _ 3 i0 _ 1 8 Try.underlying25 hi0 hz0 hz1 hz2 rfl (by omega) (.slice A1 k c1) k (ints (l.take k)) (by rfl) hP.out (some ⟨g1, 0, none⟩) 1 1 [.int .i64 n] (by rfl) rfl hN.out (by intro u hu; simp at hu; subst hu; rfl) (by unfold maxLen; omega) (by omega) hsz.out ?_
          intro v w1 hown hg
          have hq := Lib.hid (hq.out.grown hg hsz.out (fun j e => (hP.out.block_lt e).1))
          have hsz := Lib.hid (Nat.le_trans hsz.out hg.size)
          clear hN
          clear hP
          obtain ⟨A2, c2, rfl, _⟩ := OwnX.shape hown
          have hF := Lib.hid hown
          clear hown hg
          refine hK.out _ _ (fun _ => hq.out) ?_
          clear hK K
          go_simp
          generalize w1 = V8 at *
          refine wpAnyX_one (i := 11) (by kernel_rfl) rfl (fun K hK => ?_)
          refine step_append_x V8 (by rfl) (.tmp 40) (.tmp 43) 25 (by rfl) _ 3 i0 _ 1 8 Try.underlying25 hi0 hz0 hz1 hz2 rfl (by omega) (.slice A2 (k + 1) c2) (k + 1) (ints (l.take k) ++ [.int .i64 n]) (by rfl) hF.out AK (l.length - k) (c - k) (ints (l.drop k)) (by rfl) (by rw [ints_len, List.length_drop]; omega) (HD.out _ hq.out) (ints_one _) (by unfold maxLen; omega) (by omega) hsz.out ?_
          intro v w1 hown hg
          have hq := Lib.hid (hq.out.grown hg hsz.out (fun j e => (hF.out.block_lt e).1))
          have hsz := Lib.hid (Nat.le_trans hsz.out hg.size)
          clear hF
          obtain ⟨A3, c3, rfl, _⟩ := OwnX.shape hown
          have hR := Lib.hid hown
          clear hown hg
          refine hK.out _ _ (fun _ => hq.out) ?_
          clear hK K
          go_simp
          generalize w1 = V9 at *
          refine wpAnyX_one (i := 12) (by kernel_rfl) rfl (fun K hK => ?_)
          go_simp
          refine hK.out _ _ (fun h => absurd rfl h) ?_
          clear hK K
          refine wpAnyX_done (by kernel_rfl) ?_
          go_wp2_with fail
          go_ret
          exact ⟨.slice A3 (k + 1 + (l.length - k)) c3, rfl, rise_done HR.out HLEN.out (by omega) hR.out, hq.out⟩
      · go_simp
        have hsz0 := hsz
        have hb : Below V0.heap.size V0 (V0.alloc (.cells #[.int .i64 n] 3)) := (Below.refl _ _).alloc (Nat.le_refl _) _
        have hq := Lib.hid (hq.out.trans (hb.mono hsz.out))
        have hsz := Lib.hid (Nat.le_trans hsz.out hb.size)
        have hN := Lib.hid (Rd.new_ V0 [.int .i64 n] 3)
        have hNge : Hid (w.heap.size ≤ V0.heap.size) := hsz0.out
        refine hK.out _ _ (fun _ => hq.out) ?_
        clear hK K hb hsz0
        generalize hV : (V0.alloc (.cells #[.int .i64 n] 3)) = V10 at hN hNge hq hsz ⊢
        clear hV
        generalize hV : V0.heap.size = g1 at hN hNge hq hsz ⊢
        clear hV
        refine wpAnyX_one (i := 0) (by kernel_rfl) rfl (fun K hK => ?_)
        go_simp
        have hsz0 := hsz
        have hb : Below V10.heap.size V10 (V10.alloc (.cells #[] 3)) := (Below.refl _ _).alloc (Nat.le_refl _) _
        have hN := Lib.hid (hN.out.below hb)
        have hq := Lib.hid (hq.out.trans (hb.mono hsz.out))
        have hsz := Lib.hid (Nat.le_trans hsz.out hb.size)
        have hO := Lib.hid (OwnX.lit0 V10 _ 3 1 hsz0.out)
        have hOge : Hid (w.heap.size ≤ V10.heap.size) := hsz0.out
        refine hK.out _ _ (fun _ => hq.out) ?_
        clear hK K hb hsz0
        generalize hV : (V10.alloc (.cells #[] 3)) = V11 at hN hNge hO hOge hq hsz ⊢
        clear hV
        generalize hV : V10.heap.size = g0 at hN hNge hO hOge hq hsz ⊢
        clear hV
        refine wpAnyX_one (i := 4) (by kernel_rfl) rfl (fun K hK => ?_)
        refine step_append_zero V11 (by rfl) (.tmp 33) (.tmp 36) 25 (by rfl) _ 3 i0 _ 1 8 Try.underlying25 hi0 hz0 hz1 hz2 rfl (by omega) g0 0 (by rfl) hO.out A k c (ints (l.take k)) (by rfl) (by rw [ints_len, List.length_take]; omega) (HT.out _ hq.out) (ints_one _) (by unfold maxLen; omega) (by omega) hsz.out ?_
        intro v w1 hown hb
        clear hO
        have hN := Lib.hid (hN.out.below hb)
        have hq := Lib.hid (hq.out.trans (hb.mono hsz.out))
        have hsz := Lib.hid (Nat.le_trans hsz.out hb.size)
        obtain ⟨A1, c1, rfl, _⟩ := OwnX.shape hown
        have hP := Lib.hid hown
        clear hown
        refine hK.out _ _ (fun _ => hq.out) ?_
        clear hK K hb
        go_simp
        generalize w1 = V12 at *
        refine wpAnyX_one (i := 7) (by kernel_rfl) rfl (fun K hK => ?_)
        refine step_append_x V12 (by rfl) (.tmp 37) (.tmp 39) 25 (by rfl) _ 3 i0 _ 1 8 Try.underlying25 hi0 hz0 hz1 hz2 rfl (by omega) (.slice A1 k c1) k (ints (l.take k)) (by rfl) hP.out (some ⟨g1, 0, none⟩) 1 1 [.int .i64 n] (by rfl) rfl hN.out (by intro u hu; simp at hu; subst hu; rfl) (by unfold maxLen; omega) (by omega) hsz.out ?_
        intro v w1 hown hg
        have hq := Lib.hid (hq.out.grown hg hsz.out (fun j e => (hP.out.block_lt e).1))
        have hsz := Lib.hid (Nat.le_trans hsz.out hg.size)
        clear hN
        clear hP
        obtain ⟨A2, c2, rfl, _⟩ := OwnX.shape hown
        have hF := Lib.hid hown
        clear hown hg
        refine hK.out _ _ (fun _ => hq.out) ?_
        clear hK K
        go_simp
        generalize w1 = V13 at *
        refine wpAnyX_one (i := 11) (by kernel_rfl) rfl (fun K hK => ?_)
        refine step_append_x V13 (by rfl) (.tmp 40) (.tmp 43) 25 (by rfl) _ 3 i0 _ 1 8 Try.underlying25 hi0 hz0 hz1 hz2 rfl (by omega) (.slice A2 (k + 1) c2) (k + 1) (ints (l.take k) ++ [.int .i64 n]) (by rfl) hF.out AK (l.length - k) (c - k) (ints (l.drop k)) (by rfl) (by rw [ints_len, List.length_drop]; omega) (HD.out _ hq.out) (ints_one _) (by unfold maxLen; omega) (by omega) hsz.out ?_
        intro v w1 hown hg
        have hq := Lib.hid (hq.out.grown hg hsz.out (fun j e => (hF.out.block_lt e).1))
        have hsz := Lib.hid (Nat.le_trans hsz.out hg.size)
        clear hF
        obtain ⟨A3, c3, rfl, _⟩ := OwnX.shape hown
        have hR := Lib.hid hown
        clear hown hg
        refine hK.out _ _ (fun _ => hq.out) ?_
        clear hK K
        go_simp
        generalize w1 = V14 at *
        refine wpAnyX_one (i := 12) (by kernel_rfl) rfl (fun K hK => ?_)
        go_simp
        refine hK.out _ _ (fun h => absurd rfl h) ?_
        clear hK K
        refine wpAnyX_done (by kernel_rfl) ?_
        go_wp2_with fail
        go_ret
        exact ⟨.slice A3 (k + 1 + (l.length - k)) c3, rfl, rise_done HR.out HLEN.out (by omega) hR.out, hq.out⟩
end Go.Proofs.Ytecmpkcjeaiknaa

