/- Contracts of BinarySearch, of Working, and of the reference's Working. -/
import Derived.Test.YtecmpkcjeaiknaaDoorCf
import Derived.Laws.Bits64
namespace Go.Proofs.YtecmpkcjeaiknaaDoor.Cal
open Go.RowKit
set_option linter.unusedVariables false

/-- is n in l -/
def hasF (l : List Int) (n : Int) : Bool := l.any (fun x => x == n)
set_option maxRecDepth 100000 in
set_option maxHeartbeats 400000 in
theorem isNaN_any (x : Int) (w : World) : Calls Tryd.prog 76 #[.int .i64 x] w fun e w' => e = .returned (.bool false) ∧ w = w' := by
  go_enter Tryd.func76, Tryd.ntmps76
  go_wp2
  go_ret
  exact ⟨by simp, rfl⟩
set_option maxRecDepth 100000 in
set_option maxHeartbeats 400000 in
theorem cNaN_any (x : Int) (w : World) : Calls Tryd.prog 82 #[.int .i64 x] w fun e w' => e = .returned (.bool false) ∧ w = w' := by
  go_enter Tryd.func82, Tryd.ntmps82
  go_wp2
  go_ret
  exact ⟨by simp, rfl⟩
set_option maxRecDepth 100000 in
set_option maxHeartbeats 400000 in
theorem less_any (x y : Int) (w : World) : Calls Tryd.prog 71 #[.int .i64 x, .int .i64 y] w fun e w' => e = .returned (.bool (decide (x < y))) ∧ w = w' := by
  go_enter Tryd.func71, Tryd.ntmps71
  go_wp2_with (go_at_call 82; refine (cNaN_any _ _).mono ?_; rintro e w' ⟨rfl, rfl⟩)
  go_ret
  exact ⟨rfl, rfl⟩
structure BsInv (l : List Int) (x : Int) (i j : Nat) : Prop where
  ij : i ≤ j
  jn : j ≤ l.length
  lo : ∀ t, t < i → l[t]?.getD 0 < x
  hi : ∀ t, j ≤ t → t < l.length → x ≤ l[t]?.getD 0
def BsRel (l : List Int) (x : Int) (w : World) (g : Nat) (qi qj : Value) (wr : World) : Prop := ∃ i j : Nat, i + g = j ∧ BsInv l x i j ∧ qi = .int .i64 (i : Int) ∧ qj = .int .i64 (j : Int) ∧ wr = w
set_option maxRecDepth 100000 in
theorem sorted_le {l : List Int} (hs : l.Pairwise (· < ·)) {a b : Nat} (hab : a ≤ b) (hb : b < l.length) : l[a]?.getD 0 ≤ l[b]?.getD 0 := by
  rw [List.getElem?_eq_getElem (by omega : a < l.length), List.getElem?_eq_getElem hb]
  rcases Nat.lt_or_ge a b with h | h
  · have := List.pairwise_iff_getElem.1 hs a b (by omega) hb h
    show l[a] ≤ l[b]
    omega
  · have : a = b := by omega
    subst this
    exact Int.le_refl _
set_option maxRecDepth 100000 in
theorem bs_found {l : List Int} {x : Int} {i : Nat} (hs : l.Pairwise (· < ·)) (h : BsInv l x i i) : hasF l x = (decide (i < l.length) && (l[i]?.getD 0 == x)) := by
  rw [Bool.eq_iff_iff]
  unfold hasF
  simp only [List.any_eq_true, beq_iff_eq, Bool.and_eq_true, decide_eq_true_eq]
  refine ⟨fun ⟨y, hy, e⟩ => ?_, fun ⟨h1, h2⟩ => ?_⟩
  · subst e
    obtain ⟨t, ht, rfl⟩ := List.getElem_of_mem hy
    have e1 : l[t]?.getD 0 = l[t] := by rw [List.getElem?_eq_getElem ht]; rfl
    rcases Nat.lt_or_ge t i with c | c
    · have := h.lo t c; rw [e1] at this; omega
    · have hi : i < l.length := by omega
      refine ⟨hi, ?_⟩
      have a1 := h.hi i (Nat.le_refl _) hi
      have a2 := sorted_le hs c ht
      rw [e1] at a2
      omega
  · refine ⟨l[i], List.getElem_mem _, ?_⟩
    rw [List.getElem?_eq_getElem h1] at h2
    exact h2
set_option maxRecDepth 100000 in
set_option maxHeartbeats 1000000 in
theorem search_any (A : Option Addr) (c : Nat) (l : List Int) (x : Int) (w : World) (hs : Rd w A (ints l)) (hl : l.length ≤ 2000) (hso : l.Pairwise (· < ·)) :
    Calls Tryd.prog 63 #[.slice A l.length c, .int .i64 x] w fun e w' => ∃ i : Int, e = .returned (.tuple #[.int .i64 i, .bool (hasF l x)]) ∧ w = w' := by
  go_enter Tryd.func63, Tryd.ntmps63
  go_wp2
  go_loopg [7, 8] l.length (fun g qi qj wr => BsRel l x w g qi qj wr)
  case atStart => exact ⟨0, l.length, by omega, ⟨Nat.zero_le _, Nat.le_refl _, fun t ht => absurd ht (by omega), fun t h1 h2 => absurd h1 (by omega)⟩, rfl, rfl, rfl⟩
  case round =>
    obtain ⟨i, j, hg, hinv, rfl, rfl, rfl⟩ := hrel
    have HG := Lib.hid hg
    have hij := hinv.ij
    have hjn := hinv.jn
    clear hg
    by_cases hlt : i < j
    · have hm1 : i ≤ (i + j) / 2 := by omega
      have hm2 : (i + j) / 2 < j := by omega
      have hm3 : (i + j) / 2 < l.length := by omega
      obtain ⟨b, off, rfl, hc⟩ := hs.int hm3
      have HA : Hid (∀ t, t < (i + j) / 2 + 1 → l[t]?.getD 0 ≤ l[(i + j) / 2]?.getD 0) := fun t ht => sorted_le hso (by omega) hm3
      have HB : Hid (∀ t, (i + j) / 2 ≤ t → t < l.length → l[(i + j) / 2]?.getD 0 ≤ l[t]?.getD 0) := fun t h1 h2 => sorted_le hso h1 h2
      generalize l[(i + j) / 2]?.getD 0 = a at hc HA HB
      by_cases hax : a < x
      · have hd : decide (a < x) = true := by simpa using hax
        have HI : Hid (BsInv l x ((i + j) / 2 + 1) j) := ⟨by omega, hjn, fun t ht => by have := HA.out t ht; omega, hinv.hi⟩
        clear hax
        go_wp2_with (go_at_call 71; refine (less_any _ _ _).mono ?_; rintro e w' ⟨rfl, rfl⟩)
        go_roundg (j - ((i + j) / 2 + 1))
        case measure => have := HG.out; omega
        case rel => exact ⟨(i + j) / 2 + 1, j, by omega, HI.out, congrArg (Value.int .i64) (by omega), rfl, rfl⟩
      · have hd : decide (a < x) = false := by simpa using hax
        have HI : Hid (BsInv l x i ((i + j) / 2)) := ⟨by omega, by omega, hinv.lo, fun t h1 h2 => by have := HB.out t h1 h2; omega⟩
        clear hax
        go_wp2_with (go_at_call 71; refine (less_any _ _ _).mono ?_; rintro e w' ⟨rfl, rfl⟩)
        go_roundg ((i + j) / 2 - i)
        case measure => have := HG.out; omega
        case rel => exact ⟨i, (i + j) / 2, by omega, HI.out, rfl, congrArg (Value.int .i64) (by omega), rfl⟩
    · obtain rfl : i = j := by omega
      have HF := Lib.hid (bs_found hso hinv)
      clear hlt
      by_cases hil : i < l.length
      · obtain ⟨b, off, rfl, hc⟩ := hs.int hil
        generalize l[i]?.getD 0 = a at hc HF
        have hd : decide (i < l.length) = true := by simpa using hil
        by_cases hax : a = x
        · have he : (a == x) = true := by simpa using hax
          have HF2 : Hid (hasF l x = true) := by show _ = _; rw [HF.out, hd, he]; rfl
          clear hax HF
          go_wp2_with (go_at_call 76; refine (isNaN_any _ _).mono ?_; rintro e w' ⟨rfl, rfl⟩)
          go_ret2
          exact ⟨_, by rw [HF2.out]; rfl, rfl⟩
        · have he : (a == x) = false := by simpa using hax
          have HF2 : Hid (hasF l x = false) := by show _ = _; rw [HF.out, hd, he]; rfl
          clear hax HF
          go_wp2_with (go_at_call 76; refine (isNaN_any _ _).mono ?_; rintro e w' ⟨rfl, rfl⟩)
          go_ret2
          exact ⟨_, by rw [HF2.out]; rfl, rfl⟩
      · have hd : decide (i < l.length) = false := by simpa using hil
        have HF2 : Hid (hasF l x = false) := by show _ = _; rw [HF.out, hd]; rfl
        have hge : l.length ≤ i := by omega
        clear HF hil
        go_wp2
        go_ret2
        exact ⟨_, by rw [HF2.out]; rfl, rfl⟩
/-- is a day a working day -/
def workB (l : List Int) (n : Int) : Bool := dayB n && decide (wdF n ≤ 4) && !hasF l n
set_option maxRecDepth 100000 in
set_option maxHeartbeats 1000000 in
theorem working_any (A : Option Addr) (c : Nat) (l : List Int) (n : Int) (w : World) (hs : Rd w A (ints l)) (hv : validE l = 0) :
    Calls Tryd.prog 53 #[.slice A l.length c, .int .i64 n] w fun e w' => e = .returned (.bool (workB l n)) ∧ w = w' := by
  have HS := Lib.hid (fun w hs => search_any A c l n w hs (valid_len hv) (valid_sorted hv))
  have HD := Lib.hid (fun w => isDay_any n w)
  have HW := Lib.hid (fun w => weekday_any n w)
  have HE : Hid (workB l n = (dayB n && decide (wdF n ≤ 4) && !hasF l n)) := rfl
  have hw : dayB n = true → 0 ≤ wdF n ∧ wdF n ≤ 6 := fun h => by unfold wdF; rw [if_pos h]; omega
  clear hv
  generalize hasF l n = hf at *
  generalize workB l n = wb at *
  cases hd : dayB n
  · rw [hd] at HD HE
    have HE2 : Hid (wb = false) := by show _ = _; rw [HE.out]; rfl
    clear hd hw HE
    go_enter Tryd.func53, Tryd.ntmps53
    go_wp2_with (go_at_call 35; refine (HD.out _).mono ?_; rintro e w' ⟨rfl, rfl⟩)
    go_ret
    exact ⟨by rw [HE2.out]; rfl, rfl⟩
  · rw [hd] at HD HE
    have hw' := hw hd
    clear hd hw
    generalize wdF n = wd at *
    by_cases h4 : wd ≤ 4
    · have HE2 : Hid (wb = !hf) := by show _ = _; rw [HE.out]; simp [h4]
      have g : decide (4 < wd) = false := by simp; omega
      clear HE h4
      go_enter Tryd.func53, Tryd.ntmps53
      go_wp2_with (first
        | (go_at_call 35; refine (HD.out _).mono ?_; rintro e w' ⟨rfl, rfl⟩)
        | (go_at_call 62; refine (HW.out _).mono ?_; rintro e w' ⟨rfl, rfl⟩)
        | (go_at_call 63; refine (HS.out _ hs).mono ?_; rintro e w' ⟨i, rfl, rfl⟩))
      go_ret
      exact ⟨by rw [HE2.out]; rfl, rfl⟩
    · have HE2 : Hid (wb = false) := by show _ = _; rw [HE.out]; simp [h4]
      have g : decide (4 < wd) = true := by simp; omega
      clear HE h4
      go_enter Tryd.func53, Tryd.ntmps53
      go_wp2_with (first
        | (go_at_call 35; refine (HD.out _).mono ?_; rintro e w' ⟨rfl, rfl⟩)
        | (go_at_call 62; refine (HW.out _).mono ?_; rintro e w' ⟨rfl, rfl⟩))
      go_ret
      exact ⟨by rw [HE2.out]; rfl, rfl⟩
def HasRel (l : List Int) (n : Int) (w : World) (g : Nat) (i : Value) (wr : World) : Prop :=
  ∃ k, k + g = l.length ∧ i = .int .i64 (k : Int) ∧ hasF l n = hasF (l.drop k) n ∧ wr = w
theorem hasF_hit {l : List Int} {n : Int} {k : Nat} (h : k < l.length) (h2 : l[k]?.getD 0 = n) : hasF (l.drop k) n = true := by
  rw [List.drop_eq_getElem_cons h]
  simp only [List.getElem?_eq_getElem h, Option.getD_some] at h2
  simp [hasF, h2]
theorem hasF_miss {l : List Int} {n : Int} {k : Nat} (h : k < l.length) (h2 : ¬ l[k]?.getD 0 = n) : hasF (l.drop k) n = hasF (l.drop (k + 1)) n := by
  rw [List.drop_eq_getElem_cons h]
  simp only [List.getElem?_eq_getElem h, Option.getD_some] at h2
  unfold hasF
  rw [List.any_cons, beq_eq_false_iff_ne.2 h2, Bool.false_or]
set_option maxRecDepth 100000 in
set_option maxHeartbeats 1000000 in
theorem refWorking_any (A : Option Addr) (c : Nat) (l : List Int) (n : Int) (w : World) (hs : Rd w A (ints l)) (hl : l.length ≤ 17592186044416) :
    Calls Tryd.prog 57 #[.slice A l.length c, .int .i64 n] w fun e w' => e = .returned (.bool (workB l n)) ∧ w = w' := by
  have HW := Lib.hid (fun w => refWeekday_any n w)
  have HE : Hid (workB l n = ((decide (0 ≤ wdF n) && decide (wdF n ≤ 4)) && !hasF l n)) := by
    show _ = _
    unfold workB wdF
    cases dayB n with
    | false => simp
    | true =>
      have h0 : 0 ≤ (n + 5) % 7 := by omega
      simp [h0]
  generalize workB l n = wb at *
  generalize wdF n = wd at *
  go_enter Tryd.func57, Tryd.ntmps57
  go_wp2_with (go_at_call 64; refine (HW.out _).mono ?_; rintro e w' ⟨rfl, rfl⟩)
  go_loopg [6] l.length (fun g i wr => HasRel l n w g i wr)
  case atStart => exact ⟨0, by omega, rfl, by simp, rfl⟩
  case round =>
    obtain ⟨k, hk, rfl, hh, rfl⟩ := hrel
    have HK := Lib.hid hk
    have HH := Lib.hid hh
    have hk2 : k ≤ l.length := by omega
    clear hk hh
    by_cases hlt : k < l.length
    · obtain ⟨b, off, rfl, hc⟩ := hs.int hlt
      have H1 := Lib.hid (hasF_hit (n := n) hlt)
      have H2 := Lib.hid (hasF_miss (n := n) hlt)
      generalize l[k]?.getD 0 = a at *
      by_cases he : a = n
      · have hb : (a == n) = true := by simpa using he
        have H3 : Hid (wb = false) := by show _ = _; rw [HE.out, HH.out, H1.out he]; simp
        clear he HE
        go_wp2
        go_ret
        exact ⟨by rw [H3.out]; rfl, rfl⟩
      · have hb : (a == n) = false := by simpa using he
        have H3 := Lib.hid (H2.out he)
        clear he
        go_wp2
        go_roundg (l.length - (k + 1))
        case measure => have := HK.out; omega
        case rel => exact ⟨k + 1, by omega, by go_num, HH.out.trans H3.out, rfl⟩
    · have hge : l.length ≤ k := by omega
      have H3 : Hid (wb = (decide (0 ≤ wd) && decide (wd ≤ 4))) := by show _ = _; rw [HE.out, HH.out, List.drop_eq_nil_of_le hge]; simp [hasF]
      clear hlt HE
      by_cases c0 : 0 ≤ wd
      · have H4 : Hid (wb = decide (wd ≤ 4)) := by show _ = _; rw [H3.out]; simp [c0]
        clear H3
        go_wp2
        go_ret
        exact ⟨by rw [H4.out]; rfl, rfl⟩
      · have H4 : Hid (wb = false) := by show _ = _; rw [H3.out]; simp [c0]
        have c1 : decide (0 ≤ wd) = false := by simpa using c0
        clear H3 c0
        go_wp2
        go_ret
        exact ⟨by rw [H4.out]; rfl, rfl⟩
end Go.Proofs.YtecmpkcjeaiknaaDoor.Cal
