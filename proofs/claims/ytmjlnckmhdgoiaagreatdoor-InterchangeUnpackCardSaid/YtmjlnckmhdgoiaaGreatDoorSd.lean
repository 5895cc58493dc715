/- Contracts of isTag, special, isLong and Validate, and of the reference's Segment. -/
import Derived.Test.YtmjlnckmhdgoiaaGreatDoorProg
import Derived.Test.YtmjlnckmhdgoiaaGreatDoorSb
import Derived.Test.YtmjlnckmhdgoiaaGreatDoorSc
import Derived.WalkKit
import Derived.WalkSpells
import Derived.WalkLawsBesides
import Derived.Outline
import Derived.Lib.Hide
import Derived.Laws.Rows
import Derived.Deep.QuietTactic
import Derived.BigQuiet
import Derived.Deep.LoopGhost
namespace Go.Proofs.YtmjlnckmhdgoiaaGreatDoor
open Go.RowKit
set_option linter.unusedVariables false

/-- byte k of a string, as its list has it -/
theorem drop_byte (s : ByteArray) {k : Nat} (h : k < s.size) : s.data.toList.drop k = s[k] :: s.data.toList.drop (k + 1) := by
  rw [List.drop_eq_getElem_cons (by simpa using h)]
  rfl
set_option maxRecDepth 100000 in
theorem tag_good {s : ByteArray} {k : Nat} (h : k < s.size) (ok : (65 ≤ (s[k].toNat : Int) ∧ (s[k].toNat : Int) ≤ 90) ∨ (48 ≤ (s[k].toNat : Int) ∧ (s[k].toNat : Int) ≤ 57 ∧ 0 < k)) :
    tagGo k (s.data.toList.drop k) = tagGo (k + 1) (s.data.toList.drop (k + 1)) := by
  rw [drop_byte s h]
  conv => lhs; unfold tagGo
  have : (letterB s[k] || digitB s[k] && decide (k ≠ 0)) = true := by
    simp only [letterB, digitB, Bool.or_eq_true, Bool.and_eq_true, decide_eq_true_eq]
    omega
  rw [this, Bool.true_and]
set_option maxRecDepth 100000 in
theorem tag_bad {s : ByteArray} {k : Nat} (h : k < s.size) (ok : ¬ ((65 ≤ (s[k].toNat : Int) ∧ (s[k].toNat : Int) ≤ 90) ∨ (48 ≤ (s[k].toNat : Int) ∧ (s[k].toNat : Int) ≤ 57 ∧ 0 < k))) :
    tagGo k (s.data.toList.drop k) = false := by
  rw [drop_byte s h]
  conv => lhs; unfold tagGo
  have : (letterB s[k] || digitB s[k] && decide (k ≠ 0)) = false := by
    rw [Bool.eq_false_iff]
    simp only [letterB, digitB, ne_eq, Bool.or_eq_true, Bool.and_eq_true, decide_eq_true_eq]
    omega
  rw [this, Bool.false_and]
def TagRel (s : ByteArray) (w : World) (g : Nat) (i : Value) (wr : World) : Prop :=
  ∃ k : Nat, k + g = s.size ∧ i = .int .i64 (k : Int) ∧ tagGo 0 s.data.toList = tagGo k (s.data.toList.drop k) ∧ wr = w
set_option maxRecDepth 100000 in
set_option maxHeartbeats 1000000 in
theorem isTag_three (s : ByteArray) (w : World) (h3 : s.size = 3) :
    Calls Tryz.prog 88 #[.string s] w fun e w' => e = .returned (.bool (tagGo 0 s.data.toList)) ∧ w = w' := by
  have H3 := Lib.hid h3
  have hb : (s.size : Int) ≤ 3 := by omega
  have hne : ((s.size : Int) != 3) = false := by simp; omega
  clear h3
  go_enter Tryz.func88, Tryz.ntmps88
  go_wp2
  go_loopg [11] s.size (fun g i wr => TagRel s w g i wr)
  case atStart => exact ⟨0, by omega, rfl, by simp, rfl⟩
  case round =>
    obtain ⟨k, hk, rfl, hh, rfl⟩ := hrel
    have HK := Lib.hid hk
    have HH := Lib.hid hh
    have hk2 : k ≤ s.size := by omega
    clear hk hh
    by_cases hlt : k < s.size
    · have H1 := Lib.hid (tag_good hlt)
      have H2 := Lib.hid (tag_bad hlt)
      have hn : (s[k].toNat : Int) ≤ 90 ∨ 90 < (s[k].toNat : Int) := by omega
      rcases Nat.eq_zero_or_pos k with rfl | hk0
      · rcases hn with hn | hn
        · have hn2 : decide ((s[0].toNat : Int) ≤ 90) = true := by simpa using hn
          go_wp2
          all_goals first
            | (go_ret; exact ⟨by rw [HH.out, H2.out (by omega)]; rfl, rfl⟩)
            | (go_roundg (s.size - (0 + 1)); (case measure => (have := HK.out; omega)); exact ⟨0 + 1, by omega, by go_num, HH.out.trans (H1.out (by omega)), rfl⟩)
        · have hn2 : decide ((s[0].toNat : Int) ≤ 90) = false := by simp; omega
          go_wp2
          all_goals first
            | (go_ret; exact ⟨by rw [HH.out, H2.out (by omega)]; rfl, rfl⟩)
            | (go_roundg (s.size - (0 + 1)); (case measure => (have := HK.out; omega)); exact ⟨0 + 1, by omega, by go_num, HH.out.trans (H1.out (by omega)), rfl⟩)
      · have hkb : ((k : Int) == 0) = false := by simp; omega
        rcases hn with hn | hn
        · have hn2 : decide ((s[k].toNat : Int) ≤ 90) = true := by simpa using hn
          go_wp2
          all_goals first
            | (go_ret; exact ⟨by rw [HH.out, H2.out (by omega)]; rfl, rfl⟩)
            | (go_roundg (s.size - (k + 1)); (case measure => (have := HK.out; omega)); exact ⟨k + 1, by omega, by go_num, HH.out.trans (H1.out (by omega)), rfl⟩)
        · have hn2 : decide ((s[k].toNat : Int) ≤ 90) = false := by simp; omega
          go_wp2
          all_goals first
            | (go_ret; exact ⟨by rw [HH.out, H2.out (by omega)]; rfl, rfl⟩)
            | (go_roundg (s.size - (k + 1)); (case measure => (have := HK.out; omega)); exact ⟨k + 1, by omega, by go_num, HH.out.trans (H1.out (by omega)), rfl⟩)
    · have hge : s.size ≤ k := by omega
      clear hlt
      go_wp2
      go_ret
      exact ⟨by rw [HH.out, List.drop_eq_nil_of_le (by simpa using hge)]; rfl, rfl⟩
set_option maxRecDepth 100000 in
set_option maxHeartbeats 1000000 in
theorem isTag_any (s : ByteArray) (w : World) :
    Calls Tryz.prog 88 #[.string s] w fun e w' => e = .returned (.bool (isTagF s.data.toList)) ∧ w = w' := by
  unfold isTagF
  by_cases h3 : s.size = 3
  · have e : decide (s.data.toList.length = 3) = true := by simpa using h3
    rw [e, Bool.true_and]
    exact isTag_three s w h3
  · have e : decide (s.data.toList.length = 3) = false := by simpa using h3
    rw [e, Bool.false_and]
    have hne : ((s.size : Int) != 3) = true := by simp; omega
    clear h3 e
    go_enter Tryz.func88, Tryz.ntmps88
    go_wp2
    go_ret
    exact ⟨rfl, rfl⟩

theorem long_any {e : List Bs} {k : Nat} (h : k < e.length) : (e.drop k).any (fun c => decide (1000 < c.length)) = (decide (1000 < e[k].length) || (e.drop (k + 1)).any (fun c => decide (1000 < c.length))) := by
  rw [List.drop_eq_getElem_cons h, List.any_cons]
theorem longE_any {l : List (List Bs)} {k : Nat} (h : k < l.length) : (l.drop k).any longE = (longE l[k] || (l.drop (k + 1)).any longE) := by
  rw [List.drop_eq_getElem_cons h, List.any_cons]
def LongRel (l : List (List Bs)) (W : World) (g : Nat) (i : Value) (wr : World) : Prop :=
  ∃ k : Nat, k + g = l.length ∧ i = .int .i64 (k : Int) ∧ l.any longE = (l.drop k).any longE ∧ wr = W
def LongRel2 (l : List Bs) (W : World) (g : Nat) (i : Value) (wr : World) : Prop :=
  ∃ k : Nat, k + g = l.length ∧ i = .int .i64 (k : Int) ∧ l.any (fun c => decide (1000 < c.length)) = (l.drop k).any (fun c => decide (1000 < c.length)) ∧ wr = W
set_option maxRecDepth 100000 in
set_option maxHeartbeats 1000000 in
theorem isLong_any (t : ByteArray) (A : Option Addr) (c : Nat) (l : List (List Bs)) (w : World) (h : ElsAt w w.heap.size A l) :
    Calls Tryz.prog 89 #[.agg #[.string t, .slice A l.length c]] w fun e w' => e = .returned (.bool (isLongF l)) ∧ Below w.heap.size w w' := by
  have q0 := (Below.refl w.heap.size w).alloc (Nat.le_refl _) (.cells #[.string t, .slice A l.length c] 57)
  unfold isLongF
  by_cases h1 : 100 < l.length
  · rw [show decide (100 < l.length) = true by simpa using h1, Bool.true_or]
    go_enter Tryz.func89, Tryz.ntmps89
    go_wp2
    go_ret
    exact ⟨rfl, q0⟩
  · rw [show decide (100 < l.length) = false by simpa using h1, Bool.false_or]
    have h2 : l.length ≤ 100 := by omega
    have hd : decide (100 < (l.length : Int)) = false := by simp; omega
    clear h1
    have HL := Lib.hid (h.below q0)
    have hc1 : (w.alloc (.cells #[.string t, .slice A l.length c] 57)).cell? ⟨w.heap.size, 1, none⟩ = some (.slice A l.length c) := by simp
    generalize hW : w.alloc (.cells #[.string t, .slice A l.length c] 57) = W at q0 HL hc1
    go_enter Tryz.func89, Tryz.ntmps89
    go_wp2
    clear hW
    go_loopg [14] l.length (fun g i wr => LongRel l W g i wr)
    case atStart => exact ⟨0, by omega, rfl, by simp, rfl⟩
    case round =>
      obtain ⟨k, hk, rfl, hh, rfl⟩ := hrel
      have HK := Lib.hid hk
      have HH := Lib.hid hh
      have hk2 : k ≤ l.length := by omega
      clear hk hh
      by_cases hlt : k < l.length
      · have HST := Lib.hid (longE_any hlt)
        obtain ⟨b, off, A', c', rfl, hb, hc, hr⟩ := HL.out.get hlt
        generalize l[k] = e at HST hc hr
        by_cases h3 : 100 < e.length
        · have H1 : Hid (l.any longE = true) := by show _ = _; rw [HH.out, HST.out, show longE e = true by unfold longE; simp [h3]]; rfl
          clear HST HH
          go_wp2
          go_ret
          exact ⟨by rw [H1.out]; rfl, q0⟩
        · have h4 : e.length ≤ 100 := by omega
          have hd4 : decide (100 < (e.length : Int)) = false := by simp; omega
          have H1 : Hid (l.any longE = (e.any (fun c => decide (1000 < c.length)) || (l.drop (k + 1)).any longE)) := by show _ = _; rw [HH.out, HST.out, show longE e = e.any (fun c => decide (1000 < c.length)) by unfold longE; simp [h3]]
          clear HST HH h3
          go_wp2
          obtain ⟨Wo, rfl⟩ : ∃ Wo : World, Wo = wr := ⟨_, rfl⟩
          go_loopg [23] e.length (fun g i wr => LongRel2 e Wo g i wr)
          case atStart => exact ⟨0, by omega, rfl, by simp, rfl⟩
          case round =>
            obtain ⟨j, hj, rfl, hh, rfl⟩ := hrel
            have HJ := Lib.hid hj
            have HH := Lib.hid hh
            have hj2 : j ≤ e.length := by omega
            clear hj hh
            by_cases hlt2 : j < e.length
            · have HST := Lib.hid (long_any hlt2)
              obtain ⟨b2, off2, rfl, hc2⟩ := hr.rd.at_lit (strs_get hlt2)
              unfold str at hc2
              generalize e[j] = x at HST hc2
              by_cases h5 : 1000 < x.length
              · have H2 : Hid (l.any longE = true) := by show _ = _; rw [H1.out, HH.out, HST.out, show decide (1000 < x.length) = true by simpa using h5]; rfl
                clear HST HH H1
                go_wp2
                go_ret
                exact ⟨by rw [H2.out]; rfl, q0⟩
              · have hd5 : decide (1000 < (x.length : Int)) = false := by simp; omega
                have H2 : Hid (e.any (fun c => decide (1000 < c.length)) = (e.drop (j + 1)).any (fun c => decide (1000 < c.length))) := by show _ = _; rw [HH.out, HST.out, show decide (1000 < x.length) = false by simpa using h5]; rfl
                clear HST HH h5
                go_wp2
                go_roundg (e.length - (j + 1))
                case measure => have := HJ.out; omega
                case rel => exact ⟨j + 1, by omega, by go_num, H2.out, rfl⟩
            · have hge : e.length ≤ j := by omega
              have H2 : Hid (l.any longE = (l.drop (k + 1)).any longE) := by show _ = _; rw [H1.out, HH.out, List.drop_eq_nil_of_le hge]; rfl
              clear hlt2 HH H1
              go_wp2
              go_roundg (l.length - (k + 1))
              case measure => have := HK.out; omega
              case rel => exact ⟨k + 1, by omega, by go_num, H2.out, rfl⟩
      · have hge : l.length ≤ k := by omega
        clear hlt
        go_wp2
        go_ret
        exact ⟨by rw [HH.out, List.drop_eq_nil_of_le hge]; rfl, q0⟩
end Go.Proofs.YtmjlnckmhdgoiaaGreatDoor
