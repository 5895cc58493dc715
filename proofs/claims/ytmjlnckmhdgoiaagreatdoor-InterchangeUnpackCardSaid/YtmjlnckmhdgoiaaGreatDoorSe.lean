/- Contracts of Validate and of the reference's Segment. -/
import Derived.Test.YtmjlnckmhdgoiaaGreatDoorSd
namespace Go.Proofs.YtmjlnckmhdgoiaaGreatDoor
open Go.RowKit
set_option linter.unusedVariables false

set_option maxRecDepth 100000 in
theorem lastBad_at : ∀ {e : List Bs} (h : 0 < e.length), lastBad e = (e[e.length - 1]'(by omega)).isEmpty
  | [], h => by simp at h
  | [c], _ => rfl
  | c :: d :: r, _ => by
    have := lastBad_at (e := d :: r) (by simp)
    unfold lastBad
    rw [this]
    congr 1
set_option maxRecDepth 100000 in
theorem endBad_step {l : List (List Bs)} {k : Nat} (h : k < l.length) : endBad (l.drop k) = (((l[k]).isEmpty && decide (k + 1 = l.length)) || lastBad l[k] || endBad (l.drop (k + 1))) := by
  rw [List.drop_eq_getElem_cons h]
  by_cases h1 : k + 1 = l.length
  · rw [List.drop_eq_nil_of_le (by omega)]
    simp [endBad, h1]
  · have : ∃ x r, l.drop (k + 1) = x :: r := by
      cases hd : l.drop (k + 1) with
      | nil => have := congrArg List.length hd; simp at this; omega
      | cons x r => exact ⟨x, r, rfl⟩
    obtain ⟨x, r, hx⟩ := this
    rw [hx]
    simp [endBad, h1]
set_option maxRecDepth 100000 in
theorem short_of {l : List (List Bs)} (h : isLongF l = false) : l.length ≤ 100 ∧ ∀ e ∈ l, e.length ≤ 100 ∧ ∀ c ∈ e, c.length ≤ 1000 := by
  unfold isLongF at h
  simp only [Bool.or_eq_false_iff, decide_eq_false_iff_not, List.any_eq_false] at h
  refine ⟨by omega, fun e he => ?_⟩
  have := h.2 e he
  unfold longE at this
  simp only [Bool.or_eq_true, decide_eq_true_eq, List.any_eq_true, not_or, not_exists, not_and] at this
  exact ⟨by omega, fun c hc => by have := this.2 c hc; omega⟩
def EndRel (l : List (List Bs)) (W : World) (g : Nat) (i : Value) (wr : World) : Prop :=
  ∃ k : Nat, k + g = l.length ∧ i = .int .i64 (k : Int) ∧ endBad l = endBad (l.drop k) ∧ wr = W
set_option maxRecDepth 100000 in
set_option maxHeartbeats 1000000 in
theorem validate_any (t : ByteArray) (A : Option Addr) (c : Nat) (l : List (List Bs)) (w : World) (h : ElsAt w w.heap.size A l) :
    Calls Tryz.prog 69 #[.agg #[.string t, .slice A l.length c]] w fun e w' => e = .returned (.int .i64 (validF ⟨t.data.toList, l⟩)) ∧ Below w.heap.size w w' := by
  have q0 := (Below.refl w.heap.size w).alloc (Nat.le_refl _) (.cells #[.string t, .slice A l.length c] 57)
  have HT := Lib.hid (fun w => isTag_any t w)
  have HV : Hid (validF ⟨t.data.toList, l⟩ = if isTagF t.data.toList = false then 1 else if isLongF l = true then 8 else if endBad l = true then 1 else 0) := rfl
  generalize validF ⟨t.data.toList, l⟩ = V at HV
  generalize isTagF t.data.toList = tg at HV HT
  cases tg with
  | false =>
    have H1 : Hid (V = 1) := HV.out
    go_enter Tryz.func69, Tryz.ntmps69
    go_wp2_with (go_at_call 88; refine (HT.out _).mono ?_; rintro e w' ⟨rfl, rfl⟩)
    go_ret
    exact ⟨by rw [H1.out]; rfl, q0⟩
  | true =>
    have H1 : Hid (V = if isLongF l = true then 8 else if endBad l = true then 1 else 0) := HV.out
    clear HV
    have HL0 := h.below q0
    have HLG := Lib.hid (fun W (q : Below w.heap.size w W) => isLong_any t A c l W ((h.below q).mono q.size))
    have hc0 : (w.alloc (.cells #[.string t, .slice A l.length c] 57)).cell? ⟨w.heap.size, 0, none⟩ = some (.string t) := by simp
    have hc1 : (w.alloc (.cells #[.string t, .slice A l.length c] 57)).cell? ⟨w.heap.size, 1, none⟩ = some (.slice A l.length c) := by simp
    have hz0 : w.heap.size < (w.alloc (.cells #[.string t, .slice A l.length c] 57)).heap.size := by simp
    generalize hW : w.alloc (.cells #[.string t, .slice A l.length c] 57) = W at q0 HL0 hc1 hc0 hz0
    have HL := Lib.hid HL0
    have hsh := Lib.hid (short_of (l := l))
    generalize isLongF l = lg at H1 HLG hsh
    cases lg with
    | true =>
      have H2 : Hid (V = 8) := H1.out
      go_enter Tryz.func69, Tryz.ntmps69
      go_wp2_with (first
        | (go_at_call 88; refine (HT.out _).mono ?_; rintro e w' ⟨rfl, rfl⟩)
        | (go_at_call 89; refine (HLG.out _ q0).mono ?_; rintro e w2 ⟨rfl, hb2⟩))
      go_ret
      exact ⟨by rw [H2.out]; rfl, q0.trans (hb2.mono q0.size)⟩
    | false =>
      have H2 : Hid (V = if endBad l = true then 1 else 0) := H1.out
      clear H1 HL0
      go_enter Tryz.func69, Tryz.ntmps69
      go_wp2_with fail
      refine (HT.out _).mono ?_
      rintro e w' ⟨rfl, rfl⟩
      go_wp2_with fail
      refine (HLG.out _ q0).mono ?_
      rintro e w2 ⟨rfl, hb2⟩
      have hd1 : w2.cell? ⟨w.heap.size, 1, none⟩ = some (.slice A l.length c) := (hb2.cell (p := ⟨w.heap.size, 1, none⟩) hz0).trans hc1
      have q2 := q0.trans (hb2.mono q0.size)
      have HL2 := Lib.hid (h.below q2)
      obtain ⟨hl1, hl2⟩ := hsh.out trivial
      have HL3 := Lib.hid hl2
      clear hW hl2 hsh
      go_wp2
      go_loopg [14] l.length (fun g i wr => EndRel l w2 g i wr)
      case atStart => exact ⟨0, by omega, rfl, by simp, rfl⟩
      case round =>
        obtain ⟨k, hk, rfl, hh, rfl⟩ := hrel
        have HK := Lib.hid hk
        have HH := Lib.hid hh
        have hk2 : k ≤ l.length := by omega
        clear hk hh
        by_cases hlt : k < l.length
        · have HST := Lib.hid (endBad_step hlt)
          obtain ⟨b, off, A', c', rfl, hb, hc, hr⟩ := HL2.out.get hlt
          have he100 := (HL3.out l[k] (List.getElem_mem hlt)).1
          generalize l[k] = e at HST hc hr he100
          by_cases h3 : e.length = 0
          · have he : e = [] := List.eq_nil_of_length_eq_zero h3
            subst he
            by_cases h4 : k + 1 = l.length
            · have H3 : Hid (V = 1) := by show _ = _; rw [H2.out, HH.out, HST.out]; simp [h4]
              have hkb : ((k : Int) == (l.length : Int) - 1) = true := by simp; omega
              clear HST HH h3 h4
              go_wp2
              go_ret
              exact ⟨by rw [H3.out]; rfl, q2⟩
            · have H3 : Hid (endBad l = endBad (l.drop (k + 1))) := by show _ = _; rw [HH.out, HST.out]; simp [h4, lastBad]
              have hkb : ((k : Int) == (l.length : Int) - 1) = false := by simp; omega
              clear HST HH h3 h4
              go_wp2
              go_roundg (l.length - (k + 1))
              case measure => have := HK.out; omega
              case rel => exact ⟨k + 1, by omega, by go_num, H3.out, rfl⟩
          · have h4 : 0 < e.length := by omega
            have hne : ((e.length : Int) == 0) = false := by rw [beq_eq_false_iff_ne]; omega
            have hlb := lastBad_at h4
            obtain ⟨b2, off2, rfl, hc2⟩ := hr.rd.at_lit (strs_get (l := e) (k := e.length - 1) (by omega))
            unfold str at hc2
            have hem : e.isEmpty = false := by cases e <;> simp at h4 ⊢
            have HST2 : Hid (endBad (l.drop k) = ((e[e.length - 1]'(by omega)).isEmpty || endBad (l.drop (k + 1)))) := by show _ = _; rw [HST.out, hem, hlb]; rfl
            clear HST hlb hem
            have hx1 : e.length - 1 < e.length := by omega
            generalize e[e.length - 1]'hx1 = x at HST2 hc2
            cases x with
            | nil =>
              have H3 : Hid (V = 1) := by show _ = _; rw [H2.out, HH.out, HST2.out]; rfl
              clear HST2 HH h3
              go_wp2
              go_ret
              exact ⟨by rw [H3.out]; rfl, q2⟩
            | cons y z =>
              have H3 : Hid (endBad l = endBad (l.drop (k + 1))) := by show _ = _; rw [HH.out, HST2.out]; rfl
              clear HST2 HH h3
              go_wp2
              go_roundg (l.length - (k + 1))
              case measure => have := HK.out; omega
              case rel => exact ⟨k + 1, by omega, by go_num, H3.out, rfl⟩
        · have hge : l.length ≤ k := by omega
          have H3 : Hid (V = 0) := by show _ = _; rw [H2.out, HH.out, List.drop_eq_nil_of_le hge]; rfl
          clear hlt H2 HH
          go_wp2
          go_ret
          exact ⟨by rw [H3.out]; rfl, q2⟩
end Go.Proofs.YtmjlnckmhdgoiaaGreatDoor
