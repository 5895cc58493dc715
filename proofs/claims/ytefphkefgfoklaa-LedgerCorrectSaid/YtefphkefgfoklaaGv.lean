/- Contracts of the reference's may, Ledger and Append. -/
import Derived.Test.YtefphkefgfoklaaGu
namespace Go.Proofs.Ytefphkefgfoklaa
open Go.RowKit
set_option linter.unusedVariables false

theorem refMay_any (A : Option Addr) (c : Nat) (l : List En) (x : En) (w : World) (h : SlE w A l) (hv : ledF l = 0) :
    Calls Try.prog 40 #[.slice A l.length c, enV x] w (IsRet w.heap.size (mayF l x) w) := by
  have hlen := ledF_len hv
  have hl : l.length ≤ 1000000 := by omega
  by_cases h1 : 2000 ≤ l.length
  · have e : mayF l x = 8 := by unfold mayF; rw [if_pos h1]
    rw [e]; exact refMay_limit A c l x w h hl h1
  by_cases h2 : rangeB x = false
  · have e : mayF l x = 2 := by unfold mayF; rw [if_neg h1, if_pos h2]
    rw [e]; exact refMay_range A c l x w h hl (by omega) h2
  have hr : rangeB x = true := by simpa using h2
  by_cases h3 : x.num ≠ (l.length : Int) + 1
  · have e : mayF l x = 9 := by unfold mayF; rw [if_neg h1, if_neg h2, if_pos h3]
    rw [e]; exact refMay_order A c l x w h hl (by omega) hr h3
  · exact refMay_late A c l x w h hl hv (by omega) hr (by omega)
/-- s[:k] of a slice of entries -/
theorem SlE.take {w : World} {A : Option Addr} {l : List En} (h : SlE w A l) (k : Nat) : SlE w A (l.take k) := by
  refine ⟨fun j u hu => ?_, by rw [List.length_take]; have := h.len; omega⟩
  have e : ensCs l = ensCs (l.take k) ++ ensCs (l.drop k) := by unfold ensCs; rw [← List.flatMap_append, List.take_append_drop]
  refine h.rd j u ?_
  rw [e, List.getElem?_append_left (List.getElem?_eq_some_iff.1 hu).1]
  exact hu
def LedRel (l : List En) (w : World) (m : Nat) (i : Value) (wr : World) : Prop := ∃ k : Nat, k + m = l.length ∧ i = .int .i64 (k : Int) ∧ ledF (l.take k) = 0 ∧ Below w.heap.size w wr
set_option maxRecDepth 100000 in
set_option maxHeartbeats 2000000 in
theorem refLedger_any (A : Option Addr) (c : Nat) (l : List En) (w : World) (h : SlE w A l) (hc : l.length ≤ c) (hcm : c ≤ 9223372036854775807) :
    Calls Try.prog 22 #[.slice A l.length c] w (IsRet w.heap.size (ledF l) w) := by
  have HS := Lib.hid h
  have hll := h.len
  have HCM := Lib.hid hcm
  clear h hcm
  go_enter Try.func22, Try.ntmps22
  go_wp2
  go_loopg [3] l.length (fun m i wr => LedRel l w m i wr)
  case atStart => exact ⟨0, by omega, rfl, rfl, Below.refl _ _⟩
  case round =>
    obtain ⟨k, hk, rfl, hv, hb⟩ := hrel
    have HK := Lib.hid hk
    have hk2 : k ≤ l.length := by omega
    have HB := Lib.hid hb
    clear hk hb
    by_cases hlt : k < l.length
    · have hx : l[k]? = some (l[k]?.getD default) := by rw [List.getElem?_eq_getElem hlt]; rfl
      have H1 := Lib.hid (ledF_at hlt hv)
      have H2 := Lib.hid (ledF_step hlt hv)
      obtain ⟨b, off, rfl, e0, e1, e2, e3, e4, e5⟩ := (HS.out.rd.below HB.out).en hx
      have hbl := block_lt_of_cell e0
      generalize l[k]?.getD default = x at *
      have hkl : (l.take k).length = k := by rw [List.length_take]; omega
      have hm := fun W hW => refMay_any (some ⟨b, off, none⟩) c (l.take k) x W ((HS.out.below hW).take k) hv
      rw [hkl] at hm
      unfold enV at hm
      have HM := Lib.hid (fun W (hW : Below w.heap.size w W) => hm W hW)
      generalize hmm : mayF (l.take k) x = m at H1 H2 HM
      clear hx hv hkl hm hmm
      have s1 : (k : Int) < l.length := by omega
      have s2 : (k : Int) ≤ c := by omega
      by_cases hm0 : m = 0
      · have HV := Lib.hid (H2.out hm0)
        clear H1 H2
        subst hm0
        go_wp2_with fail
        refine wp_region_tail 7 (by kernel_rfl) (by kernel_rfl) ?_
        simp only [List.take_succ_cons, List.take_zero, List.drop_succ_cons, List.drop_zero]
        repeat still_step
        refine wpStill_nil ?_
        go_wp2_with (go_at_call 40; refine (HM.out _ HB.out.drew).mono ?_; rintro e w2 ⟨rfl, hb2⟩; have HB2 := Lib.hid (HB.out.drew.trans (hb2.mono HB.out.size)); clear hb2)
        go_roundg (l.length - (k + 1))
        case measure => have := HK.out; omega
        case rel => exact ⟨k + 1, by have := HK.out; omega, by go_num, HV.out, HB2.out⟩
      · have HL := Lib.hid (H1.out hm0)
        have hm1 : (m == 0) = false := by simpa using hm0
        clear H1 H2 hm0
        go_wp2_with fail
        refine wp_region_tail 7 (by kernel_rfl) (by kernel_rfl) ?_
        simp only [List.take_succ_cons, List.take_zero, List.drop_succ_cons, List.drop_zero]
        repeat still_step
        refine wpStill_nil ?_
        go_wp2_with (go_at_call 40; refine (HM.out _ HB.out.drew).mono ?_; rintro e w2 ⟨rfl, hb2⟩; have HB2 := Lib.hid (HB.out.drew.trans (hb2.mono HB.out.size)); clear hb2)
        go_ret
        exact ⟨by rw [HL.out]; rfl, HB2.out⟩
    · have ht : l.take k = l := List.take_of_length_le (by omega)
      rw [ht] at hv
      have HV := Lib.hid hv
      clear hv ht
      go_wp2_with fail
      go_ret
      exact ⟨by rw [HV.out]; rfl, HB.out⟩
end Go.Proofs.Ytefphkefgfoklaa
