/- The walk of the law ProcedureShort. -/
import Derived.Test.YtchclfdkknlifaaDoorPd
import Derived.Test.YtchclfdkknlifaaDoorWg
import Derived.Test.YtchclfdkknlifaaDoorWh
import Derived.Test.YtchclfdkknlifaaDoorWi
import Derived.Test.YtchclfdkknlifaaDoorWj
import Derived.Deep.QuietTactic
import Derived.BigQuiet
import Derived.Deep.RegionWith
namespace Go.Proofs.YtchclfdkknlifaaDoor
open Go.RowKit
set_option linter.unusedVariables false

theorem runF_leads : ∀ (l : List Int) (f : Int) (i : Nat), ∃ k, k ≤ l.length ∧ (runF f l i).2 = i + k ∧ leads f (l.take k) = some (runF f l i).1
  | [], f, i => ⟨0, Nat.le_refl _, rfl, rfl⟩
  | a :: l, f, i => by
    by_cases h : (nextF f a).2 = 0
    · obtain ⟨k, h1, h2, h3⟩ := runF_leads l (nextF f a).1 (i + 1)
      refine ⟨k + 1, by simpa using h1, ?_, ?_⟩
      · simp only [runF, if_pos h]; omega
      · simp only [runF, if_pos h, List.take_succ_cons, leads]; exact h3
    · exact ⟨0, Nat.zero_le _, by simp [runF, if_neg h], by simp [runF, if_neg h, leads]⟩
theorem leads_runF : ∀ (a : List Int) (f t : Int) (i : Nat), leads f a = some t → runF f a i = (t, i + a.length)
  | [], f, t, i, h => by simp only [leads, Option.some.injEq] at h; subst h; rfl
  | x :: a, f, t, i, h => by
    simp only [leads] at h
    split at h
    · rename_i hn
      simp only [runF, if_pos hn, leads_runF a _ t (i + 1) h, List.length_cons]
      congr 1
      omega
    · cases h
theorem pt_leads : ∀ f t : Fin 14, ((pt f.1 t.1).elim true fun a => decide (leads f.1 a = some (t.1 : Int))) = true := by decide +kernel
theorem path_leads {f t : Int} {a : List Int} (h0 : 0 ≤ f) (h1 : f ≤ 13) (h2 : 0 ≤ t) (h3 : t ≤ 13) (h : pathF f t = some a) : leads f a = some t := by
  rw [pathF_pt h0 h1 h2 h3] at h
  have := pt_leads ⟨f.toNat, by omega⟩ ⟨t.toNat, by omega⟩
  simp only [h, Option.elim_some, decide_eq_true_eq, Int.toNat_of_nonneg h0, Int.toNat_of_nonneg h2] at this
  exact this
theorem lexLe_diff : ∀ (a s : List Int) (k : Nat), a.length = s.length → lexLe a s = true → k < a.length → (∀ j, j < k → a[j]?.getD 0 = s[j]?.getD 0) → ¬ a[k]?.getD 0 = s[k]?.getD 0 → a[k]?.getD 0 < s[k]?.getD 0
  | [], _, _, _, _, h, _, _ => by simp at h
  | _ :: _, [], _, h, _, _, _, _ => by simp at h
  | x :: a, y :: s, k, hl, h, hk, hp, hd => by
    simp only [lexLe, Bool.or_eq_true, decide_eq_true_eq, Bool.and_eq_true, beq_iff_eq] at h
    cases k with
    | zero =>
      simp only [List.getElem?_cons_zero, Option.getD_some] at hd ⊢
      rcases h with h | ⟨h, _⟩
      · exact h
      · exact absurd h hd
    | succ k =>
      have h0 := hp 0 (by omega)
      simp only [List.getElem?_cons_zero, Option.getD_some] at h0
      rcases h with h | ⟨_, h⟩
      · omega
      · simp only [List.getElem?_cons_succ] at hd ⊢
        exact lexLe_diff a s k (by simpa using hl) h (by simpa using hk) (fun j hj => by simpa using hp (j + 1) (by omega)) hd
/-- all that the law asks, of plain lists -/
theorem short_law (f : Int) (h0 : 0 ≤ f) (h1 : f ≤ 13) (m : List Int) : ∃ a, pathF f (runF f m 0).1 = some a ∧ runF f a 0 = ((runF f m 0).1, a.length) ∧ a.length ≤ (runF f m 0).2 ∧ (runF f m 0).2 ≤ m.length ∧
    (a.length = (runF f m 0).2 → ∀ k, k < a.length → (∀ j, j < k → a[j]?.getD 0 = m[j]?.getD 0) → ¬ a[k]?.getD 0 = m[k]?.getD 0 → a[k]?.getD 0 < m[k]?.getD 0) := by
  obtain ⟨k, hk, hn, hl⟩ := runF_leads m f 0
  have hb := leads_bd _ _ _ h0 h1 hl
  obtain ⟨a, ha, hs⟩ := short f h0 h1 (m.take k).reverse (runF f m 0).1 (by rw [List.reverse_reverse]; exact hl)
  rw [List.reverse_reverse] at hs
  have htl : (m.take k).length = k := by rw [List.length_take]; omega
  have hal : a.length ≤ k := by
    rcases hs with h | ⟨h, _⟩ <;> omega
  refine ⟨a, ha, ?_, by omega, by omega, fun he j hj hp hd => ?_⟩
  · have := leads_runF a f _ 0 (path_leads h0 h1 hb.1 hb.2 ha)
    simpa using this
  · have htk : ∀ i, i < k → (m.take k)[i]? = m[i]? := fun i hi => List.getElem?_take_of_lt hi
    rcases hs with h | ⟨h, hlex⟩
    · omega
    · have := lexLe_diff a (m.take k) j h hlex hj (fun i hi => by rw [htk i (by omega)]; exact hp i hi) (by rw [htk j (by omega)]; exact hd)
      rwa [htk j (by omega)] at this

def ShRel (w : World) (a m : List Int) (g : Nat) (i : Value) (wr : World) : Prop := ∃ k, k + g = a.length ∧ i = .int .i64 (k : Int) ∧ (∀ j, j < k → a[j]?.getD 0 = m[j]?.getD 0) ∧ Below w.heap.size w wr
def Pref (a m : List Int) (k : Nat) : Prop := ∀ j, j < k → a[j]?.getD 0 = m[j]?.getD 0
theorem drewN_below {B : Nat} {a w : World} (h : Below B a w) (n : Nat) : Below B a (w.drewN n) := ⟨h.os, h.tape, h.output, h.size, h.block⟩
theorem Tab.drewN {w : World} (h : Tab w) (n : Nat) : Tab (w.drewN n) := h

set_option maxHeartbeats 2000000 in
theorem lawShort (f0 : Int) (A : Option Addr) (c : Nat) (l : List Int) (w : World) (ht : Tab w) (hs : SlI w A c l) :
    Calls Tryd.prog 7 #[.int .i64 f0, .slice A l.length c] w fun e w' => e = .returned (.bool true) ∧ Below w.heap.size w w' := by
  have hl := hs.lt
  have hm := hs.max
  have HW := Lib.hid (fun w => within_any f0 14 w (by omega) (by omega))
  have b1 := Int.emod_nonneg f0 (by omega : (14 : Int) ≠ 0)
  have b2 := Int.emod_lt_of_pos f0 (by omega : (0 : Int) < 14)
  generalize f0 % 14 = f at *
  have HA := Lib.hid (actions_any A c l w hs.rd hs.le (by omega))
  have hal : (actF l).length ≤ 40 := by simp [actF]; omega
  generalize actF l = m at *
  obtain ⟨a, hpa, hra, hln, hnm, hlex⟩ := short_law f b1 (by omega) m
  have HLX := Lib.hid hlex
  have HPA := Lib.hid hpa
  have HRA := Lib.hid hra
  have HRM := Lib.hid (fun A c w ht hr => run_any f A c m w ht hr (by omega))
  clear hlex hpa hra
  generalize (runF f m 0).1 = to at *
  generalize (runF f m 0).2 = n at *
  go_enter Tryd.func7, Tryd.ntmps7
  go_wp2_with fail
  refine (HW.out _).mono ?_
  rintro e w' ⟨rfl, rfl⟩
  go_wp2_with fail
  refine HA.out.mono ?_
  rintro e w0 ⟨v, rfl, ho, hb0⟩
  have ht0 := ht.below hb0
  obtain ⟨A2, c2, rfl, hrd, _, _⟩ := ho.shape
  go_wp2_with fail
  refine (HRM.out A2 c2 _ ht0 hrd).mono ?_
  rintro e w1 ⟨rfl, hb1⟩
  have ht1 := ht0.below hb1
  have HP : Hid (Calls Tryd.prog 15 #[.int .i64 f, .int .i64 to] w1 (PathRet w1 (some a))) := by have := path_any f to w1 ht1; rwa [HPA.out] at this
  go_wp2_with fail
  refine HP.out.mono ?_
  rintro e w2 ⟨hb2, A3, c3, rfl, hr3⟩
  have ht2 := ht1.below hb2
  have HRN := Lib.hid (run_any f A3 c3 a w2 ht2 hr3 (by omega))
  rw [HRA.out] at HRN
  go_wp2_with fail
  refine HRN.out.mono ?_
  rintro e w3 ⟨rfl, hb3⟩
  have ht3 := ht2.below hb3
  have hrm := ((hrd.below hb1).below hb2).below hb3
  have hr33 := hr3.below hb3
  have h01 := hb0.trans (hb1.mono hb0.size)
  have h02 := h01.trans (hb2.mono h01.size)
  have h03 := h02.trans (hb3.mono h02.size)
  have hdl : decide (n < a.length) = false := by simp; omega
  clear HW HA HRM HP HRN HPA HRA hb0 hb1 hb2 hb3 ht0 ht1 ht2 hr3 hrd ho h01 h02
  by_cases hen : a.length = n
  · have hbe : ((a.length : Int) == (n : Int)) = true := by simp [hen]
    have HX := Lib.hid (HLX.out hen)
    clear hen HLX
    go_wp2
    go_loopg [11] a.length (fun g i wr => ShRel w3 a m g i wr)
    case atStart => exact ⟨0, by omega, rfl, fun j hj => absurd hj (by omega), Below.refl _ _⟩
    case round =>
      obtain ⟨k, hk, rfl, hpre, hb4⟩ := hrel
      have HK := Lib.hid hk
      have HPR := Lib.hid hpre
      have hk2 : k ≤ a.length := by omega
      clear hk hpre
      have ht4 := ht3.below hb4
      have h04 := h03.trans (hb4.mono h03.size)
      by_cases hlt : k < a.length
      · obtain ⟨b, off, rfl, hc⟩ := (hr33.below hb4).int hlt
        obtain ⟨b2, off2, rfl, hc2⟩ := (hrm.below hb4).int (k := k) (by omega)
        have HD := Lib.hid (HX.out k hlt HPR.out)
        have HY : Hid (a[k]?.getD 0 = m[k]?.getD 0 → ∀ j, j < k + 1 → a[j]?.getD 0 = m[j]?.getD 0) := fun h j hj => by
          by_cases e : j = k
          · subst e; exact h
          · exact HPR.out j (by omega)
        generalize a[k]?.getD 0 = x at hc HD HY
        generalize m[k]?.getD 0 = y at hc2 HD HY
        have hkm : k < m.length := by omega
        by_cases hxy : x = y
        · have hq : (x != y) = false := by simpa using hxy
          have HZ := Lib.hid (HY.out hxy)
          clear hxy HD HY
          go_wp2
          go_quiet (fail)
          go_wp2
          go_roundg (a.length - (k + 1))
          case measure => have := HK.out; omega
          case rel => exact ⟨k + 1, by omega, by go_num, HZ.out, drewN_below hb4 _⟩
        · have hq : (x != y) = true := by simpa using hxy
          have hlt2 : decide (x < y) = true := by simpa using HD.out hxy
          clear hxy HD HY
          go_wp2
          go_quiet (fail)
          go_wp2
          go_region_with (go_at_call 14; refine (awake_any _ (by exact ht4)).mono ?_; rintro e w6 ⟨rfl, hb6⟩)
          all_goals
            go_wp2
            go_ret
            exact ⟨rfl, (drewN_below h04 _).trans (hb6.mono (drewN_below h04 _).size)⟩
      · have hge : a.length ≤ k := by omega
        clear hlt
        go_wp2_with (go_at_call 14; refine (awake_any _ ht4).mono ?_; rintro e w5 ⟨rfl, hb5⟩)
        go_ret
        exact ⟨rfl, h04.trans (hb5.mono h04.size)⟩
  · have hbe : ((a.length : Int) == (n : Int)) = false := by simp; omega
    clear HLX hen
    go_wp2
    go_loopg [11] a.length (fun g i wr => ShRel w3 a m g i wr)
    case atStart => exact ⟨0, by omega, rfl, fun j hj => absurd hj (by omega), Below.refl _ _⟩
    case round =>
      obtain ⟨k, hk, rfl, hpre, hb4⟩ := hrel
      clear hk hpre
      have ht4 := ht3.below hb4
      have h04 := h03.trans (hb4.mono h03.size)
      by_cases hlt : k < a.length
      · go_wp2_with (go_at_call 14; refine (awake_any _ ht4).mono ?_; rintro e w5 ⟨rfl, hb5⟩)
        go_ret
        exact ⟨rfl, h04.trans (hb5.mono h04.size)⟩
      · have hge : a.length ≤ k := by omega
        clear hlt
        go_wp2_with (go_at_call 14; refine (awake_any _ ht4).mono ?_; rintro e w5 ⟨rfl, hb5⟩)
        go_ret
        exact ⟨rfl, h04.trans (hb5.mono h04.size)⟩
namespace procedureShort
theorem walkProcedureShort (p : Int) (A : Option Addr) (c : Nat) (l : List Int) (w : World) (_ : -9223372036854775808 ≤ p ∧ p ≤ 9223372036854775807) (hs : SlI w A c l) (hL : laidMetH Tryd.prog Rows.procedureShortRow.laid w) :
    Calls Tryd.prog 7 #[.int .i64 p, .slice A l.length c] w fun e w' => e = .returned (.bool true) ∧ Below w.heap.size w w' :=
  lawShort p A c l w (tab_of_laid hL) hs
end procedureShort
end Go.Proofs.YtchclfdkknlifaaDoor
