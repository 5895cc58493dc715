/- The contracts of customsmade's Targets and of the reference's Target. -/
import Derived.Test.YtefphkefgfoklaaHr
import Derived.Test.YtefphkefgfoklaaHt
namespace Go.Proofs.Ytefphkefgfoklaa
open Go.RowKit
set_option linter.unusedVariables false

theorem ascUp_app (t r : List Tg) : ∀ k, k ≤ t.length → ascUp (t ++ r) k = ascUp t k
  | 0, _ => rfl
  | k + 1, h => by
    unfold ascUp
    rw [ascUp_app t r k (by omega), List.getElem?_append_left (by omega), List.getElem?_append_left (by omega)]
theorem ascB_snoc {t : List Tg} {g : Tg} (h : ascB t = true) (hl : ∀ x ∈ t, x.lot < g.lot) : ascB (t ++ [g]) = true := by
  unfold ascB
  rw [List.length_append]
  show ascUp (t ++ [g]) (t.length + 1) = true
  unfold ascUp
  rw [ascUp_app t [g] _ (Nat.le_refl _)]
  unfold ascB at h
  rw [h, Bool.true_and, Bool.or_eq_true, decide_eq_true_eq, decide_eq_true_eq]
  by_cases h0 : t.length = 0
  · exact .inl h0
  · right
    rw [List.getElem?_append_left (by omega), List.getElem?_append_right (Nat.le_refl _)]
    have hlt : t.length - 1 < t.length := by omega
    rw [List.getElem?_eq_getElem hlt]
    simpa using hl _ (List.getElem_mem hlt)
def TgsRet (w : World) (e : Ending) (w' : World) : Prop := ∃ (A : Option Addr) (c : Nat) (t : List Tg), e = .returned (.slice A t.length c) ∧ Rd w' A (tgsCs t) ∧ MadeT t ∧ t.length ≤ c ∧ Below w.heap.size w w'
def TgRel (w : World) (n : Nat) (A : Option Addr) (c : Nat) (l : List Int) (m : Nat) (v s : Value) (wr : World) : Prop :=
  ∃ (t : List Tg) (i : Nat) (lot : Int), i + m = n ∧ s = .int .i64 lot ∧ wr.ownsRow (w.heap.size + 1) 37 5 v t.length (tgsCs t) ∧ t.length ≤ i ∧ (0 ≤ lot ∧ lot ≤ 2 * (t.length : Int)) ∧ ascB t = true ∧
    (∀ g ∈ t, (1 ≤ g.lot ∧ g.lot ≤ lot) ∧ (0 ≤ g.b.ow ∧ g.b.ow ≤ 1000000000000) ∧ (0 ≤ g.b.se ∧ g.b.se ≤ 1000000000000) ∧ (0 ≤ g.b.pa ∧ g.b.pa ≤ 1000000000000) ∧ (0 ≤ g.b.re ∧ g.b.re ≤ 1000000000000)) ∧ Src wr w.heap.size A c l i ∧ Below w.heap.size w wr
set_option maxRecDepth 100000 in
set_option maxHeartbeats 2000000 in
theorem targets_any (A : Option Addr) (c : Nat) (l : List Int) (w : World) (h : SlI w A c l) :
    Calls Try.prog 16 #[.slice A l.length c] w (TgsRet w) := by
  have hc1 := h.le
  have hc2 := h.max
  have HC := Lib.hid (mcut_any A c l 40 w hc1 (by omega) (by omega))
  have hr := (RdB.of_rd h.rd).take 40
  rw [show (ints l).take 40 = ints (l.take 40) by simp [ints, List.map_take]] at hr
  have hl2 : (l.take 40).length ≤ 40 := by rw [List.length_take]; omega
  generalize l.take 40 = l' at HC hr hl2
  have q0 := (Below.refl w.heap.size w).alloc (Nat.le_refl _) (.cells #[.slice A l'.length c, .int .i64 0] 30)
  have hS0 : Src (w.alloc (.cells #[.slice A l'.length c, .int .i64 0] 30)) w.heap.size A c l' 0 := ⟨heap_alloc_new w _, Nat.zero_le _, hr.below q0, by omega⟩
  have HLF := Lib.hid (fun (i : Nat) (W : World) (h : Src W w.heap.size A c l' i) => srcLeft_any w.heap.size A c l' i W h)
  have HN := Lib.hid (fun (n : Int) (i : Nat) (W : World) (h : Src W w.heap.size A c l' i) (hn : 0 < n) (hn2 : n ≤ 1000000000000000) => srcNext_any w.heap.size A c l' i n W h hn hn2)
  have HSM := Lib.hid (fun (i : Nat) (W : World) (h : Src W w.heap.size A c l' i) => srcSmall_any w.heap.size A c l' i 60 1000000000000 W h (by omega) (by omega) (by omega))
  have HS0 := Lib.hid hS0
  have HQ0 := Lib.hid q0
  obtain ⟨i0, hi0, hz0, hz1, hz2⟩ := info_parts baInfo
  clear h hr hS0 q0
  go_enter Try.func16, Try.ntmps16
  go_wp2_with (go_at_call 24; refine HC.out.mono ?_; rintro e w' ⟨rfl, rfl⟩)
  go_loopg [4, 5] l'.length (fun g v s wr => TgRel w l'.length A c l' g v s wr)
  case atStart => exact ⟨[], 0, 0, by omega, rfl, bs_nil _ _, by simp, by simp, rfl, fun g hg => (by cases hg), HS0.out, HQ0.out⟩
  case round =>
    obtain ⟨t, i, lot, hi, rfl, hown, hti, hlot, hasc, hbd, hS, hB⟩ := hrel
    obtain ⟨Av, cv, rfl⟩ := own_len hown
    have HK := Lib.hid hi
    have HASC := Lib.hid hasc
    have HBD := Lib.hid hbd
    have HB := Lib.hid hB
    have HO := Lib.hid hown
    have hlf := HLF.out i wr hS
    have hsz := hS.lt
    have hil := hS.2.1
    have HS := Lib.hid hS
    clear hi hasc hbd hB hown hS HS0 HQ0 HC
    by_cases hlt : i < l'.length
    · have hd : decide (i < l'.length) = true := by simpa using hlt
      rw [hd] at hlf
      have HLF1 := Lib.hid hlf
      clear hd hlf
      go_wp2_with fail
      refine HLF1.out.mono ?_
      rintro e w1 ⟨rfl, hq1⟩
      have HS1 := Lib.hid (HS.out.below (hq1.below _))
      have HT1 := Lib.hid (show Turned w.heap.size wr w1 from Turned.of_below (hq1.below _))
      clear hq1
      go_wp2_with fail
      refine (HN.out 2 i w1 HS1.out (by omega) (by omega)).mono ?_
      rintro e w2 ⟨x, i2, rfl, hx0, hx1, hS2, hT2, hF2⟩
      have HS2 := Lib.hid hS2
      have HT2 := Lib.hid (HT1.out.trans hT2)
      have HF2 := Lib.hid hF2
      clear hS2 hT2 hF2
      go_wp2_with fail
      refine (HSM.out i2 w2 HS2.out).mono ?_
      rintro e w3 ⟨y1, i3, rfl, hy10, hy11, hS3, hT3, hF3⟩
      have HS3 := Lib.hid hS3
      have HT3 := Lib.hid (HT2.out.trans hT3)
      have HF3 := Lib.hid (HF2.out.trans hF3)
      clear hS3 hT3 hF3
      go_wp2_with fail
      refine (HSM.out i3 w3 HS3.out).mono ?_
      rintro e w4 ⟨y2, i4, rfl, hy20, hy21, hS4, hT4, hF4⟩
      have HS4 := Lib.hid hS4
      have HT4 := Lib.hid (HT3.out.trans hT4)
      have HF4 := Lib.hid (HF3.out.trans hF4)
      clear hS4 hT4 hF4
      go_wp2_with fail
      refine (HN.out 50 i4 w4 HS4.out (by omega) (by omega)).mono ?_
      rintro e w5 ⟨y3, i5, rfl, hy30, hy31, hS5, hT5, hF5⟩
      have HS5 := Lib.hid hS5
      have HT5 := Lib.hid (HT4.out.trans hT5)
      have HF5 := Lib.hid (HF4.out.trans hF5)
      clear hS5 hT5 hF5
      go_wp2_with fail
      refine (HN.out 30 i5 w5 HS5.out (by omega) (by omega)).mono ?_
      rintro e w6 ⟨y4, i6, rfl, hy40, hy41, hS6, hT6, hF6⟩
      have HS6 := Lib.hid hS6
      have HT6 := Lib.hid (HT5.out.trans hT6)
      have HF6 := Lib.hid ((HF5.out.trans hF6).2 hlt)
      have HI6 := Lib.hid hS6.2.1
      have hlt6 := hS6.lt
      have HO6 := Lib.hid (HT6.out.own HO.out (Nat.lt_succ_self _))
      clear hS6 hT6 hF6 HF2 HF3 HF4 HF5
      go_wp2_with (at_builtin; refine wpList_append_new w6 rfl (.tmp 17) (.tmp 28) 41 rfl (w.heap.size + 1) 37 i0 _ 5 40 Try.underlying41 hi0 hz0 hz1 hz2 rfl (by omega) (.slice Av t.length cv) t.length (tgsCs t) [.int .i64 (lot + 1 + x), .int .i64 y1, .int .i64 y2, .int .i64 y3, .int .i64 y4] rfl (by intro u hu; simp at hu; rcases hu with rfl | rfl | rfl | rfl | rfl <;> rfl) rfl HO6.out rfl (by unfold maxLen; omega) (by omega) (by omega) ?_; intro v2 w7 hown2 hb7 _ _; have HO7 := Lib.hid hown2; have HB7 := Lib.hid hb7; clear hown2 hb7)
      go_roundg (l'.length - i6)
      case measure => have := HF6.out; have := HI6.out; have := HK.out; omega
      case rel =>
        refine ⟨t ++ [⟨lot + 1 + x, ⟨y1, y2, y3, y4⟩⟩], i6, lot + 1 + x, by have := HI6.out; omega, rfl, ?_, by have := HF6.out; simp; omega, by simp; omega, ascB_snoc HASC.out (fun g hg => by have := (HBD.out g hg).1; show g.lot < lot + 1 + x; omega), fun g hg => ?_, HS6.out.belowB HB7.out (Nat.lt_succ_self _), ?_⟩
        · rw [tgsCs_snoc, List.length_append]
          exact HO7.out
        · rcases List.mem_append.1 hg with hg | hg
          · have := HBD.out g hg; omega
          · rw [List.mem_singleton.1 hg]
            exact ⟨⟨by show 1 ≤ lot + 1 + x; omega, by show lot + 1 + x ≤ lot + 1 + x; omega⟩, ⟨hy10, by show y1 ≤ _; omega⟩, ⟨hy20, by show y2 ≤ _; omega⟩, ⟨hy30, by show y3 ≤ _; omega⟩, hy40, by show y4 ≤ _; omega⟩
        · exact (HB.out.trans (HT6.out.below (Nat.le_refl _) HB.out.size)).trans (HB7.out.mono (Nat.le_succ _))
    · have hd : decide (i < l'.length) = false := by simpa using hlt
      rw [hd] at hlf
      have HLF1 := Lib.hid hlf
      clear hd hlf
      go_wp2_with fail
      refine HLF1.out.mono ?_
      rintro e w1 ⟨rfl, hq1⟩
      obtain ⟨A9, c9, e9, hrd9, hlc9, _⟩ := (OwnX.of_row HO.out).shape
      injection e9 with e91 _ e93
      subst e91; subst e93
      have HR9 := Lib.hid (hrd9.below (hq1.below _))
      have HB1 := Lib.hid (HB.out.trans (hq1.below _))
      clear hq1 hrd9
      go_wp2_with fail
      go_ret
      refine ⟨_, _, t, rfl, HR9.out, ⟨HASC.out, by omega, fun g hg => ?_⟩, hlc9, HB1.out⟩
      have := HBD.out g hg
      omega
set_option maxRecDepth 100000 in
set_option maxHeartbeats 2000000 in
theorem refTarget_any (A : Option Addr) (c : Nat) (t : List Tg) (lot : Int) (w : World) (h : Rd w A (tgsCs t)) (hl : t.length ≤ 1000000000) :
    Calls Try.prog 23 #[.slice A t.length c, .int .i64 lot] w fun e w' => e = .returned (baV lot (tgtF t lot)) ∧ Below w.heap.size w w' := by
  have q0 := (Below.refl w.heap.size w).alloc (Nat.le_refl _) (.cells #[.int .i64 0, .int .i64 0, .int .i64 0, .int .i64 0, .int .i64 0] 37)
  have g0 := heap_alloc_new w (.cells #[.int .i64 0, .int .i64 0, .int .i64 0, .int .i64 0, .int .i64 0] 37)
  have HR := Lib.hid (h.below q0)
  have HQ := Lib.hid q0
  have HG := Lib.hid g0
  clear h
  go_enter Try.func23, Try.ntmps23
  go_wp2_with fail
  generalize hW : w.alloc (.cells #[.int .i64 0, .int .i64 0, .int .i64 0, .int .i64 0, .int .i64 0] 37) = W0 at *
  generalize hgr : w.heap.size = gr at *
  clear hW q0 g0
  obtain ⟨⟨m0, m1, m2, m3, m4⟩, n0, n1, n2, n3, n4⟩ := row5 HG.out
  have hgl := (Array.getElem?_eq_some_iff.1 HG.out).1
  go_loopg [5] t.length (fun g i wr => ∃ k : Nat, k + g = t.length ∧ i = .int .i64 (k : Int) ∧ tgtF (t.drop k) lot = tgtF t lot ∧ W0 = wr)
  case atStart => exact ⟨0, by omega, rfl, rfl, rfl⟩
  case round =>
    obtain ⟨k, hk, rfl, htg, rfl⟩ := hrel
    have HK := Lib.hid hk
    have HT := Lib.hid htg
    have hk2 : k ≤ t.length := by omega
    clear hk htg
    by_cases hlt : k < t.length
    · obtain ⟨z, hz⟩ : ∃ z, t[k]? = some z := ⟨_, List.getElem?_eq_getElem hlt⟩
      have hdr : t.drop k = z :: t.drop (k + 1) := by
        rw [List.drop_eq_getElem_cons hlt]
        rw [List.getElem?_eq_getElem hlt] at hz
        injection hz with hz
        rw [hz]
      have hst : tgtF (t.drop k) lot = if z.lot = lot then z.b else tgtF (t.drop (k + 1)) lot := by rw [hdr]; rfl
      obtain ⟨bt, ot, rfl, y0, y1, y2, y3, y4⟩ := HR.out.tg hz
      have hd : (k : Int) < t.length := by omega
      have HST := Lib.hid (HT.out.symm.trans hst)
      clear hz hdr hst
      by_cases he : z.lot = lot
      · have HE : Hid (tgtF t lot = z.b) := Lib.hid (by rw [HST.out, if_pos he])
        have hq : (z.lot == lot) = true := by simpa using he
        obtain ⟨zl, ⟨z0, z1, z2, z3⟩⟩ := z
        simp only at he y0 y1 y2 y3 y4 hq HE
        subst he
        go_wp2_with fail
        refine bodyPost_ret (v := baV zl ⟨z0, z1, z2, z3⟩) (by simp [results, baV, Try.results23, go_sem, m0, m1, m2, m3, m4]) rfl ⟨by rw [HE.out], put5_below w HQ.out (Nat.le_refl _) _ _ _ _ _⟩
      · have HE : Hid (tgtF t lot = tgtF (t.drop (k + 1)) lot) := Lib.hid (by rw [HST.out, if_neg he])
        have hq : (z.lot == lot) = false := by simpa using he
        clear he
        go_wp2_with fail
        go_roundg (t.length - (k + 1))
        case measure => have := HK.out; omega
        case rel => exact ⟨k + 1, by have := HK.out; omega, by go_num, HE.out.symm, rfl⟩
    · have hd : ¬ (k : Int) < t.length := by omega
      have HE : Hid (tgtF t lot = .zero) := Lib.hid (by rw [← HT.out, List.drop_eq_nil_of_le (by omega)]; rfl)
      go_wp2_with fail
      refine bodyPost_ret (v := baV lot .zero) (by simp [results, baV, Ba.zero, Try.results23, go_sem, m0, m1, m2, m3, m4]) rfl ⟨by rw [HE.out], put5_below w HQ.out (Nat.le_refl _) _ _ _ _ _⟩
end Go.Proofs.Ytefphkefgfoklaa
