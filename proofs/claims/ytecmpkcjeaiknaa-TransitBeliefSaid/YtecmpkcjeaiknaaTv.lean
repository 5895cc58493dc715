/- The contracts of Has, less, and the reference's Compare and Seals. -/
import Derived.Test.YtecmpkcjeaiknaaTu
namespace Go.Proofs.Ytecmpkcjeaiknaa
open Go.RowKit
set_option linter.unusedVariables false

/-- is x in l? -/
def hasB (l : List Int) (x : Int) : Bool := l.contains x
def HasRel (l : List Int) (x : Int) (w : World) (m : Nat) (i : Value) (wr : World) : Prop := ∃ k : Nat, k + m = l.length ∧ i = .int .i64 (k : Int) ∧ (∀ y ∈ l.take k, y ≠ x) ∧ w = wr
set_option maxHeartbeats 1000000 in
theorem has_any (v : Value) (l : List Int) (x : Int) (w : World) (h : IntsAt w v l) : Calls Try.prog 48 #[v, .int .i64 x] w fun e w' => e = .returned (.bool (hasB l x)) ∧ w = w' := by
  obtain ⟨A, c, rfl, hr, hl1, hl2, hl3⟩ := h
  have HR := Lib.hid hr
  have hl8 : l.length ≤ 17592186043904 := by omega
  clear hr hl1 hl2 hl3
  go_enter Try.func48, Try.ntmps48
  go_wp2
  go_loopg [5] l.length (fun m i wr => HasRel l x w m i wr)
  case atStart => exact ⟨0, by omega, rfl, by simp, rfl⟩
  case round =>
    obtain ⟨k, hk, rfl, hall, rfl⟩ := hrel
    have HK := Lib.hid hk
    have HALL := Lib.hid hall
    have hk2 : k ≤ l.length := by omega
    clear hk hall
    by_cases hlt : k < l.length
    · obtain ⟨b, off, rfl, hcell⟩ := HR.out.int hlt
      have HT := Lib.hid (take_snoc hlt)
      have HM := Lib.hid (show l[k]?.getD 0 ∈ l by rw [List.getElem?_eq_getElem hlt]; exact List.getElem_mem hlt)
      generalize l[k]?.getD 0 = a at *
      have s1 : (k : Int) < l.length := by omega
      by_cases ha : a = x
      · have b1 : (a == x) = true := by simpa using ha
        have HA := Lib.hid ha
        clear ha
        go_wp2
        go_ret
        exact ⟨by rw [show hasB l x = true from List.contains_iff_mem.2 (HA.out ▸ HM.out)]; rfl, rfl⟩
      · have b1 : (a == x) = false := by simpa using ha
        have HA := Lib.hid ha
        clear ha
        go_wp2
        go_roundg (l.length - (k + 1))
        case measure => have := HK.out; omega
        case rel => exact ⟨k + 1, by have := HK.out; omega, by go_num, fun y hy => by
          rw [HT.out] at hy
          rcases List.mem_append.1 hy with hy | hy
          · exact HALL.out y hy
          · rw [List.mem_singleton] at hy; rw [hy]; exact HA.out, rfl⟩
    · have s1 : ¬ (k : Int) < l.length := by omega
      have hke : k = l.length := by omega
      have HN : Hid (hasB l x = false) := Lib.hid (by
        unfold hasB; rw [Bool.eq_false_iff]; intro h
        have h := List.contains_iff_mem.1 h
        have := HALL.out; rw [hke, List.take_length] at this
        exact this x h rfl)
      clear hke
      go_wp2
      go_ret
      exact ⟨by rw [HN.out]; rfl, rfl⟩
theorem rise_len : ∀ (l : List Int) (n : Int), (riseF l n).length ≤ l.length + 1
  | [], n => by simp [riseF]
  | a :: r, n => by
    unfold riseF
    split
    · have := rise_len r n; simp; omega
    · split <;> simp
theorem rises_len : ∀ (ns l : List Int), (risesF l ns).length ≤ l.length + ns.length
  | [], l => by simp [risesF]
  | n :: r, l => by
    have h1 := rises_len r (riseF l n)
    have h2 := rise_len l n
    show (risesF (riseF l n) r).length ≤ _
    simp only [List.length_cons]; omega
theorem rises_snoc (l ns : List Int) (n : Int) : risesF l (ns ++ [n]) = riseF (risesF l ns) n := by rw [rises_append]; rfl
theorem riseI {v : Value} {l : List Int} {w : World} (n : Int) (h : IntsAt w v l) (hl : l.length ≤ 1000000000) : Calls Try.prog 42 #[v, .int .i64 n] w (RiseRet l n w) := by
  obtain ⟨A, c, rfl, h1, h2, h3, _⟩ := h
  exact rise_any A c l n w h1 hl h2 h3
def LessRel (a b : List Int) (w : World) (m : Nat) (v i : Value) (wr : World) : Prop := ∃ (k : Nat) (O : List Int), k + m = a.length ∧ i = .int .i64 (k : Int) ∧ O = risesF [] ((a.take k).filter fun x => !b.contains x) ∧ IntsAt wr v O ∧ Below w.heap.size w wr
set_option maxHeartbeats 1000000 in
theorem less_any (va vb : Value) (a b : List Int) (w : World) (ha : IntsAt w va a) (hb : IntsAt w vb b) (ha8 : a.length ≤ 1000000) : Calls Try.prog 39 #[va, vb] w (WithoutRet a b w) := by
  obtain ⟨A1, c1, rfl, ra, -, -, -⟩ := ha
  have HRA := Lib.hid ra
  have HVB := Lib.hid hb
  clear ra hb
  go_enter Try.func39, Try.ntmps39
  go_wp2
  go_loopg [5, 6] a.length (fun m v i wr => LessRel a b w m v i wr)
  case atStart => exact ⟨0, [], by omega, rfl, by simp [risesF], IntsAt.nil_ _, Below.refl _ _⟩
  case round =>
    obtain ⟨k, O, hk, rfl, hO, hv, hbw⟩ := hrel
    have HK := Lib.hid hk
    have HO := Lib.hid hO
    have HV := Lib.hid hv
    have HBW := Lib.hid hbw
    have hk2 : k ≤ a.length := by omega
    have HOL : Hid (O.length ≤ 1000000) := Lib.hid (by
      have h1 := rises_len ((a.take k).filter fun x => !b.contains x) []
      have h2 := List.length_filter_le (fun x => !b.contains x) (a.take k)
      rw [List.length_take] at h2
      rw [hO]; simp only [List.length_nil] at h1; omega)
    clear hk hO hv hbw
    by_cases hlt : k < a.length
    · obtain ⟨bk, ofk, rfl, hcell⟩ := (HRA.out.below HBW.out).int hlt
      have HT := Lib.hid (take_snoc hlt)
      have HVB2 := Lib.hid (HVB.out.below HBW.out)
      generalize a[k]?.getD 0 = x at *
      have s1 : (k : Int) < a.length := by omega
      cases hc : hasB b x with
      | true =>
        have HC := Lib.hid hc
        clear hc
        go_wp2_with (go_at_call 48; refine (has_any _ b x _ HVB2.out).mono ?_; rintro e w1 ⟨rfl, rfl⟩; rw [HC.out])
        go_roundg (a.length - (k + 1))
        case measure => have := HK.out; omega
        case rel => exact ⟨k + 1, O, by have := HK.out; omega, by go_num, by
          have hm : x ∈ b := List.contains_iff_mem.1 HC.out
          rw [HT.out, List.filter_append, HO.out]; simp [hm], HV.out, HBW.out⟩
      | false =>
        have HC := Lib.hid hc
        clear hc
        go_wp2_with (first
          | (go_at_call 48; refine (has_any _ b x _ HVB2.out).mono ?_; rintro e w1 ⟨rfl, rfl⟩; rw [HC.out])
          | (go_at_call 42; refine (riseI x HV.out (by have := HOL.out; omega)).mono ?_; rintro e w2 ⟨v2, rfl, h2, hb2⟩; have HV2 := Lib.hid h2; have HB2 := Lib.hid (HBW.out.trans (hb2.mono HBW.out.size)); clear h2 hb2))
        go_roundg (a.length - (k + 1))
        case measure => have := HK.out; omega
        case rel => exact ⟨k + 1, riseF O x, by have := HK.out; omega, by go_num, by
          have hm : ¬ x ∈ b := fun h => (by have := HC.out; unfold hasB at this; rw [List.contains_iff_mem.2 h] at this; cases this)
          rw [HT.out, List.filter_append, show ([x].filter fun x => !b.contains x) = [x] by simp [hm], rises_snoc, ← HO.out], HV2.out, HB2.out⟩
    · have s1 : ¬ (k : Int) < a.length := by omega
      have hke : k = a.length := by omega
      have HF : Hid (O = withoutF a b) := Lib.hid (by rw [HO.out, hke, List.take_length]; rfl)
      clear hke
      go_wp2
      go_ret
      exact ⟨_, rfl, by rw [← HF.out]; exact HV.out, HBW.out⟩
theorem refCompare_any (va vb : Value) (a b : List Int) (w : World) (ha : IntsAt w va a) (hb : IntsAt w vb b) (ha8 : a.length ≤ 1000000) (hb8 : b.length ≤ 1000000) : Calls Try.prog 20 #[va, vb] w (CompRet a b w) := by
  have HA := Lib.hid ha
  have HB := Lib.hid hb
  clear ha hb
  go_enter Try.func20, Try.ntmps20
  go_wp2_with fail
  refine (less_any va vb a b w HA.out HB.out ha8).mono ?_
  rintro e w1 ⟨v1, rfl, h1, hb1⟩
  have H1 := Lib.hid h1
  have HB1 := Lib.hid hb1
  clear h1 hb1
  go_wp2_with fail
  refine (less_any vb va b a w1 (HB.out.below HB1.out) (HA.out.below HB1.out) hb8).mono ?_
  rintro e w2 ⟨v2, rfl, h2, hb2⟩
  have H2 := Lib.hid h2
  have HB2 := Lib.hid hb2
  clear h2 hb2
  go_wp2
  go_ret2
  exact ⟨v1, v2, rfl, H1.out.below HB2.out, H2.out, HB1.out.trans (HB2.out.mono HB1.out.size)⟩
def RS1 (a : List Int) (w : World) (m : Nat) (v i : Value) (wr : World) : Prop := ∃ (k : Nat) (O : List Int), k + m = a.length ∧ i = .int .i64 (k : Int) ∧ O = risesF [] (a.take k) ∧ IntsAt wr v O ∧ Below w.heap.size w wr
def RS2 (a : List Int) (lot : Int) (l : List Inc) (w : World) (m : Nat) (v i : Value) (wr : World) : Prop := ∃ (k : Nat) (O : List Int), k + m = l.length ∧ i = .int .i64 (k : Int) ∧ O = risesF [] (a ++ affOf lot (l.take k)) ∧ IntsAt wr v O ∧ Below w.heap.size w wr
def RS3 (O : List Int) (lot : Int) (l : List Inc) (w2 : World) (m : Nat) (v i : Value) (wr : World) : Prop := ∃ (k : Nat) (R : List Int), k + m = O.length ∧ i = .int .i64 (k : Int) ∧ R = (O.take k).filter (fun x => !goneB lot l x) ∧ OwnX wr w2.heap.size 3 1 v R.length (ints R) ∧ Below w2.heap.size w2 wr
def RS4 (x : Int) (lot : Int) (l : List Inc) (w3 : World) (m : Nat) (g i : Value) (wr : World) : Prop := ∃ (k : Nat) (b : Bool), k + m = l.length ∧ i = .int .i64 (k : Int) ∧ g = .bool b ∧ b = goneB lot (l.take k) x ∧ Quiet w3 wr
theorem gone_snoc (lot : Int) (l : List Inc) (y : Inc) (x : Int) : goneB lot (l ++ [y]) x = (goneB lot l x || (y.lot == lot && y.rem == x)) := by
  unfold goneB
  rw [List.any_append, List.any_cons, List.any_nil, Bool.or_false, Bool.or_assoc]
set_option maxRecDepth 100000 in
set_option maxHeartbeats 4000000 in
theorem refSeals_any (va vl : Value) (a : List Int) (lot : Int) (l : List Inc) (w : World) (ha : IntsAt w va a) (hl : IncsAt w vl l) (ha8 : a.length ≤ 1000000) (hl8 : l.length ≤ 1000000) :
    Calls Try.prog 23 #[va, .int .i64 lot, vl] w (SealsRet a lot l w) := by
  obtain ⟨A1, c1, rfl, ra, -, -, -⟩ := ha
  obtain ⟨A2, c2, rfl, rl, -, -, -⟩ := hl
  obtain ⟨i0, hi0, hz0, hz1, hz2⟩ := info_parts intInfo
  have HRA := Lib.hid ra
  have HRL := Lib.hid rl
  clear ra rl
  go_enter Try.func23, Try.ntmps23
  go_wp2
  go_loopg [7, 9] a.length (fun m v i wr => RS1 a w m v i wr)
  case atStart => exact ⟨0, [], by omega, rfl, by simp [risesF], IntsAt.nil_ _, Below.refl _ _⟩
  case round =>
    obtain ⟨k, O, hk, rfl, hO, hv, hbw⟩ := hrel
    have HK := Lib.hid hk
    have HO := Lib.hid hO
    have HV := Lib.hid hv
    have HBW := Lib.hid hbw
    have hk2 : k ≤ a.length := by omega
    have HOL : Hid (O.length ≤ 1000000) := Lib.hid (by
      have h1 := rises_len (a.take k) []
      rw [List.length_take] at h1
      rw [hO]; simp only [List.length_nil] at h1; omega)
    clear hk hO hv hbw
    by_cases hlt : k < a.length
    · obtain ⟨bk, ofk, rfl, hcell⟩ := (HRA.out.below HBW.out).int hlt
      have HT := Lib.hid (take_snoc hlt)
      generalize a[k]?.getD 0 = x at *
      have s1 : (k : Int) < a.length := by omega
      go_wp2_with (go_at_call 42; refine (riseI x HV.out (by have := HOL.out; omega)).mono ?_; rintro e w2 ⟨v2, rfl, h2, hb2⟩; have HV2 := Lib.hid h2; have HB2 := Lib.hid (HBW.out.trans (hb2.mono HBW.out.size)); clear h2 hb2)
      go_roundg (a.length - (k + 1))
      case measure => have := HK.out; omega
      case rel => exact ⟨k + 1, riseF O x, by have := HK.out; omega, by go_num, by rw [HT.out, rises_snoc, ← HO.out], HV2.out, HB2.out⟩
    · have s1 : ¬ (k : Int) < a.length := by omega
      have hke : k = a.length := by omega
      have HF : Hid (O = risesF [] (a ++ affOf lot (l.take 0))) := Lib.hid (by rw [HO.out, hke, List.take_length]; simp [affOf])
      have HRL1 := Lib.hid (HRL.out.below HBW.out)
      clear hke HO HK hlt hk2 HOL HRA
      go_wp2
      generalize wr = w1 at *
      go_loopg [7, 10] l.length (fun m v i wr => RS2 a lot l w m v i wr)
      case atStart => exact ⟨0, O, by omega, rfl, HF.out, HV.out, HBW.out⟩
      case round =>
        clear HF HV HBW HRL1
        obtain ⟨k2, O2, hk, rfl, hO, hv, hbw⟩ := hrel
        have HK := Lib.hid hk
        have HO := Lib.hid hO
        have HV := Lib.hid hv
        have HBW := Lib.hid hbw
        have hk2 : k2 ≤ l.length := by omega
        have HOL : Hid (O2.length ≤ 2000000) := Lib.hid (by
          have h1 := rises_len (a ++ affOf lot (l.take k2)) []
          have h2 := aff_len lot (l.take k2)
          rw [List.length_take] at h2
          rw [List.length_append] at h1
          rw [hO]; simp only [List.length_nil] at h1; omega)
        clear hk hO hv hbw
        by_cases hlt2 : k2 < l.length
        · obtain ⟨bk, ofk, he, m0, m1, m2, m3, m4⟩ := inc_get (HRL.out.below HBW.out) hlt2
          subst he
          have HTK := Lib.hid (take_snocG hlt2)
          generalize l[k2] = x at *
          obtain ⟨x0, x1, x2, x3, x4⟩ := x
          simp only at m0 m1 m2 m3 m4
          have s2 : (k2 : Int) < l.length := by omega
          by_cases hxl : x2 = lot
          · subst hxl
            go_wp2_with (go_at_call 42; refine (riseI x4 HV.out (by have := HOL.out; omega)).mono ?_; rintro e w2 ⟨v2, rfl, h2, hb2⟩; have HV2 := Lib.hid h2; have HB2 := Lib.hid (HBW.out.trans (hb2.mono HBW.out.size)); clear h2 hb2)
            go_roundg (l.length - (k2 + 1))
            case measure => have := HK.out; omega
            case rel => exact ⟨k2 + 1, riseF O2 x4, by have := HK.out; omega, by go_num, by rw [HTK.out, aff_snoc, if_pos rfl, ← List.append_assoc, rises_snoc, ← HO.out], HV2.out, HB2.out⟩
          · have b1 : (x2 == lot) = false := by simpa using hxl
            have HXL := Lib.hid hxl
            clear hxl
            go_wp2
            go_roundg (l.length - (k2 + 1))
            case measure => have := HK.out; omega
            case rel => exact ⟨k2 + 1, O2, by have := HK.out; omega, by go_num, by rw [HTK.out, aff_snoc, if_neg HXL.out, List.append_nil, ← HO.out], HV.out, HBW.out⟩
        · have s2 : ¬ (k2 : Int) < l.length := by omega
          have hke : k2 = l.length := by omega
          have HF : Hid (O2 = ascF (a ++ affOf lot l)) := Lib.hid (by rw [HO.out, hke, List.take_length]; rfl)
          have HRL2 := Lib.hid (HRL.out.below HBW.out)
          obtain ⟨A7, c7, rfl, r7, l7, l7b, l7c⟩ := HV.out
          have HR7 := Lib.hid r7
          have hO2 : O2.length ≤ 2000000 := HOL.out
          clear hke HO HK hlt2 hk2 HOL HRL HV r7 l7 l7b l7c s1
          go_wp2
          generalize wr = w2 at *
          go_loopg [8, 11] O2.length (fun m v i wr => RS3 O2 lot l w2 m v i wr)
          case atStart => exact ⟨0, [], by omega, rfl, by simp, OwnX.nil_ _ _ _ _, Below.refl _ _⟩
          case round =>
            obtain ⟨k3, R, hk, rfl, hR, ho, hb2⟩ := hrel
            have HK := Lib.hid hk
            have HR := Lib.hid hR
            have HO := Lib.hid ho
            have HB2 := Lib.hid hb2
            have hk3 : k3 ≤ O2.length := by omega
            have HRN : Hid (R.length ≤ 2000000) := Lib.hid (by
              have h2 := List.length_filter_le (fun x => !goneB lot l x) (O2.take k3)
              rw [List.length_take] at h2
              rw [hR]; omega)
            obtain ⟨A8, c8, rfl, -, -, -⟩ := ho.shape
            clear hk hR ho hb2
            by_cases hlt3 : k3 < O2.length
            · obtain ⟨b7, o7, rfl, hc7⟩ := (HR7.out.below HB2.out).int hlt3
              have HT := Lib.hid (take_snoc hlt3)
              generalize O2[k3]?.getD 0 = x at *
              have s1 : (k3 : Int) < O2.length := by omega
              have HC7 := Lib.hid hc7
              have HRL3 := Lib.hid (HRL2.out.below HB2.out)
              go_wp2
              clear hc7
              generalize wr = w3 at *
              go_loopg [12, 13] l.length (fun m g i wr => RS4 x lot l w3 m g i wr)
              case atStart => exact ⟨0, _, by omega, rfl, rfl, by simp [goneB], Quiet.refl _⟩
              case round =>
                obtain ⟨j, gb, hj, rfl, rfl, hgb, hq⟩ := hrel
                have HJ := Lib.hid hj
                have HGB := Lib.hid hgb
                have HQ := Lib.hid hq
                have hj2 : j ≤ l.length := by omega
                clear hj hgb
                by_cases hjl : j < l.length
                · obtain ⟨bk, ofk, he, m0, m1, m2, m3, m4⟩ := inc_get (HRL3.out.below (hq.below _)) hjl
                  subst he
                  have k7 := (hq.cell _).trans HC7.out
                  clear hq
                  have HTK := Lib.hid (take_snocG hjl)
                  generalize l[j] = y at *
                  obtain ⟨y0, y1, y2, y3, y4⟩ := y
                  simp only at m0 m1 m2 m3 m4
                  have s3 : (j : Int) < l.length := by omega
                  cases gb with
                  | true =>
                    go_wp2
                    go_quiet (fail)
                    go_wp2
                    have q2 : Quiet wr (wr.drewN nq) := ⟨nq, rfl⟩
                    generalize wr.drewN nq = w4 at q2 ⊢
                    go_roundg (l.length - (j + 1))
                    case measure => have := HJ.out; omega
                    case rel => exact ⟨j + 1, true, by have := HJ.out; omega, by go_num, rfl, by rw [HTK.out, gone_snoc, ← HGB.out]; rfl, HQ.out.trans q2⟩
                  | false =>
                    by_cases hyl : y2 = lot
                    · subst hyl
                      go_wp2
                      go_quiet (fail)
                      go_wp2
                      have q2 : Quiet wr (wr.drewN nq) := ⟨nq, rfl⟩
                      generalize wr.drewN nq = w4 at q2 ⊢
                      go_roundg (l.length - (j + 1))
                      case measure => have := HJ.out; omega
                      case rel => exact ⟨j + 1, y3 == x, by have := HJ.out; omega, by go_num, rfl, by rw [HTK.out, gone_snoc, ← HGB.out]; simp, HQ.out.trans q2⟩
                    · have b1 : (y2 == lot) = false := by simpa using hyl
                      have HYL := Lib.hid hyl
                      clear hyl
                      go_wp2
                      go_quiet (fail)
                      go_wp2
                      have q2 : Quiet wr (wr.drewN nq) := ⟨nq, rfl⟩
                      generalize wr.drewN nq = w4 at q2 ⊢
                      go_roundg (l.length - (j + 1))
                      case measure => have := HJ.out; omega
                      case rel => exact ⟨j + 1, false, by have := HJ.out; omega, by go_num, rfl, by rw [HTK.out, gone_snoc, ← HGB.out]; simp [HYL.out], HQ.out.trans q2⟩
                · have s3 : ¬ (j : Int) < l.length := by omega
                  have hke : j = l.length := by omega
                  have HG : Hid (gb = goneB lot l x) := Lib.hid (by rw [HGB.out, hke, List.take_length])
                  have k7 := (hq.cell _).trans HC7.out
                  have HO4 := Lib.hid (HO.out.below (hq.below _))
                  have HB4 := Lib.hid (HB2.out.trans ((hq.below _).mono HB2.out.size))
                  have HS4 := Lib.hid HB4.out.size
                  clear hke HGB hq
                  cases gb with
                  | true =>
                    go_wp2
                    go_roundg (O2.length - (k3 + 1))
                    case measure => have := HK.out; omega
                    case rel => exact ⟨k3 + 1, R, by have := HK.out; omega, by go_num, by rw [HT.out, List.filter_append, ← HR.out]; simp [← HG.out], HO4.out, HB4.out⟩
                  | false =>
                    go_wp2_with (at_builtin; refine wpList_append_one wr rfl (.tmp 87) (.tmp 92) 25 rfl w2.heap.size 3 i0 _ 1 8 Try.underlying25 hi0 hz0 hz1 hz2 rfl (by omega) _ R.length (ints R) [.int .i64 x] rfl (by intro u hu; rw [List.mem_singleton] at hu; subst hu; rfl) rfl HO4.out rfl (by have := HRN.out; unfold maxLen; omega) (by have := HRN.out; omega) HS4.out ?_; intro v5 w5 hown2 hg2 hbl; have HO5 := Lib.hid (own_snoc' hown2); have HB5 := Lib.hid (HB4.out.trans (Below.of_grown hg2 w2.heap.size HS4.out (fun g e => (HO4.out.block_lt e).1))); clear hown2 hg2 hbl)
                    go_roundg (O2.length - (k3 + 1))
                    case measure => have := HK.out; omega
                    case rel => exact ⟨k3 + 1, R ++ [x], by have := HK.out; omega, by go_num, by rw [HT.out, List.filter_append, ← HR.out]; simp [← HG.out], HO5.out, HB5.out⟩
            · have s1 : ¬ (k3 : Int) < O2.length := by omega
              have hke : k3 = O2.length := by omega
              have HF2 : Hid (R = refSealsF a lot l) := Lib.hid (by rw [HR.out, hke, List.take_length, HF.out]; rfl)
              clear hke
              go_wp2
              go_ret
              exact ⟨_, rfl, by rw [seals_ref, ← HF2.out]; exact IntsAt.of_own HO.out (by have := HRN.out; omega), HBW.out.trans (HB2.out.mono HBW.out.size)⟩
end Go.Proofs.Ytecmpkcjeaiknaa
