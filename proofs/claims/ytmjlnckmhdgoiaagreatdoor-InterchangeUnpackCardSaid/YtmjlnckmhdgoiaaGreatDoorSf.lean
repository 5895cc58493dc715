/- Contract of the reference's Segment. -/
import Derived.Test.YtmjlnckmhdgoiaaGreatDoorSe
namespace Go.Proofs.YtmjlnckmhdgoiaaGreatDoor
open Go.RowKit
set_option linter.unusedVariables false

theorem drewN_below {B : Nat} {a w : World} (h : Below B a w) (n : Nat) : Below B a (w.drewN n) := ⟨h.os, h.tape, h.output, h.size, h.block⟩
def Quiet (w w' : World) : Prop := ∃ n, w' = w.drewN n
theorem Quiet.refl (w : World) : Quiet w w := ⟨0, rfl⟩
theorem Quiet.below {w w' : World} (h : Quiet w w') (B : Nat) : Below B w w' := by obtain ⟨n, rfl⟩ := h; exact drewN_below (Below.refl _ _) n
theorem Quiet.drewN {w w' : World} (h : Quiet w w') (m : Nat) : Quiet w (w'.drewN m) := by obtain ⟨n, rfl⟩ := h; exact ⟨n + m, World.drewN_drewN _ _ _⟩
theorem Quiet.trans {a b c : World} (h : Quiet a b) (k : Quiet b c) : Quiet a c := by obtain ⟨n, rfl⟩ := k; exact h.drewN n
theorem Quiet.cell {w w' : World} (h : Quiet w w') (p : Addr) : w'.cell? p = w.cell? p := by obtain ⟨n, rfl⟩ := h; rfl

def RTagRel (s : ByteArray) (W : World) (g : Nat) (i : Value) (wr : World) : Prop :=
  ∃ k : Nat, k + g = 3 ∧ i = .int .i64 (k : Int) ∧ tagGo 0 s.data.toList = tagGo k (s.data.toList.drop k) ∧ Quiet W wr
theorem byte_class (n : Int) (h : 0 ≤ n) : ∃ a b c d : Bool, decide (65 ≤ n) = a ∧ decide (n ≤ 90) = b ∧ decide (48 ≤ n) = c ∧ decide (n ≤ 57) = d := ⟨_, _, _, _, rfl, rfl, rfl, rfl⟩
def RLong (l : List (List Bs)) (W : World) (g : Nat) (lv i : Value) (wr : World) : Prop :=
  ∃ (k : Nat) (lg : Bool), k + g = l.length ∧ i = .int .i64 (k : Int) ∧ lv = .bool lg ∧ isLongF l = (lg || (l.drop k).any longE) ∧ wr = W
def bigC (c : Bs) : Bool := decide (1000 < c.length)
theorem longE_eq (e : List Bs) : longE e = (decide (100 < e.length) || e.any bigC) := rfl
theorem bigC_step {e : List Bs} {k : Nat} (h : k < e.length) : (e.drop k).any bigC = (bigC e[k] || (e.drop (k + 1)).any bigC) := by
  rw [List.drop_eq_getElem_cons h, List.any_cons]
def RLong2 (l : List (List Bs)) (k : Nat) (e : List Bs) (W : World) (g : Nat) (lv i : Value) (wr : World) : Prop :=
  ∃ (j : Nat) (lg : Bool), j + g = e.length ∧ i = .int .i64 (j : Int) ∧ lv = .bool lg ∧ isLongF l = (lg || ((e.drop j).any bigC || (l.drop (k + 1)).any longE)) ∧ wr = W
set_option maxRecDepth 100000 in
set_option maxHeartbeats 4000000 in
theorem refSegment_any (t : ByteArray) (A : Option Addr) (c : Nat) (l : List (List Bs)) (w : World) (h : ElsAt w w.heap.size A l) (hl : l.length ≤ 9223372036854775807) (hle : ∀ e ∈ l, e.length ≤ 9223372036854775807) :
    Calls Tryz.prog 23 #[.agg #[.string t, .slice A l.length c]] w fun e w' => e = .returned (.int .i64 (validF ⟨t.data.toList, l⟩)) ∧ Below w.heap.size w w' := by
  have q0 := (Below.refl w.heap.size w).alloc (Nat.le_refl _) (.cells #[.string t, .slice A l.length c] 57)
  have HV : Hid (validF ⟨t.data.toList, l⟩ = if isTagF t.data.toList = false then 1 else if isLongF l = true then 8 else if endBad l = true then 1 else 0) := rfl
  generalize validF ⟨t.data.toList, l⟩ = V at HV
  by_cases h3 : t.size = 3
  · have e3 : isTagF t.data.toList = tagGo 0 t.data.toList := by unfold isTagF; rw [show decide (t.data.toList.length = 3) = true by simpa using h3]; rfl
    rw [e3] at HV
    have H3 := Lib.hid h3
    have hsz1 : (t.size : Int) ≤ 3 := by omega
    have hsz2 : (3 : Int) ≤ t.size := by omega
    have hne : ((t.size : Int) != 3) = false := by simp; omega
    clear h3 e3
    have HL0 := h.below q0
    have hc0 : (w.alloc (.cells #[.string t, .slice A l.length c] 57)).cell? ⟨w.heap.size, 0, none⟩ = some (.string t) := by simp
    have hc1 : (w.alloc (.cells #[.string t, .slice A l.length c] 57)).cell? ⟨w.heap.size, 1, none⟩ = some (.slice A l.length c) := by simp
    have hz0 : w.heap.size < (w.alloc (.cells #[.string t, .slice A l.length c] 57)).heap.size := by simp
    generalize hW : w.alloc (.cells #[.string t, .slice A l.length c] 57) = W at q0 HL0 hc1 hc0 hz0
    have HL := Lib.hid HL0
    clear HL0
    go_enter Tryz.func23, Tryz.ntmps23
    go_wp2
    clear hW
    go_loopg [3] 3 (fun g i wr => RTagRel t W g i wr)
    case atStart => exact ⟨0, by omega, rfl, by simp, Quiet.refl _⟩
    case round =>
      obtain ⟨k, hk, rfl, hh, hq⟩ := hrel
      have HK := Lib.hid hk
      have HH := Lib.hid hh
      have hk2 : k ≤ 3 := by omega
      have hd0 : wr.cell? ⟨w.heap.size, 0, none⟩ = some (.string t) := (hq.cell _).trans hc0
      have hd1 : wr.cell? ⟨w.heap.size, 1, none⟩ = some (.slice A l.length c) := (hq.cell _).trans hc1
      clear hk hh
      by_cases hlt : k < 3
      · have hlt' : k < t.size := by omega
        have hlti : (k : Int) < t.size := by omega
        have H1 := Lib.hid (tag_good hlt')
        have H2 := Lib.hid (tag_bad hlt')
        have hcl : (t[k].toNat : Int) < 48 ∨ (48 ≤ (t[k].toNat : Int) ∧ (t[k].toNat : Int) ≤ 57) ∨ (57 < (t[k].toNat : Int) ∧ (t[k].toNat : Int) < 65) ∨ (65 ≤ (t[k].toNat : Int) ∧ (t[k].toNat : Int) ≤ 90) ∨ 90 < (t[k].toNat : Int) := by omega
        rcases hcl with hcl | ⟨hcl, hcl2⟩ | ⟨hcl, hcl2⟩ | ⟨hcl, hcl2⟩ | hcl
        · have b1 : decide (65 ≤ (t[k].toNat : Int)) = false := by simp; omega
          have b3 : decide (48 ≤ (t[k].toNat : Int)) = false := by simp; omega
          have HB : Hid (V = 1) := by show _ = _; rw [HV.out, HH.out, H2.out (by omega)]; rfl
          go_wp2
          go_quiet (fail)
          go_wp2
          go_ret
          exact ⟨by rw [HB.out]; rfl, q0.trans ((hq.drewN _).below _)⟩
        · have b1 : decide (65 ≤ (t[k].toNat : Int)) = false := by simp; omega
          have b3 : decide (48 ≤ (t[k].toNat : Int)) = true := by simp; omega
          have b4 : decide ((t[k].toNat : Int) ≤ 57) = true := by simp; omega
          by_cases hk0 : k = 0
          · have hkb : ((k : Int) == 0) = true := by simpa using hk0
            have HB : Hid (V = 1) := by show _ = _; rw [HV.out, HH.out, H2.out (by omega)]; rfl
            clear hk0
            go_wp2
            go_quiet (fail)
            go_wp2
            go_ret
            exact ⟨by rw [HB.out]; rfl, q0.trans ((hq.drewN _).below _)⟩
          · have hkb : ((k : Int) == 0) = false := by simpa using hk0
            have hk1 : 0 < k := by omega
            clear hk0
            go_wp2
            go_quiet (fail)
            go_wp2
            go_roundg (3 - (k + 1))
            case measure => have := HK.out; omega
            case rel => exact ⟨k + 1, by omega, by go_num, HH.out.trans (H1.out (by omega)), hq.drewN _⟩
        · have b1 : decide (65 ≤ (t[k].toNat : Int)) = false := by simp; omega
          have b3 : decide (48 ≤ (t[k].toNat : Int)) = true := by simp; omega
          have b4 : decide ((t[k].toNat : Int) ≤ 57) = false := by simp; omega
          have HB : Hid (V = 1) := by show _ = _; rw [HV.out, HH.out, H2.out (by omega)]; rfl
          go_wp2
          go_quiet (fail)
          go_wp2
          go_ret
          exact ⟨by rw [HB.out]; rfl, q0.trans ((hq.drewN _).below _)⟩
        · have b1 : decide (65 ≤ (t[k].toNat : Int)) = true := by simp; omega
          have b2 : decide ((t[k].toNat : Int) ≤ 90) = true := by simp; omega
          have b3 : decide (48 ≤ (t[k].toNat : Int)) = true := by simp; omega
          have b4 : decide ((t[k].toNat : Int) ≤ 57) = false := by simp; omega
          go_wp2
          go_quiet (fail)
          go_wp2
          go_roundg (3 - (k + 1))
          case measure => have := HK.out; omega
          case rel => exact ⟨k + 1, by omega, by go_num, HH.out.trans (H1.out (by omega)), hq.drewN _⟩
        · have b1 : decide (65 ≤ (t[k].toNat : Int)) = true := by simp; omega
          have b2 : decide ((t[k].toNat : Int) ≤ 90) = false := by simp; omega
          have b3 : decide (48 ≤ (t[k].toNat : Int)) = true := by simp; omega
          have b4 : decide ((t[k].toNat : Int) ≤ 57) = false := by simp; omega
          have HB : Hid (V = 1) := by show _ = _; rw [HV.out, HH.out, H2.out (by omega)]; rfl
          go_wp2
          go_quiet (fail)
          go_wp2
          go_ret
          exact ⟨by rw [HB.out]; rfl, q0.trans ((hq.drewN _).below _)⟩
      · have hge : t.size ≤ k := by have := H3.out; omega
        have hge3 : 3 ≤ k := by omega
        have HV2 : Hid (V = if isLongF l = true then 8 else if endBad l = true then 1 else 0) := by show _ = _; rw [HV.out, HH.out, List.drop_eq_nil_of_le (by simpa using hge)]; rfl
        have q1 := q0.trans (hq.below _)
        have HL1 := Lib.hid (h.below q1)
        have hlen := hl
        have HLE := Lib.hid hle
        clear hlt HV HH HL hq HK hge hc0 hc1
        have hk3 : decide ((k : Int) < 3) = false := by simp; omega
        obtain ⟨lg0, hlg0⟩ : ∃ b, decide (100 < (l.length : Int)) = b := ⟨_, rfl⟩
        have HST : Hid (isLongF l = (lg0 || (l.drop 0).any longE)) := by
          show _ = _
          rw [← hlg0]
          unfold isLongF
          rw [List.drop_zero, show decide (100 < l.length) = decide (100 < (l.length : Int)) by rw [decide_eq_decide]; omega]
        go_wp2
        clear hlg0
        obtain ⟨W1, rfl⟩ : ∃ W1 : World, W1 = wr := ⟨_, rfl⟩
        go_loopg [6, 7] l.length (fun g lv i wr => RLong l W1 g lv i wr)
        case atStart => exact ⟨0, lg0, by omega, rfl, rfl, HST.out, rfl⟩
        case round =>
          clear HST hk3 hge3 hk2
          obtain ⟨k, lg, hk, rfl, rfl, hh, rfl⟩ := hrel
          have HK := Lib.hid hk
          have HH := Lib.hid hh
          have hk2 : k ≤ l.length := by omega
          clear hk hh
          by_cases hlt : k < l.length
          · have HST := Lib.hid (longE_any hlt)
            obtain ⟨b, off, A', c', rfl, hb, hc, hr⟩ := HL1.out.get hlt
            have he := HLE.out l[k] (List.getElem_mem hlt)
            generalize l[k] = e at HST hc hr he
            have HE := Lib.hid (longE_eq e)
            have hin : ∃ lg1 : Bool, lg1 = (lg || decide (100 < (e.length : Int))) := ⟨_, rfl⟩
            obtain ⟨lg1, hlg1⟩ := hin
            have H1 : Hid (isLongF l = (lg1 || ((e.drop 0).any bigC || (l.drop (k + 1)).any longE))) := by
              show _ = _
              rw [HH.out, HST.out, HE.out, hlg1, List.drop_zero, show decide (100 < e.length) = decide (100 < (e.length : Int)) by rw [decide_eq_decide]; omega]
              simp only [Bool.or_assoc]
            clear HST HE HH
            have hlg2 : (lg = true ∧ lg1 = true) ∨ (lg = false ∧ decide (100 < (e.length : Int)) = lg1) := by
              cases lg
              · exact .inr ⟨rfl, by rw [hlg1]; rfl⟩
              · exact .inl ⟨rfl, by rw [hlg1]; rfl⟩
            clear hlg1
            rcases hlg2 with ⟨rfl, rfl⟩ | ⟨rfl, hlg3⟩
            all_goals
              go_wp2
              (try clear hlg3)
              obtain ⟨W2, rfl⟩ : ∃ W2 : World, W2 = wr := ⟨_, rfl⟩
              go_loopg [6, 8] e.length (fun g lv i wr => RLong2 l k e W2 g lv i wr)
              case atStart => exact ⟨0, _, by omega, rfl, rfl, H1.out, rfl⟩
              case round =>
                clear H1
                obtain ⟨j, lg, hj, rfl, rfl, hh, rfl⟩ := hrel
                have HJ := Lib.hid hj
                have HH := Lib.hid hh
                have hj2 : j ≤ e.length := by omega
                clear hj hh
                by_cases hlt2 : j < e.length
                · have HST := Lib.hid (bigC_step hlt2)
                  obtain ⟨b2, off2, rfl, hc2⟩ := hr.rd.at_lit (strs_get hlt2)
                  unfold str at hc2
                  generalize e[j] = x at HST hc2
                  cases lg with
                  | true =>
                    have H2 : Hid (isLongF l = (true || ((e.drop (j + 1)).any bigC || (l.drop (k + 1)).any longE))) := by show _ = _; rw [HH.out]; rfl
                    clear HST HH
                    go_wp2
                    go_roundg (e.length - (j + 1))
                    case measure => have := HJ.out; omega
                    case rel => exact ⟨j + 1, true, by omega, by go_num, rfl, H2.out, rfl⟩
                  | false =>
                    obtain ⟨lx, hlx⟩ : ∃ lx, decide (1000 < (x.length : Int)) = lx := ⟨_, rfl⟩
                    have H2 : Hid (isLongF l = (lx || ((e.drop (j + 1)).any bigC || (l.drop (k + 1)).any longE))) := by
                      show _ = _
                      rw [HH.out, HST.out, ← hlx]
                      unfold bigC
                      rw [show decide (1000 < x.length) = decide (1000 < (x.length : Int)) by rw [decide_eq_decide]; omega]
                      simp only [Bool.or_assoc, Bool.false_or]
                    clear HST HH
                    go_wp2
                    clear hlx
                    go_roundg (e.length - (j + 1))
                    case measure => have := HJ.out; omega
                    case rel => exact ⟨j + 1, lx, by omega, by go_num, rfl, H2.out, rfl⟩
                · have hge : e.length ≤ j := by omega
                  have H2 : Hid (isLongF l = (lg || (l.drop (k + 1)).any longE)) := by show _ = _; rw [HH.out, List.drop_eq_nil_of_le hge]; rfl
                  clear hlt2 HH
                  go_wp2
                  go_roundg (l.length - (k + 1))
                  case measure => have := HK.out; omega
                  case rel => exact ⟨k + 1, lg, by omega, by go_num, rfl, H2.out, rfl⟩
          · have hge : l.length ≤ k := by omega
            have H1 : Hid (isLongF l = lg) := by show _ = _; rw [HH.out, List.drop_eq_nil_of_le hge]; simp
            clear hlt HH
            cases lg with
            | true =>
              have H2 : Hid (V = 8) := by show _ = _; rw [HV2.out, H1.out]; rfl
              go_wp2
              go_ret
              exact ⟨by rw [H2.out]; rfl, q1⟩
            | false =>
              have H2 : Hid (V = if endBad l = true then 1 else 0) := by show _ = _; rw [HV2.out, H1.out]; rfl
              have hkl : decide (k < l.length) = false := by simp; omega
              clear H1 HV2
              go_wp2
              clear hkl
              obtain ⟨W3, rfl⟩ : ∃ W3 : World, W3 = wr := ⟨_, rfl⟩
              go_loopg [9] l.length (fun g i wr => EndRel l W3 g i wr)
              case atStart => exact ⟨0, by omega, rfl, by simp, rfl⟩
              case round =>
                clear hge hk2
                obtain ⟨k, hk, rfl, hh, rfl⟩ := hrel
                have HK := Lib.hid hk
                have HH := Lib.hid hh
                have hk2 : k ≤ l.length := by omega
                clear hk hh
                by_cases hlt : k < l.length
                · have HST := Lib.hid (endBad_step hlt)
                  obtain ⟨b, off, A', c', rfl, hb, hc, hr⟩ := HL1.out.get hlt
                  have he := HLE.out l[k] (List.getElem_mem hlt)
                  generalize l[k] = e at HST hc hr he
                  by_cases h3 : e.length = 0
                  · have he : e = [] := List.eq_nil_of_length_eq_zero h3
                    subst he
                    by_cases h4 : k + 1 = l.length
                    · have H3 : Hid (V = 1) := by show _ = _; rw [H2.out, HH.out, HST.out]; simp [h4]
                      have hkb : ((k : Int) == (l.length : Int) - 1) = true := by simp; omega
                      clear HST HH h3 h4
                      go_wp2
                      go_ret
                      exact ⟨by rw [H3.out]; rfl, q1⟩
                    · have H3 : Hid (endBad l = endBad (l.drop (k + 1))) := by show _ = _; rw [HH.out, HST.out]; simp [h4, lastBad]
                      have hkb : ((k : Int) == (l.length : Int) - 1) = false := by simp; omega
                      clear HST HH h3 h4
                      go_wp2
                      go_roundg (l.length - (k + 1))
                      case measure => have := HK.out; omega
                      case rel => exact ⟨k + 1, by omega, by go_num, H3.out, rfl⟩
                  · have h4 : 0 < e.length := by omega
                    have hne : ((e.length : Int) == 0) = false := by rw [beq_eq_false_iff_ne]; omega
                    have hlb := lastBad_at h4
                    obtain ⟨b2, off2, rfl, hc2⟩ := hr.rd.at_lit (strs_get (l := e) (k := e.length - 1) (by omega))
                    unfold str at hc2
                    have hem : e.isEmpty = false := by cases e <;> simp at h4 ⊢
                    have HST2 : Hid (endBad (l.drop k) = ((e[e.length - 1]'(by omega)).isEmpty || endBad (l.drop (k + 1)))) := by show _ = _; rw [HST.out, hem, hlb]; rfl
                    clear HST hlb hem
                    have hx1 : e.length - 1 < e.length := by omega
                    generalize e[e.length - 1]'hx1 = x at HST2 hc2
                    cases x with
                    | nil =>
                      have H3 : Hid (V = 1) := by show _ = _; rw [H2.out, HH.out, HST2.out]; rfl
                      clear HST2 HH h3
                      go_wp2
                      go_ret
                      exact ⟨by rw [H3.out]; rfl, q1⟩
                    | cons y z =>
                      have H3 : Hid (endBad l = endBad (l.drop (k + 1))) := by show _ = _; rw [HH.out, HST2.out]; rfl
                      clear HST2 HH h3
                      go_wp2
                      go_roundg (l.length - (k + 1))
                      case measure => have := HK.out; omega
                      case rel => exact ⟨k + 1, by omega, by go_num, H3.out, rfl⟩
                · have hge : l.length ≤ k := by omega
                  have H3 : Hid (V = 0) := by show _ = _; rw [H2.out, HH.out, List.drop_eq_nil_of_le hge]; rfl
                  clear hlt H2 HH
                  go_wp2
                  go_ret
                  exact ⟨by rw [H3.out]; rfl, q1⟩
  · have e3 : isTagF t.data.toList = false := by unfold isTagF; rw [show decide (t.data.toList.length = 3) = false by simpa using h3]; rfl
    have HB : Hid (V = 1) := by show _ = _; rw [HV.out, e3]; rfl
    have hne : ((t.size : Int) != 3) = true := by simp; omega
    clear h3 e3 HV
    go_enter Tryz.func23, Tryz.ntmps23
    go_wp2
    go_ret
    exact ⟨by rw [HB.out]; rfl, q0⟩
end Go.Proofs.YtmjlnckmhdgoiaaGreatDoor
