/- Contracts of Format: the program's and the reference's. -/
import Derived.Test.YtjgobaedeagojaaDoorOf
namespace Go.Proofs.YtjgobaedeagojaaDoor
open Go.RowKit
set_option linter.unusedVariables false

/-- the table that strconv.Itoa reads -/
def Tab (w : World) : Prop := Lib.TabIs Tryd.prog w "internal/strconv.uint64pow10" .u64 Lib.pow10Tab
theorem tabGlobal : Tryd.prog.globalNamed "internal/strconv.uint64pow10" = some 4 := by kernel_rfl
theorem Tab.lt {w : World} (h : Tab w) : 4 < w.heap.size := by
  unfold Tab Lib.TabIs World.var? at h
  rw [tabGlobal] at h
  simp only [Option.bind_some] at h
  rcases Nat.lt_or_ge 4 w.heap.size with h' | h'
  · exact h'
  · rw [Array.getElem?_eq_none h'] at h; cases h
theorem Tab.of_block {w w' : World} (h : Tab w) (hb : w'.heap[4]? = w.heap[4]?) : Tab w' := by
  unfold Tab Lib.TabIs World.var? at *
  rw [tabGlobal] at h ⊢
  simp only [Option.bind_some] at h ⊢
  rw [hb]; exact h
theorem Tab.below {w w' : World} (h : Tab w) (hb : Below w.heap.size w w') : Tab w' := h.of_block (hb.block _ h.lt)
theorem grow_below (w : World) (k : Nat) (os : Array Obj) : Below w.heap.size w (Go.Sort.grow (w.drewN k) os) :=
  ⟨rfl, rfl, rfl, by show w.heap.size ≤ (w.heap ++ os).size; simp, fun i hi => by show (w.heap ++ os)[i]? = _; exact Array.getElem?_append_left hi⟩
theorem itoaN_any (k : Nat) (h1 : k ≤ 1000000000000) (w : World) (ht : Tab w) :
    Calls Tryd.prog 26 #[.int .i64 (k : Int)] w fun e w' => e = .returned (.string ⟨(Lib.decDigits k).toArray⟩) ∧ Below w.heap.size w w' :=
  (Tryd.strconv_Itoa (k : Int) (by omega) (by omega) w ht).mono fun e w' ⟨he, j, os, hw⟩ => ⟨by rw [he]; unfold Lib.itoa; rw [if_neg (by omega)]; rfl, by rw [hw]; exact grow_below w j os⟩
theorem bcat (a b : Bs) : (⟨a.toArray⟩ : ByteArray) ++ ⟨b.toArray⟩ = ⟨(a ++ b).toArray⟩ := by
  apply ByteArray.ext
  simp
set_option maxHeartbeats 1000000 in
theorem format_any (n : Int) (w : World) (ht : Tab w) : Calls Tryd.prog 15 #[.int .i64 n] w fun e w' => e = .returned (.string ⟨(fmtF n).toArray⟩) ∧ Below w.heap.size w w' := by
  have HA := Lib.hid (fun W => isAmount_any n W)
  cases e1 : amtB n
  · rw [e1] at HA
    rw [fmt_nil e1]
    clear e1
    go_enter Tryd.func15, Tryd.ntmps15
    go_wp2_with (go_at_call 21; refine (HA.out _).mono ?_; rintro e W1 ⟨rfl, hb1⟩; have HB1 := Lib.hid hb1; clear hb1)
    go_ret
    exact ⟨rfl, HB1.out⟩
  · rw [e1] at HA
    have hb := amt_iff.1 e1
    have HT := Lib.hid ht
    clear ht
    by_cases hs : n < 0
    · obtain ⟨K, hK⟩ : ∃ K : Nat, n = -(K : Int) := ⟨n.natAbs, by omega⟩
      have hKb : K ≤ 1000000000000 ∧ 0 < K := by omega
      have HF : Hid (fmtF n = [45] ++ fmtN K) := by show _ = _; unfold fmtF; rw [if_pos e1, if_pos hs, hK, Int.natAbs_neg]; rfl
      subst hK
      rw [HF.out]
      have HC := Lib.hid (cents_two K)
      by_cases h10 : (Lib.decDigits (K % 100)).length < 2
      · have HI1 := Lib.hid (fun W hW => itoaN_any (K % 100) (by omega) W hW)
        have HI2 := Lib.hid (fun W hW => itoaN_any (K / 100) (by omega) W hW)
        have hl1 : (Lib.decDigits (K % 100)).length ≤ 2 := by rw [Lib.decDigits_length]; exact nDigits_le 2 _ (by omega) (by omega)
        have hl2 : (Lib.decDigits (K / 100)).length ≤ 11 := by rw [Lib.decDigits_length]; exact nDigits_le 11 _ (by omega) (by omega)
        have HE : Hid (fmtN K = Lib.decDigits (K / 100) ++ ([46] ++ (if (Lib.decDigits (K % 100)).length < 2 then [48] ++ Lib.decDigits (K % 100) else Lib.decDigits (K % 100)))) := by show _ = _; rw [HC.out]; rfl
        generalize Lib.decDigits (K % 100) = s1 at *
        generalize Lib.decDigits (K / 100) = s2 at *
        have HS1 := Lib.hid h10
        have hd1 : decide ((s1.length : Int) < 2) = true := by simp; omega
        clear h10 hb e1
        have F1 : True := trivial
        go_enter Tryd.func15, Tryd.ntmps15
        go_wp2_with (first
          | (go_at_call 21; refine (HA.out _).mono ?_; rintro e W1 ⟨rfl, hb1⟩; have HB1 := Lib.hid hb1; have HT1 := Lib.hid (HT.out.below hb1); clear hb1)
          | (go_at_call 26; clear F1; refine (HI1.out _ HT1.out).mono ?_; rintro e W2 ⟨rfl, hb2⟩; have HB2 := Lib.hid (HB1.out.trans (hb2.mono HB1.out.size)); have HT2 := Lib.hid (HT1.out.below hb2); clear hb2)
          | (go_at_call 26; refine (HI2.out _ HT2.out).mono ?_; rintro e W3 ⟨rfl, hb3⟩; have HB3 := Lib.hid (HB2.out.trans (hb3.mono HB2.out.size)); clear hb3))
        go_ret
        refine ⟨?_, HB3.out⟩
        rw [HE.out, if_pos HS1.out]
        show Ending.returned (.string (⟨[45].toArray⟩ ++ ⟨s2.toArray⟩ ++ ⟨[46].toArray⟩ ++ (⟨[48].toArray⟩ ++ ⟨s1.toArray⟩))) = _
        simp only [bcat]
        congr 3
        simp
      · have HI1 := Lib.hid (fun W hW => itoaN_any (K % 100) (by omega) W hW)
        have HI2 := Lib.hid (fun W hW => itoaN_any (K / 100) (by omega) W hW)
        have hl1 : (Lib.decDigits (K % 100)).length ≤ 2 := by rw [Lib.decDigits_length]; exact nDigits_le 2 _ (by omega) (by omega)
        have hl2 : (Lib.decDigits (K / 100)).length ≤ 11 := by rw [Lib.decDigits_length]; exact nDigits_le 11 _ (by omega) (by omega)
        have HE : Hid (fmtN K = Lib.decDigits (K / 100) ++ ([46] ++ (if (Lib.decDigits (K % 100)).length < 2 then [48] ++ Lib.decDigits (K % 100) else Lib.decDigits (K % 100)))) := by show _ = _; rw [HC.out]; rfl
        generalize Lib.decDigits (K % 100) = s1 at *
        generalize Lib.decDigits (K / 100) = s2 at *
        have HS1 := Lib.hid h10
        have hd1 : decide ((s1.length : Int) < 2) = false := by simp; omega
        clear h10 hb e1
        have F1 : True := trivial
        go_enter Tryd.func15, Tryd.ntmps15
        go_wp2_with (first
          | (go_at_call 21; refine (HA.out _).mono ?_; rintro e W1 ⟨rfl, hb1⟩; have HB1 := Lib.hid hb1; have HT1 := Lib.hid (HT.out.below hb1); clear hb1)
          | (go_at_call 26; clear F1; refine (HI1.out _ HT1.out).mono ?_; rintro e W2 ⟨rfl, hb2⟩; have HB2 := Lib.hid (HB1.out.trans (hb2.mono HB1.out.size)); have HT2 := Lib.hid (HT1.out.below hb2); clear hb2)
          | (go_at_call 26; refine (HI2.out _ HT2.out).mono ?_; rintro e W3 ⟨rfl, hb3⟩; have HB3 := Lib.hid (HB2.out.trans (hb3.mono HB2.out.size)); clear hb3))
        go_ret
        refine ⟨?_, HB3.out⟩
        rw [HE.out, if_neg HS1.out]
        show Ending.returned (.string (⟨[45].toArray⟩ ++ ⟨s2.toArray⟩ ++ ⟨[46].toArray⟩ ++ ⟨s1.toArray⟩)) = _
        simp only [bcat]
        congr 3
        simp
    · obtain ⟨K, hK⟩ : ∃ K : Nat, n = (K : Int) := ⟨n.natAbs, by omega⟩
      have hKb : K ≤ 1000000000000 := by omega
      have HF : Hid (fmtF n = fmtN K) := by show _ = _; unfold fmtF; rw [if_pos e1, if_neg hs, hK]; rfl
      subst hK
      rw [HF.out]
      have HC := Lib.hid (cents_two K)
      by_cases h10 : (Lib.decDigits (K % 100)).length < 2
      · have HI1 := Lib.hid (fun W hW => itoaN_any (K % 100) (by omega) W hW)
        have HI2 := Lib.hid (fun W hW => itoaN_any (K / 100) (by omega) W hW)
        have hl1 : (Lib.decDigits (K % 100)).length ≤ 2 := by rw [Lib.decDigits_length]; exact nDigits_le 2 _ (by omega) (by omega)
        have hl2 : (Lib.decDigits (K / 100)).length ≤ 11 := by rw [Lib.decDigits_length]; exact nDigits_le 11 _ (by omega) (by omega)
        have HE : Hid (fmtN K = Lib.decDigits (K / 100) ++ ([46] ++ (if (Lib.decDigits (K % 100)).length < 2 then [48] ++ Lib.decDigits (K % 100) else Lib.decDigits (K % 100)))) := by show _ = _; rw [HC.out]; rfl
        generalize Lib.decDigits (K % 100) = s1 at *
        generalize Lib.decDigits (K / 100) = s2 at *
        have HS1 := Lib.hid h10
        have hd1 : decide ((s1.length : Int) < 2) = true := by simp; omega
        clear h10 hb e1 hs
        have F1 : True := trivial
        go_enter Tryd.func15, Tryd.ntmps15
        go_wp2_with (first
          | (go_at_call 21; refine (HA.out _).mono ?_; rintro e W1 ⟨rfl, hb1⟩; have HB1 := Lib.hid hb1; have HT1 := Lib.hid (HT.out.below hb1); clear hb1)
          | (go_at_call 26; clear F1; refine (HI1.out _ HT1.out).mono ?_; rintro e W2 ⟨rfl, hb2⟩; have HB2 := Lib.hid (HB1.out.trans (hb2.mono HB1.out.size)); have HT2 := Lib.hid (HT1.out.below hb2); clear hb2)
          | (go_at_call 26; refine (HI2.out _ HT2.out).mono ?_; rintro e W3 ⟨rfl, hb3⟩; have HB3 := Lib.hid (HB2.out.trans (hb3.mono HB2.out.size)); clear hb3))
        go_ret
        refine ⟨?_, HB3.out⟩
        rw [HE.out, if_pos HS1.out]
        show Ending.returned (.string (⟨[].toArray⟩ ++ ⟨s2.toArray⟩ ++ ⟨[46].toArray⟩ ++ (⟨[48].toArray⟩ ++ ⟨s1.toArray⟩))) = _
        simp only [bcat]
        congr 3
        simp
      · have HI1 := Lib.hid (fun W hW => itoaN_any (K % 100) (by omega) W hW)
        have HI2 := Lib.hid (fun W hW => itoaN_any (K / 100) (by omega) W hW)
        have hl1 : (Lib.decDigits (K % 100)).length ≤ 2 := by rw [Lib.decDigits_length]; exact nDigits_le 2 _ (by omega) (by omega)
        have hl2 : (Lib.decDigits (K / 100)).length ≤ 11 := by rw [Lib.decDigits_length]; exact nDigits_le 11 _ (by omega) (by omega)
        have HE : Hid (fmtN K = Lib.decDigits (K / 100) ++ ([46] ++ (if (Lib.decDigits (K % 100)).length < 2 then [48] ++ Lib.decDigits (K % 100) else Lib.decDigits (K % 100)))) := by show _ = _; rw [HC.out]; rfl
        generalize Lib.decDigits (K % 100) = s1 at *
        generalize Lib.decDigits (K / 100) = s2 at *
        have HS1 := Lib.hid h10
        have hd1 : decide ((s1.length : Int) < 2) = false := by simp; omega
        clear h10 hb e1 hs
        have F1 : True := trivial
        go_enter Tryd.func15, Tryd.ntmps15
        go_wp2_with (first
          | (go_at_call 21; refine (HA.out _).mono ?_; rintro e W1 ⟨rfl, hb1⟩; have HB1 := Lib.hid hb1; have HT1 := Lib.hid (HT.out.below hb1); clear hb1)
          | (go_at_call 26; clear F1; refine (HI1.out _ HT1.out).mono ?_; rintro e W2 ⟨rfl, hb2⟩; have HB2 := Lib.hid (HB1.out.trans (hb2.mono HB1.out.size)); have HT2 := Lib.hid (HT1.out.below hb2); clear hb2)
          | (go_at_call 26; refine (HI2.out _ HT2.out).mono ?_; rintro e W3 ⟨rfl, hb3⟩; have HB3 := Lib.hid (HB2.out.trans (hb3.mono HB2.out.size)); clear hb3))
        go_ret
        refine ⟨?_, HB3.out⟩
        rw [HE.out, if_neg HS1.out]
        show Ending.returned (.string (⟨[].toArray⟩ ++ ⟨s2.toArray⟩ ++ ⟨[46].toArray⟩ ++ ⟨s1.toArray⟩)) = _
        simp only [bcat]
        congr 3
        simp
end Go.Proofs.YtjgobaedeagojaaDoor
