/- Contract of Parse: the reference's. -/
import Derived.Test.YtjgobaedeagojaaDoorOi
namespace Go.Proofs.YtjgobaedeagojaaDoor
open Go.RowKit
set_option linter.unusedVariables false

theorem rdStep_le {p : Nat × Bool} (c : UInt8) (h : p.1 ≤ 10000000000009) : (rdStep p c).1 ≤ 10000000000009 := by
  unfold rdStep
  split
  · exact h
  · split
    · rename_i h1 h2
      have := h2.1.2
      simp only
      have := h2.2
      omega
    · exact h
def PaRel (s : Bs) (w : World) (g : Nat) (v4 v5 v6 : Value) (wr : World) : Prop :=
  ∃ (k n : Nat) (b : Bool), k + g = 20 ∧ k ≤ s.length ∧ (s.take k).foldl rdStep (0, false) = (n, b) ∧ n ≤ 10000000000009 ∧ v4 = .int .i64 (n : Int) ∧ v5 = .int .i64 (if b = true then -1 else 1) ∧ v6 = .int .i64 (k : Int) ∧ w = wr
set_option maxHeartbeats 2000000 in
theorem refParse_any (s : Bs) (hs : s.length ≤ 1000) (w : World) : Calls Tryd.prog 18 #[.string ⟨s.toArray⟩] w (ScRet w (paV s) (paE s)) := by
  go_enter Tryd.func18, Tryd.ntmps18
  go_wp2
  go_loopg [4, 5, 6] 20 (fun g v4 v5 v6 wr => PaRel s w g v4 v5 v6 wr)
  case atStart => exact ⟨0, 0, false, rfl, by omega, rfl, by omega, rfl, rfl, rfl, rfl⟩
  case round =>
    obtain ⟨k, n, b, hkg, hkl, hf, hn, rfl, hv5, rfl, rfl⟩ := hrel
    obtain ⟨sg, hsg⟩ : ∃ sg : Int, (if b = true then (-1 : Int) else 1) = sg := ⟨_, rfl⟩
    rw [hsg] at hv5
    subst hv5
    have HSG : Hid (Value.int .i64 sg = .int .i64 (if b = true then -1 else 1)) := by show _ = _; rw [hsg]
    have HSG2 := Lib.hid hsg
    have HK := Lib.hid hkg
    have HF := Lib.hid hf
    have HN := Lib.hid hn
    have hkg2 : k ≤ 20 := by omega
    have hsb : sg = -1 ∨ sg = 1 := by rw [← hsg]; split <;> simp
    clear hkg hf hn hsg
    by_cases hlt : k < s.length ∧ k < 20
    · obtain ⟨hk1, hk2⟩ := hlt
      have HST : Hid ((s.take (k + 1)).foldl rdStep (0, false) = rdStep (n, b) s[k]) := by
        show _ = _
        rw [List.take_succ_eq_append_getElem hk1, List.foldl_append, HF.out]
        rfl
      have hget : (({ data := s.toArray } : ByteArray)[k]'(by simpa [ByteArray.size] using hk1)).toNat = s[k].toNat := rfl
      generalize s[k] = c at *
      generalize hcn : c.toNat = cn at *
      clear hsb
      have hcb : cn < 256 := by rw [← hcn]; exact c.toNat_lt
      by_cases h45 : cn = 45
      · have HX : Hid (rdStep (n, b) c = (n, true)) := by show _ = _; unfold rdStep; rw [hcn, if_pos h45]
        subst h45
        clear hcn
        go_wp2
        go_roundg (20 - (k + 1))
        case measure => have := HK.out; omega
        case rel =>
          refine ⟨k + 1, n, true, by have := HK.out; omega, by omega, ?_, HN.out, rfl, rfl, rfl, rfl⟩
          rw [HST.out]
          exact HX.out
      have t45 : ((cn : Int) == 45) = false := by simp; omega
      by_cases h48 : cn < 48
      · have HX : Hid (rdStep (n, b) c = (n, b)) := by show _ = _; unfold rdStep; rw [hcn, if_neg h45, if_neg (by omega)]
        have t48 : decide ((48 : Int) ≤ (cn : Int)) = false := by simp; omega
        clear hcn h45 h48
        go_wp2
        go_roundg (20 - (k + 1))
        case measure => have := HK.out; omega
        case rel =>
          refine ⟨k + 1, n, b, by have := HK.out; omega, by omega, ?_, HN.out, rfl, HSG.out, rfl, rfl⟩
          rw [HST.out]
          exact HX.out
      have t48 : decide ((48 : Int) ≤ (cn : Int)) = true := by simp; omega
      by_cases h57 : 57 < cn
      · have HX : Hid (rdStep (n, b) c = (n, b)) := by show _ = _; unfold rdStep; rw [hcn, if_neg h45, if_neg (by omega)]
        have t57 : decide ((cn : Int) ≤ 57) = false := by simp; omega
        clear hcn h45 h48 h57
        go_wp2
        go_roundg (20 - (k + 1))
        case measure => have := HK.out; omega
        case rel =>
          refine ⟨k + 1, n, b, by have := HK.out; omega, by omega, ?_, HN.out, rfl, HSG.out, rfl, rfl⟩
          rw [HST.out]
          exact HX.out
      have t57 : decide ((cn : Int) ≤ 57) = true := by simp; omega
      by_cases hnb : n ≤ 1000000000000
      · have HX : Hid (rdStep (n, b) c = (10 * n + (cn - 48), b)) := by show _ = _; unfold rdStep; rw [hcn, if_neg h45, if_pos ⟨by omega, hnb⟩]
        have tn : decide ((n : Int) ≤ 1000000000000) = true := by simp; omega
        clear hcn h45
        go_wp2
        go_roundg (20 - (k + 1))
        case measure => have := HK.out; omega
        case rel =>
          refine ⟨k + 1, 10 * n + (cn - 48), b, by have := HK.out; omega, by omega, by rw [HST.out]; exact HX.out, by omega, ?_, HSG.out, rfl, rfl⟩
          congr 1
          omega
      · have HX : Hid (rdStep (n, b) c = (n, b)) := by show _ = _; unfold rdStep; rw [hcn, if_neg h45, if_neg (by rintro ⟨_, h⟩; exact hnb h)]
        have tn : decide ((n : Int) ≤ 1000000000000) = false := by simp; omega
        clear hcn h45 h48 h57 hnb
        go_wp2
        go_roundg (20 - (k + 1))
        case measure => have := HK.out; omega
        case rel =>
          refine ⟨k + 1, n, b, by have := HK.out; omega, by omega, ?_, HN.out, rfl, HSG.out, rfl, rfl⟩
          rw [HST.out]
          exact HX.out
    · have HT : Hid (rdF s = (n, b)) := by
        show _ = _
        unfold rdF
        rw [← HF.out]
        congr 1
        by_cases h20 : k = 20
        · rw [h20]
        · rw [List.take_of_length_le (by omega), List.take_of_length_le (by omega)]
      have HV : Hid (rdV s = sg * (n : Int)) := by
        show _ = _
        unfold rdV
        rw [HT.out, ← HSG2.out]
        cases b <;> simp
      have hnn := HN.out
      have hsn : -9223372036854775808 ≤ sg * (n : Int) ∧ sg * (n : Int) ≤ 9223372036854775807 := by rcases hsb with h | h <;> rw [h] <;> omega
      have hmul : sg * (n : Int) = rdV s := HV.out.symm
      have hwm : IntKind.i64.wrap (sg * (n : Int)) = rdV s := by rw [← hmul, IntKind.wrap_i64]; omega
      have HFM := Lib.hid (fun W => refFormat_any (rdV s) (by rw [← hmul]; exact hsn) W)
      have HLT : Hid (¬ (k < s.length ∧ k < 20)) := hlt
      have hrv : -9223372036854775808 ≤ rdV s ∧ rdV s ≤ 9223372036854775807 := by rw [← hmul]; exact hsn
      clear hnn hsn HT HF
      have HPV : Hid (paV s = if s ≠ [] ∧ fmtF (rdV s) = s then rdV s else 0) := rfl
      have HPE : Hid (paE s = if s ≠ [] ∧ fmtF (rdV s) = s then 0 else 4) := rfl
      generalize rdV s = r at *
      by_cases hkl2 : k < s.length
      · have hk20 : k = 20 := by omega
        subst hk20
        clear hlt hsb
        have he : s ≠ [] := by intro h; rw [h] at hkl; simp at hkl
        have t1 : s.isEmpty = false := by simpa using he
        have t1b : (s == []) = false := by simpa using he
        by_cases hfe : fmtF r = s
        · have HQ : Hid (paV s = r ∧ paE s = 0) := by
            rw [HPV.out, HPE.out, if_pos ⟨he, hfe⟩, if_pos ⟨he, hfe⟩]
            exact ⟨rfl, rfl⟩
          rw [hfe] at HFM
          clear hfe he HPV HPE
          go_wp2_with (go_at_call 16; refine (HFM.out _).mono ?_; rintro e W2 ⟨rfl, hb2⟩; have HB2 := Lib.hid hb2; clear hb2)
          go_ret2
          exact scRet HQ.out.1.symm HQ.out.2.symm HB2.out
        · have HQ : Hid (paV s = 0 ∧ paE s = 4) := by
            rw [HPV.out, HPE.out, if_neg (fun h => hfe h.2), if_neg (fun h => hfe h.2)]
            exact ⟨rfl, rfl⟩
          have t2 : (fmtF r == s) = false := by simpa using hfe
          generalize fmtF r = k2 at *
          clear hfe he HPV HPE
          go_wp2_with (go_at_call 16; refine (HFM.out _).mono ?_; rintro e W2 ⟨rfl, hb2⟩; have HB2 := Lib.hid hb2; clear hb2)
          go_ret2
          exact scRet HQ.out.1.symm HQ.out.2.symm HB2.out
      · have tk : decide (k < s.length) = false := by simp; omega
        clear hlt hsb
        by_cases he : s = []
        · subst he
          have HQ : Hid (paV [] = 0 ∧ paE [] = 4) := pa_short (.inl (by simp))
          go_wp2
          go_ret2
          exact scRet HQ.out.1.symm HQ.out.2.symm (Below.refl _ _)
        have t1 : s.isEmpty = false := by simpa using he
        have t1b : (s == []) = false := by simpa using he
        by_cases hfe : fmtF r = s
        · have HQ : Hid (paV s = r ∧ paE s = 0) := by
            rw [HPV.out, HPE.out, if_pos ⟨he, hfe⟩, if_pos ⟨he, hfe⟩]
            exact ⟨rfl, rfl⟩
          rw [hfe] at HFM
          clear hfe he HPV HPE
          go_wp2_with (go_at_call 16; refine (HFM.out _).mono ?_; rintro e W2 ⟨rfl, hb2⟩; have HB2 := Lib.hid hb2; clear hb2)
          go_ret2
          exact scRet HQ.out.1.symm HQ.out.2.symm HB2.out
        · have HQ : Hid (paV s = 0 ∧ paE s = 4) := by
            rw [HPV.out, HPE.out, if_neg (fun h => hfe h.2), if_neg (fun h => hfe h.2)]
            exact ⟨rfl, rfl⟩
          have t2 : (fmtF r == s) = false := by simpa using hfe
          generalize fmtF r = k2 at *
          clear hfe he HPV HPE
          go_wp2_with (go_at_call 16; refine (HFM.out _).mono ?_; rintro e W2 ⟨rfl, hb2⟩; have HB2 := Lib.hid hb2; clear hb2)
          go_ret2
          exact scRet HQ.out.1.symm HQ.out.2.symm HB2.out
end Go.Proofs.YtjgobaedeagojaaDoor
