/- Contracts of the reference's Digits and Format. -/
import Derived.Test.YtjgobaedeagojaaDoorOg
namespace Go.Proofs.YtjgobaedeagojaaDoor
open Go.RowKit
set_option linter.unusedVariables false

theorem dec_len {k : Nat} (h : k ≤ 9223372036854775807) : (Lib.decDigits k).length ≤ 20 := by rw [Lib.decDigits_length]; exact Lib.nDigits_le20 k (by omega)
theorem dig_toNat {d : Nat} (h : d < 10) : (digC d).toNat = 48 + d := digC_toNat h
theorem cat_bytes (s t : Bs) : ({ data := s.toArray } : ByteArray) ++ { data := t.toArray } = { data := (s ++ t).toArray } := bcat s t
def DigRel (n : Nat) (w : World) (g : Nat) (x s : Value) (wr : World) : Prop := ∃ t : Bs, x = .int .i64 (g : Int) ∧ s = .string ⟨t.toArray⟩ ∧ Lib.decDigits n = Lib.decDigits g ++ t ∧ g ≤ 9223372036854775807 ∧ Below w.heap.size w wr
theorem conv_one (w : World) (c : UInt8) (x : Int) (hx : x = (c.toNat : Int)) : (convert 37 9 (.slice (some ⟨w.heap.size, 0, none⟩) 1 1)).run Tryd.prog (w.alloc (.cells #[.int .u8 x] 5)) = .ok (.string ⟨#[c]⟩) (w.alloc (.cells #[.int .u8 x] 5)) := by
  subst hx
  refine run_convert_bytes_back (w.alloc (.cells #[.int .u8 (c.toNat : Int)] 5)) 37 9 5 ⟨w.heap.size, 0, none⟩ 1 [c] Tryd.underlying37 Tryd.underlying5 Tryd.underlying9 (fun j hj => ?_)
  have hj0 : j = 0 := by simpa using hj
  subst hj0
  rw [Addr.add_lit, cell_of_row _ _ _ _ _ _ (heap_alloc_new w _)]
  rfl
set_option maxHeartbeats 2000000 in
set_option maxRecDepth 100000 in
theorem digits_any (n : Nat) (w : World) (hn : n ≤ 9223372036854775807) :
    Calls Tryd.prog 27 #[.int .i64 (n : Int)] w fun e w' => e = .returned (.string ⟨(Lib.decDigits n).toArray⟩) ∧ Below w.heap.size w w' := by
  go_enter Tryd.func27, Tryd.ntmps27
  go_wp2
  go_loopg [0, 3] n (fun g x s wr => DigRel n w g x s wr)
  case atStart => exact ⟨[], rfl, rfl, by simp, hn, Below.refl _ _⟩
  case round =>
    obtain ⟨t, rfl, rfl, hd, hg, hb⟩ := hrel
    have HD := Lib.hid hd
    have HB := Lib.hid hb
    clear hd hb
    obtain ⟨c, hc, hce⟩ : ∃ c : UInt8, (48 + (gk : Int) % 10) = (c.toNat : Int) ∧ c = digC (gk % 10) := ⟨_, by rw [dig_toNat (Nat.mod_lt _ (by omega))]; omega, rfl⟩
    have htl : t.length ≤ 20 := by have h1 := dec_len hn; rw [HD.out, List.length_append] at h1; omega
    have hcv := conv_one wr c _ hc
    have hcat := cat_bytes [c] t
    have HCE := Lib.hid hce
    have hcb : (48 + (gk : Int) % 10) ≤ 255 := by omega
    clear hce hc
    by_cases hlt : gk < 10
    · have hq : ((gk : Int) / 10 == 0) = true := by rw [beq_iff_eq]; omega
      have HE : Hid (Lib.decDigits n = [c] ++ t) := by show _ = _; rw [HD.out, dec_small hlt, HCE.out, Nat.mod_eq_of_lt hlt]
      clear HD HCE
      go_wp2
      go_ret
      exact ⟨by rw [HE.out]; rfl, HB.out.alloc HB.out.size _⟩
    · have hq : ((gk : Int) / 10 == 0) = false := by rw [beq_eq_false_iff_ne]; omega
      have HE : Hid (Lib.decDigits n = Lib.decDigits (gk / 10) ++ ([c] ++ t)) := by show _ = _; rw [HD.out, dec_big hlt, HCE.out, List.append_assoc]
      clear HD HCE
      go_wp2
      go_roundg (gk / 10)
      case measure => omega
      case rel => exact ⟨[c] ++ t, by go_num, rfl, HE.out, by omega, HB.out.alloc HB.out.size _⟩
set_option maxHeartbeats 1000000 in
theorem refFormatP_any (K : Nat) (hK : K ≤ 1000000000000) (w : World) : Calls Tryd.prog 16 #[.int .i64 (K : Int)] w fun e w' => e = .returned (.string ⟨(fmtN K).toArray⟩) ∧ Below w.heap.size w w' := by
  have HA := Lib.hid (fun W => refAmount_any (K : Int) W)
  rw [show amtB (K : Int) = true from amt_iff.2 (by omega)] at HA
  have HI1 := Lib.hid (fun W => digits_any (K / 100) W (by omega))
  have HI2 := Lib.hid (fun W => digits_any (K / 10 % 10) W (by omega))
  have HI3 := Lib.hid (fun W => digits_any (K % 10) W (by omega))
  have hl1 : (Lib.decDigits (K / 100)).length ≤ 20 := dec_len (by omega)
  have HE : Hid (fmtN K = Lib.decDigits (K / 100) ++ ([46] ++ (Lib.decDigits (K / 10 % 10) ++ Lib.decDigits (K % 10)))) := by show _ = _; rw [dec_small (Nat.mod_lt _ (by omega)), dec_small (Nat.mod_lt _ (by omega))]; rfl
  have hl2 : (Lib.decDigits (K / 10 % 10)).length ≤ 20 := dec_len (by omega)
  have hl3 : (Lib.decDigits (K % 10)).length ≤ 20 := dec_len (by omega)
  generalize Lib.decDigits (K / 100) = s1 at *
  generalize Lib.decDigits (K / 10 % 10) = s2 at *
  generalize Lib.decDigits (K % 10) = s3 at *
  have F1 : True := trivial
  have F2 : True := trivial
  go_enter Tryd.func16, Tryd.ntmps16
  go_wp2_with (first
    | (go_at_call 24; refine (HA.out _).mono ?_; rintro e W1 ⟨rfl, rfl⟩)
    | (go_at_call 27; clear F1; refine (HI1.out _).mono ?_; rintro e W2 ⟨rfl, hb2⟩; have HB2 := Lib.hid hb2; clear hb2)
    | (go_at_call 27; clear F2; refine (HI2.out _).mono ?_; rintro e W3 ⟨rfl, hb3⟩; have HB3 := Lib.hid (HB2.out.trans (hb3.mono HB2.out.size)); clear hb3)
    | (go_at_call 27; refine (HI3.out _).mono ?_; rintro e W4 ⟨rfl, hb4⟩; have HB4 := Lib.hid (HB3.out.trans (hb4.mono HB3.out.size)); clear hb4))
  go_ret
  refine ⟨?_, HB4.out⟩
  rw [HE.out]
  show Ending.returned (.string (⟨s1.toArray⟩ ++ ⟨[46].toArray⟩ ++ ⟨s2.toArray⟩ ++ ⟨s3.toArray⟩)) = _
  simp only [bcat]
  congr 3
  simp
set_option maxHeartbeats 1000000 in
theorem refFormat_any (n : Int) (hn : -9223372036854775808 ≤ n ∧ n ≤ 9223372036854775807) (w : World) : Calls Tryd.prog 16 #[.int .i64 n] w fun e w' => e = .returned (.string ⟨(fmtF n).toArray⟩) ∧ Below w.heap.size w w' := by
  have HA := Lib.hid (fun W => refAmount_any n W)
  cases e1 : amtB n
  · rw [e1] at HA
    rw [fmt_nil e1]
    clear e1
    go_enter Tryd.func16, Tryd.ntmps16
    go_wp2_with (go_at_call 24; refine (HA.out _).mono ?_; rintro e W1 ⟨rfl, rfl⟩)
    go_ret
    exact ⟨rfl, Below.refl _ _⟩
  · have hb := amt_iff.1 e1
    by_cases hs : n < 0
    · obtain ⟨K, hK⟩ : ∃ K : Nat, n = -(K : Int) := ⟨n.natAbs, by omega⟩
      have hKb : K ≤ 1000000000000 ∧ 0 < K := by omega
      have HF : Hid (fmtF n = [45] ++ fmtN K) := by show _ = _; unfold fmtF; rw [if_pos e1, if_pos hs, hK, Int.natAbs_neg]; rfl
      subst hK
      rw [HF.out]
      rw [e1] at HA
      have HP := Lib.hid (fun W => refFormatP_any K hKb.1 W)
      have hl := (fmtN_len hKb.1).2
      generalize fmtN K = s at *
      clear hb e1
      go_enter Tryd.func16, Tryd.ntmps16
      go_wp2_with (first
        | (go_at_call 24; refine (HA.out _).mono ?_; rintro e W1 ⟨rfl, rfl⟩)
        | (go_at_call 16; refine (HP.out _).mono ?_; rintro e W2 ⟨rfl, hb2⟩; have HB2 := Lib.hid hb2; clear hb2))
      go_ret
      refine ⟨?_, HB2.out⟩
      show Ending.returned (.string (⟨[45].toArray⟩ ++ ⟨s.toArray⟩)) = _
      rw [bcat]
      rfl
    · obtain ⟨K, hK⟩ : ∃ K : Nat, n = (K : Int) := ⟨n.natAbs, by omega⟩
      have HF : Hid (fmtF n = fmtN K) := by show _ = _; unfold fmtF; rw [if_pos e1, if_neg hs, hK]; rfl
      rw [HF.out]
      subst hK
      exact refFormatP_any K (by omega) w
end Go.Proofs.YtjgobaedeagojaaDoor
