/- Contract of Parse: the program's. -/
import Derived.Test.YtjgobaedeagojaaDoorOh
import Derived.Test.YtjgobaedeagojaaDoorLast
namespace Go.Proofs.YtjgobaedeagojaaDoor
open Go.RowKit
set_option linter.unusedVariables false

/-- the errors that strconv hands out -/
def ErrV (w : World) : Prop := (∃ ev, w.cell? ⟨2, 0, none⟩ = some ev ∧ (ev = .nilIface ∨ ∃ te pe, ev = .iface te pe)) ∧ (∃ ev, w.cell? ⟨3, 0, none⟩ = some ev ∧ (ev = .nilIface ∨ ∃ te pe, ev = .iface te pe))
theorem ErrV.below {w w' : World} (h : ErrV w) (hb : Below w.heap.size w w') : ErrV w' := by
  obtain ⟨⟨e1, h1, k1⟩, ⟨e2, h2, k2⟩⟩ := h
  exact ⟨⟨e1, (hb.cell (cell_lt h1)).trans h1, k1⟩, ⟨e2, (hb.cell (cell_lt h2)).trans h2, k2⟩⟩
def AtoiRet (s : Bs) (w : World) (e : Ending) (w' : World) : Prop := ∃ n ev, e = .returned (.tuple #[.int .i64 n, ev]) ∧ Below w.heap.size w w' ∧ ((ev = .nilIface ∧ Lib.atoiAll s = .ok n) ∨ ((∃ N, ev = .iface 73 (.pointer (some ⟨N, 0, none⟩))) ∧ ∀ k, Lib.atoiAll s ≠ .ok k))
theorem atoi_any (s : Bs) (hs : s.length ≤ 1000000) (w : World) (he : ErrV w) : Calls Tryd.prog 28 #[.string ⟨s.toArray⟩] w (AtoiRet s w) := by
  have hsz : (⟨s.toArray⟩ : ByteArray).size = s.length := by simp [ByteArray.size]
  have hl : (⟨s.toArray⟩ : ByteArray).data.toList = s := by simp
  obtain ⟨⟨e1, h1, k1⟩, ⟨e2, h2, k2⟩⟩ := he
  cases ha : Lib.atoiAll s with
  | ok v =>
    refine (Tryd.strconv_Atoi_ok ⟨s.toArray⟩ (by omega) v (by rw [hl]; exact ha) w).mono ?_
    rintro e w' ⟨he, hw⟩
    refine ⟨v, _, he, ?_, .inl ⟨rfl, ha⟩⟩
    rcases hw with rfl | ⟨t, rfl⟩
    · exact Below.refl _ _
    · exact Lib.bytesWorld_below _ _ _
  | range =>
    refine (Tryd.strconv_Atoi_range ⟨s.toArray⟩ (by omega) (by rw [hl]; exact ha) e2 w h2 k2).mono ?_
    rintro e w' ⟨N, he, _, _, hb⟩
    exact ⟨_, _, he, hb, .inr ⟨⟨N, rfl⟩, fun k hk => by rw [ha] at hk; cases hk⟩⟩
  | _ =>
    refine (Tryd.strconv_Atoi_syntax ⟨s.toArray⟩ (by omega) (by rw [hl]; exact ha) e1 w h1 k1).mono ?_
    rintro e w' ⟨N, he, _, _, hb⟩
    exact ⟨_, _, he, hb, .inr ⟨⟨N, rfl⟩, fun k hk => by rw [ha] at hk; cases hk⟩⟩
set_option maxHeartbeats 2000000 in
theorem parse_any (s : Bs) (hs : s.length ≤ 1000) (w : World) (ht : Tab w) (he : ErrV w) : Calls Tryd.prog 17 #[.string ⟨s.toArray⟩] w (ScRet w (paV s) (paE s)) := by
  by_cases h1 : s.length < 4
  · have HQ := Lib.hid (pa_short (.inl h1))
    go_enter Tryd.func17, Tryd.ntmps17
    go_wp2
    go_ret2
    exact scRet HQ.out.1.symm HQ.out.2.symm (Below.refl _ _)
  by_cases h2 : 18 < s.length
  · have HQ := Lib.hid (pa_short (.inr h2))
    go_enter Tryd.func17, Tryd.ntmps17
    go_wp2
    go_ret2
    exact scRet HQ.out.1.symm HQ.out.2.symm (Below.refl _ _)
  have HE : (⟨s.toArray⟩ : ByteArray).extract 0 (s.length - 3) ++ (⟨s.toArray⟩ : ByteArray).extract (s.length - 3 + 1) s.length = ⟨(cutP s).toArray⟩ := by
    apply ByteArray.ext
    unfold cutP
    rw [show s.length - 3 + 1 = s.length - 2 by omega]
    simp [List.take_of_length_le]
  have HAT := Lib.hid (fun W hW => atoi_any (cutP s) (by unfold cutP; simp; omega) W hW)
  rw [← HE] at HAT
  clear HE
  have HT := Lib.hid ht
  have HEV := Lib.hid he
  have HL := Lib.hid h1
  have hcl : ¬ 9223372036854775807 < s.length - 3 + (s.length - (s.length - 3 + 1)) := by omega
  clear ht he
  go_enter Tryd.func17, Tryd.ntmps17
  go_wp2
  have f1 : 3 ≤ (s.length : Int) ∧ (s.length : Int) - 3 ≤ (s.length : Int) := by omega
  have f1b : ((s.length : Int) - 3).toNat = s.length - 3 := by omega
  have f2 : 0 ≤ (s.length : Int) - 3 + 1 ∧ (s.length : Int) - 3 + 1 ≤ (s.length : Int) := by omega
  have f2b : ((s.length : Int) - 3 + 1).toNat = s.length - 3 + 1 := by omega
  have f3 : IntKind.i64.wrap ((s.length : Int) - 3 + 1) = (s.length : Int) - 3 + 1 := by rw [IntKind.wrap_i64]; omega
  refine wp_region_x 14 (by kernel_rfl) (fun W => True) ?_
  refine wpAnyX_take (i := 0) (v := .string ⟨s.toArray⟩) rfl (by kernel_rfl) (by kernel_rfl) (by kernel_rfl) (by kernel_rfl) (fun _ _ _ h => h) trivial (Or.inl ⟨by rfl, fun w hS => by go_simp⟩) ?_
  go_simp
  refine wpAnyX_take (i := 1) (v := .int .i64 ((s.length : Int) - 3)) rfl (by kernel_rfl) (by kernel_rfl) (by kernel_rfl) (by kernel_rfl) (fun _ _ _ h => h) trivial (Or.inl ⟨by rfl, fun w hS => by go_simp⟩) ?_
  go_simp
  refine wpAnyX_take (i := 2) (v := .string ((⟨s.toArray⟩ : ByteArray).extract 0 (s.length - 3))) rfl (by kernel_rfl) (by kernel_rfl) (by kernel_rfl) (by kernel_rfl) (fun _ _ _ h => h) trivial (Or.inl ⟨by rfl, fun w hS => by (go_simp; try rw [if_pos f1, f1b])⟩) ?_
  go_simp
  refine wpAnyX_take (i := 3) (v := .string ⟨s.toArray⟩) rfl (by kernel_rfl) (by kernel_rfl) (by kernel_rfl) (by kernel_rfl) (fun _ _ _ h => h) trivial (Or.inl ⟨by rfl, fun w hS => by go_simp⟩) ?_
  go_simp
  refine wpAnyX_take (i := 4) (v := .int .i64 ((s.length : Int) - 3)) rfl (by kernel_rfl) (by kernel_rfl) (by kernel_rfl) (by kernel_rfl) (fun _ _ _ h => h) trivial (Or.inl ⟨by rfl, fun w hS => by go_simp⟩) ?_
  go_simp
  refine wpAnyX_take (i := 5) (v := .int .i64 ((s.length : Int) - 3 + 1)) rfl (by kernel_rfl) (by kernel_rfl) (by kernel_rfl) (by kernel_rfl) (fun _ _ _ h => h) trivial (Or.inl ⟨by rfl, fun w hS => by (go_simp; try exact f3)⟩) ?_
  go_simp
  refine wpAnyX_take (i := 6) (v := .string ((⟨s.toArray⟩ : ByteArray).extract (s.length - 3 + 1) s.length)) rfl (by kernel_rfl) (by kernel_rfl) (by kernel_rfl) (by kernel_rfl) (fun _ _ _ h => h) trivial (Or.inl ⟨by rfl, fun w hS => by (go_simp; try rw [if_pos f2, f2b])⟩) ?_
  go_simp
  refine wpAnyX_take (i := 7) (v := .string ((⟨s.toArray⟩ : ByteArray).extract 0 (s.length - 3) ++ (⟨s.toArray⟩ : ByteArray).extract (s.length - 3 + 1) s.length)) rfl (by kernel_rfl) (by kernel_rfl) (by kernel_rfl) (by kernel_rfl) (fun _ _ _ h => h) trivial (Or.inl ⟨by rfl, fun w hS => by go_simp⟩) ?_
  go_simp
  refine wpAnyX_one (i := 8) (by kernel_rfl) rfl (fun K hK => ?_)
  go_simp
  go_wp2_with (go_at_call 28; refine (HAT.out (World.drew w) HEV.out).mono ?_; rintro e W1 ⟨n, ev, rfl, hb1, hcase⟩)
  refine hK.out _ _ (fun _ => trivial) ?_
  clear hK K
  have HCS := Lib.hid hcase
  have HB1 := Lib.hid hb1
  clear hcase hb1 f1 f1b f2 f2b f3
  refine wpAnyX_take (i := 9) (v := .tuple #[.int .i64 n, ev]) rfl (by kernel_rfl) (by kernel_rfl) (by kernel_rfl) (by kernel_rfl) (fun _ _ _ h => h) trivial (Or.inl ⟨by rfl, fun w hS => by go_simp⟩) ?_
  go_simp
  refine wpAnyX_take (i := 10) (v := .int .i64 n) rfl (by kernel_rfl) (by kernel_rfl) (by kernel_rfl) (by kernel_rfl) (fun _ _ _ h => h) trivial (Or.inl ⟨by rfl, fun w hS => by go_simp⟩) ?_
  go_simp
  refine wpAnyX_take (i := 12) (v := .int .i64 n) rfl (by kernel_rfl) (by kernel_rfl) (by kernel_rfl) (by kernel_rfl) (fun _ _ _ h => h) trivial (Or.inl ⟨by rfl, fun w hS => by go_simp⟩) ?_
  go_simp
  refine wpAnyX_take (i := 11) (v := ev) rfl (by kernel_rfl) (by kernel_rfl) (by kernel_rfl) (by kernel_rfl) (fun _ _ _ h => h) trivial (Or.inl ⟨by rfl, fun w hS => by go_simp⟩) ?_
  go_simp
  refine wpAnyX_take (i := 13) (v := ev) rfl (by kernel_rfl) (by kernel_rfl) (by kernel_rfl) (by kernel_rfl) (fun _ _ _ h => h) trivial (Or.inl ⟨by rfl, fun w hS => by go_simp⟩) ?_
  go_simp
  refine wpAnyX_done (by kernel_rfl) ?_
  have HB1' : Hid (Below w.heap.size w W1) := ⟨HB1.out.os, HB1.out.tape, HB1.out.output, HB1.out.size, HB1.out.block⟩
  have HT1 := Lib.hid (HT.out.below HB1'.out)
  rcases HCS.out with ⟨rfl, hok⟩ | ⟨⟨N, rfl⟩, hno⟩
  · have hpn := pa_num (by have := HL.out; omega) hok
    have HF := Lib.hid (fun W hW => format_any n W hW)
    by_cases hf : fmtF n = s
    · have HQ := Lib.hid (hpn.1 hf)
      rw [hf] at HF
      clear hf hok hpn
      go_wp2_with (go_at_call 15; refine (HF.out _ HT1.out).mono ?_; rintro e W2 ⟨rfl, hb2⟩; have HB2 := Lib.hid (HB1'.out.trans (hb2.mono HB1'.out.size)); clear hb2)
      go_ret2
      exact scRet HQ.out.1.symm HQ.out.2.symm HB2.out
    · have HQ := Lib.hid (hpn.2 hf)
      have hne2 : (fmtF n == s) = false := by simpa using hf
      generalize fmtF n = k at *
      clear hf hok hpn
      go_wp2_with (go_at_call 15; refine (HF.out _ HT1.out).mono ?_; rintro e W2 ⟨rfl, hb2⟩; have HB2 := Lib.hid (HB1'.out.trans (hb2.mono HB1'.out.size)); clear hb2)
      go_ret2
      exact scRet HQ.out.1.symm HQ.out.2.symm HB2.out
  · have HQ := Lib.hid (pa_notnum hno)
    clear hno
    go_wp2
    go_ret2
    exact scRet HQ.out.1.symm HQ.out.2.symm HB1'.out
end Go.Proofs.YtjgobaedeagojaaDoor
