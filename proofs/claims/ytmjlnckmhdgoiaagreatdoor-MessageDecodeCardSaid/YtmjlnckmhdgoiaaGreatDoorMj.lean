/- Contracts of message.Encode and of the two Checksums. -/
import Derived.Test.YtmjlnckmhdgoiaaGreatDoorMi
namespace Go.Proofs.YtmjlnckmhdgoiaaGreatDoor
open Go.RowKit
set_option linter.unusedVariables false

def EncmRet (w : World) (m : Msg) (e : Ending) (w' : World) : Prop :=
  Below w.heap.size w w' ∧ ((validM m = 0 ∧ ∃ v, e = .returned (.tuple #[v, .int .i64 0]) ∧ OwnB w' w.heap.size v (encAll (segsM m))) ∨
    (validM m ≠ 0 ∧ e = .returned (.tuple #[.slice none 0 0, .int .i64 (validM m)])))
set_option maxRecDepth 100000 in
set_option maxHeartbeats 4000000 in
theorem encodeM_any (m : Msg) (A : Option Addr) (c : Nat) (w : World) (hr : Rd w A (ints m.list)) (hb : MBd m) (ht : Tab w) :
    Calls Tryz.prog 15 #[msgV m A c] w (EncmRet w m) := by
  have q0 := (Below.refl w.heap.size w).alloc (Nat.le_refl _) (.cells (msgC m A c) 30)
  have hM0 : MBlk (w.alloc (.cells (msgC m A c) 30)) w.heap.size m A c := heap_alloc_new w _
  have hr0 := hr.below q0
  have ht0 := ht.below q0
  obtain ⟨d0, d1, d2, d3, d4, d5, d6, d7, d8, d9, d10, d11, d12⟩ := hM0.all
  generalize hW0 : w.alloc (.cells (msgC m A c) 30) = W0 at q0 hM0 hr0 ht0 d0 d1 d2 d3 d4 d5 d6 d7 d8 d9 d10 d11 d12
  have HSG := Lib.hid (segments_any m A c W0 hr0 hb ht0)
  clear hr hb ht
  go_enter Tryz.func15, Tryz.ntmps15
  go_wp2_with fail
  refine HSG.out.mono ?_
  rintro e w1 ⟨hb1, h⟩
  have hB1 := q0.trans (hb1.mono q0.size)
  rcases h with ⟨hv, v, rfl, hso⟩ | ⟨hv, rfl⟩
  · have ok := okM_iff.1 hv
    have HZ := Lib.hid hv
    obtain ⟨Av, cv, rfl, _, hat⟩ := hso.at_
    have hl := segsM_len m
    have HEN := Lib.hid (encode_any Av cv (segsM m) w1 hat (by omega) (fits_few (by omega)))
    have HEZ : Hid (encE? (segsM m) = 0) := encE?_zero.2 (segsM_ok ok)
    generalize hSG : segsM m = sg at *
    have HSGE := Lib.hid hSG
    clear hSG
    clear hso hat hv hl d0 d1 d2 d3 d4 d5 d6 d7 d8 d9 d10 d11 d12
    go_wp2_with fail
    refine HEN.out.mono ?_
    rintro e w2 ⟨hb2, h⟩
    rcases h with ⟨_, vb, rfl, hob⟩ | ⟨h, _⟩
    · obtain ⟨Ab, cb, rfl, _, _, _⟩ := hob.shape
      go_wp2_with fail
      go_ret2
      exact ⟨hB1.trans (hb2.mono hB1.size), .inl ⟨HZ.out, _, rfl, by rw [HSGE.out]; exact hob.mono hB1.size⟩⟩
    · exact absurd HEZ.out h
  · have HN := Lib.hid hv
    have hne : (validM m != 0) = true := by simpa using hv
    clear hv
    go_wp2_with fail
    go_ret2
    exact ⟨hB1, .inr ⟨HN.out, rfl⟩⟩
end Go.Proofs.YtmjlnckmhdgoiaaGreatDoor
