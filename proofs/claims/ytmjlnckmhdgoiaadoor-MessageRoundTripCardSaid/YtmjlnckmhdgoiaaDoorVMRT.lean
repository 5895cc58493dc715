/- The law MessageRoundTrip: the walk. -/
import Derived.Test.YtmjlnckmhdgoiaaDoorPm
import Derived.Test.YtmjlnckmhdgoiaaDoorMn
import Derived.Test.YtmjlnckmhdgoiaaDoorMqa
namespace Go.Proofs.YtmjlnckmhdgoiaaDoor
open Go.RowKit
set_option linter.unusedVariables false

namespace messageRoundTrip
def EncOk (w : World) (m : Msg) (e : Ending) (w' : World) : Prop := ∃ A c, e = .returned (.tuple #[.slice A (encAll (segsM m)).length c, .int .i64 0]) ∧ Rd w' A (u8s (encAll (segsM m))) ∧ (encAll (segsM m)).length ≤ c ∧ Below w.heap.size w w'
theorem encode_ok (m : Msg) (A : Option Addr) (c : Nat) (w : World) (hr : Rd w A (ints m.list)) (ok : OkM m) (ht : Tab w) : Calls Tryd.prog 16 #[msgV m A c] w (EncOk w m) :=
  (encodeM_any m A c w hr ok.bd ht).mono fun e w' ⟨hb, h⟩ => by
    rcases h with ⟨hv, v, rfl, ho⟩ | ⟨hv, rfl⟩
    · obtain ⟨A, c, rfl, h2, h3, _⟩ := ho.shape
      exact ⟨_, _, rfl, h2, h3, hb⟩
    · exact absurd (okM_iff.2 ok) hv
def SegOk (w : World) (m : Msg) (e : Ending) (w' : World) : Prop := ∃ A c, e = .returned (.tuple #[.slice A (segsM m).length c, .int .i64 0]) ∧ SegsAt w' w'.heap.size A (segsM m) ∧ Below w.heap.size w w'
theorem segments_ok (m : Msg) (A : Option Addr) (c : Nat) (w : World) (hr : Rd w A (ints m.list)) (ok : OkM m) (ht : Tab w) : Calls Tryd.prog 17 #[msgV m A c] w (SegOk w m) :=
  (segments_any m A c w hr ok.bd ht).mono fun e w' ⟨hb, h⟩ => by
    rcases h with ⟨hv, v, rfl, ho⟩ | ⟨hv, rfl⟩
    · obtain ⟨A, c, rfl, _, h2⟩ := ho.at_
      exact ⟨_, _, rfl, h2, hb⟩
    · exact absurd (okM_iff.2 ok) hv
theorem enc_short (m : Msg) (ok : OkM m) : (encAll (segsM m)).length ≤ 1000000000 := by
  have h := fits_few (l := segsM m) (by have := segsM_len m; omega) (segsM m).length
  rw [List.take_of_length_le (Nat.le_refl _)] at h
  exact h (segsM_ok ok)
theorem segs_fit {m : Msg} (ok : OkM m) : (segsM m).length ≤ 1000000000 ∧ (∀ s ∈ segsM m, SFit s) ∧ cntL (segsM m) ≤ 10000000000000 := by
  have h1 := segsM_len m
  have h2 := cnt_bd (l := segsM m) (n := 100) (fun s hs => (valid_sfit (segsM_ok ok s hs)).2)
  refine ⟨by omega, fun s hs => (valid_sfit (segsM_ok ok s hs)).1, ?_⟩
  have : 100 * (segsM m).length ≤ 100 * 6 := Nat.mul_le_mul_left _ h1
  omega
def POk (w : World) (m : Msg) (e : Ending) (w' : World) : Prop := ∃ A c, e = .returned (.tuple #[msgV m A c, .int .i64 0]) ∧ Rd w' A (ints m.list) ∧ Below w.heap.size w w'
theorem POk.of {w : World} {m : Msg} {p : Msg × Int} {e : Ending} {w' : World} (hp : p = (m, 0)) (h : PRet w p e w') : POk w m e w' := by
  subst hp
  obtain ⟨A, c, h1, h2, h3⟩ := h
  exact ⟨A, c, h1, own_ints h2, h3⟩
set_option maxHeartbeats 16000000 in
set_option maxRecDepth 100000 in
theorem walkMessageRoundTrip (Al : Option Addr) (cl : Nat) (l : List Int) (w : World) (hl : SlI w Al cl l) (hL : laidMetH Tryd.prog Rows.messageRoundTripRow.laid w) :
    Calls Tryd.prog 9 #[.slice Al l.length cl] w fun e w' => e = .returned (.bool true) ∧ Below w.heap.size w w' := by
  have HG := Lib.hid (given_of_laid hL (by kernel_rfl) (by kernel_rfl) (by kernel_rfl) (by kernel_rfl))
  have hlmax := hl.max
  have hll := hl.le
  have HMA := Lib.hid (mMessage_any Al cl l w hl.rd hll (by omega))
  unfold MadeM at HMA
  clear hL hl
  go_enter Tryd.func9, Tryd.ntmps9
  go_wp2_with fail
  refine HMA.out.mono ?_
  rintro e w1 ⟨m, A, c, rfl, ok, ho1, hb1⟩
  have hr1 := own_ints ho1
  have q2 := (Below.refl w1.heap.size w1).alloc (Nat.le_refl _) (.cells (msgC m A c) 24)
  have hM2 : MBlk (w1.alloc (.cells (msgC m A c) 24)) w1.heap.size m A c := heap_alloc_new w1 _
  have hr2 := hr1.below q2
  have hB2 := hb1.trans (q2.mono hb1.size)
  have HOK := Lib.hid ok
  clear hr1 ho1 HMA ok
  go_upto_region 2 with (fail)
  generalize hW : w1.alloc (.cells (msgC m A c) 24) = W2 at hM2 hr2 hB2 q2 ⊢
  generalize hg : w1.heap.size = g at hM2 ⊢
  clear hW hg q2 hb1
  have HM2 := Lib.hid hM2
  have HR2 := Lib.hid hr2
  have HB2 := Lib.hid hB2
  have HSG := Lib.hid (segments_ok m A c W2 hr2 HOK.out (HG.out.tab.below hB2))
  unfold SegOk at HSG
  obtain ⟨d0, d1, d2, d3, d4, d5, d6, d7, d8, d9, d10, d11, d12⟩ := hM2.all
  clear hM2 hr2 hB2
  go_wp2_with fail
  refine HSG.out.mono ?_
  rintro e W3 ⟨A2, c2, rfl, hat, hb3⟩
  have HB3 := Lib.hid (HB2.out.trans (hb3.mono HB2.out.size))
  have HM3 := Lib.hid (HM2.out.below hb3)
  have HR3 := Lib.hid (HR2.out.below hb3)
  have hsf := segs_fit HOK.out
  have HPA := Lib.hid ((parse_any A2 c2 (segsM m) W3 hat hsf.1 hsf.2.1 hsf.2.2 (HG.out.tab.below HB3.out) (HG.out.err.below HB3.out)).mono (fun e w' h => POk.of (parse_segs HOK.out) h))
  unfold POk at HPA
  clear hat hb3 HSG HB2 HM2 HR2 d0 d1 d2 d3 d4 d5 d6 d7 d8 d9 d10 d11 d12 hsf
  generalize (segsM m).length = ns at *
  go_wp2_with fail
  refine HPA.out.mono ?_
  rintro e W4 ⟨A3, c3, rfl, hr4, hb4⟩
  have q5 := (Below.refl W4.heap.size W4).alloc (Nat.le_refl _) (.cells (msgC m A3 c3) 24)
  have hN5 : MBlk (W4.alloc (.cells (msgC m A3 c3) 24)) W4.heap.size m A3 c3 := heap_alloc_new W4 _
  have hB5 := HB3.out.trans ((hb4.trans (q5.mono hb4.size)).mono HB3.out.size)
  have hM5 := (HM3.out.below hb4).below q5
  have hR5 := (HR3.out.below hb4).below q5
  have hS5 := hr4.below q5
  have hg4 : g < W4.heap.size := (HM3.out.below hb4).lt
  clear hr4 hb4 HPA HB3 HM3 HR3
  go_upto_region 4 with (fail)
  generalize hW : W4.alloc (.cells (msgC m A3 c3) 24) = W5 at hN5 hB5 hM5 hR5 hS5 q5 ⊢
  generalize hg2 : W4.heap.size = g2 at hN5 hg4 ⊢
  clear hW hg2 q5
  have HN5 := Lib.hid hN5
  have HM5 := Lib.hid hM5
  have HR5 := Lib.hid hR5
  have HS5 := Lib.hid hS5
  have HB5 := Lib.hid hB5
  have HEN := Lib.hid (encode_ok m A c W5 hR5 HOK.out (HG.out.tab.below hB5))
  unfold EncOk at HEN
  obtain ⟨d0, d1, d2, d3, d4, d5, d6, d7, d8, d9, d10, d11, d12⟩ := hM5.all
  clear hN5 hM5 hR5 hS5 hB5
  have hshort := enc_short m HOK.out
  generalize hen : encAll (segsM m) = en at *
  have HEE := Lib.hid hen
  clear hen
  go_wp2_with fail
  refine HEN.out.mono ?_
  rintro e W6 ⟨A4, c4, rfl, hr6, hc4, hb6⟩
  have HB6 := Lib.hid (HB5.out.trans (hb6.mono HB5.out.size))
  have HM6 := Lib.hid (HM5.out.below hb6)
  have HN6 := Lib.hid (HN5.out.below hb6)
  have HR6 := Lib.hid (HR5.out.below hb6)
  have HS6 := Lib.hid (HS5.out.below hb6)
  have HDE := Lib.hid ((decodeM_any A4 c4 en W6 (RdB.of_rd hr6) hc4 hshort (HG.out.below HB6.out)).mono (fun e w' h => POk.of (by rw [← HEE.out]; exact decM_enc HOK.out) h))
  unfold POk at HDE
  clear hr6 hb6 HEN HB5 HM5 HN5 HR5 HS5 d0 d1 d2 d3 d4 d5 d6 d7 d8 d9 d10 d11 d12 hshort
  generalize en.length = ne at *
  go_wp2_with fail
  refine HDE.out.mono ?_
  rintro e W7 ⟨A5, c5, rfl, hr7, hb7⟩
  have q8 := (Below.refl W7.heap.size W7).alloc (Nat.le_refl _) (.cells (msgC m A5 c5) 24)
  have hP8 : MBlk (W7.alloc (.cells (msgC m A5 c5) 24)) W7.heap.size m A5 c5 := heap_alloc_new W7 _
  have hB8 := HB6.out.trans ((hb7.trans (q8.mono hb7.size)).mono HB6.out.size)
  have hM8 := (HM6.out.below hb7).below q8
  have hN8 := (HN6.out.below hb7).below q8
  have hR8 := (HR6.out.below hb7).below q8
  have hS8 := (HS6.out.below hb7).below q8
  have hT8 := hr7.below q8
  clear hr7 hb7 HDE HB6 HM6 HN6 HR6 HS6
  go_upto_region 6 with (fail)
  generalize hW : W7.alloc (.cells (msgC m A5 c5) 24) = W8 at hP8 hB8 hM8 hN8 hR8 hS8 hT8 q8 ⊢
  generalize hg3 : W7.heap.size = g3 at hP8 ⊢
  clear hW hg3 q8
  have HM8 := Lib.hid hM8
  have HN8 := Lib.hid hN8
  have HP8 := Lib.hid hP8
  have HB8 := Lib.hid hB8
  have HR8 := Lib.hid hR8
  have HS8 := Lib.hid hS8
  have HT8 := Lib.hid hT8
  have hml := HOK.out.ll
  obtain ⟨d0, d1, d2, d3, d4, d5, d6, d7, d8, d9, d10, d11, d12⟩ := hM8.all
  obtain ⟨f0, f1, f2, f3, f4, f5, f6, f7, f8, f9, f10, f11, f12⟩ := hN8.all
  clear hP8 hB8 hM8 hN8 hR8 hS8 hT8
  have F1 : True := trivial
  go_wp2_with fail
  refine (sameM_yes m A3 A c3 c W8 HS8.out HR8.out (by omega)).mono ?_
  rintro e W9 ⟨rfl, hb9⟩
  have HB9 := Lib.hid (HB8.out.trans (hb9.mono HB8.out.size))
  have hM9 := HM8.out.below hb9
  have hP9 := HP8.out.below hb9
  have HR9 := Lib.hid (HR8.out.below hb9)
  have HT9 := Lib.hid (HT8.out.below hb9)
  clear hb9 d0 d1 d2 d3 d4 d5 d6 d7 d8 d9 d10 d11 d12 f0 f1 f2 f3 f4 f5 f6 f7 f8 f9 f10 f11 f12 HM8 HN8 HP8 HB8 HR8 HS8 HT8
  obtain ⟨d0, d1, d2, d3, d4, d5, d6, d7, d8, d9, d10, d11, d12⟩ := hM9.all
  obtain ⟨f0, f1, f2, f3, f4, f5, f6, f7, f8, f9, f10, f11, f12⟩ := hP9.all
  clear hM9 hP9
  go_wp2_with fail
  refine (sameM_yes m A5 A c5 c W9 HT9.out HR9.out (by omega)).mono ?_
  rintro e W10 ⟨rfl, hb10⟩
  have HB10 := Lib.hid (HB9.out.trans (hb10.mono HB9.out.size))
  clear hb10 d0 d1 d2 d3 d4 d5 d6 d7 d8 d9 d10 d11 d12 f0 f1 f2 f3 f4 f5 f6 f7 f8 f9 f10 f11 f12 HR9 HT9 HB9
  go_wp2_with fail
  refine (awakeM_any W10 (HG.out.tab.below HB10.out)).mono ?_
  rintro e W11 ⟨rfl, hb11⟩
  have HB11 := Lib.hid (HB10.out.trans (hb11.mono HB10.out.size))
  clear hb11
  go_wp2
  go_ret
  exact ⟨rfl, HB11.out⟩
end messageRoundTrip
end Go.Proofs.YtmjlnckmhdgoiaaDoor
