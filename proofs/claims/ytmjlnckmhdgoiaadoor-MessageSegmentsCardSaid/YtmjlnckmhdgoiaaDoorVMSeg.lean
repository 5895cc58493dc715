/- The law MessageSegments: the walk. -/
import Derived.Test.YtmjlnckmhdgoiaaDoorMn
import Derived.Test.YtmjlnckmhdgoiaaDoorMo
import Derived.Test.YtmjlnckmhdgoiaaDoorMt
import Derived.Test.YtmjlnckmhdgoiaaDoorSw
namespace Go.Proofs.YtmjlnckmhdgoiaaDoor
open Go.RowKit
set_option linter.unusedVariables false

namespace messageSegments
def EncOk (w : World) (m : Msg) (e : Ending) (w' : World) : Prop := ∃ A c, e = .returned (.tuple #[.slice A (encAll (segsM m)).length c, .int .i64 0]) ∧ Rd w' A (u8s (encAll (segsM m))) ∧ Below w.heap.size w w'
theorem encode_ok (m : Msg) (A : Option Addr) (c : Nat) (w : World) (hr : Rd w A (ints m.list)) (ok : OkM m) (ht : Tab w) : Calls Tryd.prog 16 #[msgV m A c] w (EncOk w m) :=
  (encodeM_any m A c w hr ok.bd ht).mono fun e w' ⟨hb, h⟩ => by
    rcases h with ⟨hv, v, rfl, ho⟩ | ⟨hv, rfl⟩
    · obtain ⟨A, c, rfl, h2, _, _⟩ := ho.shape
      exact ⟨_, _, rfl, h2, hb⟩
    · exact absurd (okM_iff.2 ok) hv
def SegOk (w : World) (m : Msg) (e : Ending) (w' : World) : Prop := ∃ A c, e = .returned (.tuple #[.slice A (segsM m).length c, .int .i64 0]) ∧ SegsAt w' w'.heap.size A (segsM m) ∧ Below w.heap.size w w'
theorem segments_ok (m : Msg) (A : Option Addr) (c : Nat) (w : World) (hr : Rd w A (ints m.list)) (ok : OkM m) (ht : Tab w) : Calls Tryd.prog 17 #[msgV m A c] w (SegOk w m) :=
  (segments_any m A c w hr ok.bd ht).mono fun e w' ⟨hb, h⟩ => by
    rcases h with ⟨hv, v, rfl, ho⟩ | ⟨hv, rfl⟩
    · obtain ⟨A, c, rfl, _, h2⟩ := ho.at_
      exact ⟨_, _, rfl, h2, hb⟩
    · exact absurd (okM_iff.2 ok) hv
def EncSOk (w : World) (l : List Seg) (e : Ending) (w' : World) : Prop := ∃ A c, e = .returned (.tuple #[.slice A (encAll l).length c, .int .i64 0]) ∧ Rd w' A (u8s (encAll l)) ∧ Below w.heap.size w w'
theorem encodeS_ok (m : Msg) (A : Option Addr) (c : Nat) (w : World) (h : SegsAt w w.heap.size A (segsM m)) (ok : OkM m) : Calls Tryd.prog 18 #[.slice A (segsM m).length c] w (EncSOk w (segsM m)) :=
  (encode_any A c (segsM m) w h (by have := segsM_len m; omega) (fits_few (by have := segsM_len m; omega))).mono fun e w' ⟨hb, h⟩ => by
    rcases h with ⟨hv, v, rfl, ho⟩ | ⟨hv, rfl⟩
    · obtain ⟨A, c, rfl, h2, _, _⟩ := ho.shape
      exact ⟨_, _, rfl, h2, hb⟩
    · exact absurd (encE?_zero.2 (segsM_ok ok)) hv
theorem segs_short {m : Msg} (ok : OkM m) : ∀ s ∈ segsM m, s.els.length ≤ 1000000 ∧ ∀ e ∈ s.els, e.length ≤ 1000000 := by
  intro s hs
  have h := short_of (validF_zero.1 (segsM_ok ok s hs)).2.1
  exact ⟨by omega, fun e he => by have := (h.2 e he).1; omega⟩
set_option maxHeartbeats 8000000 in
set_option maxRecDepth 100000 in
theorem walkMessageSegments (Al : Option Addr) (cl : Nat) (l : List Int) (w : World) (hl : SlI w Al cl l) (hL : laidMetH Tryd.prog Rows.messageSegmentsRow.laid w) :
    Calls Tryd.prog 5 #[.slice Al l.length cl] w fun e w' => e = .returned (.bool true) ∧ Below w.heap.size w w' := by
  have ht : Tab w := tab_of_laid hL rfl rfl
  have hlmax := hl.max
  have hll := hl.le
  have HMA := Lib.hid (mMessage_any Al cl l w hl.rd hll (by omega))
  have HT := Lib.hid ht
  clear hL ht hl
  go_enter Tryd.func5, Tryd.ntmps5
  go_wp2_with fail
  refine HMA.out.mono ?_
  rintro e w1 ⟨m, A, c, rfl, ok, ho1, hb1⟩
  have hr1 := own_ints ho1
  have q2 := (Below.refl w1.heap.size w1).alloc (Nat.le_refl _) (.cells (msgC m A c) 24)
  have hM2 : MBlk (w1.alloc (.cells (msgC m A c) 24)) w1.heap.size m A c := heap_alloc_new w1 _
  have hr2 := hr1.below q2
  have hB2 := hb1.trans (q2.mono hb1.size)
  clear hr1 ho1 HMA
  go_upto_region 2 with (fail)
  generalize hW : w1.alloc (.cells (msgC m A c) 24) = W2 at hM2 hr2 hB2 q2 ⊢
  generalize hg : w1.heap.size = g at hM2 ⊢
  clear hW hg q2
  have HT2 := Lib.hid (HT.out.below hB2)
  have HB2 := Lib.hid hB2
  have hB2z := hB2.size
  clear hB2 HT
  obtain ⟨d0, d1, d2, d3, d4, d5, d6, d7, d8, d9, d10, d11, d12⟩ := hM2.all
  go_wp2_with fail
  refine (segments_ok m A c W2 hr2 ok HT2.out).mono ?_
  rintro e w3 ⟨A3, c3, rfl, hsa3, hb3⟩
  have hM3 := hM2.below hb3
  have HT3 := Lib.hid (HT2.out.below hb3)
  clear d0 d1 d2 d3 d4 d5 d6 d7 d8 d9 d10 d11 d12
  obtain ⟨d0, d1, d2, d3, d4, d5, d6, d7, d8, d9, d10, d11, d12⟩ := hM3.all
  have HEN := Lib.hid (encode_ok m A c w3 (hr2.below hb3) ok HT3.out)
  have HES := Lib.hid (fun (W : World) (h : Below w3.heap.size w3 W) => encodeS_ok m A3 c3 W ((hsa3.below h).mono h.size) ok)
  have HRS := Lib.hid (fun (W : World) (h : Below w3.heap.size w3 W) => refSegments_any m A c W ((hr2.below hb3).below h) ok)
  have HSH := Lib.hid (segs_short ok)
  have hsl := segsM_len m
  unfold EncOk at HEN
  unfold EncSOk at HES
  have HSA := Lib.hid hsa3
  clear hsa3
  generalize segsM m = sg at *
  generalize hxx : encAll sg = x at *
  clear hxx
  go_wp2_with fail
  refine HEN.out.mono ?_
  rintro e w4 ⟨A4, c4, rfl, hr4, hb4⟩
  have hM4 := hM3.below hb4
  go_wp2_with fail
  refine (HES.out _ hb4).mono ?_
  rintro e w5 ⟨A5, c5, rfl, hr5, hb5⟩
  have hb35 := hb4.trans (hb5.mono hb4.size)
  have hM5 := hM4.below hb5
  clear d0 d1 d2 d3 d4 d5 d6 d7 d8 d9 d10 d11 d12
  obtain ⟨d0, d1, d2, d3, d4, d5, d6, d7, d8, d9, d10, d11, d12⟩ := hM5.all
  go_wp2_with fail
  refine (HRS.out _ hb35).mono ?_
  rintro e w6 ⟨v6, rfl, hso6, hb6⟩
  obtain ⟨A6, c6, rfl, _, hsa6⟩ := hso6.at_
  have hb36 := hb35.trans (hb6.mono hb35.size)
  go_wp2_with fail
  refine (same_any A3 A6 c3 c6 sg w3.heap.size w6.heap.size w6 (HSA.out.below hb36) hsa6 (by omega) HSH.out).mono ?_
  rintro e w7 ⟨rfl, hq7⟩
  have hb37 := hb36.trans (hq7.below w3.heap.size)
  have hb47 : Below w4.heap.size w4 w7 := (hb5.trans (hb6.mono hb5.size)).trans (hq7.below _)
  have hb57 : Below w5.heap.size w5 w7 := hb6.trans (hq7.below _)
  have hcv4 := conv_back w7 A4 c4 x (hr4.below hb47)
  have hcv5 := conv_back w7 A5 c5 x (hr5.below hb57)
  have HT7 := Lib.hid (HT3.out.below hb37)
  go_wp2_with fail
  refine (awakeM_any w7 HT7.out).mono ?_
  rintro e w8 ⟨rfl, hb8⟩
  have hb38 := hb37.trans (hb8.mono hb37.size)
  have hBF := HB2.out.trans ((hb3.trans (hb38.mono hb3.size)).mono hB2z)
  go_wp2_with fail
  go_ret
  exact ⟨rfl, hBF⟩
end messageSegments
end Go.Proofs.YtmjlnckmhdgoiaaDoor
