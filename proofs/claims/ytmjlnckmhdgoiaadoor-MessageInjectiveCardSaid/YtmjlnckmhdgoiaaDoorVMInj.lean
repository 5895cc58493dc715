/- The law MessageInjective: the walk. -/
import Derived.Test.YtmjlnckmhdgoiaaDoorMn
import Derived.Test.YtmjlnckmhdgoiaaDoorMp
import Derived.Test.YtmjlnckmhdgoiaaDoorMl
import Derived.Test.YtmjlnckmhdgoiaaDoorMqd
namespace Go.Proofs.YtmjlnckmhdgoiaaDoor
open Go.RowKit
set_option linter.unusedVariables false

namespace messageInjective
/-- Encode of a valid message -/
def EncOk (w : World) (m : Msg) (e : Ending) (w' : World) : Prop := ∃ A c, e = .returned (.tuple #[.slice A (encAll (segsM m)).length c, .int .i64 0]) ∧ Rd w' A (u8s (encAll (segsM m))) ∧ Below w.heap.size w w'
theorem encode_ok (m : Msg) (A : Option Addr) (c : Nat) (w : World) (hr : Rd w A (ints m.list)) (ok : OkM m) (ht : Tab w) : Calls Tryd.prog 16 #[msgV m A c] w (EncOk w m) :=
  (encodeM_any m A c w hr ok.bd ht).mono fun e w' ⟨hb, h⟩ => by
    rcases h with ⟨hv, v, rfl, ho⟩ | ⟨hv, rfl⟩
    · obtain ⟨A, c, rfl, h2, _, _⟩ := ho.shape
      exact ⟨_, _, rfl, h2, hb⟩
    · exact absurd (okM_iff.2 ok) hv
set_option maxHeartbeats 40000000 in
set_option maxRecDepth 100000 in
theorem walkMessageInjective (Al : Option Addr) (cl : Nat) (l : List Int) (Ak : Option Addr) (ck : Nat) (k : List Int) (w : World) (hl : SlI w Al cl l) (hk : SlI w Ak ck k) (hL : laidMetH Tryd.prog Rows.messageInjectiveRow.laid w) :
    Calls Tryd.prog 6 #[.slice Al l.length cl, .slice Ak k.length ck] w fun e w' => e = .returned (.bool true) ∧ Below w.heap.size w w' := by
  have ht : Tab w := tab_of_laid hL rfl rfl
  have hlmax := hl.max
  have hll := hl.le
  have hkmax := hk.max
  have hkl := hk.le
  have HMA := Lib.hid (mMessage_any Al cl l w hl.rd hll (by omega))
  have HMB := Lib.hid (fun (W : World) (h : Below w.heap.size w W) => mMessage_any Ak ck k W (hk.rd.below h) hkl (by omega))
  have HT := Lib.hid ht
  clear hL ht hl hk
  go_enter Tryd.func6, Tryd.ntmps6
  go_wp2_with fail
  refine HMA.out.mono ?_
  rintro e w1 ⟨m, A, c, rfl, ok1, ho1, hb1⟩
  have hr1 := own_ints ho1
  go_wp2_with fail
  refine (HMB.out _ hb1).mono ?_
  rintro e w2 ⟨n, A2, c2, rfl, ok2, ho2, hb2⟩
  have hr1 := hr1.below hb2
  have hr2 := own_ints ho2
  have hB2 := hb1.trans (hb2.mono hb1.size)
  have q3 := (Below.refl w2.heap.size w2).alloc (Nat.le_refl _) (.cells (msgC m A c) 24)
  have hM3 : MBlk (w2.alloc (.cells (msgC m A c) 24)) w2.heap.size m A c := heap_alloc_new w2 _
  have hs3 : (w2.alloc (.cells (msgC m A c) 24)).heap.size = w2.heap.size + 1 := by simp
  have q4 := (Below.refl (w2.alloc (.cells (msgC m A c) 24)).heap.size (w2.alloc (.cells (msgC m A c) 24))).alloc (Nat.le_refl _) (.cells (msgC n A2 c2) 24)
  have hN4 : MBlk ((w2.alloc (.cells (msgC m A c) 24)).alloc (.cells (msgC n A2 c2) 24)) (w2.alloc (.cells (msgC m A c) 24)).heap.size n A2 c2 := heap_alloc_new _ _
  rw [hs3] at hN4
  have hM4 := hM3.below q4
  have q34 := q3.trans (q4.mono q3.size)
  have hr1 := hr1.below q34
  have hr2 := hr2.below q34
  have hB4 := hB2.trans (q34.mono hB2.size)
  clear hM3 q3 q4 hs3 ho1 ho2 HMA HMB hb1 hb2
  have hz2 : w2.heap.size + 1 < ((w2.alloc (.cells (msgC m A c) 24)).alloc (.cells (msgC n A2 c2) 24)).heap.size := by simp
  go_upto_region 2 with (fail)
  generalize hW : (w2.alloc (.cells (msgC m A c) 24)).alloc (.cells (msgC n A2 c2) 24) = W4 at hN4 hM4 hr1 hr2 hB4 q34 hz2 ⊢
  clear hW q34 hB2
  generalize hg : w2.heap.size = g at hN4 hM4 hz2 ⊢
  clear hg
  obtain ⟨g2, hg2⟩ : ∃ g2, g + 1 = g2 := ⟨_, rfl⟩
  rw [hg2] at hN4 hz2 ⊢
  have hgg : g < g2 := by omega
  clear hg2
  have HT4 := Lib.hid (HT.out.below hB4)
  have HB4 := Lib.hid hB4
  have hB4z := hB4.size
  clear HT hB4
  obtain ⟨d0, d1, d2, d3, d4, d5, d6, d7, d8, d9, d10, d11, d12⟩ := hM4.all
  go_wp2_with fail
  refine (encode_ok m A c W4 hr1 ok1 HT4.out).mono ?_
  rintro e w5 ⟨Ab, cb, rfl, hrb, hb5⟩
  have hM5 := hM4.below hb5
  have hN5 := hN4.below hb5
  have HT5 := Lib.hid (HT4.out.below hb5)
  clear d0 d1 d2 d3 d4 d5 d6 d7 d8 d9 d10 d11 d12
  obtain ⟨e0, e1, e2, e3, e4, e5, e6, e7, e8, e9, e10, e11, e12⟩ := hN5.all
  have hr25 := hr2.below hb5
  go_wp2_with fail
  refine (encode_ok n A2 c2 w5 hr25 ok2 HT5.out).mono ?_
  rintro e W ⟨Ad, cd, rfl, hrd, hb6⟩
  have hM6 := hM5.below hb6
  have hN6 := hN5.below hb6
  have HT6 := Lib.hid (HT5.out.below hb6)
  have hrb := hrb.below hb6
  have hb46 := hb5.trans (hb6.mono hb5.size)
  have hr16 := hr1.below hb46
  have hr26 := hr2.below hb46
  have HBW := Lib.hid (HB4.out.trans (hb46.mono hB4z))
  have hBWz := HBW.out.size
  have hz1 := hM6.lt
  have hz2 := hN6.lt
  clear e0 e1 e2 e3 e4 e5 e6 e7 e8 e9 e10 e11 e12
  obtain ⟨d0, d1, d2, d3, d4, d5, d6, d7, d8, d9, d10, d11, d12⟩ := hM6.all
  obtain ⟨e0, e1, e2, e3, e4, e5, e6, e7, e8, e9, e10, e11, e12⟩ := hN6.all
  have hml := ok1.bd.list
  have HAW := Lib.hid (fun (W' : World) (h : Below W.heap.size W W') => awakeM_any W' (HT6.out.below h))
  clear HT4 HT5 HT6 HB4 hM4 hM5 hN4 hN5 hr1 hr2 hr25 hb5 hb6 hb46
  by_cases hmn : m = n
  · subst hmn
    have HSA := Lib.hid (fun (W' : World) (h : Below W.heap.size W W') => sameM_yes m A A2 c c2 W' (hr16.below h) (hr26.below h) hml)
    generalize encAll (segsM m) = x at hrb hrd ⊢
    clear hM6 hN6 hr16 hr26
    go_wp2_with fail
    go_region_held3 (fun w' => Below W.heap.size W w' ∧ w'.cell? ⟨g, 0, none⟩ = some (.int .i64 m.kind) ∧ w'.cell? ⟨g, 1, none⟩ = some (.int .i64 m.src) ∧ w'.cell? ⟨g, 2, none⟩ = some (.int .i64 m.dst) ∧ w'.cell? ⟨g, 3, none⟩ = some (.int .i64 m.number) ∧ w'.cell? ⟨g, 4, none⟩ = some (.int .i64 m.day) ∧ w'.cell? ⟨g, 5, none⟩ = some (.int .i64 m.lot) ∧ w'.cell? ⟨g, 6, none⟩ = some (.int .i64 m.other) ∧ w'.cell? ⟨g, 7, none⟩ = some (.string ⟨m.code.toArray⟩) ∧ w'.cell? ⟨g, 8, none⟩ = some (.string ⟨m.country.toArray⟩) ∧ w'.cell? ⟨g, 9, none⟩ = some (.int .i64 m.quantity) ∧ w'.cell? ⟨g, 10, none⟩ = some (.int .i64 m.amount) ∧ w'.cell? ⟨g, 11, none⟩ = some (.slice A m.list.length c) ∧ w'.cell? ⟨g, 12, none⟩ = some (.string ⟨m.text.toArray⟩) ∧ w'.cell? ⟨g2, 0, none⟩ = some (.int .i64 m.kind) ∧ w'.cell? ⟨g2, 1, none⟩ = some (.int .i64 m.src) ∧ w'.cell? ⟨g2, 2, none⟩ = some (.int .i64 m.dst) ∧ w'.cell? ⟨g2, 3, none⟩ = some (.int .i64 m.number) ∧ w'.cell? ⟨g2, 4, none⟩ = some (.int .i64 m.day) ∧ w'.cell? ⟨g2, 5, none⟩ = some (.int .i64 m.lot) ∧ w'.cell? ⟨g2, 6, none⟩ = some (.int .i64 m.other) ∧ w'.cell? ⟨g2, 7, none⟩ = some (.string ⟨m.code.toArray⟩) ∧ w'.cell? ⟨g2, 8, none⟩ = some (.string ⟨m.country.toArray⟩) ∧ w'.cell? ⟨g2, 9, none⟩ = some (.int .i64 m.quantity) ∧ w'.cell? ⟨g2, 10, none⟩ = some (.int .i64 m.amount) ∧ w'.cell? ⟨g2, 11, none⟩ = some (.slice A2 m.list.length c2) ∧ w'.cell? ⟨g2, 12, none⟩ = some (.string ⟨m.text.toArray⟩) ∧ (convert 32 9 (.slice Ab x.length cb)).run Tryd.prog w' = .ok (.string ⟨x.toArray⟩) w' ∧ (convert 32 9 (.slice Ad x.length cd)).run Tryd.prog w' = .ok (.string ⟨x.toArray⟩) w')
      ((refine (fun h => ⟨h, (Below.cell (p := ⟨g, 0, none⟩) h hz1).trans d0, (Below.cell (p := ⟨g, 1, none⟩) h hz1).trans d1, (Below.cell (p := ⟨g, 2, none⟩) h hz1).trans d2, (Below.cell (p := ⟨g, 3, none⟩) h hz1).trans d3, (Below.cell (p := ⟨g, 4, none⟩) h hz1).trans d4, (Below.cell (p := ⟨g, 5, none⟩) h hz1).trans d5, (Below.cell (p := ⟨g, 6, none⟩) h hz1).trans d6, (Below.cell (p := ⟨g, 7, none⟩) h hz1).trans d7, (Below.cell (p := ⟨g, 8, none⟩) h hz1).trans d8, (Below.cell (p := ⟨g, 9, none⟩) h hz1).trans d9, (Below.cell (p := ⟨g, 10, none⟩) h hz1).trans d10, (Below.cell (p := ⟨g, 11, none⟩) h hz1).trans d11, (Below.cell (p := ⟨g, 12, none⟩) h hz1).trans d12, (Below.cell (p := ⟨g2, 0, none⟩) h hz2).trans e0, (Below.cell (p := ⟨g2, 1, none⟩) h hz2).trans e1, (Below.cell (p := ⟨g2, 2, none⟩) h hz2).trans e2, (Below.cell (p := ⟨g2, 3, none⟩) h hz2).trans e3, (Below.cell (p := ⟨g2, 4, none⟩) h hz2).trans e4, (Below.cell (p := ⟨g2, 5, none⟩) h hz2).trans e5, (Below.cell (p := ⟨g2, 6, none⟩) h hz2).trans e6, (Below.cell (p := ⟨g2, 7, none⟩) h hz2).trans e7, (Below.cell (p := ⟨g2, 8, none⟩) h hz2).trans e8, (Below.cell (p := ⟨g2, 9, none⟩) h hz2).trans e9, (Below.cell (p := ⟨g2, 10, none⟩) h hz2).trans e10, (Below.cell (p := ⟨g2, 11, none⟩) h hz2).trans e11, (Below.cell (p := ⟨g2, 12, none⟩) h hz2).trans e12, conv_back _ _ _ _ (hrb.below h), conv_back _ _ _ _ (hrd.below h)⟩ : Below W.heap.size W _ → _) ?_; first | exact (Below.refl _ _).drew | exact hB9 | exact hB8))
      (first
        | (go_at_call 21; refine (HSA.out _ (Below.refl _ _).drew).mono ?_; rintro e w8 ⟨rfl, hb8⟩; have hB8 : Below W.heap.size W w8 := (Below.refl _ _).drew.trans hb8)
        | (go_at_call 14; refine (HAW.out _ hB8).mono ?_; rintro e w9 ⟨rfl, hb9⟩; have hB9 : Below W.heap.size W w9 := hB8.trans (hb9.mono hB8.size)))
    all_goals go_wp2
    all_goals go_ret
    all_goals (have hBF := HBW.out.trans (hB9.mono hBWz); exact ⟨rfl, hBF⟩)
  · have hne : (encAll (segsM m) == encAll (segsM n)) = false := by
      rw [beq_eq_false_iff_ne]
      intro h
      exact hmn (enc_inj ok1 ok2 h)
    have HSA := Lib.hid (fun (W' : World) (h : Below W.heap.size W W') => sameM_no m n A A2 c c2 W' (hr16.below h) (hr26.below h) hml hmn)
    generalize encAll (segsM m) = x at hrb hne ⊢
    generalize encAll (segsM n) = y at hrd hne ⊢
    clear hM6 hN6 hr16 hr26 hmn
    go_wp2_with fail
    go_region_held3 (fun w' => Below W.heap.size W w' ∧ w'.cell? ⟨g, 0, none⟩ = some (.int .i64 m.kind) ∧ w'.cell? ⟨g, 1, none⟩ = some (.int .i64 m.src) ∧ w'.cell? ⟨g, 2, none⟩ = some (.int .i64 m.dst) ∧ w'.cell? ⟨g, 3, none⟩ = some (.int .i64 m.number) ∧ w'.cell? ⟨g, 4, none⟩ = some (.int .i64 m.day) ∧ w'.cell? ⟨g, 5, none⟩ = some (.int .i64 m.lot) ∧ w'.cell? ⟨g, 6, none⟩ = some (.int .i64 m.other) ∧ w'.cell? ⟨g, 7, none⟩ = some (.string ⟨m.code.toArray⟩) ∧ w'.cell? ⟨g, 8, none⟩ = some (.string ⟨m.country.toArray⟩) ∧ w'.cell? ⟨g, 9, none⟩ = some (.int .i64 m.quantity) ∧ w'.cell? ⟨g, 10, none⟩ = some (.int .i64 m.amount) ∧ w'.cell? ⟨g, 11, none⟩ = some (.slice A m.list.length c) ∧ w'.cell? ⟨g, 12, none⟩ = some (.string ⟨m.text.toArray⟩) ∧ w'.cell? ⟨g2, 0, none⟩ = some (.int .i64 n.kind) ∧ w'.cell? ⟨g2, 1, none⟩ = some (.int .i64 n.src) ∧ w'.cell? ⟨g2, 2, none⟩ = some (.int .i64 n.dst) ∧ w'.cell? ⟨g2, 3, none⟩ = some (.int .i64 n.number) ∧ w'.cell? ⟨g2, 4, none⟩ = some (.int .i64 n.day) ∧ w'.cell? ⟨g2, 5, none⟩ = some (.int .i64 n.lot) ∧ w'.cell? ⟨g2, 6, none⟩ = some (.int .i64 n.other) ∧ w'.cell? ⟨g2, 7, none⟩ = some (.string ⟨n.code.toArray⟩) ∧ w'.cell? ⟨g2, 8, none⟩ = some (.string ⟨n.country.toArray⟩) ∧ w'.cell? ⟨g2, 9, none⟩ = some (.int .i64 n.quantity) ∧ w'.cell? ⟨g2, 10, none⟩ = some (.int .i64 n.amount) ∧ w'.cell? ⟨g2, 11, none⟩ = some (.slice A2 n.list.length c2) ∧ w'.cell? ⟨g2, 12, none⟩ = some (.string ⟨n.text.toArray⟩) ∧ (convert 32 9 (.slice Ab x.length cb)).run Tryd.prog w' = .ok (.string ⟨x.toArray⟩) w' ∧ (convert 32 9 (.slice Ad y.length cd)).run Tryd.prog w' = .ok (.string ⟨y.toArray⟩) w')
      ((refine (fun h => ⟨h, (Below.cell (p := ⟨g, 0, none⟩) h hz1).trans d0, (Below.cell (p := ⟨g, 1, none⟩) h hz1).trans d1, (Below.cell (p := ⟨g, 2, none⟩) h hz1).trans d2, (Below.cell (p := ⟨g, 3, none⟩) h hz1).trans d3, (Below.cell (p := ⟨g, 4, none⟩) h hz1).trans d4, (Below.cell (p := ⟨g, 5, none⟩) h hz1).trans d5, (Below.cell (p := ⟨g, 6, none⟩) h hz1).trans d6, (Below.cell (p := ⟨g, 7, none⟩) h hz1).trans d7, (Below.cell (p := ⟨g, 8, none⟩) h hz1).trans d8, (Below.cell (p := ⟨g, 9, none⟩) h hz1).trans d9, (Below.cell (p := ⟨g, 10, none⟩) h hz1).trans d10, (Below.cell (p := ⟨g, 11, none⟩) h hz1).trans d11, (Below.cell (p := ⟨g, 12, none⟩) h hz1).trans d12, (Below.cell (p := ⟨g2, 0, none⟩) h hz2).trans e0, (Below.cell (p := ⟨g2, 1, none⟩) h hz2).trans e1, (Below.cell (p := ⟨g2, 2, none⟩) h hz2).trans e2, (Below.cell (p := ⟨g2, 3, none⟩) h hz2).trans e3, (Below.cell (p := ⟨g2, 4, none⟩) h hz2).trans e4, (Below.cell (p := ⟨g2, 5, none⟩) h hz2).trans e5, (Below.cell (p := ⟨g2, 6, none⟩) h hz2).trans e6, (Below.cell (p := ⟨g2, 7, none⟩) h hz2).trans e7, (Below.cell (p := ⟨g2, 8, none⟩) h hz2).trans e8, (Below.cell (p := ⟨g2, 9, none⟩) h hz2).trans e9, (Below.cell (p := ⟨g2, 10, none⟩) h hz2).trans e10, (Below.cell (p := ⟨g2, 11, none⟩) h hz2).trans e11, (Below.cell (p := ⟨g2, 12, none⟩) h hz2).trans e12, conv_back _ _ _ _ (hrb.below h), conv_back _ _ _ _ (hrd.below h)⟩ : Below W.heap.size W _ → _) ?_; first | exact (Below.refl _ _).drew | exact hB9 | exact hB8))
      (first
        | (go_at_call 21; refine (HSA.out _ (Below.refl _ _).drew).mono ?_; rintro e w8 ⟨rfl, hb8⟩; have hB8 : Below W.heap.size W w8 := (Below.refl _ _).drew.trans hb8)
        | (go_at_call 14; refine (HAW.out _ hB8).mono ?_; rintro e w9 ⟨rfl, hb9⟩; have hB9 : Below W.heap.size W w9 := hB8.trans (hb9.mono hB8.size)))
    all_goals go_wp2
    all_goals go_ret
    all_goals (have hBF := HBW.out.trans (hB9.mono hBWz); exact ⟨rfl, hBF⟩)
end messageInjective
end Go.Proofs.YtmjlnckmhdgoiaaDoor
