/- The law MessageValidate: the walk. -/
import Derived.Test.YtmjlnckmhdgoiaaDoorMn
import Derived.Test.YtmjlnckmhdgoiaaDoorMm
import Derived.Test.YtmjlnckmhdgoiaaDoorMo
import Derived.Test.YtmjlnckmhdgoiaaDoorMp
namespace Go.Proofs.YtmjlnckmhdgoiaaDoor
open Go.RowKit
set_option linter.unusedVariables false

theorem small_bd {m : Msg} (h : MBd m) : MBd (smallM m) := ⟨h.code, h.country, by show (m.list.take 70).length ≤ _; rw [List.length_take]; omega, by show (m.text.take 210).length ≤ _; rw [List.length_take]; omega⟩
theorem small_rd {m : Msg} {w : World} {A : Option Addr} (h : Rd w A (ints m.list)) : Rd w A (ints (smallM m).list) := by
  have := h.take 70
  rwa [ints, ← List.map_take] at this
namespace messageValidate
set_option maxHeartbeats 4000000 in
set_option maxRecDepth 100000 in
theorem walkMessageValidate (m : Msg) (A : Option Addr) (c : Nat) (Al : Option Addr) (cl : Nat) (l : List Int) (w : World) (hr : Rd w A (ints m.list)) (hc : m.list.length ≤ c) (hcm : c ≤ maxLen) (hb : MBd m) (hl : SlI w Al cl l) (hL : laidMetH Tryd.prog Rows.messageValidateRow.laid w) :
    Calls Tryd.prog 3 #[msgV m A c, .slice Al l.length cl] w fun e w' => e = .returned (.bool true) ∧ Below w.heap.size w w' := by
  have ht : Tab w := tab_of_laid hL rfl rfl
  have q0 := (Below.refl w.heap.size w).alloc (Nat.le_refl _) (.cells (msgC m A c) 24)
  have hM0 : MBlk (w.alloc (.cells (msgC m A c) 24)) w.heap.size m A c := heap_alloc_new w _
  have hzz : w.heap.size < (w.alloc (.cells (msgC m A c) 24)).heap.size := by simp
  obtain ⟨g, hg⟩ : ∃ g, w.heap.size = g := ⟨_, rfl⟩
  rw [hg] at q0 hM0 hzz
  obtain ⟨d0, d1, d2, d3, d4, d5, d6, d7, d8, d9, d10, d11, d12⟩ := hM0.all
  have HSM := Lib.hid (fun W => small_any m A c W hc hb)
  generalize hW0 : w.alloc (.cells (msgC m A c) 24) = W0 at q0 hM0 hzz d0 d1 d2 d3 d4 d5 d6 d7 d8 d9 d10 d11 d12
  have hlmax := hl.max
  have hll := hl.le
  have HB := Lib.hid (small_bd hb)
  have HR := Lib.hid ((RdB.of_rd (small_rd hr)))
  have HLR := Lib.hid (RdB.of_rd hl.rd)
  generalize smallM m = m2 at HSM HB HR
  clear hr hb hl hL
  go_enter Tryd.func3, Tryd.ntmps3
  go_wp2_with fail
  refine (HSM.out _).mono ?_
  rintro e w1 ⟨rfl, hb1⟩
  have hM1 := hM0.below hb1
  have hB1 := q0.trans (hb1.mono (Nat.le_of_lt hzz))
  have hz1 : g < w1.heap.size := Nat.lt_of_lt_of_le hzz hb1.size
  clear d0 d1 d2 d3 d4 d5 d6 d7 d8 d9 d10 d11 d12 hW0 HSM hM0 hzz hb1
  rw [hg] at HR HLR
  obtain ⟨d0, d1, d2, d3, d4, d5, d6, d7, d8, d9, d10, d11, d12⟩ := hM1.all
  obtain ⟨f0, f1, f2, f3, f4, f5, f6, f7, f8, f9, f10, f11, f12⟩ : w1.frozen? ⟨g, 0, none⟩ = false ∧ w1.frozen? ⟨g, 1, none⟩ = false ∧ w1.frozen? ⟨g, 2, none⟩ = false ∧ w1.frozen? ⟨g, 3, none⟩ = false ∧ w1.frozen? ⟨g, 4, none⟩ = false ∧ w1.frozen? ⟨g, 5, none⟩ = false ∧ w1.frozen? ⟨g, 6, none⟩ = false ∧ w1.frozen? ⟨g, 7, none⟩ = false ∧ w1.frozen? ⟨g, 8, none⟩ = false ∧ w1.frozen? ⟨g, 9, none⟩ = false ∧ w1.frozen? ⟨g, 10, none⟩ = false ∧ w1.frozen? ⟨g, 11, none⟩ = false ∧ w1.frozen? ⟨g, 12, none⟩ = false := ⟨hM1.frozen _, hM1.frozen _, hM1.frozen _, hM1.frozen _, hM1.frozen _, hM1.frozen _, hM1.frozen _, hM1.frozen _, hM1.frozen _, hM1.frozen _, hM1.frozen _, hM1.frozen _, hM1.frozen _⟩
  go_wp2_with fail
  have hM2 := hM1.putAll m2 A c
  have hB2 := putAll_below hB1 (Nat.le_refl _) m2 A c
  have hz2 : g < (((((((((((((w1.setCell ⟨g, 0, none⟩ (.int .i64 m2.kind)).setCell ⟨g, 1, none⟩ (.int .i64 m2.src)).setCell ⟨g, 2, none⟩ (.int .i64 m2.dst)).setCell ⟨g, 3, none⟩ (.int .i64 m2.number)).setCell ⟨g, 4, none⟩ (.int .i64 m2.day)).setCell ⟨g, 5, none⟩ (.int .i64 m2.lot)).setCell ⟨g, 6, none⟩ (.int .i64 m2.other)).setCell ⟨g, 7, none⟩ (.string ⟨m2.code.toArray⟩)).setCell ⟨g, 8, none⟩ (.string ⟨m2.country.toArray⟩)).setCell ⟨g, 9, none⟩ (.int .i64 m2.quantity)).setCell ⟨g, 10, none⟩ (.int .i64 m2.amount)).setCell ⟨g, 11, none⟩ (.slice A m2.list.length c)).setCell ⟨g, 12, none⟩ (.string ⟨m2.text.toArray⟩)).heap.size := by rw [putAll_size]; exact hz1
  clear d0 d1 d2 d3 d4 d5 d6 d7 d8 d9 d10 d11 d12 f0 f1 f2 f3 f4 f5 f6 f7 f8 f9 f10 f11 f12 hM1 hB1 hz1
  generalize hW2 : (((((((((((((w1.setCell ⟨g, 0, none⟩ (.int .i64 m2.kind)).setCell ⟨g, 1, none⟩ (.int .i64 m2.src)).setCell ⟨g, 2, none⟩ (.int .i64 m2.dst)).setCell ⟨g, 3, none⟩ (.int .i64 m2.number)).setCell ⟨g, 4, none⟩ (.int .i64 m2.day)).setCell ⟨g, 5, none⟩ (.int .i64 m2.lot)).setCell ⟨g, 6, none⟩ (.int .i64 m2.other)).setCell ⟨g, 7, none⟩ (.string ⟨m2.code.toArray⟩)).setCell ⟨g, 8, none⟩ (.string ⟨m2.country.toArray⟩)).setCell ⟨g, 9, none⟩ (.int .i64 m2.quantity)).setCell ⟨g, 10, none⟩ (.int .i64 m2.amount)).setCell ⟨g, 11, none⟩ (.slice A m2.list.length c)).setCell ⟨g, 12, none⟩ (.string ⟨m2.text.toArray⟩)) = W2 at hM2 hB2 hz2 ⊢
  clear hW2
  obtain ⟨d0, d1, d2, d3, d4, d5, d6, d7, d8, d9, d10, d11, d12⟩ := hM2.all
  have hB2z := Nat.le_of_lt hz2
  have HVA := fun (W : World) (h : Below g w W) (hs : g ≤ W.heap.size) => validate_m m2 A c W ((HR.out.below h).rd) HB.out
  have HRA := fun (W : World) (h : Below g w W) (hs : g ≤ W.heap.size) => refMessage_any m2 A c W ((HR.out.below h).rd) HB.out
  have HMA := Lib.hid (fun (W : World) (h : Below g w W) => mMessage_any Al cl l W ((HLR.out.below h).rd) hll (by omega))
  have HVM := Lib.hid (fun (m : Msg) (A : Option Addr) (c : Nat) (W : World) (h : Rd W A (ints m.list)) (hk : OkM m) => validate_ok m A c W h hk)
  have HAW := Lib.hid (fun (W : World) (h : Tab W) => awakeM_any W h)
  have HT := Lib.hid ht
  clear HR HB HLR ht
  rcases validM_cases m2 with hv | hv | hv | hv
  all_goals
    rw [hv] at HVA HRA
    have HVA := Lib.hid HVA
    have HRA := Lib.hid HRA
    clear hv
    go_region_held3 (fun w' => Below W2.heap.size W2 w' ∧ w'.cell? ⟨g, 0, none⟩ = some (.int .i64 m2.kind) ∧ w'.cell? ⟨g, 1, none⟩ = some (.int .i64 m2.src) ∧ w'.cell? ⟨g, 2, none⟩ = some (.int .i64 m2.dst) ∧ w'.cell? ⟨g, 3, none⟩ = some (.int .i64 m2.number) ∧ w'.cell? ⟨g, 4, none⟩ = some (.int .i64 m2.day) ∧ w'.cell? ⟨g, 5, none⟩ = some (.int .i64 m2.lot) ∧ w'.cell? ⟨g, 6, none⟩ = some (.int .i64 m2.other) ∧ w'.cell? ⟨g, 7, none⟩ = some (.string ⟨m2.code.toArray⟩) ∧ w'.cell? ⟨g, 8, none⟩ = some (.string ⟨m2.country.toArray⟩) ∧ w'.cell? ⟨g, 9, none⟩ = some (.int .i64 m2.quantity) ∧ w'.cell? ⟨g, 10, none⟩ = some (.int .i64 m2.amount) ∧ w'.cell? ⟨g, 11, none⟩ = some (.slice A m2.list.length c) ∧ w'.cell? ⟨g, 12, none⟩ = some (.string ⟨m2.text.toArray⟩))
      ((refine (fun h => ⟨h, (Below.cell (p := ⟨g, 0, none⟩) h hz2).trans d0, (Below.cell (p := ⟨g, 1, none⟩) h hz2).trans d1, (Below.cell (p := ⟨g, 2, none⟩) h hz2).trans d2, (Below.cell (p := ⟨g, 3, none⟩) h hz2).trans d3, (Below.cell (p := ⟨g, 4, none⟩) h hz2).trans d4, (Below.cell (p := ⟨g, 5, none⟩) h hz2).trans d5, (Below.cell (p := ⟨g, 6, none⟩) h hz2).trans d6, (Below.cell (p := ⟨g, 7, none⟩) h hz2).trans d7, (Below.cell (p := ⟨g, 8, none⟩) h hz2).trans d8, (Below.cell (p := ⟨g, 9, none⟩) h hz2).trans d9, (Below.cell (p := ⟨g, 10, none⟩) h hz2).trans d10, (Below.cell (p := ⟨g, 11, none⟩) h hz2).trans d11, (Below.cell (p := ⟨g, 12, none⟩) h hz2).trans d12⟩ : Below W2.heap.size W2 _ → _) ?_; first | exact (Below.refl _ _).drew | exact hB9 | exact hB8 | exact hB5 | exact hB7 | exact hB6))
      (first
        | (go_at_call 12; refine (HRA.out _ (hB2.trans (by first | exact hB7.mono hB2z | exact ((Below.refl _ _).drew).mono hB2z)) (by first | exact Nat.le_trans hB2z hB7.size | exact hB2z)).mono ?_; rintro e w6 ⟨rfl, hb6⟩; have hB6 : Below W2.heap.size W2 w6 := by (first | exact hB7.trans (hb6.mono hB7.size) | exact (Below.refl _ _).drew.trans hb6))
        | (go_at_call 13; refine (HMA.out _ (hB2.trans (by first | exact hB6.mono hB2z | exact hB7.mono hB2z))).mono ?_; rintro e w5 ⟨m5, A5, c5, rfl, ok5, ho5, hb5⟩; have hB5 : Below W2.heap.size W2 w5 := by (first | exact hB6.trans (hb5.mono hB6.size) | exact hB7.trans (hb5.mono hB7.size)))
        | (go_at_call 11; refine (HVM.out m5 A5 c5 w5 (own_ints ho5) ok5).mono ?_; rintro e w8 ⟨rfl, hb8⟩; have hB8 : Below W2.heap.size W2 w8 := hB5.trans (hb8.mono hB5.size))
        | (go_at_call 11; refine (HVA.out _ (hB2.trans (by first | exact hB6.mono hB2z | exact ((Below.refl _ _).drew).mono hB2z)) (by first | exact Nat.le_trans hB2z hB6.size | exact hB2z)).mono ?_; rintro e w7 ⟨rfl, hb7⟩; have hB7 : Below W2.heap.size W2 w7 := by (first | exact hB6.trans (hb7.mono hB6.size) | exact (Below.refl _ _).drew.trans hb7))
        | (go_at_call 14; refine (HAW.out _ (HT.out.belowB (hB2.trans (hB8.mono hB2z)) hg)).mono ?_; rintro e w9 ⟨rfl, hb9⟩; have hB9 : Below W2.heap.size W2 w9 := hB8.trans (hb9.mono hB8.size)))
    all_goals go_wp2
    all_goals go_ret
    all_goals (have hBF := hB2.trans (hB9.mono hB2z); first | exact ⟨rfl, hBF⟩ | (rw [← hg] at hBF; exact ⟨rfl, hBF⟩))
end messageValidate
end Go.Proofs.YtmjlnckmhdgoiaaDoor
