/- Contracts of message.Segments and message.Encode. -/
import Derived.Test.YtmjlnckmhdgoiaaGreatDoorMh
import Derived.Lib.ItoaLen
namespace Go.Proofs.YtmjlnckmhdgoiaaGreatDoor
open Go.RowKit
set_option linter.unusedVariables false

theorem itoa_ne (n : Int) : Lib.itoa n ≠ [] := by
  intro h
  unfold Lib.itoa at h
  split at h
  · cases h
  · have := congrArg List.length h
    rw [Lib.decDigits_length] at this
    have h2 := Lib.nDigits_pos n.toNat
    simp at this
    omega
def In64 (n : Int) : Prop := -9223372036854775808 ≤ n ∧ n ≤ 9223372036854775807
theorem elN_ok {n : Int} (h : In64 n) : longE (elN n) = false ∧ lastBad (elN n) = false ∧ elN n ≠ [] := by
  have h1 := Lib.itoa_length_le n h.1 h.2
  have h2 := itoa_ne n
  refine ⟨?_, ?_, by simp [elN]⟩
  · simp [longE, elN]; omega
  · simp [lastBad, elN, h2]
theorem elT_ok {s : Bs} (h : s.length ≤ 200) : longE (elT s) = false ∧ lastBad (elT s) = false := by
  unfold elT
  split
  · exact ⟨rfl, rfl⟩
  · rename_i hs
    refine ⟨?_, ?_⟩
    · simp [longE]; omega
    · simp [lastBad, hs]
theorem valid_of {t : Bs} {els : List (List Bs)} (ht : isTagF t = true) (hl : els.length ≤ 100) (h1 : ∀ e ∈ els, longE e = false) (h2 : endBad els = false) : validF ⟨t, els⟩ = 0 := by
  refine validF_zero.2 ⟨ht, ?_, h2⟩
  unfold isLongF
  rw [Bool.or_eq_false_iff]
  refine ⟨by simp; omega, ?_⟩
  rw [List.any_eq_false]
  intro e he
  simp [h1 e he]
theorem code_len {s : Bs} (h : codeB s = true) : s.length ≤ 8 := by
  unfold codeB at h
  simp only [Bool.and_eq_true, decide_eq_true_eq] at h
  exact h.1
theorem country_len {s : Bs} (h : countryB s = true) : s.length ≤ 2 := by
  unfold countryB at h
  simp only [Bool.or_eq_true, Bool.and_eq_true, decide_eq_true_eq] at h
  omega
theorem maps_ok : ∀ {l : List Int}, (∀ x ∈ l, In64 x) → (∀ c ∈ l.map Lib.itoa, c.length ≤ 21) ∧ lastBad (l.map Lib.itoa) = false
  | [], _ => ⟨fun c hc => (by cases hc), rfl⟩
  | [x], h => by
    have h1 := Lib.itoa_length_le x (h x (by simp)).1 (h x (by simp)).2
    have h2 := itoa_ne x
    refine ⟨fun c hc => ?_, by simp [lastBad, h2]⟩
    simp at hc
    subst hc
    exact h1
  | x :: y :: r, h => by
    have ih := maps_ok (l := y :: r) (fun z hz => h z (by simp [hz]))
    have h1 := Lib.itoa_length_le x (h x (by simp)).1 (h x (by simp)).2
    refine ⟨fun c hc => ?_, by simp only [List.map_cons] at ih ⊢; unfold lastBad; exact ih.2⟩
    rcases List.mem_cons.1 hc with rfl | hc
    · exact h1
    · exact ih.1 c hc
theorem in64_of {n : Int} (h : -1000000000000 ≤ n ∧ n ≤ 1000000000000) : In64 n := ⟨by omega, by omega⟩
theorem sMSG_ok {m : Msg} (ok : OkM m) : validF (sMSG m) = 0 := by
  have a1 := elN_ok (n := m.kind) ⟨by have := ok.kind; omega, by have := ok.kind; omega⟩
  have a2 := elN_ok (n := m.src) ⟨by have := ok.src; omega, by have := ok.src; omega⟩
  have a3 := elN_ok (n := m.dst) ⟨by have := ok.dst; omega, by have := ok.dst; omega⟩
  have a4 := elN_ok (n := m.number) ⟨by have := ok.number; omega, by have := ok.number; omega⟩
  have a5 := elN_ok (n := m.day) ⟨by have := ok.day; omega, by have := ok.day; omega⟩
  refine valid_of (by decide) (by simp) (fun e he => ?_) (by simp [endBad, a1.2.1, a2.2.1, a3.2.1, a4.2.1, a5.2.1, a5.2.2])
  simp only [List.mem_cons, List.not_mem_nil, or_false] at he
  rcases he with rfl | rfl | rfl | rfl | rfl
  · exact a1.1
  · exact a2.1
  · exact a3.1
  · exact a4.1
  · exact a5.1
theorem sLOT_ok {m : Msg} (ok : OkM m) : validF (sLOT m) = 0 := by
  have a1 := elN_ok (n := m.lot) ⟨by have := ok.lot; omega, by have := ok.lot; omega⟩
  have a2 := elN_ok (n := m.other) ⟨by have := ok.other; omega, by have := ok.other; omega⟩
  refine valid_of (by decide) (by simp) (fun e he => ?_) (by simp [endBad, a1.2.1, a2.2.1, a2.2.2])
  simp only [List.mem_cons, List.not_mem_nil, or_false] at he
  rcases he with rfl | rfl
  · exact a1.1
  · exact a2.1
theorem sGDS_ok {m : Msg} (ok : OkM m) : validF (sGDS m) = 0 := by
  have a1 := elT_ok (s := m.code) (by have := code_len ok.code; omega)
  have a2 := elT_ok (s := m.country) (by have := country_len ok.country; omega)
  have a3 := elN_ok (n := m.quantity) ⟨by have := ok.quantity; omega, by have := ok.quantity; omega⟩
  have a4 := elN_ok (n := m.amount) (in64_of ok.amount)
  refine valid_of (by decide) (by simp) (fun e he => ?_) (by simp [endBad, a1.2, a2.2, a3.2.1, a4.2.1, a4.2.2])
  simp only [List.mem_cons, List.not_mem_nil, or_false] at he
  rcases he with rfl | rfl | rfl | rfl
  · exact a1.1
  · exact a2.1
  · exact a3.1
  · exact a4.1
theorem sLST_ok {m : Msg} (ok : OkM m) (hl : lstB m = true) : validF (sLST m) = 0 := by
  obtain ⟨a1, a2⟩ := maps_ok (l := m.list) (fun x hx => in64_of (ok.list x hx))
  have h1 : 0 < m.list.length := by simpa [lstB] using hl
  have h3 : m.list ≠ [] := by intro h; rw [h] at h1; simp at h1
  refine valid_of (by decide) (by simp) (fun e he => ?_) (by simp [endBad, a2, h3])
  simp only [List.mem_cons, List.not_mem_nil, or_false] at he
  subst he
  unfold longE
  rw [Bool.or_eq_false_iff]
  refine ⟨by have := ok.ll; simp; omega, ?_⟩
  rw [List.any_eq_false]
  intro c hc
  have := a1 c hc
  simp
  omega
theorem sTXT_ok {m : Msg} (ok : OkM m) (hl : txtB m = true) : validF (sTXT m) = 0 := by
  have a1 := elT_ok (s := m.text) ok.tl
  have h1 : m.text ≠ [] := by simpa [txtB] using hl
  have h2 : elT m.text ≠ [] := by unfold elT; rw [if_neg h1]; simp
  refine valid_of (by decide) (by simp) (fun e he => ?_) (by simp [endBad, a1.2, h2])
  simp only [List.mem_cons, List.not_mem_nil, or_false] at he
  subst he
  exact a1.1
theorem sEND_ok {m : Msg} (ok : OkM m) (n : Nat) (hn : n ≤ 1000000) : validF (sEND m n) = 0 := by
  have a1 := elN_ok (n := (n : Int)) ⟨by omega, by omega⟩
  have a2 := elN_ok (n := m.number) ⟨by have := ok.number; omega, by have := ok.number; omega⟩
  refine valid_of (by decide) (by simp) (fun e he => ?_) (by simp [endBad, a1.2.1, a2.2.1, a2.2.2])
  simp only [List.mem_cons, List.not_mem_nil, or_false] at he
  rcases he with rfl | rfl
  · exact a1.1
  · exact a2.1
theorem opt_ok {b : Bool} {s x : Seg} (h : b = true → validF s = 0) (hx : x ∈ optS b s) : validF x = 0 := by
  unfold optS at hx
  split at hx
  · rename_i hb
    simp only [List.mem_singleton] at hx
    subst hx
    exact h hb
  · cases hx
theorem segsM_ok {m : Msg} (ok : OkM m) : ∀ s ∈ segsM m, validF s = 0 := by
  intro s hs
  unfold segsM descM at hs
  simp only [List.mem_append, List.mem_cons, List.not_mem_nil, or_false] at hs
  rcases hs with (rfl | h | h | h | h) | rfl
  · exact sMSG_ok ok
  · exact opt_ok (fun _ => sLOT_ok ok) h
  · exact opt_ok (fun _ => sGDS_ok ok) h
  · exact opt_ok (fun hb => sLST_ok ok hb) h
  · exact opt_ok (fun hb => sTXT_ok ok hb) h
  · exact sEND_ok ok _ (by have := descM_len m; unfold descM at this; omega)
theorem segsM_len (m : Msg) : (segsM m).length ≤ 6 := by have := descM_len m; unfold segsM; simp; omega
def SegmRet (w : World) (m : Msg) (e : Ending) (w' : World) : Prop :=
  Below w.heap.size w w' ∧ ((validM m = 0 ∧ ∃ v, e = .returned (.tuple #[v, .int .i64 0]) ∧ SegsOwn w' w.heap.size v (segsM m)) ∨
    (validM m ≠ 0 ∧ e = .returned (.tuple #[.slice none 0 0, .int .i64 (validM m)])))
theorem validM_cases (m : Msg) : validM m = 0 ∨ validM m = 1 ∨ validM m = 2 ∨ validM m = 8 := by
  unfold validM
  cases rangeB m <;> cases formB m <;> cases longB m <;> cases m.list.any amtB <;> simp
set_option maxRecDepth 100000 in
set_option maxHeartbeats 4000000 in
theorem segments_any (m : Msg) (A : Option Addr) (c : Nat) (w : World) (hr : Rd w A (ints m.list)) (hb : MBd m) (ht : Tab w) :
    Calls Tryz.prog 41 #[msgV m A c] w (SegmRet w m) := by
  have hrB := RdB.of_rd hr
  have q0 := (Below.refl w.heap.size w).alloc (Nat.le_refl _) (.cells (msgC m A c) 30)
  have hM0 : MBlk (w.alloc (.cells (msgC m A c) 30)) w.heap.size m A c := heap_alloc_new w _
  have hs0 : w.heap.size < (w.alloc (.cells (msgC m A c) 30)).heap.size := by simp
  obtain ⟨g1, hg1⟩ : ∃ g1, w.heap.size = g1 := ⟨_, rfl⟩
  rw [hg1] at hM0
  have hr0 := hrB.below q0
  have ht0 := ht.below q0
  obtain ⟨d0, d1, d2, d3, d4, d5, d6, d7, d8, d9, d10, d11, d12⟩ := hM0.all
  generalize hW0 : w.alloc (.cells (msgC m A c) 30) = W0 at q0 hM0 hs0 hr0 ht0 d0 d1 d2 d3 d4 d5 d6 d7 d8 d9 d10 d11 d12
  have HVA := Lib.hid (validate_m m A c W0 hr0.rd hb)
  have htl := ht.lt
  clear hr hb ht hrB
  by_cases hv : validM m = 0
  · have ok := okM_iff.1 hv
    have HZ := Lib.hid hv
    rw [hv] at HVA
    clear hv
    go_enter Tryz.func41, Tryz.ntmps41
    go_wp2_with fail
    refine HVA.out.mono ?_
    rintro e w1 ⟨rfl, hb1⟩
    have hM1 := hM0.below hb1
    have hr1 := hr0.below (hb1.mono (Nat.le_of_lt hs0))
    have ht1 := ht0.below hb1
    have hB1 := q0.trans (hb1.mono q0.size)
    have q2 := (Below.refl w1.heap.size w1).alloc (Nat.le_refl _) (.cells #[.slice none 0 0] 81)
    have hz1 : w.heap.size < w1.heap.size := Nat.lt_of_lt_of_le hs0 hb1.size
    have hWS : WS (w1.alloc (.cells #[.slice none 0 0] 81)) w1.heap.size (w1.heap.size + 1) [] := ⟨_, heap_alloc_new w1 _, SegsOwn.nil_ _ _, Nat.lt_succ_self _, by simp⟩
    have hM2 := hM1.below q2
    have ht2 := ht1.below q2
    have hr2 := (hr1.below (q2.mono (Nat.le_of_lt hz1))).mono (Nat.le_of_lt hz1)
    have hB2 := hB1.trans (q2.mono hB1.size)
    have hz2 : w1.heap.size < (w1.alloc (.cells #[.slice none 0 0] 81)).heap.size := by simp
    clear d0 d1 d2 d3 d4 d5 d6 d7 d8 d9 d10 d11 d12 hW0
    obtain ⟨d0, d1, d2, d3, d4, d5, d6, d7, d8, d9, d10, d11, d12⟩ := hM2.all
    generalize hW2 : w1.alloc (.cells #[.slice none 0 0] 81) = W2 at q2 hWS hM2 ht2 hr2 hB2 hz2 d0 d1 d2 d3 d4 d5 d6 d7 d8 d9 d10 d11 d12
    have HDS := Lib.hid (describe_any m A c w1.heap.size (w1.heap.size + 1) W2 ok hWS ht2 hr2 (by omega))
    go_wp2_with fail
    refine HDS.out.mono ?_
    rintro e w3 ⟨rfl, hws3, hput3⟩
    clear d0 d1 d2 d3 d4 d5 d6 d7 d8 d9 d10 d11 d12 hW2
    have hM3 := hput3.msg hM2 (by omega)
    have ht3 := hput3.tab ht2 (by omega) (by omega)
    have hB3 := hB2.trans ((hput3.below (by omega) (Nat.le_of_lt hz2)).mono (Nat.le_of_lt hz1))
    have hdl := descM_len m
    obtain ⟨v3, hcw, hso3, hlt3, hle3⟩ := hws3
    obtain ⟨Av, cv, rfl, hcv, hat3⟩ := hso3.at_
    have hcw0 : w3.cell? ⟨w1.heap.size, 0, none⟩ = some (.slice Av (descM m).length cv) := by rw [cell_of_row _ _ _ _ _ _ hcw]; rfl
    have hWS3 : WS w3 w1.heap.size (w1.heap.size + 1) (descM m) := ⟨_, hcw, hso3, hlt3, hle3⟩
    generalize hgw : w1.heap.size = gw at *
    have hd3 := hM3.cell 3
    simp only [msgC, List.getElem?_toArray, List.getElem?_cons_succ, List.getElem?_cons_zero] at hd3
    generalize hDM : descM m = dm at *
    go_wp2_with fail
    refine wp_region_x 13 (by kernel_rfl) (fun w' => w'.cell? ⟨g1, 3, none⟩ = some (.int .i64 m.number)) ?_
    have HS : Hid (w3.drew.cell? ⟨g1, 3, none⟩ = some (.int .i64 m.number)) := hd3
    refine wpAnyX_take (i := 0) (v := .pointer (some ⟨gw, 0, none⟩)) rfl (by kernel_rfl) (by kernel_rfl) (by kernel_rfl) (by kernel_rfl) (fun _ _ _ h => h) HS.out (Or.inl ⟨by rfl, fun w hS => by go_simp⟩) ?_
    go_simp
    refine wpAnyX_take (i := 1) (v := .pointer (some ⟨gw, 0, none⟩)) rfl (by kernel_rfl) (by kernel_rfl) (by kernel_rfl) (by kernel_rfl) (fun _ _ _ h => h) HS.out (Or.inl ⟨by rfl, fun w hS => by go_simp⟩) ?_
    go_simp
    refine wpAnyX_take (i := 2) (v := .pointer (some ⟨gw, 0, none⟩)) rfl (by kernel_rfl) (by kernel_rfl) (by kernel_rfl) (by kernel_rfl) (fun _ _ _ h => h) HS.out (Or.inl ⟨by rfl, fun w hS => by go_simp⟩) ?_
    go_simp
    refine wpAnyX_take (i := 3) (v := .pointer (some ⟨gw, 0, none⟩)) rfl (by kernel_rfl) (by kernel_rfl) (by kernel_rfl) (by kernel_rfl) (fun _ _ _ h => h) HS.out (Or.inl ⟨by rfl, fun w hS => by go_simp⟩) ?_
    go_simp
    refine wpAnyX_take (i := 8) (v := .pointer (some ⟨g1, 3, none⟩)) rfl (by kernel_rfl) (by kernel_rfl) (by kernel_rfl) (by kernel_rfl) (fun _ _ _ h => h) HS.out (Or.inl ⟨by rfl, fun w hS => by go_simp⟩) ?_
    go_simp
    refine wpAnyX_take (i := 9) (v := .int .i64 m.number) rfl (by kernel_rfl) (by kernel_rfl) (by kernel_rfl) (by kernel_rfl) (fun _ _ _ h => h) HS.out (Or.inl ⟨by rfl, fun w hS => by go_simp⟩) ?_
    go_simp
    refine wpAnyX_one (i := 4) (by kernel_rfl) rfl (fun K hK => ?_)
    go_simp
    refine hK.out _ _ (fun _ => HS.out) ?_
    clear hK K
    refine wpAnyX_take (i := 5) (v := .int .i64 (dm.length : Int)) rfl (by kernel_rfl) (by kernel_rfl) (by kernel_rfl) (by kernel_rfl) (fun _ _ _ h => h) HS.out (Or.inl ⟨by rfl, fun w hS => by go_simp⟩) ?_
    go_simp
    refine wpAnyX_take (i := 6) (v := .int .i64 ((dm.length : Int) + 1)) rfl (by kernel_rfl) (by kernel_rfl) (by kernel_rfl) (by kernel_rfl) (fun _ _ _ h => h) HS.out (Or.inl ⟨by rfl, fun w hS => by go_simp; exact IntWalk.i64_in _ (by omega)⟩) ?_
    go_simp
    have hn := ok.number
    refine wpAnyX_one (i := 7) (by kernel_rfl) rfl (fun K hK => ?_)
    go_simp
    go_wp2_with (go_at_call 46; refine (number_any ((dm.length : Int) + 1) (by omega) (by omega) w3.drew ht3).mono ?_; rintro e w4 ⟨A4, c4, rfl, ho4, hb4⟩)
    have hb4 : Below w3.heap.size w3 w4 := ⟨hb4.os, hb4.tape, hb4.output, hb4.size, hb4.block⟩
    have ht4 := ht3.below hb4
    have hlg : gw < w3.heap.size := by omega
    have hlg1 := hM3.lt
    clear HS
    have HS : Hid (w4.cell? ⟨g1, 3, none⟩ = some (.int .i64 m.number)) := (hb4.cell (p := ⟨g1, 3, none⟩) hlg1).trans hd3
    refine hK.out _ _ (fun _ => HS.out) ?_
    clear hK K
    refine wpAnyX_one (i := 10) (by kernel_rfl) rfl (fun K hK => ?_)
    go_simp
    go_wp2_with (go_at_call 46; refine (number_any m.number (by omega) (by omega) w4 ht4).mono ?_; rintro e w5 ⟨A5, c5, rfl, ho5, hb5⟩)
    have hb35 := hb4.trans (hb5.mono hb4.size)
    refine hK.out _ _ (fun _ => (hb35.cell (p := ⟨g1, 3, none⟩) hlg1).trans hd3) ?_
    clear hK K
    have hB5z : gw + 1 ≤ w5.heap.size := Nat.le_trans hle3 hb35.size
    have ho4' : OwnStr w5 (gw + 1) (.slice A4 (elN ((dm.length : Int) + 1)).length c4) (elN ((dm.length : Int) + 1)) := (ho4.mono (B' := gw + 1) hle3).below hb5
    have ho5' : OwnStr w5 (gw + 1) (.slice A5 (elN m.number).length c5) (elN m.number) := ho5.mono (B' := gw + 1) (Nat.le_trans hle3 hb4.size)
    have hEL := els2 (w := w5) hB5z ho4' ho5'
    have qe := (Below.refl w5.heap.size w5).alloc (Nat.le_refl _) (.cells #[.slice A4 (elN ((dm.length : Int) + 1)).length c4, .slice A5 (elN m.number).length c5] 60)
    have hb36 := hb35.trans (qe.mono hb35.size)
    have hWSe := (hWS3.below hb35).below qe
    refine wpAnyX_one (i := 11) (by kernel_rfl) rfl (fun K hK => ?_)
    go_simp
    refine hK.out _ _ (fun _ => (hb36.cell (p := ⟨g1, 3, none⟩) hlg1).trans hd3) ?_
    clear hK K
    refine wpAnyX_one (i := 12) (by kernel_rfl) rfl (fun K hK => ?_)
    go_simp
    go_wp2_with (go_at_call 45; refine (put_any gw (gw + 1) dm tEND _ 2 _ _ hWSe hEL (by omega)).mono ?_; rintro e wp ⟨rfl, hws, hput⟩)
    have hBp := (hB3.trans (hb36.mono hB3.size)).trans ((hput.below (by omega) (by have := qe.size; omega)).mono (by omega))
    have hDp1 : WS wp gw (gw + 1) (dm ++ [sEND m (dm.length + 1)]) := hws
    have hcwp : wp.cell? ⟨g1, 3, none⟩ = some (.int .i64 m.number) := by
      have h := (hput.msg ((hM3.below hb35).below qe) (by omega)).cell 3
      simpa [msgC] using h
    refine hK.out _ _ (fun _ => hcwp) ?_
    clear hK K
    refine wpAnyX_done (by kernel_rfl) ?_
    obtain ⟨v5, hcw5, hso5, _, _⟩ := hDp1
    obtain ⟨A6, c6, hv6, _, _⟩ := hso5.at_
    rw [List.length_append] at hv6
    have hv6 : v5 = .slice A6 (dm.length + 1) c6 := hv6
    subst hv6
    have hcc5 : wp.cell? ⟨gw, 0, none⟩ = some (.slice A6 (dm.length + 1) c6) := by rw [cell_of_row _ _ _ _ _ _ hcw5]; rfl
    go_wp2_with fail
    go_ret2
    refine ⟨hBp, .inl ⟨HZ.out, _, rfl, ?_⟩⟩
    have e : segsM m = dm ++ [sEND m (dm.length + 1)] := by unfold segsM; rw [hDM]
    rw [e]
    exact SegsOwn.mono (B := gw + 1) (B' := w.heap.size) hso5 (by omega)
  · have HN := Lib.hid hv
    have hne : (validM m != 0) = true := by simpa using hv
    clear hv
    go_enter Tryz.func41, Tryz.ntmps41
    go_wp2_with fail
    refine HVA.out.mono ?_
    rintro e w1 ⟨rfl, hb1⟩
    go_wp2_with fail
    go_ret2
    exact ⟨q0.trans (hb1.mono q0.size), .inr ⟨HN.out, rfl⟩⟩
end Go.Proofs.YtmjlnckmhdgoiaaGreatDoor
