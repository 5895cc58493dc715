/- Contract of customsmade.Message: some valid message. -/
import Derived.Test.YtmjlnckmhdgoiaaGreatDoorMe
import Derived.Test.YtmjlnckmhdgoiaaGreatDoorLast
import Derived.IntWalk
namespace Go.Proofs.YtmjlnckmhdgoiaaGreatDoor
open Go.RowKit
set_option linter.unusedVariables false

theorem cat_bytes (a b : Bs) : ({ data := a.toArray } ++ { data := b.toArray } : ByteArray) = { data := (a ++ b).toArray } := by
  apply ByteArray.ext
  simp [ByteArray.data_append]
theorem MBlk.all {W : World} {g : Nat} {m : Msg} {A : Option Addr} {c : Nat} (h : MBlk W g m A c) : W.cell? ⟨g, 0, none⟩ = some (.int .i64 m.kind) ∧ W.cell? ⟨g, 1, none⟩ = some (.int .i64 m.src) ∧ W.cell? ⟨g, 2, none⟩ = some (.int .i64 m.dst) ∧ W.cell? ⟨g, 3, none⟩ = some (.int .i64 m.number) ∧ W.cell? ⟨g, 4, none⟩ = some (.int .i64 m.day) ∧ W.cell? ⟨g, 5, none⟩ = some (.int .i64 m.lot) ∧ W.cell? ⟨g, 6, none⟩ = some (.int .i64 m.other) ∧ W.cell? ⟨g, 7, none⟩ = some (.string ⟨m.code.toArray⟩) ∧ W.cell? ⟨g, 8, none⟩ = some (.string ⟨m.country.toArray⟩) ∧ W.cell? ⟨g, 9, none⟩ = some (.int .i64 m.quantity) ∧ W.cell? ⟨g, 10, none⟩ = some (.int .i64 m.amount) ∧ W.cell? ⟨g, 11, none⟩ = some (.slice A m.list.length c) ∧ W.cell? ⟨g, 12, none⟩ = some (.string ⟨m.text.toArray⟩) :=
  ⟨h.cell 0, h.cell 1, h.cell 2, h.cell 3, h.cell 4, h.cell 5, h.cell 6, h.cell 7, h.cell 8, h.cell 9, h.cell 10, h.cell 11, h.cell 12⟩
/-- a valid message, field by field -/
structure OkM (m : Msg) : Prop where
  kind : 1 ≤ m.kind ∧ m.kind ≤ 60
  src : 0 ≤ m.src ∧ m.src ≤ 999
  dst : 0 ≤ m.dst ∧ m.dst ≤ 999
  number : 0 ≤ m.number ∧ m.number ≤ 1000000000
  day : 0 ≤ m.day ∧ m.day ≤ 36524
  lot : 0 ≤ m.lot ∧ m.lot ≤ 1000000000
  other : 0 ≤ m.other ∧ m.other ≤ 1000000000
  code : codeB m.code = true
  country : countryB m.country = true
  quantity : 0 ≤ m.quantity ∧ m.quantity ≤ 1000000000
  amount : -1000000000000 ≤ m.amount ∧ m.amount ≤ 1000000000000
  list : ∀ x ∈ m.list, -1000000000000 ≤ x ∧ x ≤ 1000000000000
  ll : m.list.length ≤ 64
  tl : m.text.length ≤ 200
theorem okM_iff {m : Msg} : validM m = 0 ↔ OkM m := by
  rw [validM_zero]
  unfold rangeB formB longB amtB
  simp only [Bool.or_eq_false_iff, outB_false, Bool.not_eq_false', decide_eq_false_iff_not, List.any_eq_false, Bool.not_eq_true, Nat.not_lt]
  constructor
  · rintro ⟨⟨h1, h2, h3, h4, h5, h6, h7, h8, h9⟩, ⟨h10, h11⟩, ⟨h12, h13⟩, h14⟩
    exact ⟨h1, h2, h3, h4, h5, h6, h7, h10, h11, h8, h9, h14, h12, h13⟩
  · rintro ⟨h1, h2, h3, h4, h5, h6, h7, h10, h11, h8, h9, h14, h12, h13⟩
    exact ⟨⟨h1, h2, h3, h4, h5, h6, h7, h8, h9⟩, ⟨h10, h11⟩, ⟨h12, h13⟩, h14⟩
theorem code_nil : codeB [] = true := by decide
theorem country_nil : countryB [] = true := by decide
theorem OkM.start {k f t n d : Int} (h1 : 0 ≤ k ∧ k < 60) (h2 : 0 ≤ f ∧ f < 1000) (h3 : 0 ≤ t ∧ t < 1000) (h4 : 0 ≤ n ∧ n < 1000000001) (h5 : 0 ≤ d ∧ d < 36525) : OkM ⟨1 + k, f, t, n, d, 0, 0, [], [], 0, 0, [], []⟩ :=
  ⟨by simp only; omega, by simp only; omega, by simp only; omega, by simp only; omega, by simp only; omega, by simp, by simp, code_nil, country_nil, by simp, by simp, (fun x hx => by cases hx), by simp, by simp⟩
structure MSt (w W : World) (gs gm : Nat) (A : Option Addr) (c : Nat) (l : List Int) (m : Msg) (Av : Option Addr) (cv : Nat) : Prop where
  src : ∃ i, Src W gs A c l i
  blk : MBlk W gm m Av cv
  res : MBlk W w.heap.size zeroM none 0
  below : Below w.heap.size w W
  own : W.ownsRow (gm + 1) 3 1 (.slice Av m.list.length cv) m.list.length (ints m.list)
  gs_eq : w.heap.size < gs
  gm_lt : gs < gm
  ok : OkM m
section
variable {w W W' : World} {gs gm : Nat} {A Av : Option Addr} {c cv : Nat} {l : List Int} {m : Msg}
theorem MSt.turn (h : MSt w W gs gm A c l m Av cv) {i : Nat} (hS : Src W' gs A c l i) (hT : Turned gs W W') : MSt w W' gs gm A c l m Av cv :=
  ⟨⟨i, hS⟩, h.blk.kept hT (by intro e; injection e with e; have := h.gm_lt; omega), h.res.kept hT (by intro e; injection e with e; have := h.gs_eq; omega), h.below.trans (hT.below (Nat.le_of_lt h.gs_eq) h.below.size), hT.own h.own (Nat.lt_succ_of_lt h.gm_lt), h.gs_eq, h.gm_lt, h.ok⟩
theorem MSt.put (h : MSt w W gs gm A c l m Av cv) {m' : Msg} (k : Nat) (v : Value) (hb : MBlk (W.setCell ⟨gm, k, none⟩ v) gm m' Av cv) (hl : m'.list = m.list) (ok : OkM m') : MSt w (W.setCell ⟨gm, k, none⟩ v) gs gm A c l m' Av cv := by
  obtain ⟨i, hs⟩ := h.src
  have h1 := h.gm_lt
  have h2 := h.gs_eq
  refine ⟨⟨i, hs.belowB ((Below.refl gm W).setCell (p := ⟨gm, k, none⟩) (Nat.le_refl _) v) h1⟩, hb, h.res.other _ (by simp; omega) v, h.below.setCell (by simp; omega) v, ?_, h2, h1, ok⟩
  rw [hl]
  exact own_set h.own (p := ⟨gm, k, none⟩) (Nat.lt_succ_self _) v
end
def MadeM (w : World) (e : Ending) (w' : World) : Prop :=
  ∃ (m : Msg) (A : Option Addr) (c : Nat), e = .returned (msgV m A c) ∧ OkM m ∧ w'.ownsRow w.heap.size 3 1 (.slice A m.list.length c) m.list.length (ints m.list) ∧ Below w.heap.size w w'
theorem intInfo : (Tryz.prog.info? 3).map (fun i => (i.zero, i.size, i.bytes)) = some (some (.int .i64 0), 1, 8) := by kernel_rfl
/-- slots behind a cut: nothing but the state -/
def MCut (w : World) (gs gm : Nat) (A : Option Addr) (c : Nat) (l : List Int) (W : World) : Prop := ∃ m, MSt w W gs gm A c l m none 0 ∧ m.list = [] ∧ m.text = []
def MLoop (w : World) (gs gm : Nat) (A : Option Addr) (c : Nat) (l : List Int) (g : Nat) (v : Value) (W : World) : Prop := ∃ m Av cv, MSt w W gs gm A c l m Av cv ∧ m.text = [] ∧ v = .int .i64 (g : Int) ∧ m.list.length + g ≤ 5
set_option maxRecDepth 100000 in
set_option maxHeartbeats 4000000 in
theorem mMessage_any (A : Option Addr) (c : Nat) (l0 : List Int) (w : World) (hr : Rd w A (ints l0)) (hc : l0.length ≤ c) (hcm : c ≤ 9223372036854775807) :
    Calls Tryz.prog 9 #[.slice A l0.length c] w (MadeM w) := by
  have hl60 : (l0.take 60).length ≤ 60 := by rw [List.length_take]; omega
  have hrl : Rd w A (ints (l0.take 60)) := by have := hr.take 60; rwa [ints, ← List.map_take] at this
  have HCT := Lib.hid (fun W => mcut_any A c l0 60 W hc hcm (by omega))
  generalize l0.take 60 = l at hl60 hrl HCT
  have q0 := (Below.refl w.heap.size w).alloc (Nat.le_refl _) (.cells #[.int .i64 0, .int .i64 0, .int .i64 0, .int .i64 0, .int .i64 0, .int .i64 0, .int .i64 0, .string ⟨#[]⟩, .string ⟨#[]⟩, .int .i64 0, .int .i64 0, .slice none 0 0, .string ⟨#[]⟩] 30)
  have hR0 : MBlk (w.alloc (.cells #[.int .i64 0, .int .i64 0, .int .i64 0, .int .i64 0, .int .i64 0, .int .i64 0, .int .i64 0, .string ⟨#[]⟩, .string ⟨#[]⟩, .int .i64 0, .int .i64 0, .slice none 0 0, .string ⟨#[]⟩] 30)) w.heap.size zeroM none 0 := heap_alloc_new w _
  obtain ⟨gs, hgs⟩ : ∃ gs, gs = w.heap.size + 1 := ⟨_, rfl⟩
  have hz0 : (w.alloc (.cells #[.int .i64 0, .int .i64 0, .int .i64 0, .int .i64 0, .int .i64 0, .int .i64 0, .int .i64 0, .string ⟨#[]⟩, .string ⟨#[]⟩, .int .i64 0, .int .i64 0, .slice none 0 0, .string ⟨#[]⟩] 30)).heap.size = gs := by simp [hgs]
  have hgs0 : w.heap.size < gs := by omega
  have hrl0 := (RdB.of_rd hrl).below q0
  generalize hW0 : w.alloc (.cells #[.int .i64 0, .int .i64 0, .int .i64 0, .int .i64 0, .int .i64 0, .int .i64 0, .int .i64 0, .string ⟨#[]⟩, .string ⟨#[]⟩, .int .i64 0, .int .i64 0, .slice none 0 0, .string ⟨#[]⟩] 30) = W0 at q0 hR0 hz0 hrl0
  have q1 := (Below.refl W0.heap.size W0).alloc (Nat.le_refl _) (.cells #[.slice A l.length c, .int .i64 0] 66)
  have hS1 : Src (W0.alloc (.cells #[.slice A l.length c, .int .i64 0] 66)) gs A c l 0 := ⟨by have := heap_alloc_new W0 (.cells #[.slice A l.length c, .int .i64 0] 66); rw [hz0] at this; exact this, Nat.zero_le _, (hrl0.mono (Nat.le_of_lt hgs0)).below (q1.mono (Nat.le_of_eq hz0.symm)), by omega⟩
  have hR1 := hR0.below q1
  have hB1 := q0.trans (q1.mono q0.size)
  generalize hW1 : W0.alloc (.cells #[.slice A l.length c, .int .i64 0] 66) = W1 at q1 hS1 hR1 hB1
  clear hgs hrl hrl0 hr q0 hR0
  have HN := Lib.hid (fun (n : Int) (i : Nat) (W : World) (h : Src W gs A c l i) (hn : 0 < n) (hn2 : n ≤ 1000000000000000) => srcNext_any gs A c l i n W h hn hn2)
  have HCD := Lib.hid (fun (i : Nat) (n : Nat) (W : World) (h : Src W gs A c l i) (hn : 1 ≤ n) (hn2 : n ≤ 4) => srcCode_any gs A c l i n W h hn hn2)
  have HCY := Lib.hid (fun (i : Nat) (W : World) (h : Src W gs A c l i) => srcCountry_any gs A c l i W h)
  have HTX := Lib.hid (fun (i : Nat) (W : World) (h : Src W gs A c l i) => srcText_any gs A c l i W h)
  obtain ⟨i0, hi0, hz0', hz1, hz2⟩ := info_parts intInfo
  go_enter Tryz.func9, Tryz.ntmps9
  go_wp2_with fail
  refine (HCT.out _).mono ?_
  rintro e w1 ⟨rfl, rfl⟩
  go_wp2_with fail
  refine (HN.out 60 0 _ hS1 (by omega) (by omega)).mono ?_
  rintro e w2 ⟨x2, i2, rfl, hx2, hy2, hS2, hT2⟩
  go_wp2_with fail
  refine (HN.out 1000 i2 w2 hS2 (by omega) (by omega)).mono ?_
  rintro e w3 ⟨x3, i3, rfl, hx3, hy3, hS3, hT3⟩
  go_wp2_with fail
  refine (HN.out 1000 i3 w3 hS3 (by omega) (by omega)).mono ?_
  rintro e w4 ⟨x4, i4, rfl, hx4, hy4, hS4, hT4⟩
  go_wp2_with fail
  refine (HN.out 1000000001 i4 w4 hS4 (by omega) (by omega)).mono ?_
  rintro e w5 ⟨x5, i5, rfl, hx5, hy5, hS5, hT5⟩
  go_wp2_with fail
  refine (HN.out 36525 i5 w5 hS5 (by omega) (by omega)).mono ?_
  rintro e w6 ⟨x6, i6, rfl, hx6, hy6, hS6, hT6⟩
  have hTT := ((((hT2).trans hT3).trans hT4).trans hT5).trans hT6
  have hRR := hR1.kept hTT (by intro e; injection e with e; omega)
  have hBB := hB1.trans (hTT.below (Nat.le_of_lt hgs0) hB1.size)
  have hGM := hS6.lt
  have qm := (Below.refl w6.heap.size w6).alloc (Nat.le_refl _) (.cells #[.int .i64 (1 + x2), .int .i64 x3, .int .i64 x4, .int .i64 x5, .int .i64 x6, .int .i64 0, .int .i64 0, .string ⟨#[]⟩, .string ⟨#[]⟩, .int .i64 0, .int .i64 0, .slice none 0 0, .string ⟨#[]⟩] 30)
  have hMS : MSt w (w6.alloc (.cells #[.int .i64 (1 + x2), .int .i64 x3, .int .i64 x4, .int .i64 x5, .int .i64 x6, .int .i64 0, .int .i64 0, .string ⟨#[]⟩, .string ⟨#[]⟩, .int .i64 0, .int .i64 0, .slice none 0 0, .string ⟨#[]⟩] 30)) gs w6.heap.size A c l ⟨1 + x2, x3, x4, x5, x6, 0, 0, [], [], 0, 0, [], []⟩ none 0 :=
    ⟨⟨i6, hS6.below qm⟩, heap_alloc_new w6 _, hRR.below qm, hBB.trans (qm.mono hBB.size), World.ownsRow_nil _ _ _ _, hgs0, hGM, OkM.start ⟨by assumption, by assumption⟩ ⟨by assumption, by assumption⟩ ⟨by assumption, by assumption⟩ ⟨by assumption, by assumption⟩ ⟨by assumption, by assumption⟩⟩
  go_wp2_with fail
  generalize w6.alloc (.cells #[.int .i64 (1 + x2), .int .i64 x3, .int .i64 x4, .int .i64 x5, .int .i64 x6, .int .i64 0, .int .i64 0, .string ⟨#[]⟩, .string ⟨#[]⟩, .int .i64 0, .int .i64 0, .slice none 0 0, .string ⟨#[]⟩] 30) = Wm at hMS qm ⊢
  generalize w6.heap.size = gm at hMS qm ⊢
  have hM0 : MCut w gs gm A c l Wm := ⟨_, hMS, rfl, rfl⟩
  have HM0 := Lib.hid hM0
  clear hM0 hTT hRR hBB qm hMS hGM
  obtain ⟨m, hM, hl0, ht0⟩ := HM0.out
  obtain ⟨i, hSi⟩ := hM.src
  refine (HN.out 3 i Wm hSi (by omega) (by omega)).mono ?_
  rintro e w7 ⟨x7, i7, rfl, hx7, hy7, hS7, hT7⟩
  have hM7 := hM.turn hS7 hT7
  go_upto_if 25 with (fail)
  go_cut [25] (fun s25 wx => MCut w gs gm A c l wx)
  case first =>
    by_cases hpos : 0 < x7
    · go_wp2_with fail
      refine (HN.out 1000000001 i7 w7 hS7 (by omega) (by omega)).mono ?_
      rintro e w8 ⟨x8, i8, rfl, hx8, hy8, hS8, hT8⟩
      have hM8 := hM7.turn hS8 hT8
      go_wp2_with fail
      refine (HN.out 2 i8 w8 hS8 (by omega) (by omega)).mono ?_
      rintro e w9 ⟨x9, i9, rfl, hx9, hy9, hS9, hT9⟩
      have hM9 := hM8.turn hS9 hT9
      have hc5_9 := hM9.blk.cell 5
      have hf5_9 := hM9.blk.frozen 5
      have hc6_9 := hM9.blk.cell 6
      have hf6_9 := hM9.blk.frozen 6
      go_wp2_with fail
      go_meet
      have hA := hM9.put 5 (.int .i64 x8) (hM9.blk.setLot x8) rfl { hM9.ok with lot := ⟨hx8, by simp only; omega⟩ }
      exact ⟨_, hA.put 6 (.int .i64 x9) (hA.blk.setOther x9) rfl { hA.ok with other := ⟨hx9, by simp only; omega⟩ }, hl0, ht0⟩
    · go_wp2_with fail
      go_meet
      exact ⟨_, hM7, hl0, ht0⟩
  case rest =>
    obtain ⟨wd, rfl⟩ : ∃ x, x = wc := ⟨_, rfl⟩
    obtain ⟨m, hM, hl0, ht0⟩ := hcut
    obtain ⟨i, hSi⟩ := hM.src
    go_wp2_with fail
    refine (HN.out 3 i wd hSi (by omega) (by omega)).mono ?_
    rintro e w10 ⟨x10, i10, rfl, hx10, hy10, hS10, hT10⟩
    have hM10 := hM.turn hS10 hT10
    go_upto_if 34 with (fail)
    go_cut [34] (fun s34 wx => MCut w gs gm A c l wx)
    case first =>
      by_cases hpos : 0 < x10
      · go_wp2_with fail
        refine (HN.out 5 i10 w10 hS10 (by omega) (by omega)).mono ?_
        rintro e w11 ⟨x11, i11, rfl, hx11, hy11, hS11, hT11⟩
        have hM11 := hM10.turn hS11 hT11
        by_cases hn : 0 < x11
        · obtain ⟨n, rfl⟩ : ∃ n : Nat, x11 = (n : Int) := ⟨x11.toNat, by omega⟩
          go_wp2_with fail
          refine (HCD.out i11 n w11 hS11 (by omega) (by omega)).mono ?_
          rintro e w12 ⟨s, i12, rfl, hcode, hslen, hS12, hT12⟩
          have hM12 := hM11.turn hS12 hT12
          have hc7_12 := hM12.blk.cell 7
          have hf7_12 := hM12.blk.frozen 7
          have hA := hM12.put 7 (.string ⟨s.toArray⟩) (hM12.blk.setCode s) rfl { hM12.ok with code := hcode }
          have hAs := hA.src
          obtain ⟨ia, hSa⟩ := hAs
          generalize hWa : w12.setCell ⟨gm, 7, none⟩ (.string ⟨s.toArray⟩) = Wa at hA hSa
          go_wp2_with fail
          refine (HN.out 1000000001 ia Wa hSa (by omega) (by omega)).mono ?_
          rintro e w13 ⟨x13, i13, rfl, hx13, hy13, hS13, hT13⟩
          have hM13 := hA.turn hS13 hT13
          have hc9_13 := hM13.blk.cell 9
          have hf9_13 := hM13.blk.frozen 9
          go_wp2_with fail
          go_meet
          exact ⟨_, hM13.put 9 (.int .i64 x13) (hM13.blk.setQuantity x13) rfl { hM13.ok with quantity := ⟨hx13, by simp only; omega⟩ }, hl0, ht0⟩
        · go_wp2_with fail
          refine (HN.out 1000000001 i11 w11 hS11 (by omega) (by omega)).mono ?_
          rintro e w14 ⟨x14, i14, rfl, hx14, hy14, hS14, hT14⟩
          have hM14 := hM11.turn hS14 hT14
          have hc9_14 := hM14.blk.cell 9
          have hf9_14 := hM14.blk.frozen 9
          go_wp2_with fail
          go_meet
          exact ⟨_, hM14.put 9 (.int .i64 x14) (hM14.blk.setQuantity x14) rfl { hM14.ok with quantity := ⟨hx14, by simp only; omega⟩ }, hl0, ht0⟩
      · go_wp2_with fail
        go_meet
        exact ⟨_, hM10, hl0, ht0⟩
    case rest =>
      clear hM hSi
      obtain ⟨we, rfl⟩ : ∃ x, x = wc := ⟨_, rfl⟩
      obtain ⟨m, hM, hl0, ht0⟩ := hcut
      obtain ⟨i, hSi⟩ := hM.src
      go_wp2_with fail
      refine (HN.out 3 i we hSi (by omega) (by omega)).mono ?_
      rintro e w15 ⟨x15, i15, rfl, hx15, hy15, hS15, hT15⟩
      have hM15 := hM.turn hS15 hT15
      go_upto_if 49 with (fail)
      go_cut [49] (fun s49 wx => MCut w gs gm A c l wx)
      case first =>
        by_cases hpos : 0 < x15
        · go_wp2_with fail
          refine (HCY.out i15 w15 hS15).mono ?_
          rintro e w16 ⟨s, i16, rfl, hcty, hslen, hS16, hT16⟩
          have hM16 := hM15.turn hS16 hT16
          have hc8_16 := hM16.blk.cell 8
          have hf8_16 := hM16.blk.frozen 8
          have hA := hM16.put 8 (.string ⟨s.toArray⟩) (hM16.blk.setCountry s) rfl { hM16.ok with country := hcty }
          have hAs := hA.src
          obtain ⟨ia, hSa⟩ := hAs
          generalize hWa : w16.setCell ⟨gm, 8, none⟩ (.string ⟨s.toArray⟩) = Wa at hA hSa
          go_wp2_with fail
          refine (HN.out 2000000000001 ia Wa hSa (by omega) (by omega)).mono ?_
          rintro e w17 ⟨x17, i17, rfl, hx17, hy17, hS17, hT17⟩
          have hM17 := hA.turn hS17 hT17
          have hc10_17 := hM17.blk.cell 10
          have hf10_17 := hM17.blk.frozen 10
          go_wp2_with fail
          go_meet
          exact ⟨_, hM17.put 10 (.int .i64 (x17 - 1000000000000)) (hM17.blk.setAmount _) rfl { hM17.ok with amount := ⟨by simp only; omega, by simp only; omega⟩ }, hl0, ht0⟩
        · go_wp2_with fail
          go_meet
          exact ⟨_, hM15, hl0, ht0⟩
      case rest =>
        clear hM hSi
        obtain ⟨wf, rfl⟩ : ∃ x, x = wc := ⟨_, rfl⟩
        obtain ⟨m, hM, hl0, ht0⟩ := hcut
        obtain ⟨i, hSi⟩ := hM.src
        go_wp2_with fail
        refine (HN.out 6 i wf hSi (by omega) (by omega)).mono ?_
        rintro e w18 ⟨x18, i18, rfl, hx18, hy18, hS18, hT18⟩
        have hM18 := hM.turn hS18 hT18
        obtain ⟨n, rfl⟩ : ∃ n : Nat, x18 = (n : Int) := ⟨x18.toNat, by omega⟩
        go_wp2_with fail
        go_loopg [6] n (fun f v wr => MLoop w gs gm A c l f v wr)
        case atStart => exact ⟨m, none, 0, hM18, ht0, rfl, by rw [hl0]; simp; omega⟩
        case round =>
          clear hM hSi hM18 hS18 hT18 hx18 hy18
          obtain ⟨m, Av, cv, hM, ht0, rfl, hlen⟩ := hrel
          obtain ⟨i, hSi⟩ := hM.src
          have hoB := hM.own
          have hgl := hM.gm_lt
          have hgz := hM.blk.lt
          by_cases hg0 : 0 < gk
          · have hgp : (0 : Int) < (gk : Int) := by omega
            have hdg : decide (0 < gk) = true := by simpa using hg0
            have hc11 := hM.blk.cell 11
            have hf11 := hM.blk.frozen 11
            simp only [msgC, List.getElem?_toArray, List.getElem?_cons_succ, List.getElem?_cons_zero] at hc11
            have HM := Lib.hid hM
            clear hM
            go_wp2_with fail
            refine wp_region_x 8 (by kernel_rfl) (fun w' => w'.cell? ⟨gm, 11, none⟩ = some (.slice Av m.list.length cv)) ?_
            have HS : Hid (wr.drew.cell? ⟨gm, 11, none⟩ = some (.slice Av m.list.length cv)) := hc11
            refine wpAnyX_take (i := 0) (v := .pointer (some ⟨gm, 11, none⟩)) rfl (by kernel_rfl) (by kernel_rfl) (by kernel_rfl) (by kernel_rfl) (fun _ _ _ h => h) HS.out (Or.inl ⟨by rfl, fun w hS => by go_simp⟩) ?_
            go_simp
            refine wpAnyX_take (i := 1) (v := .slice Av m.list.length cv) rfl (by kernel_rfl) (by kernel_rfl) (by kernel_rfl) (by kernel_rfl) (fun _ _ _ h => h) HS.out (Or.inl ⟨by rfl, fun w hS => by go_simp⟩) ?_
            go_simp
            refine wpAnyX_take (i := 2) (v := .pointer (some ⟨gs, 0, none⟩)) rfl (by kernel_rfl) (by kernel_rfl) (by kernel_rfl) (by kernel_rfl) (fun _ _ _ h => h) HS.out (Or.inl ⟨by rfl, fun w hS => by go_simp⟩) ?_
            go_simp
            refine wpAnyX_one (i := 3) (by kernel_rfl) rfl (fun K hK => ?_)
            go_simp
            go_wp2_with (go_at_call 29; refine (HN.out 2000000000001 i wr.drew hSi (by omega) (by omega)).mono ?_; rintro e w3 ⟨x3, i3, rfl, hx3, hy3, hS3, hT3⟩)
            have hT3' : Turned gs wr w3 := ⟨hT3.os, hT3.tape, hT3.output, hT3.size, hT3.block⟩
            have hM3 := HM.out.turn hS3 hT3'
            have hcc := hM3.blk.cell 11
            simp only [msgC, List.getElem?_toArray, List.getElem?_cons_succ, List.getElem?_cons_zero] at hcc
            have hff := hM3.blk.frozen 11
            have hgz3 := hM3.blk.lt
            clear HS
            have HS := Lib.hid hcc
            refine hK.out _ _ (fun _ => HS.out) ?_
            clear hK K
            refine wpAnyX_take (i := 4) (v := .int .i64 (x3 - 1000000000000)) rfl (by kernel_rfl) (by kernel_rfl) (by kernel_rfl) (by kernel_rfl) (fun _ _ _ h => h) HS.out (Or.inl ⟨by rfl, fun w hS => by go_simp; exact IntWalk.i64_in _ (by omega)⟩) ?_
            go_simp
            refine wpAnyX_one (i := 5) (by kernel_rfl) rfl (fun K hK => ?_)
            go_simp
            have qa := (Below.refl w3.heap.size w3).alloc (Nat.le_refl _) (.cells #[.int .i64 (x3 - 1000000000000)] 3)
            refine hK.out _ _ (fun _ => (qa.cell (p := ⟨gm, 11, none⟩) hgz3).trans hcc) ?_
            clear hK K
            refine wpAnyX_one (i := 6) (by kernel_rfl) rfl (fun K hK => ?_)
            refine step_append_one w3 (by rfl) (.tmp 64) (.tmp 68) 22 (by rfl) (gm + 1) 3 i0 _ 1 8 Tryz.underlying22 hi0 hz0' hz1 hz2 rfl (by omega) (.slice Av m.list.length cv) m.list.length (ints m.list) [.int .i64 (x3 - 1000000000000)] rfl (by simp [Value.oneCell']) (by rfl) hM3.own (by rfl) (by unfold maxLen; omega) (by omega) hgz3 ?_
            intro v5 w5 hown5 hb5 hg5
            have hcc5 := (hb5.cell (p := ⟨gm, 11, none⟩) (Nat.lt_succ_self _)).trans hcc
            have hff5 := (hb5.frozen (p := ⟨gm, 11, none⟩) (Nat.lt_succ_self _)).trans hff
            have hbl5 := hM3.blk.belowB hb5 (Nat.lt_succ_self _)
            have hre5 := hM3.res.belowB hb5 (by omega)
            have hS5 := hS3.belowB hb5 (by omega)
            have hB5 := hM3.below.trans (hb5.mono (by omega))
            obtain ⟨A5, c5, rfl, _, _⟩ := own_shape hown5
            refine hK.out _ _ (fun _ => hcc5) ?_
            clear hK K
            go_simp
            refine wpAnyX_one (i := 7) (by kernel_rfl) rfl (fun K hK => ?_)
            go_simp
            refine hK.out _ _ (fun _ => hcc5) ?_
            clear hK K
            refine wpAnyX_one (i := 8) (by kernel_rfl) rfl (fun K hK => ?_)
            go_simp
            refine hK.out _ _ (fun h => absurd rfl h) ?_
            clear hK K
            refine wpAnyX_done (by kernel_rfl) ?_
            go_wp2_with fail
            go_roundg (gk - 1)
            case measure => omega
            case rel =>
              have hl6 : (m.list ++ [x3 - 1000000000000]).length = m.list.length + 1 := by simp
              have hblk := hbl5.setList (m.list ++ [x3 - 1000000000000]) A5 c5
              rw [hl6] at hblk
              refine ⟨{ m with list := m.list ++ [x3 - 1000000000000] }, A5, c5, ⟨⟨i3, hS5.belowB ((Below.refl gm w5).setCell (p := ⟨gm, 11, none⟩) (Nat.le_refl _) _) hgl⟩, hblk, hre5.other _ (by simp; have := hM3.gs_eq; omega) _, hB5.setCell (by simp; have := hM3.gs_eq; omega) _, ?_, hM3.gs_eq, hgl, ?_⟩, ht0, by congr 1; omega, by simp; omega⟩
              · simp only
                rw [hl6]
                have := own_set hown5 (p := ⟨gm, 11, none⟩) (Nat.lt_succ_self _) (.slice A5 (m.list.length + 1) c5)
                unfold ints at this ⊢
                rw [List.map_append]
                exact this
              · have hok := hM3.ok
                refine { hok with list := fun x hx => ?_, ll := by simp; omega }
                simp only at hx
                rcases List.mem_append.1 hx with hx | hx
                · exact hok.list x hx
                · simp only [List.mem_singleton] at hx
                  subst hx
                  exact ⟨by omega, by omega⟩
          · have hgp : ¬ (0 : Int) < (gk : Int) := by omega
            have hdg : decide (0 < gk) = false := by simpa using hg0
            clear hoB hgz hgl hg0
            go_wp2_with fail
            refine (HN.out 3 i wr hSi (by omega) (by omega)).mono ?_
            rintro e w3 ⟨x3, i3, rfl, hx3, hy3, hS3, hT3⟩
            have hM3 := hM.turn hS3 hT3
            clear hM hT3
            by_cases hpos : 0 < x3
            · go_wp2_with fail
              refine (HTX.out i3 w3 hS3).mono ?_
              rintro e w4 ⟨t4, i4, rfl, ht4, hS4, hT4⟩
              have hM4 := hM3.turn hS4 hT4
              clear hM3 hT4
              go_wp2_with fail
              refine (HTX.out i4 w4 hS4).mono ?_
              rintro e w5 ⟨t5, i5, rfl, ht5, hS5, hT5⟩
              have hM5 := hM4.turn hS5 hT5
              clear hM4 hT5
              have hcb : ({ data := t4.toArray } ++ { data := t5.toArray } : ByteArray) = { data := (t4 ++ t5).toArray } := cat_bytes t4 t5
              have hcc := hM5.blk.cell 12
              have hff := hM5.blk.frozen 12
              have hA := hM5.put 12 (.string ⟨(t4 ++ t5).toArray⟩) (hM5.blk.setText (t4 ++ t5)) rfl { hM5.ok with tl := by simp; omega }
              generalize hWa : w5.setCell ⟨gm, 12, none⟩ (.string ⟨(t4 ++ t5).toArray⟩) = Wa at hA
              obtain ⟨d0, d1, d2, d3, d4, d5, d6, d7, d8, d9, d10, d11, d12⟩ := hA.blk.all
              obtain ⟨r0, r1, r2, r3, r4, r5, r6, r7, r8, r9, r10, r11, r12⟩ := hA.res.all
              have rf := hA.res.frozen
              have hok := Lib.hid hA.ok
              have hO := Lib.hid hA.own
              have hB := hA.below
              have hG := hA.gm_lt
              have hG2 := hA.gs_eq
              clear hA ht0
              go_wp2_with fail
              refine bodyPost_ret (v := msgV { m with text := t4 ++ t5 } Av cv) (by simp [results, Tryz.results9, go_sem, r0, r1, r2, r3, r4, r5, r6, r7, r8, r9, r10, r11, r12]) rfl ?_
              refine ⟨_, Av, cv, rfl, hok.out, ?_, ?_⟩
              · have hlt1 : w.heap.size < gm + 1 := by omega
                exact World.ownsRow.mono (own_set (own_set (own_set (own_set (own_set (own_set (own_set (own_set (own_set (own_set (own_set (own_set (own_set hO.out (p := ⟨w.heap.size, 0, none⟩) hlt1 _) (p := ⟨w.heap.size, 1, none⟩) hlt1 _) (p := ⟨w.heap.size, 2, none⟩) hlt1 _) (p := ⟨w.heap.size, 3, none⟩) hlt1 _) (p := ⟨w.heap.size, 4, none⟩) hlt1 _) (p := ⟨w.heap.size, 5, none⟩) hlt1 _) (p := ⟨w.heap.size, 6, none⟩) hlt1 _) (p := ⟨w.heap.size, 7, none⟩) hlt1 _) (p := ⟨w.heap.size, 8, none⟩) hlt1 _) (p := ⟨w.heap.size, 9, none⟩) hlt1 _) (p := ⟨w.heap.size, 10, none⟩) hlt1 _) (p := ⟨w.heap.size, 11, none⟩) hlt1 _) (p := ⟨w.heap.size, 12, none⟩) hlt1 _) (Nat.le_of_lt hlt1)
              · exact (((((((((((((hB).setCell (p := ⟨w.heap.size, 0, none⟩) (Nat.le_refl _) _).setCell (p := ⟨w.heap.size, 1, none⟩) (Nat.le_refl _) _).setCell (p := ⟨w.heap.size, 2, none⟩) (Nat.le_refl _) _).setCell (p := ⟨w.heap.size, 3, none⟩) (Nat.le_refl _) _).setCell (p := ⟨w.heap.size, 4, none⟩) (Nat.le_refl _) _).setCell (p := ⟨w.heap.size, 5, none⟩) (Nat.le_refl _) _).setCell (p := ⟨w.heap.size, 6, none⟩) (Nat.le_refl _) _).setCell (p := ⟨w.heap.size, 7, none⟩) (Nat.le_refl _) _).setCell (p := ⟨w.heap.size, 8, none⟩) (Nat.le_refl _) _).setCell (p := ⟨w.heap.size, 9, none⟩) (Nat.le_refl _) _).setCell (p := ⟨w.heap.size, 10, none⟩) (Nat.le_refl _) _).setCell (p := ⟨w.heap.size, 11, none⟩) (Nat.le_refl _) _).setCell (p := ⟨w.heap.size, 12, none⟩) (Nat.le_refl _) _
            · obtain ⟨d0, d1, d2, d3, d4, d5, d6, d7, d8, d9, d10, d11, d12⟩ := hM3.blk.all
              obtain ⟨r0, r1, r2, r3, r4, r5, r6, r7, r8, r9, r10, r11, r12⟩ := hM3.res.all
              have rf := hM3.res.frozen
              have hok := Lib.hid hM3.ok
              have hO := Lib.hid hM3.own
              have hB := hM3.below
              have hG := hM3.gm_lt
              have hG2 := hM3.gs_eq
              clear hM3 ht0
              go_wp2_with fail
              refine bodyPost_ret (v := msgV m Av cv) (by simp [results, Tryz.results9, go_sem, r0, r1, r2, r3, r4, r5, r6, r7, r8, r9, r10, r11, r12]) rfl ?_
              refine ⟨_, Av, cv, rfl, hok.out, ?_, ?_⟩
              · have hlt1 : w.heap.size < gm + 1 := by omega
                exact World.ownsRow.mono (own_set (own_set (own_set (own_set (own_set (own_set (own_set (own_set (own_set (own_set (own_set (own_set (own_set hO.out (p := ⟨w.heap.size, 0, none⟩) hlt1 _) (p := ⟨w.heap.size, 1, none⟩) hlt1 _) (p := ⟨w.heap.size, 2, none⟩) hlt1 _) (p := ⟨w.heap.size, 3, none⟩) hlt1 _) (p := ⟨w.heap.size, 4, none⟩) hlt1 _) (p := ⟨w.heap.size, 5, none⟩) hlt1 _) (p := ⟨w.heap.size, 6, none⟩) hlt1 _) (p := ⟨w.heap.size, 7, none⟩) hlt1 _) (p := ⟨w.heap.size, 8, none⟩) hlt1 _) (p := ⟨w.heap.size, 9, none⟩) hlt1 _) (p := ⟨w.heap.size, 10, none⟩) hlt1 _) (p := ⟨w.heap.size, 11, none⟩) hlt1 _) (p := ⟨w.heap.size, 12, none⟩) hlt1 _) (Nat.le_of_lt hlt1)
              · exact (((((((((((((hB).setCell (p := ⟨w.heap.size, 0, none⟩) (Nat.le_refl _) _).setCell (p := ⟨w.heap.size, 1, none⟩) (Nat.le_refl _) _).setCell (p := ⟨w.heap.size, 2, none⟩) (Nat.le_refl _) _).setCell (p := ⟨w.heap.size, 3, none⟩) (Nat.le_refl _) _).setCell (p := ⟨w.heap.size, 4, none⟩) (Nat.le_refl _) _).setCell (p := ⟨w.heap.size, 5, none⟩) (Nat.le_refl _) _).setCell (p := ⟨w.heap.size, 6, none⟩) (Nat.le_refl _) _).setCell (p := ⟨w.heap.size, 7, none⟩) (Nat.le_refl _) _).setCell (p := ⟨w.heap.size, 8, none⟩) (Nat.le_refl _) _).setCell (p := ⟨w.heap.size, 9, none⟩) (Nat.le_refl _) _).setCell (p := ⟨w.heap.size, 10, none⟩) (Nat.le_refl _) _).setCell (p := ⟨w.heap.size, 11, none⟩) (Nat.le_refl _) _).setCell (p := ⟨w.heap.size, 12, none⟩) (Nat.le_refl _) _
end Go.Proofs.YtmjlnckmhdgoiaaGreatDoor
