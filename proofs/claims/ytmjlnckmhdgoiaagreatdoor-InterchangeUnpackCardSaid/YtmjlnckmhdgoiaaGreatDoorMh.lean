/- Contract of message.describe. -/
import Derived.Test.YtmjlnckmhdgoiaaGreatDoorMg
namespace Go.Proofs.YtmjlnckmhdgoiaaGreatDoor
open Go.RowKit
set_option linter.unusedVariables false

def tMSG : Bs := [77, 83, 71]
def tLOT : Bs := [76, 79, 84]
def tGDS : Bs := [71, 68, 83]
def tLST : Bs := [76, 83, 84]
def tTXT : Bs := [84, 88, 84]
def tEND : Bs := [69, 78, 68]
def sMSG (m : Msg) : Seg := ⟨tMSG, [elN m.kind, elN m.src, elN m.dst, elN m.number, elN m.day]⟩
def sLOT (m : Msg) : Seg := ⟨tLOT, [elN m.lot, elN m.other]⟩
def sGDS (m : Msg) : Seg := ⟨tGDS, [elT m.code, elT m.country, elN m.quantity, elN m.amount]⟩
def sLST (m : Msg) : Seg := ⟨tLST, [m.list.map Lib.itoa]⟩
def sTXT (m : Msg) : Seg := ⟨tTXT, [elT m.text]⟩
def lotB (m : Msg) : Bool := (m.lot != 0) || (m.other != 0)
def gdsB (m : Msg) : Bool := (m.code != []) || ((m.country != []) || ((m.quantity != 0) || (m.amount != 0)))
def lstB (m : Msg) : Bool := decide (0 < m.list.length)
def txtB (m : Msg) : Bool := m.text != []
def optS (b : Bool) (s : Seg) : List Seg := if b = true then [s] else []
def descM (m : Msg) : List Seg := sMSG m :: (optS (lotB m) (sLOT m) ++ (optS (gdsB m) (sGDS m) ++ (optS (lstB m) (sLST m) ++ optS (txtB m) (sTXT m))))
def sEND (m : Msg) (n : Nat) : Seg := ⟨tEND, [elN (n : Int), elN m.number]⟩
def segsM (m : Msg) : List Seg := descM m ++ [sEND m ((descM m).length + 1)]
theorem optS_len (b : Bool) (s : Seg) : (optS b s).length ≤ 1 := by cases b <;> simp [optS]
theorem descM_len (m : Msg) : (descM m).length ≤ 5 := by
  have h1 := optS_len (lotB m) (sLOT m)
  have h2 := optS_len (gdsB m) (sGDS m)
  have h3 := optS_len (lstB m) (sLST m)
  have h4 := optS_len (txtB m) (sTXT m)
  simp only [descM, List.length_cons, List.length_append]
  omega
theorem els1 {w : World} {B : Nat} {v0 : Value} {e0 : List Bs} (hB : B ≤ w.heap.size) (h0 : OwnStr w B v0 e0) : ElsOwn (w.alloc (.cells #[v0] 60)) B (.slice (some ⟨w.heap.size, 0, none⟩) 1 1) [e0] := by
  have q := (Below.refl w.heap.size w).alloc (Nat.le_refl _) (.cells #[v0] 60)
  refine ⟨[v0], own_new w [v0] 60 1 1 B (by unfold maxLen; omega) rfl hB, fun i e he => ?_⟩
  match i, he with
  | 0, he => injection he with he; subst he; exact ⟨_, rfl, h0.below q⟩
  | i + 1, he => simp at he
theorem els2 {w : World} {B : Nat} {v0 v1 : Value} {e0 e1 : List Bs} (hB : B ≤ w.heap.size) (h0 : OwnStr w B v0 e0) (h1 : OwnStr w B v1 e1) : ElsOwn (w.alloc (.cells #[v0, v1] 60)) B (.slice (some ⟨w.heap.size, 0, none⟩) 2 2) [e0, e1] := by
  have q := (Below.refl w.heap.size w).alloc (Nat.le_refl _) (.cells #[v0, v1] 60)
  refine ⟨[v0, v1], own_new w [v0, v1] 60 1 2 B (by unfold maxLen; omega) rfl hB, fun i e he => ?_⟩
  match i, he with
  | 0, he => injection he with he; subst he; exact ⟨_, rfl, h0.below q⟩
  | 1, he => injection he with he; subst he; exact ⟨_, rfl, h1.below q⟩
  | i + 2, he => simp at he
theorem els4 {w : World} {B : Nat} {v0 v1 v2 v3 : Value} {e0 e1 e2 e3 : List Bs} (hB : B ≤ w.heap.size) (h0 : OwnStr w B v0 e0) (h1 : OwnStr w B v1 e1) (h2 : OwnStr w B v2 e2) (h3 : OwnStr w B v3 e3) : ElsOwn (w.alloc (.cells #[v0, v1, v2, v3] 60)) B (.slice (some ⟨w.heap.size, 0, none⟩) 4 4) [e0, e1, e2, e3] := by
  have q := (Below.refl w.heap.size w).alloc (Nat.le_refl _) (.cells #[v0, v1, v2, v3] 60)
  refine ⟨[v0, v1, v2, v3], own_new w [v0, v1, v2, v3] 60 1 4 B (by unfold maxLen; omega) rfl hB, fun i e he => ?_⟩
  match i, he with
  | 0, he => injection he with he; subst he; exact ⟨_, rfl, h0.below q⟩
  | 1, he => injection he with he; subst he; exact ⟨_, rfl, h1.below q⟩
  | 2, he => injection he with he; subst he; exact ⟨_, rfl, h2.below q⟩
  | 3, he => injection he with he; subst he; exact ⟨_, rfl, h3.below q⟩
  | i + 4, he => simp at he
theorem els5 {w : World} {B : Nat} {v0 v1 v2 v3 v4 : Value} {e0 e1 e2 e3 e4 : List Bs} (hB : B ≤ w.heap.size) (h0 : OwnStr w B v0 e0) (h1 : OwnStr w B v1 e1) (h2 : OwnStr w B v2 e2) (h3 : OwnStr w B v3 e3) (h4 : OwnStr w B v4 e4) : ElsOwn (w.alloc (.cells #[v0, v1, v2, v3, v4] 60)) B (.slice (some ⟨w.heap.size, 0, none⟩) 5 5) [e0, e1, e2, e3, e4] := by
  have q := (Below.refl w.heap.size w).alloc (Nat.le_refl _) (.cells #[v0, v1, v2, v3, v4] 60)
  refine ⟨[v0, v1, v2, v3, v4], own_new w [v0, v1, v2, v3, v4] 60 1 5 B (by unfold maxLen; omega) rfl hB, fun i e he => ?_⟩
  match i, he with
  | 0, he => injection he with he; subst he; exact ⟨_, rfl, h0.below q⟩
  | 1, he => injection he with he; subst he; exact ⟨_, rfl, h1.below q⟩
  | 2, he => injection he with he; subst he; exact ⟨_, rfl, h2.below q⟩
  | 3, he => injection he with he; subst he; exact ⟨_, rfl, h3.below q⟩
  | 4, he => injection he with he; subst he; exact ⟨_, rfl, h4.below q⟩
  | i + 5, he => simp at he
theorem lenB1 (m : Msg) : ([sMSG m] ++ optS (lotB m) (sLOT m)).length ≤ 1000000 := by
  have h1 := optS_len (lotB m) (sLOT m)
  simp only [List.length_append, List.length_cons, List.length_nil]; omega
theorem lenB2 (m : Msg) : ([sMSG m] ++ optS (lotB m) (sLOT m) ++ optS (gdsB m) (sGDS m)).length ≤ 1000000 := by
  have h1 := optS_len (lotB m) (sLOT m)
  have h2 := optS_len (gdsB m) (sGDS m)
  simp only [List.length_append, List.length_cons, List.length_nil]; omega
theorem lenB3 (m : Msg) : ([sMSG m] ++ optS (lotB m) (sLOT m) ++ optS (gdsB m) (sGDS m) ++ optS (lstB m) (sLST m)).length ≤ 1000000 := by
  have h1 := optS_len (lotB m) (sLOT m)
  have h2 := optS_len (gdsB m) (sGDS m)
  have h3 := optS_len (lstB m) (sLST m)
  simp only [List.length_append, List.length_cons, List.length_nil]; omega
def LRel (l : List Int) (Wl : World) (g : Nat) (v i : Value) (wr : World) : Prop :=
  ∃ k : Nat, k + g = l.length ∧ i = .int .i64 (k : Int) ∧ OwnStr wr Wl.heap.size v ((l.take k).map Lib.itoa) ∧ Below Wl.heap.size Wl wr
def DSt (W0 : World) (gw B gm : Nat) (m : Msg) (A : Option Addr) (c : Nat) (l : List Seg) (W : World) : Prop := WS W gw B l ∧ Put gw B W0 W ∧ MBlk W gm m A c ∧ Tab W ∧ RdB W gw A (ints m.list)
theorem DSt.below {W0 W W' : World} {gw B gm : Nat} {m : Msg} {A : Option Addr} {c : Nat} {l : List Seg} (h : DSt W0 gw B gm m A c l W) (hb : Below W.heap.size W W') : DSt W0 gw B gm m A c l W' := by
  obtain ⟨h1, h2, h3, h4, h5⟩ := h
  have hg : gw ≤ W.heap.size := by obtain ⟨v, a, _⟩ := h1; exact Nat.le_of_lt (lt_of_block a)
  exact ⟨h1.below hb, h2.trans (Put.of_below hb), h3.below hb, h4.below hb, h5.below (hb.mono hg)⟩
theorem DSt.put {W0 W W' : World} {gw B gm : Nat} {m : Msg} {A : Option Addr} {c : Nat} {l l' : List Seg} (h : DSt W0 gw B gm m A c l W) (hg : gm ≠ gw) (h0 : 1 < gw) (hw : WS W' gw B l') (hp : Put gw B W W') : DSt W0 gw B gm m A c l' W' := by
  obtain ⟨h1, h2, h3, h4, h5⟩ := h
  obtain ⟨v, a, b, d, e⟩ := h1
  exact ⟨hw, h2.trans hp, hp.msg h3 hg, hp.tab h4 h0 (by omega), h5.below (hp.below (by omega) (Nat.le_of_lt (lt_of_block a)))⟩
theorem DSt.drew {W0 W : World} {gw B gm : Nat} {m : Msg} {A : Option Addr} {c : Nat} {l : List Seg} (h : DSt W0 gw B gm m A c l W) : DSt W0 gw B gm m A c l W.drew := h.below (Below.refl _ _).drew
set_option maxRecDepth 100000 in
set_option maxHeartbeats 4000000 in
theorem describe_any (m : Msg) (A : Option Addr) (c : Nat) (gw B : Nat) (w : World) (ok : OkM m) (hw : WS w gw B []) (ht : Tab w) (hr : RdB w gw A (ints m.list)) (h0 : 1 < gw) :
    Calls Tryz.prog 68 #[msgV m A c, .func (.func 45) #[.pointer (some ⟨gw, 0, none⟩)] #[]] w fun e w' => e = .returned (.tuple #[]) ∧ WS w' gw B (descM m) ∧ Put gw B w w' := by
  have q0 := (Below.refl w.heap.size w).alloc (Nat.le_refl _) (.cells (msgC m A c) 30)
  have hM0 : MBlk (w.alloc (.cells (msgC m A c) 30)) w.heap.size m A c := heap_alloc_new w _
  have hgw : gw < w.heap.size := by obtain ⟨v, a, _⟩ := hw; exact lt_of_block a
  have hBw : B ≤ w.heap.size ∧ gw < B := by obtain ⟨v, a, b, d, e⟩ := hw; exact ⟨e, d⟩
  have hD0 : DSt w gw B w.heap.size m A c [] (w.alloc (.cells (msgC m A c) 30)) := ⟨hw.below q0, Put.of_below q0, hM0, ht.below q0, hr.below (q0.mono (Nat.le_of_lt hgw))⟩
  generalize hW0 : w.alloc (.cells (msgC m A c) 30) = W0 at hD0 hM0 q0
  obtain ⟨gm, hgm⟩ : ∃ gm, w.heap.size = gm := ⟨_, rfl⟩
  rw [hgm] at hD0
  have hgg : gm ≠ gw := by omega
  obtain ⟨hB1, hB2⟩ := hBw
  have HNU := Lib.hid (fun (n : Int) (h0 : -9223372036854775808 ≤ n) (h1 : n ≤ 9223372036854775807) (W : World) (h : Tab W) => number_any n h0 h1 W h)
  have HTE := Lib.hid (fun (s : Bs) (W : World) => textE_any s W)
  have HPU := Lib.hid (fun (l : List Seg) (t : Bs) (A : Option Addr) (c : Nat) (els : List (List Bs)) (W : World) (h : WS W gw B l) (he : ElsOwn W B (.slice A els.length c) els) (hl : l.length ≤ 1000000) => put_any gw B l t A c els W h he hl)
  have OK := Lib.hid ok
  obtain ⟨⟨ok1, ok2⟩, ⟨ok3, ok4⟩, ⟨ok5, ok6⟩, ⟨ok7, ok8⟩, ⟨ok9, ok10⟩, ⟨ok11, ok12⟩, ⟨ok13, ok14⟩, _, _, ⟨ok15, ok16⟩, ⟨ok17, ok18⟩, okl, okll, oktl⟩ := ok
  have OKL := Lib.hid okl
  clear okl hw ht hr hM0 q0
  have HD0 := Lib.hid hD0
  clear hD0
  go_enter Tryz.func68, Tryz.ntmps68
  go_wp2_with fail
  have HD := HD0
  have hBL : B ≤ W0.heap.size := by rw [← hW0]; simp; omega
  refine wp_region_x 18 (by kernel_rfl) (fun w' => MBlk w' gm m A c) ?_
  have hD := HD.out.drew
  have HS := Lib.hid hD.2.2.1
  refine wpAnyX_take (i := 0) (v := .func (.func 45) #[.pointer (some ⟨gw, 0, none⟩)] #[]) rfl (by kernel_rfl) (by kernel_rfl) (by kernel_rfl) (by kernel_rfl) (fun _ _ _ h => h) HS.out (Or.inl ⟨by rfl, fun w hS => by go_simp⟩) ?_
  go_simp
  refine wpAnyX_take (i := 1) (v := .pointer (some ⟨gm, 0, none⟩)) rfl (by kernel_rfl) (by kernel_rfl) (by kernel_rfl) (by kernel_rfl) (fun _ _ _ h => h) HS.out (Or.inl ⟨by rfl, fun w hS => by go_simp⟩) ?_
  go_simp
  refine wpAnyX_take (i := 2) (v := .int .i64 m.kind) rfl (by kernel_rfl) (by kernel_rfl) (by kernel_rfl) (by kernel_rfl) (fun _ _ _ h => h) HS.out (Or.inl ⟨by rfl, fun w hS => by have hk := MBlk.cell hS 0; go_simp⟩) ?_
  go_simp
  refine wpAnyX_take (i := 4) (v := .pointer (some ⟨gm, 1, none⟩)) rfl (by kernel_rfl) (by kernel_rfl) (by kernel_rfl) (by kernel_rfl) (fun _ _ _ h => h) HS.out (Or.inl ⟨by rfl, fun w hS => by go_simp⟩) ?_
  go_simp
  refine wpAnyX_take (i := 5) (v := .int .i64 m.src) rfl (by kernel_rfl) (by kernel_rfl) (by kernel_rfl) (by kernel_rfl) (fun _ _ _ h => h) HS.out (Or.inl ⟨by rfl, fun w hS => by have hk := MBlk.cell hS 1; go_simp⟩) ?_
  go_simp
  refine wpAnyX_take (i := 7) (v := .pointer (some ⟨gm, 2, none⟩)) rfl (by kernel_rfl) (by kernel_rfl) (by kernel_rfl) (by kernel_rfl) (fun _ _ _ h => h) HS.out (Or.inl ⟨by rfl, fun w hS => by go_simp⟩) ?_
  go_simp
  refine wpAnyX_take (i := 8) (v := .int .i64 m.dst) rfl (by kernel_rfl) (by kernel_rfl) (by kernel_rfl) (by kernel_rfl) (fun _ _ _ h => h) HS.out (Or.inl ⟨by rfl, fun w hS => by have hk := MBlk.cell hS 2; go_simp⟩) ?_
  go_simp
  refine wpAnyX_take (i := 10) (v := .pointer (some ⟨gm, 3, none⟩)) rfl (by kernel_rfl) (by kernel_rfl) (by kernel_rfl) (by kernel_rfl) (fun _ _ _ h => h) HS.out (Or.inl ⟨by rfl, fun w hS => by go_simp⟩) ?_
  go_simp
  refine wpAnyX_take (i := 11) (v := .int .i64 m.number) rfl (by kernel_rfl) (by kernel_rfl) (by kernel_rfl) (by kernel_rfl) (fun _ _ _ h => h) HS.out (Or.inl ⟨by rfl, fun w hS => by have hk := MBlk.cell hS 3; go_simp⟩) ?_
  go_simp
  refine wpAnyX_take (i := 13) (v := .pointer (some ⟨gm, 4, none⟩)) rfl (by kernel_rfl) (by kernel_rfl) (by kernel_rfl) (by kernel_rfl) (fun _ _ _ h => h) HS.out (Or.inl ⟨by rfl, fun w hS => by go_simp⟩) ?_
  go_simp
  refine wpAnyX_take (i := 14) (v := .int .i64 m.day) rfl (by kernel_rfl) (by kernel_rfl) (by kernel_rfl) (by kernel_rfl) (fun _ _ _ h => h) HS.out (Or.inl ⟨by rfl, fun w hS => by have hk := MBlk.cell hS 4; go_simp⟩) ?_
  go_simp
  refine wpAnyX_one (i := 3) (by kernel_rfl) rfl (fun K hK => ?_)
  go_simp
  go_wp2_with (go_at_call 46; refine (HNU.out m.kind (by omega) (by omega) _ hD.2.2.2.1).mono ?_; rintro e w0 ⟨A0, c0, rfl, ho0, hb0⟩)
  have hD0 := hD.below hb0
  clear HS
  have HS := Lib.hid hD0.2.2.1
  refine hK.out _ _ (fun _ => HS.out) ?_
  clear hK K
  refine wpAnyX_one (i := 6) (by kernel_rfl) rfl (fun K hK => ?_)
  go_simp
  go_wp2_with (go_at_call 46; refine (HNU.out m.src (by omega) (by omega) _ hD0.2.2.2.1).mono ?_; rintro e w1 ⟨A1, c1, rfl, ho1, hb1⟩)
  have hD1 := hD0.below hb1
  clear HS
  have HS := Lib.hid hD1.2.2.1
  refine hK.out _ _ (fun _ => HS.out) ?_
  clear hK K
  refine wpAnyX_one (i := 9) (by kernel_rfl) rfl (fun K hK => ?_)
  go_simp
  go_wp2_with (go_at_call 46; refine (HNU.out m.dst (by omega) (by omega) _ hD1.2.2.2.1).mono ?_; rintro e w2 ⟨A2, c2, rfl, ho2, hb2⟩)
  have hD2 := hD1.below hb2
  clear HS
  have HS := Lib.hid hD2.2.2.1
  refine hK.out _ _ (fun _ => HS.out) ?_
  clear hK K
  refine wpAnyX_one (i := 12) (by kernel_rfl) rfl (fun K hK => ?_)
  go_simp
  go_wp2_with (go_at_call 46; refine (HNU.out m.number (by omega) (by omega) _ hD2.2.2.2.1).mono ?_; rintro e w3 ⟨A3, c3, rfl, ho3, hb3⟩)
  have hD3 := hD2.below hb3
  clear HS
  have HS := Lib.hid hD3.2.2.1
  refine hK.out _ _ (fun _ => HS.out) ?_
  clear hK K
  refine wpAnyX_one (i := 15) (by kernel_rfl) rfl (fun K hK => ?_)
  go_simp
  go_wp2_with (go_at_call 46; refine (HNU.out m.day (by omega) (by omega) _ hD3.2.2.2.1).mono ?_; rintro e w4 ⟨A4, c4, rfl, ho4, hb4⟩)
  have hD4 := hD3.below hb4
  clear HS
  have HS := Lib.hid hD4.2.2.1
  refine hK.out _ _ (fun _ => HS.out) ?_
  clear hK K
  have hz0 : B ≤ W0.heap.size := hBL
  have hz1 : B ≤ w0.heap.size := Nat.le_trans hz0 hb0.size
  have hz2 : B ≤ w1.heap.size := Nat.le_trans hz1 hb1.size
  have hz3 : B ≤ w2.heap.size := Nat.le_trans hz2 hb2.size
  have hz4 : B ≤ w3.heap.size := Nat.le_trans hz3 hb3.size
  have hzn : B ≤ w4.heap.size := Nat.le_trans hz4 hb4.size
  have hEL := els5 (w := w4) hzn (((((((ho0).below hb1).below hb2).below hb3).below hb4)).mono (B' := B) hz0) ((((((ho1).below hb2).below hb3).below hb4)).mono (B' := B) hz1) (((((ho2).below hb3).below hb4)).mono (B' := B) hz2) ((((ho3).below hb4)).mono (B' := B) hz3) (((ho4)).mono (B' := B) hz4)
  have qe := (Below.refl w4.heap.size w4).alloc (Nat.le_refl _) (.cells #[.slice A0 (elN m.kind).length c0, .slice A1 (elN m.src).length c1, .slice A2 (elN m.dst).length c2, .slice A3 (elN m.number).length c3, .slice A4 (elN m.day).length c4] 60)
  have hDe := hD4.below qe
  refine wpAnyX_one (i := 16) (by kernel_rfl) rfl (fun K hK => ?_)
  go_simp
  refine hK.out _ _ (fun _ => hDe.2.2.1) ?_
  clear hK K
  refine wpAnyX_one (i := 17) (by kernel_rfl) rfl (fun K hK => ?_)
  go_simp
  go_wp2_with (go_at_call 45; refine (HPU.out [] tMSG _ 5 _ _ hDe.1 hEL (by simp)).mono ?_; rintro e wp ⟨rfl, hws, hput⟩)
  have hDp := hDe.put hgg h0 hws hput
  refine hK.out _ _ (fun _ => hDp.2.2.1) ?_
  clear hK K
  refine wpAnyX_done (by kernel_rfl) ?_
  have HDp : Hid (DSt w gw B gm m A c [sMSG m] wp) := hDp
  clear hDp hDe hEL qe hD hD0 hD1 hD2 hD3 hD4 hws hput ho0 ho1 ho2 ho3 ho4 hb0 hb1 hb2 hb3 hb4 HS HD hz0 hz1 hz2 hz3 hz4 hzn HD0 hW0
  have HD := HDp
  clear HDp
  clear hBL
  have hBL : B ≤ wp.heap.size := by obtain ⟨⟨v, a1, a2, a3, a4⟩, _⟩ := HD.out; exact a4
  go_upto_region 2 with (fail)
  go_cut [32] (fun s32 wx => s32 = .bool (lotB m) ∧ wp = wx)
  case first =>
    obtain ⟨d0, d1, d2, d3, d4, d5, d6, d7, d8, d9, d10, d11, d12⟩ := HD.out.2.2.1.all
    by_cases b1 : m.lot = 0
    · have c1 : (m.lot != 0) = false := by simp [b1]
      by_cases b2 : m.other = 0
      · have c2 : (m.other != 0) = false := by simp [b2]
        have HV : Hid (lotB m = false) := by show _ = _; unfold lotB; rw [c1, c2]; rfl
        clear b1 b2
        go_wp2_with fail
        go_meet
        exact ⟨by rw [HV.out], rfl⟩
      · have c2 : (m.other != 0) = true := by simp [b2]
        have HV : Hid (lotB m = true) := by show _ = _; unfold lotB; rw [c1, c2]; rfl
        clear b1 b2
        go_wp2_with fail
        go_meet
        exact ⟨by rw [HV.out], rfl⟩
    · have c1 : (m.lot != 0) = true := by simp [b1]
      have HV : Hid (lotB m = true) := by show _ = _; unfold lotB; rw [c1]; rfl
      clear b1
      go_wp2_with fail
      go_meet
      exact ⟨by rw [HV.out], rfl⟩
  case rest =>
    obtain ⟨rfl, rfl⟩ := hcut
    go_upto_if 32 with (fail)
    go_cut [32] (fun s32 wx => DSt w gw B gm m A c ([sMSG m] ++ optS (lotB m) (sLOT m)) wx)
    case first =>
      rcases hbb : lotB m with _ | _
      · have HBB := Lib.hid hbb
        go_wp2_with fail
        go_meet
        have := HD.out
        rw [HBB.out]
        simpa [optS] using this
      · have HBB := Lib.hid hbb
        clear hbb
        have hbb := HBB.out
        go_wp2_with fail
        refine wp_region_x 9 (by kernel_rfl) (fun w' => MBlk w' gm m A c) ?_
        have hD := HD.out.drew
        have HS := Lib.hid hD.2.2.1
        refine wpAnyX_take (i := 0) (v := .func (.func 45) #[.pointer (some ⟨gw, 0, none⟩)] #[]) rfl (by kernel_rfl) (by kernel_rfl) (by kernel_rfl) (by kernel_rfl) (fun _ _ _ h => h) HS.out (Or.inl ⟨by rfl, fun w hS => by go_simp⟩) ?_
        go_simp
        refine wpAnyX_take (i := 1) (v := .pointer (some ⟨gm, 5, none⟩)) rfl (by kernel_rfl) (by kernel_rfl) (by kernel_rfl) (by kernel_rfl) (fun _ _ _ h => h) HS.out (Or.inl ⟨by rfl, fun w hS => by go_simp⟩) ?_
        go_simp
        refine wpAnyX_take (i := 2) (v := .int .i64 m.lot) rfl (by kernel_rfl) (by kernel_rfl) (by kernel_rfl) (by kernel_rfl) (fun _ _ _ h => h) HS.out (Or.inl ⟨by rfl, fun w hS => by have hk := MBlk.cell hS 5; go_simp⟩) ?_
        go_simp
        refine wpAnyX_take (i := 4) (v := .pointer (some ⟨gm, 6, none⟩)) rfl (by kernel_rfl) (by kernel_rfl) (by kernel_rfl) (by kernel_rfl) (fun _ _ _ h => h) HS.out (Or.inl ⟨by rfl, fun w hS => by go_simp⟩) ?_
        go_simp
        refine wpAnyX_take (i := 5) (v := .int .i64 m.other) rfl (by kernel_rfl) (by kernel_rfl) (by kernel_rfl) (by kernel_rfl) (fun _ _ _ h => h) HS.out (Or.inl ⟨by rfl, fun w hS => by have hk := MBlk.cell hS 6; go_simp⟩) ?_
        go_simp
        refine wpAnyX_one (i := 3) (by kernel_rfl) rfl (fun K hK => ?_)
        go_simp
        go_wp2_with (go_at_call 46; refine (HNU.out m.lot (by omega) (by omega) _ hD.2.2.2.1).mono ?_; rintro e w0 ⟨A0, c0, rfl, ho0, hb0⟩)
        have hD0 := hD.below hb0
        clear HS
        have HS := Lib.hid hD0.2.2.1
        refine hK.out _ _ (fun _ => HS.out) ?_
        clear hK K
        refine wpAnyX_one (i := 6) (by kernel_rfl) rfl (fun K hK => ?_)
        go_simp
        go_wp2_with (go_at_call 46; refine (HNU.out m.other (by omega) (by omega) _ hD0.2.2.2.1).mono ?_; rintro e w1 ⟨A1, c1, rfl, ho1, hb1⟩)
        have hD1 := hD0.below hb1
        clear HS
        have HS := Lib.hid hD1.2.2.1
        refine hK.out _ _ (fun _ => HS.out) ?_
        clear hK K
        have hz0 : B ≤ wp.heap.size := hBL
        have hz1 : B ≤ w0.heap.size := Nat.le_trans hz0 hb0.size
        have hzn : B ≤ w1.heap.size := Nat.le_trans hz1 hb1.size
        have hEL := els2 (w := w1) hzn ((((ho0).below hb1)).mono (B' := B) hz0) (((ho1)).mono (B' := B) hz1)
        have qe := (Below.refl w1.heap.size w1).alloc (Nat.le_refl _) (.cells #[.slice A0 (elN m.lot).length c0, .slice A1 (elN m.other).length c1] 60)
        have hDe := hD1.below qe
        refine wpAnyX_one (i := 7) (by kernel_rfl) rfl (fun K hK => ?_)
        go_simp
        refine hK.out _ _ (fun _ => hDe.2.2.1) ?_
        clear hK K
        refine wpAnyX_one (i := 8) (by kernel_rfl) rfl (fun K hK => ?_)
        go_simp
        go_wp2_with (go_at_call 45; refine (HPU.out [sMSG m] tLOT _ 2 _ _ hDe.1 hEL (by simp)).mono ?_; rintro e wp ⟨rfl, hws, hput⟩)
        have hDp := hDe.put hgg h0 hws hput
        refine hK.out _ _ (fun _ => hDp.2.2.1) ?_
        clear hK K
        refine wpAnyX_done (by kernel_rfl) ?_
        go_wp2_with fail
        go_meet
        have := hDp
        rw [HBB.out]
        simpa [optS, sLOT] using this
    case rest =>
      obtain ⟨wq, rfl⟩ : ∃ x, x = wc := ⟨_, rfl⟩
      have HD' := Lib.hid hcut
      clear HD hcut
      have HD := HD'
      clear HD'
      have hBL : B ≤ wq.heap.size := by obtain ⟨⟨v, a1, a2, a3, a4⟩, _⟩ := HD.out; exact a4
      go_upto_region 4 with (fail)
      go_cut [59] (fun s59 wx => s59 = .bool (gdsB m) ∧ wq = wx)
      case first =>
        obtain ⟨d0, d1, d2, d3, d4, d5, d6, d7, d8, d9, d10, d11, d12⟩ := HD.out.2.2.1.all
        by_cases b0 : m.code = []
        · have c0 : (m.code != []) = false := by simp [b0]
          have f0 : m.code.isEmpty = true := by simp [b0]
          by_cases b1 : m.country = []
          · have c1 : (m.country != []) = false := by simp [b1]
            have f1 : m.country.isEmpty = true := by simp [b1]
            by_cases b2 : m.quantity = 0
            · have c2 : (m.quantity != 0) = false := by simp [b2]
              by_cases b3 : m.amount = 0
              · have c3 : (m.amount != 0) = false := by simp [b3]
                have HV : Hid (gdsB m = false) := by show _ = _; unfold gdsB; rw [c0, c1, c2, c3]; rfl
                clear b0 b1 b2 b3
                go_wp2_with fail
                go_meet
                exact ⟨by rw [HV.out], rfl⟩
              · have c3 : (m.amount != 0) = true := by simp [b3]
                have HV : Hid (gdsB m = true) := by show _ = _; unfold gdsB; rw [c0, c1, c2, c3]; rfl
                clear b3
                go_wp2_with fail
                go_meet
                exact ⟨by rw [HV.out], rfl⟩
            · have c2 : (m.quantity != 0) = true := by simp [b2]
              have HV : Hid (gdsB m = true) := by show _ = _; unfold gdsB; rw [c0, c1, c2]; rfl
              clear b2
              go_wp2_with fail
              go_meet
              exact ⟨by rw [HV.out], rfl⟩
          · have c1 : (m.country != []) = true := by simp [b1]
            have f1 : m.country.isEmpty = false := by simp [b1]
            have HV : Hid (gdsB m = true) := by show _ = _; unfold gdsB; rw [c0, c1]; rfl
            go_wp2_with fail
            go_meet
            exact ⟨by rw [HV.out], rfl⟩
        · have c0 : (m.code != []) = true := by simp [b0]
          have f0 : m.code.isEmpty = false := by simp [b0]
          have HV : Hid (gdsB m = true) := by show _ = _; unfold gdsB; rw [c0]; rfl
          go_wp2_with fail
          go_meet
          exact ⟨by rw [HV.out], rfl⟩
      case rest =>
        obtain ⟨rfl, rfl⟩ := hcut
        go_upto_if 59 with (fail)
        go_cut [59] (fun s59 wx => DSt w gw B gm m A c ([sMSG m] ++ optS (lotB m) (sLOT m) ++ optS (gdsB m) (sGDS m)) wx)
        case first =>
          rcases hbb : gdsB m with _ | _
          · have HBB := Lib.hid hbb
            go_wp2_with fail
            go_meet
            have := HD.out
            rw [HBB.out]
            simpa [optS] using this
          · have HBB := Lib.hid hbb
            go_wp2_with fail
            refine wp_region_x 15 (by kernel_rfl) (fun w' => MBlk w' gm m A c) ?_
            have hD := HD.out.drew
            have HS := Lib.hid hD.2.2.1
            refine wpAnyX_take (i := 0) (v := .func (.func 45) #[.pointer (some ⟨gw, 0, none⟩)] #[]) rfl (by kernel_rfl) (by kernel_rfl) (by kernel_rfl) (by kernel_rfl) (fun _ _ _ h => h) HS.out (Or.inl ⟨by rfl, fun w hS => by go_simp⟩) ?_
            go_simp
            refine wpAnyX_take (i := 1) (v := .pointer (some ⟨gm, 7, none⟩)) rfl (by kernel_rfl) (by kernel_rfl) (by kernel_rfl) (by kernel_rfl) (fun _ _ _ h => h) HS.out (Or.inl ⟨by rfl, fun w hS => by go_simp⟩) ?_
            go_simp
            refine wpAnyX_take (i := 2) (v := .string ⟨m.code.toArray⟩) rfl (by kernel_rfl) (by kernel_rfl) (by kernel_rfl) (by kernel_rfl) (fun _ _ _ h => h) HS.out (Or.inl ⟨by rfl, fun w hS => by have hk := MBlk.cell hS 7; go_simp⟩) ?_
            go_simp
            refine wpAnyX_take (i := 4) (v := .pointer (some ⟨gm, 8, none⟩)) rfl (by kernel_rfl) (by kernel_rfl) (by kernel_rfl) (by kernel_rfl) (fun _ _ _ h => h) HS.out (Or.inl ⟨by rfl, fun w hS => by go_simp⟩) ?_
            go_simp
            refine wpAnyX_take (i := 5) (v := .string ⟨m.country.toArray⟩) rfl (by kernel_rfl) (by kernel_rfl) (by kernel_rfl) (by kernel_rfl) (fun _ _ _ h => h) HS.out (Or.inl ⟨by rfl, fun w hS => by have hk := MBlk.cell hS 8; go_simp⟩) ?_
            go_simp
            refine wpAnyX_take (i := 7) (v := .pointer (some ⟨gm, 9, none⟩)) rfl (by kernel_rfl) (by kernel_rfl) (by kernel_rfl) (by kernel_rfl) (fun _ _ _ h => h) HS.out (Or.inl ⟨by rfl, fun w hS => by go_simp⟩) ?_
            go_simp
            refine wpAnyX_take (i := 8) (v := .int .i64 m.quantity) rfl (by kernel_rfl) (by kernel_rfl) (by kernel_rfl) (by kernel_rfl) (fun _ _ _ h => h) HS.out (Or.inl ⟨by rfl, fun w hS => by have hk := MBlk.cell hS 9; go_simp⟩) ?_
            go_simp
            refine wpAnyX_take (i := 10) (v := .pointer (some ⟨gm, 10, none⟩)) rfl (by kernel_rfl) (by kernel_rfl) (by kernel_rfl) (by kernel_rfl) (fun _ _ _ h => h) HS.out (Or.inl ⟨by rfl, fun w hS => by go_simp⟩) ?_
            go_simp
            refine wpAnyX_take (i := 11) (v := .int .i64 m.amount) rfl (by kernel_rfl) (by kernel_rfl) (by kernel_rfl) (by kernel_rfl) (fun _ _ _ h => h) HS.out (Or.inl ⟨by rfl, fun w hS => by have hk := MBlk.cell hS 10; go_simp⟩) ?_
            go_simp
            refine wpAnyX_one (i := 3) (by kernel_rfl) rfl (fun K hK => ?_)
            go_simp
            go_wp2_with (go_at_call 79; refine (HTE.out m.code _).mono ?_; rintro e w0 ⟨A0, c0, rfl, ho0, hb0⟩)
            have hD0 := hD.below hb0
            clear HS
            have HS := Lib.hid hD0.2.2.1
            refine hK.out _ _ (fun _ => HS.out) ?_
            clear hK K
            refine wpAnyX_one (i := 6) (by kernel_rfl) rfl (fun K hK => ?_)
            go_simp
            go_wp2_with (go_at_call 79; refine (HTE.out m.country _).mono ?_; rintro e w1 ⟨A1, c1, rfl, ho1, hb1⟩)
            have hD1 := hD0.below hb1
            clear HS
            have HS := Lib.hid hD1.2.2.1
            refine hK.out _ _ (fun _ => HS.out) ?_
            clear hK K
            refine wpAnyX_one (i := 9) (by kernel_rfl) rfl (fun K hK => ?_)
            go_simp
            go_wp2_with (go_at_call 46; refine (HNU.out m.quantity (by omega) (by omega) _ hD1.2.2.2.1).mono ?_; rintro e w2 ⟨A2, c2, rfl, ho2, hb2⟩)
            have hD2 := hD1.below hb2
            clear HS
            have HS := Lib.hid hD2.2.2.1
            refine hK.out _ _ (fun _ => HS.out) ?_
            clear hK K
            refine wpAnyX_one (i := 12) (by kernel_rfl) rfl (fun K hK => ?_)
            go_simp
            go_wp2_with (go_at_call 46; refine (HNU.out m.amount (by omega) (by omega) _ hD2.2.2.2.1).mono ?_; rintro e w3 ⟨A3, c3, rfl, ho3, hb3⟩)
            have hD3 := hD2.below hb3
            clear HS
            have HS := Lib.hid hD3.2.2.1
            refine hK.out _ _ (fun _ => HS.out) ?_
            clear hK K
            have hz0 : B ≤ wq.heap.size := hBL
            have hz1 : B ≤ w0.heap.size := Nat.le_trans hz0 hb0.size
            have hz2 : B ≤ w1.heap.size := Nat.le_trans hz1 hb1.size
            have hz3 : B ≤ w2.heap.size := Nat.le_trans hz2 hb2.size
            have hzn : B ≤ w3.heap.size := Nat.le_trans hz3 hb3.size
            have hEL := els4 (w := w3) hzn ((((((ho0).below hb1).below hb2).below hb3)).mono (B' := B) hz0) (((((ho1).below hb2).below hb3)).mono (B' := B) hz1) ((((ho2).below hb3)).mono (B' := B) hz2) (((ho3)).mono (B' := B) hz3)
            have qe := (Below.refl w3.heap.size w3).alloc (Nat.le_refl _) (.cells #[.slice A0 (elT m.code).length c0, .slice A1 (elT m.country).length c1, .slice A2 (elN m.quantity).length c2, .slice A3 (elN m.amount).length c3] 60)
            have hDe := hD3.below qe
            refine wpAnyX_one (i := 13) (by kernel_rfl) rfl (fun K hK => ?_)
            go_simp
            refine hK.out _ _ (fun _ => hDe.2.2.1) ?_
            clear hK K
            refine wpAnyX_one (i := 14) (by kernel_rfl) rfl (fun K hK => ?_)
            go_simp
            go_wp2_with (go_at_call 45; refine (HPU.out ([sMSG m] ++ optS (lotB m) (sLOT m)) tGDS _ 4 _ _ hDe.1 hEL (by exact lenB1 m)).mono ?_; rintro e wp ⟨rfl, hws, hput⟩)
            have hDp := hDe.put hgg h0 hws hput
            refine hK.out _ _ (fun _ => hDp.2.2.1) ?_
            clear hK K
            refine wpAnyX_done (by kernel_rfl) ?_
            go_wp2_with fail
            go_meet
            have := hDp
            rw [HBB.out]
            simpa [optS, sGDS] using this
        case rest =>
          obtain ⟨wl, rfl⟩ : ∃ x, x = wc := ⟨_, rfl⟩
          have HD' := Lib.hid hcut
          clear HD hcut
          have HD := HD'
          clear HD'
          have hBL : B ≤ wl.heap.size := by obtain ⟨⟨v, a1, a2, a3, a4⟩, _⟩ := HD.out; exact a4
          go_upto_region 6 with (fail)
          go_cut [78] (fun s78 wx => s78 = .bool (lstB m) ∧ wl = wx)
          case first =>
            obtain ⟨d0, d1, d2, d3, d4, d5, d6, d7, d8, d9, d10, d11, d12⟩ := HD.out.2.2.1.all
            by_cases b1 : 0 < m.list.length
            · have HV : Hid (lstB m = true) := by show _ = _; unfold lstB; simpa using b1
              have c1 : decide (0 < m.list.length) = true := by simpa using b1
              go_wp2_with fail
              go_meet
              exact ⟨by rw [HV.out], rfl⟩
            · have HV : Hid (lstB m = false) := by show _ = _; unfold lstB; simpa using b1
              have c1 : decide (0 < m.list.length) = false := by simpa using b1
              go_wp2_with fail
              go_meet
              exact ⟨by rw [HV.out], rfl⟩
          case rest =>
            obtain ⟨rfl, rfl⟩ := hcut
            go_upto_if 78 with (fail)
            go_cut [78] (fun s78 wx => DSt w gw B gm m A c ([sMSG m] ++ optS (lotB m) (sLOT m) ++ optS (gdsB m) (sGDS m) ++ optS (lstB m) (sLST m)) wx)
            case first =>
              rcases hbb : lstB m with _ | _
              · have HBB := Lib.hid hbb
                go_wp2_with fail
                go_meet
                have := HD.out
                rw [HBB.out]
                simpa [optS] using this
              · have HBB := Lib.hid hbb
                obtain ⟨d0, d1, d2, d3, d4, d5, d6, d7, d8, d9, d10, d11, d12⟩ := HD.out.2.2.1.all
                have hrl := HD.out.2.2.2.2
                have HIT := Lib.hid (fun (n : Int) (h0 : -9223372036854775808 ≤ n) (h1 : n ≤ 9223372036854775807) (W : World) (h : Tab W) => itoa_any n h0 h1 W h)
                obtain ⟨i2, hi2, hx0, hx1, hx2⟩ := info_parts strInfo
                clear hbb
                go_wp2_with fail
                go_loopg [4, 82] m.list.length (fun g v i wr => LRel m.list wl g v i wr)
                case atStart => exact ⟨0, by omega, rfl, by simpa using OwnStr.nil_ _ _, Below.refl _ _⟩
                case round =>
                  obtain ⟨k, hk, rfl, hos, hb⟩ := hrel
                  have HK := Lib.hid hk
                  have hk2 : k ≤ m.list.length := by omega
                  have hDr := HD.out.below hb
                  have hBr := hb.size
                  clear hk
                  by_cases hlt : k < m.list.length
                  · have hdl : decide (k < m.list.length) = true := by simpa using hlt
                    obtain ⟨b0, off, rfl, hcell⟩ := hDr.2.2.2.2.rd.int hlt
                    rw [List.getElem?_eq_getElem hlt] at hcell
                    simp only [Option.getD_some] at hcell
                    have hxb := OKL.out m.list[k] (List.getElem_mem hlt)
                    obtain ⟨hxb1, hxb2⟩ := hxb
                    have HSN : Hid ((m.list.take (k + 1)).map Lib.itoa = (m.list.take k).map Lib.itoa ++ [Lib.itoa m.list[k]]) := by show _ = _; rw [take_snoc hlt, List.map_append]; rfl
                    have HI2 := Lib.hid (HIT.out m.list[k] (by omega) (by omega) wr hDr.2.2.2.1)
                    have hel : ((m.list.take k).map Lib.itoa).length = k := by rw [List.length_map, List.length_take]; omega
                    generalize m.list[k] = x at hcell hxb1 hxb2 HSN HI2
                    generalize (m.list.take k).map Lib.itoa = es at hos HSN hel
                    generalize Lib.itoa x = sx at HSN HI2
                    go_wp2_with fail
                    refine HI2.out.mono ?_
                    rintro e w3 ⟨rfl, hb3⟩
                    have hos3 := hos.below hb3
                    have hB3 := Nat.le_trans hBr hb3.size
                    go_wp2_with (at_builtin; refine wpList_append_new w3 rfl (.tmp 86) (.tmp 89) 60 rfl wl.heap.size 9 i2 _ 1 16 Tryz.underlying60 hi2 hx0 hx1 hx2 rfl (by omega) _ es.length (strs es) [.string ⟨sx.toArray⟩] rfl (by simp [Value.oneCell']) rfl hos3 rfl (by unfold maxLen; omega) (by omega) hB3 ?_; intro v5 w5 hown5 hb5 _ hg5)
                    go_roundg (m.list.length - (k + 1))
                    case measure => have := HK.out; omega
                    case rel =>
                      refine ⟨k + 1, by omega, by go_num, ?_, (hb.trans (hb3.mono hBr)).trans hb5⟩
                      rw [HSN.out]
                      unfold OwnStr
                      rw [List.length_append]
                      simpa [strs, str] using hown5
                  · have hge : m.list.length ≤ k := by omega
                    have HT : Hid (m.list.take k = m.list) := List.take_of_length_le hge
                    rw [HT.out] at hos
                    generalize hES : m.list.map Lib.itoa = es at hos
                    have HES := Lib.hid hES
                    clear hES
                    obtain ⟨As, cs, rfl, _, _⟩ := own_shape hos
                    have hdl : decide (k < m.list.length) = false := by simpa using hge
                    have hBr2 : B ≤ wr.heap.size := Nat.le_trans hBL hBr
                    have hEL := els1 (w := wr) hBr2 (hos.mono (B' := B) hBL)
                    have qe := (Below.refl wr.heap.size wr).alloc (Nat.le_refl _) (.cells #[.slice As es.length cs] 60)
                    have hDe := hDr.below qe
                    clear hos hlt
                    go_wp2_with fail
                    refine (HPU.out ([sMSG m] ++ optS (lotB m) (sLOT m) ++ optS (gdsB m) (sGDS m)) tLST _ 1 _ _ hDe.1 hEL (lenB2 m)).mono ?_
                    rintro e wp2 ⟨rfl, hws, hput⟩
                    have hDp := hDe.put hgg h0 hws hput
                    go_wp2_with fail
                    go_meet
                    have := hDp
                    rw [HBB.out]
                    rw [← HES.out] at this
                    simpa [optS, sLST] using this
            case rest =>
              obtain ⟨wt, rfl⟩ : ∃ x, x = wc := ⟨_, rfl⟩
              have HD' := Lib.hid hcut
              clear HD hcut
              have HD := HD'
              clear HD'
              have hBL : B ≤ wt.heap.size := by obtain ⟨⟨v, a1, a2, a3, a4⟩, _⟩ := HD.out; exact a4
              go_upto_region 14 with (fail)
              go_cut [98] (fun s98 wx => s98 = .bool (txtB m) ∧ wt = wx)
              case first =>
                obtain ⟨d0, d1, d2, d3, d4, d5, d6, d7, d8, d9, d10, d11, d12⟩ := HD.out.2.2.1.all
                by_cases b1 : m.text = []
                · have HV : Hid (txtB m = false) := by show _ = _; unfold txtB; simp [b1]
                  have c1 : (m.text != []) = false := by simp [b1]
                  have c2 : m.text.isEmpty = true := by simp [b1]
                  go_wp2_with fail
                  go_meet
                  exact ⟨by rw [HV.out], rfl⟩
                · have HV : Hid (txtB m = true) := by show _ = _; unfold txtB; simp [b1]
                  have c1 : (m.text != []) = true := by simp [b1]
                  have c2 : m.text.isEmpty = false := by simp [b1]
                  go_wp2_with fail
                  go_meet
                  exact ⟨by rw [HV.out], rfl⟩
              case rest =>
                obtain ⟨rfl, rfl⟩ := hcut
                rcases hbb : txtB m with _ | _
                · have HBB := Lib.hid hbb
                  have HE : Hid ([sMSG m] ++ optS (lotB m) (sLOT m) ++ optS (gdsB m) (sGDS m) ++ optS (lstB m) (sLST m) = descM m) := by show _ = _; unfold descM; rw [HBB.out]; simp [optS]
                  clear hbb
                  go_wp2_with fail
                  go_end0
                  obtain ⟨z1, z2, _⟩ := HD.out
                  rw [HE.out] at z1
                  exact ⟨rfl, z1, z2⟩
                · have HBB := Lib.hid hbb
                  have HE : Hid ([sMSG m] ++ optS (lotB m) (sLOT m) ++ optS (gdsB m) (sGDS m) ++ optS (lstB m) (sLST m) ++ [sTXT m] = descM m) := by show _ = _; unfold descM; rw [HBB.out]; simp [optS]
                  obtain ⟨d0, d1, d2, d3, d4, d5, d6, d7, d8, d9, d10, d11, d12⟩ := HD.out.2.2.1.all
                  clear hbb
                  go_wp2_with fail
                  refine (HTE.out m.text _).mono ?_
                  rintro e w0 ⟨A0, c0, rfl, ho0, hb0⟩
                  have hD0 := HD.out.below hb0
                  have hBr2 : B ≤ w0.heap.size := Nat.le_trans hBL hb0.size
                  have hEL := els1 (w := w0) hBr2 (ho0.mono (B' := B) hBL)
                  have qe := (Below.refl w0.heap.size w0).alloc (Nat.le_refl _) (.cells #[.slice A0 (elT m.text).length c0] 60)
                  have hDe := hD0.below qe
                  clear ho0
                  go_wp2_with fail
                  refine (HPU.out ([sMSG m] ++ optS (lotB m) (sLOT m) ++ optS (gdsB m) (sGDS m) ++ optS (lstB m) (sLST m)) tTXT _ 1 _ _ hDe.1 hEL (lenB3 m)).mono ?_
                  rintro e wp2 ⟨rfl, hws, hput⟩
                  have hDp := hDe.put hgg h0 hws hput
                  go_wp2_with fail
                  go_end0
                  obtain ⟨z1, z2, _⟩ := hDp
                  have z3 : WS wp2 gw B (descM m) := by rw [← HE.out]; exact z1
                  exact ⟨rfl, z3, z2⟩
end Go.Proofs.YtmjlnckmhdgoiaaGreatDoor
