/- The contract of add: a reversal that is entered. -/
import Derived.Test.YtefphkefgfoklaaGg
namespace Go.Proofs.Ytefphkefgfoklaa
open Go.RowKit
set_option linter.unusedVariables false
set_option maxRecDepth 100000 in
set_option maxHeartbeats 4000000 in
theorem add_ok9 (B pa : Nat) (l : List En) (x : En) (w : World) (h : Acc w B pa l) (hB : B ≤ w.heap.size) (hv : ledF l = 0) (hl : l.length < 2000) (hr : rangeB x = true) (hn : x.num = (l.length : Int) + 1) (h9 : x.kind = 9) (hx : x.amt ≤ (l.length : Int)) (ho : (nth l x.amt).kind ≠ 9) (hrev : revB l x.amt = false) (hlot : (nth l x.amt).lot = x.lot) (hok : (nextB l x).okB = true) :
    Calls Try.prog 30 #[.pointer (some ⟨pa, 0, none⟩), enV x] w (fun e w' => e = .returned (.int .i64 0) ∧ Below B w w' ∧ Acc w' B pa (l ++ [x])) := by
  obtain ⟨pc, b1, b2, n1, n2, v, h⟩ := h
  have HR := Lib.hid (fun W => inRange_any x W)
  rw [hr] at HR
  obtain ⟨_, _, ⟨xl0, xl1⟩, ⟨hamt, hamt2⟩, _⟩ := range_iff.1 hr
  obtain ⟨k, hk⟩ : ∃ k : Nat, x.amt = (k : Int) + 1 := ⟨(x.amt - 1).toNat, by omega⟩
  have hkn : k < l.length := by omega
  obtain ⟨_, hold, _⟩ := ledF_mem hv _ _ (nth_get hkn)
  rw [hk] at ho
  have HB := fun w3 => acc_box (w3 := w3) h hB x
  have HPX := Lib.hid (h.apart_box)
  have HLN := Lib.hid h.len
  have HN2 := Lib.hid h.len.2
  have HV := Lib.hid hv
  have HR1 := Lib.hid hr
  obtain ⟨xn, xd, xk, xl, xa, xc⟩ := x
  unfold enV at *
  unfold enCs at HB
  simp only at *
  subst hn; subst h9; subst hk
  have HB := Lib.hid HB
  have HREV := Lib.hid hrev
  clear hrev
  have HLOT := Lib.hid hlot
  clear hlot
  have HOK := Lib.hid hok
  have HLEN : Hid (l.length < 2000) := hl
  clear hok
  have HH := Lib.hid h
  clear h hr hv
  have HOLD := Lib.hid hold
  have HO := Lib.hid ho
  have HAMT := Lib.hid (And.intro xl0 (And.intro xl1 (And.intro hamt hamt2)))
  clear hold ho hamt hamt2 xl0 xl1
  have hc1 := HH.out.cell.2.1
  have hpl := HH.out.lt.1
  obtain ⟨g, cap, rfl, _⟩ := HH.out.entry hkn
  generalize hnn : l.length = n at hc1 hl hx HR HB ⊢
  have HL := Lib.hid hnn
  clear hnn
  go_enter Try.func30, Try.ntmps30
  go_wp2_with (go_at_call 42; refine (HR.out _).mono ?_; rintro e w3 ⟨rfl, hb3⟩)
  obtain ⟨A3, X3, q3⟩ := HB.out _ hb3
  clear hb3
  clear HB hc1 hpl HH HR
  obtain ⟨hgl, e0, e1, e2, e3, e4, e5⟩ := A3.entry' hkn
  obtain ⟨x0, x1, x2, x3, x4, x5⟩ := X3.cell
  obtain ⟨c0, c1, c2, c3⟩ := A3.cell
  have hpx := X3.lt
  obtain ⟨hpa, hpc, hb1, hb2⟩ := A3.lt
  simp only at x0 x1 x2 x3 x4 x5
  have HAB : Hid (-64000000000000 ≤ -(nth l ((k : Int) + 1)).amt ∧ -(nth l ((k : Int) + 1)).amt ≤ 64000000000000) := by
    obtain ⟨h1, _, _⟩ := ledF_mem HV.out _ _ (nth_get hkn)
    have h2 := (range_iff.1 h1).2.2.2.1
    exact ⟨by omega, by omega⟩
  have HNX : Hid (nextB l ⟨(l.length : Int) + 1, xd, 9, xl, (k : Int) + 1, xc⟩ = bump (balF l xl) (nth l ((k : Int) + 1)).kind (-(nth l ((k : Int) + 1)).amt)) := rfl
  generalize nth l ((k : Int) + 1) = od at *
  have A3 := Lib.hid A3
  have X3 := Lib.hid X3
  generalize w.heap.size = px at *
  go_quiet (fail)
  have hqW1 : Below w3.heap.size w3 (w3.drewN nq) := drewN_below (Below.refl _ _) _
  generalize w3.drewN nq = W1 at hqW1 ⊢
  obtain ⟨rcW1, rfW1⟩ := bcell hqW1
  have hsW1 := hqW1.size
  go_wp2
  go_quiet (fail)
  have hqW2 : Below w3.heap.size w3 (W1.drewN nq) := drewN_below (hqW1) _
  generalize W1.drewN nq = W2 at hqW2 ⊢
  clear rcW1 rfW1 hsW1
  obtain ⟨rcW2, rfW2⟩ := bcell hqW2
  have hsW2 := hqW2.size
  go_wp2
  go_quiet (fail)
  have hqW3 : Below w3.heap.size w3 (W2.drewN nq) := drewN_below (hqW2) _
  generalize W2.drewN nq = W3 at hqW3 ⊢
  clear rcW2 rfW2 hsW2
  obtain ⟨rcW3, rfW3⟩ := bcell hqW3
  have hsW3 := hqW3.size
  go_wp2
  have s1 : IntKind.i64.wrap ((k : Int) + 1 - 1) = (k : Int) := by rw [show (k : Int) + 1 - 1 = k by omega]; exact IntWalk.i64_in _ (by omega)
  have s2 : IntKind.i64.wrap (k : Int) = (k : Int) := IntWalk.i64_in _ (by omega)
  have s3 : (k : Int) < n := by omega
  have f1 : W3.cell? ⟨pa, 1, none⟩ = some (.slice (some ⟨g, 0, none⟩) n cap) := (rcW3 _ _ hpa).trans c1
  have f2 : W3.cell? ⟨px, 4, none⟩ = some (.int .i64 ((k : Int) + 1)) := (rcW3 _ _ hpx).trans x4
  have g0 : W3.cell? ⟨g, k * 6, none⟩ = _ := (rcW3 _ _ hgl).trans e0
  have g1 : W3.cell? ⟨g, k * 6 + 1, none⟩ = _ := (rcW3 _ _ hgl).trans e1
  have g2 : W3.cell? ⟨g, k * 6 + 2, none⟩ = _ := (rcW3 _ _ hgl).trans e2
  have g3 : W3.cell? ⟨g, k * 6 + 3, none⟩ = _ := (rcW3 _ _ hgl).trans e3
  have g4 : W3.cell? ⟨g, k * 6 + 4, none⟩ = _ := (rcW3 _ _ hgl).trans e4
  have g5 : W3.cell? ⟨g, k * 6 + 5, none⟩ = _ := (rcW3 _ _ hgl).trans e5
  have hpa3 := Nat.lt_of_lt_of_le hpa hsW3
  have hpx3 := Nat.lt_of_lt_of_le hpx hsW3
  have hgl3 := Nat.lt_of_lt_of_le hgl hsW3
  go_region_held3 (fun w' => Below W3.heap.size W3 w' ∧ w'.cell? ⟨pa, 1, none⟩ = some (.slice (some ⟨g, 0, none⟩) n cap) ∧ w'.cell? ⟨px, 4, none⟩ = some (.int .i64 ((k : Int) + 1)) ∧ w'.cell? ⟨g, k * 6, none⟩ = some (.int .i64 od.num) ∧ w'.cell? ⟨g, k * 6 + 1, none⟩ = some (.int .i64 od.day) ∧ w'.cell? ⟨g, k * 6 + 2, none⟩ = some (.int .i64 od.kind) ∧ w'.cell? ⟨g, k * 6 + 3, none⟩ = some (.int .i64 od.lot) ∧ w'.cell? ⟨g, k * 6 + 4, none⟩ = some (.int .i64 od.amt) ∧ w'.cell? ⟨g, k * 6 + 5, none⟩ = some (.int .i64 od.cause))
    ((refine (fun h => ⟨h, (Below.cell (p := ⟨pa, 1, none⟩) h hpa3).trans f1, (Below.cell (p := ⟨px, 4, none⟩) h hpx3).trans f2, (Below.cell (p := ⟨g, k * 6, none⟩) h hgl3).trans g0, (Below.cell (p := ⟨g, k * 6 + 1, none⟩) h hgl3).trans g1, (Below.cell (p := ⟨g, k * 6 + 2, none⟩) h hgl3).trans g2, (Below.cell (p := ⟨g, k * 6 + 3, none⟩) h hgl3).trans g3, (Below.cell (p := ⟨g, k * 6 + 4, none⟩) h hgl3).trans g4, (Below.cell (p := ⟨g, k * 6 + 5, none⟩) h hgl3).trans g5⟩ : Below W3.heap.size W3 _ → _) ?_; first | exact (Below.refl _ _).drew | exact ((Below.refl _ _).drew).alloc (by simp) _ | exact ((Below.refl _ _).alloc (by simp) _).drew))
    (fail)
  clear s1 s2 s3
  go_wp2
  have q4 : Below w3.heap.size w3 ((W3.alloc (.cells (enCs od).toArray 26)).drew) := (hqW3.alloc hsW3 _).drew
  have O4 : BoxAt ((W3.alloc (.cells (enCs od).toArray 26)).drew) B W3.heap.size od := ⟨heap_alloc_new W3 _, Nat.le_trans (Nat.le_trans X3.out.base (Nat.le_of_lt hpx)) hsW3⟩
  have hBw3 : B ≤ w3.heap.size := Nat.le_trans X3.out.base (Nat.le_of_lt hpx)
  have hpo : px ≠ W3.heap.size := Nat.ne_of_lt hpx3
  unfold enCs at q4 O4
  generalize W3.heap.size = po at *
  generalize (W3.alloc (.cells [.int .i64 od.num, .int .i64 od.day, .int .i64 od.kind, .int .i64 od.lot, .int .i64 od.amt, .int .i64 od.cause].toArray 26)).drew = W4 at *
  clear f1 f2 g0 g1 g2 g3 g4 g5 hpa3 hpx3 hgl3 rcW3 rfW3 hsW3 hqW3 c0 c1 c2 c3 e0 e1 e2 e3 e4 e5 x0 x1 x2 x3 x4 x5 hpa hpc hb1 hb2 hpx hgl
  have A4 := Lib.hid (A3.out.below q4)
  have X4 := Lib.hid (X3.out.below q4)
  have q4 := q3.trans (q4.mono hBw3)
  clear A3 X3
  obtain ⟨x0, x1, x2, x3, x4, x5⟩ := X4.out.cell
  obtain ⟨o0, o1, o2, o3, o4, o5⟩ := O4.cell
  obtain ⟨c0, c1, c2, c3⟩ := A4.out.cell
  obtain ⟨hpa, hpc, hb1, hb2⟩ := A4.out.lt
  have hpx := X4.out.lt
  have hpo1 := O4.lt
  have O4 := Lib.hid O4
  simp only at x0 x1 x2 x3 x4 x5
  have hko : (od.kind == 9) = false := by simpa using HO.out
  have hlk : ∀ n : Nat, (Instr.lookup 61 (.map (some b2)) (.int .i64 od.num) false).run Try.prog (W4.drewN n) = .ok (.bool false) (W4.drewN n) := fun n => by
    have e := HOLD.out
    have := look_rev (w := W4.drewN n) A4.out.rev od.num (by rw [e]; omega) (by rw [e]; omega)
    rw [this, e, HREV.out]
  go_quiet (fail)
  have hqW5 : Below W4.heap.size W4 (W4.drewN nq) := drewN_below (Below.refl _ _) _
  generalize W4.drewN nq = W5 at hqW5 ⊢
  obtain ⟨rcW5, rfW5⟩ := bcell hqW5
  have hsW5 := hqW5.size
  have hlt : (od.lot == xl) = true := by simpa using HLOT.out
  go_wp2
  have s1 : IntKind.i64.wrap (-od.amt) = -od.amt := IntWalk.i64_in _ (by have := HAB.out; omega)
  go_quiet (fail)
  have hqW6 : Below W4.heap.size W4 (W5.drewN nq) := drewN_below (hqW5) _
  generalize W5.drewN nq = W6 at hqW6 ⊢
  clear rcW5 rfW5 hsW5
  obtain ⟨rcW6, rfW6⟩ := bcell hqW6
  have hsW6 := hqW6.size
  clear s1
  go_wp2
  have qW := q4.trans (hqW6.mono (Nat.le_trans X4.out.base (Nat.le_of_lt hpx)))
  have AW := Lib.hid (A4.out.below hqW6)
  have XW := Lib.hid (X4.out.below hqW6)
  clear rcW6 rfW6 hsW6 hqW6
  obtain ⟨c0, c1, c2, c3⟩ := AW.out.cell
  obtain ⟨x0, x1, x2, x3, x4, x5⟩ := XW.out.cell
  obtain ⟨hpa, hpc, hb1, hb2⟩ := AW.out.lt
  have hpx := XW.out.lt
  simp only at x0 x1 x2 x3 x4 x5
  have HLB := Lib.hid (fun (w' : World) (hb : Below W6.heap.size W6 w') => look_bal (AW.out.bal.below hb) xl (by have := HAMT.out; omega) (by have := HAMT.out; omega))
  have HBD := Lib.hid (balF_within HV.out xl)
  unfold baV at HLB
  generalize (if hasLot l xl = true then xl else 0) = l0 at HLB
  generalize hbl : balF l xl = bl at HLB HNX HBD
  have HBL := Lib.hid hbl
  clear hbl
  refine wp_region_x 8 (by kernel_rfl) (fun w' => w'.cell? ⟨pa, 2, none⟩ = some (.map (some b1)) ∧ w'.cell? ⟨px, 3, none⟩ = some (.int .i64 xl) ∧ (Instr.lookup 60 (.map (some b1)) (.int .i64 xl) false).run Try.prog w' = .ok (.agg #[.int .i64 l0, .int .i64 bl.ow, .int .i64 bl.se, .int .i64 bl.pa, .int .i64 bl.re]) w') ?_
  have HS : Hid (W6.drew.cell? ⟨pa, 2, none⟩ = some (.map (some b1)) ∧ W6.drew.cell? ⟨px, 3, none⟩ = some (.int .i64 xl) ∧ (Instr.lookup 60 (.map (some b1)) (.int .i64 xl) false).run Try.prog W6.drew = .ok (.agg #[.int .i64 l0, .int .i64 bl.ow, .int .i64 bl.se, .int .i64 bl.pa, .int .i64 bl.re]) W6.drew) := ⟨c2, x3, HLB.out _ (Below.refl _ _).drew⟩
  refine wpAnyX_take (i := 0) (v := .pointer (some ⟨pa, 0, none⟩)) rfl (by kernel_rfl) (by kernel_rfl) (by kernel_rfl) (by kernel_rfl) (fun _ _ _ h => h) HS.out (Or.inl ⟨by rfl, fun w hS => by obtain ⟨hS0, hS1, hS2⟩ := hS; go_simp⟩) ?_
  go_simp
  refine wpAnyX_take (i := 1) (v := .pointer (some ⟨pa, 0, none⟩)) rfl (by kernel_rfl) (by kernel_rfl) (by kernel_rfl) (by kernel_rfl) (fun _ _ _ h => h) HS.out (Or.inl ⟨by rfl, fun w hS => by obtain ⟨hS0, hS1, hS2⟩ := hS; go_simp⟩) ?_
  go_simp
  refine wpAnyX_take (i := 2) (v := .pointer (some ⟨pa, 2, none⟩)) rfl (by kernel_rfl) (by kernel_rfl) (by kernel_rfl) (by kernel_rfl) (fun _ _ _ h => h) HS.out (Or.inl ⟨by rfl, fun w hS => by obtain ⟨hS0, hS1, hS2⟩ := hS; go_simp⟩) ?_
  go_simp
  refine wpAnyX_take (i := 3) (v := .map (some b1)) rfl (by kernel_rfl) (by kernel_rfl) (by kernel_rfl) (by kernel_rfl) (fun _ _ _ h => h) HS.out (Or.inl ⟨by rfl, fun w hS => by obtain ⟨hS0, hS1, hS2⟩ := hS; go_simp⟩) ?_
  go_simp
  refine wpAnyX_take (i := 4) (v := .pointer (some ⟨px, 3, none⟩)) rfl (by kernel_rfl) (by kernel_rfl) (by kernel_rfl) (by kernel_rfl) (fun _ _ _ h => h) HS.out (Or.inl ⟨by rfl, fun w hS => by obtain ⟨hS0, hS1, hS2⟩ := hS; go_simp⟩) ?_
  go_simp
  refine wpAnyX_take (i := 5) (v := .int .i64 xl) rfl (by kernel_rfl) (by kernel_rfl) (by kernel_rfl) (by kernel_rfl) (fun _ _ _ h => h) HS.out (Or.inl ⟨by rfl, fun w hS => by obtain ⟨hS0, hS1, hS2⟩ := hS; go_simp⟩) ?_
  go_simp
  refine wpAnyX_take (i := 6) (v := .agg #[.int .i64 l0, .int .i64 bl.ow, .int .i64 bl.se, .int .i64 bl.pa, .int .i64 bl.re]) rfl (by kernel_rfl) (by kernel_rfl) (by kernel_rfl) (by kernel_rfl) (fun _ _ _ h => h) HS.out (Or.inl ⟨by rfl, fun w hS => by obtain ⟨hS0, hS1, hS2⟩ := hS; go_simp⟩) ?_
  go_simp
  refine wpAnyX_one (i := 7) (by kernel_rfl) rfl (fun K hK => ?_)
  go_simp
  refine hK.out _ _ (fun _ => ⟨by go_simp, by go_simp, HLB.out _ (((Below.refl _ _).alloc (Nat.le_refl _) _).drew)⟩) ?_
  clear hK K
  refine wpAnyX_one (i := 8) (by kernel_rfl) rfl (fun K hK => ?_)
  go_simp
  refine hK.out _ _ (fun h => absurd rfl h) ?_
  clear hK K
  refine wpAnyX_done (by kernel_rfl) ?_
  have g7 := heap_alloc_new W6 (.cells (baArr xl bl) 37)
  have b7 : Below W6.heap.size W6 ((W6.alloc (.cells (baArr xl bl) 37)).drew) := ((Below.refl _ _).alloc (Nat.le_refl _) _).drew
  have HCH := change_any pa pc W6.heap.size xl bl (od.kind) (-od.amt) ((W6.alloc (.cells (baArr xl bl) 37)).drew) #[] (AW.out.below b7).cell.1 (fun j u hu => (cell_of_row _ _ _ _ _ _ (AW.out.below b7).col).trans (by rw [← hu]; simp)) g7 (Nat.ne_of_lt hpa) (Nat.ne_of_lt hpc)
    (HBD.out.mono (by have := HLEN.out; omega)) HAB.out
  rw [← HNX.out] at HCH
  rw [HOK.out] at HCH
  unfold baArr at HCH b7 g7
  generalize hnb : nextB l ⟨(l.length : Int) + 1, xd, 9, xl, (k : Int) + 1, xc⟩ = nb at HCH
  have HNB := Lib.hid hnb
  have HCH := Lib.hid HCH
  have B7 := Lib.hid b7
  clear g7 b7 hnb
  go_wp2_with (go_at_call 43; refine HCH.out.mono ?_; rintro e w8 ⟨rfl, hg8, hr8⟩)
  have b8 : Below W6.heap.size W6 w8 := B7.out.trans ⟨hr8.os, hr8.tape, hr8.output, hr8.size, fun k hk => hr8.block k (Nat.lt_of_lt_of_le hk (by simp)) (fun e => absurd (Option.some.inj e) (Nat.ne_of_lt hk))⟩
  have q8 := qW.trans (b8.mono (Nat.le_trans XW.out.base (Nat.le_of_lt hpx)))
  have A8 := Lib.hid (AW.out.below b8)
  have X8 := Lib.hid (XW.out.below b8)
  have hgx : W6.heap.size < w8.heap.size := (Array.getElem?_eq_some_iff.1 hg8).1
  clear b8 hr8 c0 c1 c2 c3 x0 x1 x2 x3 x4 x5 hpa hpc hb1 hb2 hpx AW XW qW HCH B7 HLB
  generalize W6.heap.size = gb at *
  obtain ⟨c0, c1, c2, c3⟩ := A8.out.cell
  obtain ⟨x0, x1, x2, x3, x4, x5⟩ := X8.out.cell
  obtain ⟨hpa, hpc, hb1, hb2⟩ := A8.out.lt
  have hpx := X8.out.lt
  simp only at x0 x1 x2 x3 x4 x5
  have d0 : w8.cell? ⟨gb, 0, none⟩ = some (.int .i64 xl) := by rw [cell_of_row _ _ _ _ _ _ hg8]; rfl
  have d1 : w8.cell? ⟨gb, 1, none⟩ = some (.int .i64 nb.ow) := by rw [cell_of_row _ _ _ _ _ _ hg8]; rfl
  have d2 : w8.cell? ⟨gb, 2, none⟩ = some (.int .i64 nb.se) := by rw [cell_of_row _ _ _ _ _ _ hg8]; rfl
  have d3 : w8.cell? ⟨gb, 3, none⟩ = some (.int .i64 nb.pa) := by rw [cell_of_row _ _ _ _ _ _ hg8]; rfl
  have d4 : w8.cell? ⟨gb, 4, none⟩ = some (.int .i64 nb.re) := by rw [cell_of_row _ _ _ _ _ _ hg8]; rfl
  have HG8 := Lib.hid hg8
  clear hg8
  refine wp_region_tail 7 (by kernel_rfl) (by kernel_rfl) ?_
  simp only [List.take_succ_cons, List.take_zero, List.drop_succ_cons, List.drop_zero]
  repeat still_step
  refine wpStill_nil ?_
  refine wpList_store_x _ rfl _ _ _ 60 rfl 3 37 Try.underlying3 Try.underlying60 b1 n1 _ rfl A8.out.bal.drew (by have h1 := A8.out.len.1; have h2 := HLEN.out; unfold maxLen; omega) xl rfl (wf_i64 (by have := HAMT.out; omega) (by have := HAMT.out; omega)) _ rfl ?_
  intro w9 hm9 hg9
  have A9 := Lib.hid (AccG.setBal (A8.out.toAccG.below (Below.refl _ _).drew) hg9 hm9)
  have X9 := Lib.hid (X8.out.kept (grown_drew' hg9) HPX.out.2.2.1)
  have q9 : Below B w w9 := q8.grown (grown_drew' hg9) X8.out.room (fun j e => by injection e with e; subst e; exact A8.out.base.2.2.1)
  clear hm9 hg9 c0 c1 c2 c3 x0 x1 x2 x3 x4 x5 hpa hpc hb1 hb2 hpx A8 X8 q8 HG8 hgx d0 d1 d2 d3 d4
  go_wp2_with fail
  obtain ⟨c0, c1, c2, c3⟩ := A9.out.cell
  obtain ⟨x0, x1, x2, x3, x4, x5⟩ := X9.out.cell
  obtain ⟨hpa, hpc, hb1, hb2⟩ := A9.out.lt
  have hpx := X9.out.lt
  simp only at x0 x1 x2 x3 x4 x5
  refine wp_region_x 10 (by kernel_rfl) (fun w' => w'.cell? ⟨pa, 1, none⟩ = some (.slice (some ⟨g, 0, none⟩) n cap) ∧ w'.cell? ⟨px, 0, none⟩ = some (.int .i64 ((n : Int) + 1)) ∧ w'.cell? ⟨px, 1, none⟩ = some (.int .i64 (xd)) ∧ w'.cell? ⟨px, 2, none⟩ = some (.int .i64 (9)) ∧ w'.cell? ⟨px, 3, none⟩ = some (.int .i64 (xl)) ∧ w'.cell? ⟨px, 4, none⟩ = some (.int .i64 ((k : Int) + 1)) ∧ w'.cell? ⟨px, 5, none⟩ = some (.int .i64 (xc))) ?_
  have HS : Hid (w9.drew.cell? ⟨pa, 1, none⟩ = some (.slice (some ⟨g, 0, none⟩) n cap) ∧ w9.drew.cell? ⟨px, 0, none⟩ = some (.int .i64 ((n : Int) + 1)) ∧ w9.drew.cell? ⟨px, 1, none⟩ = some (.int .i64 (xd)) ∧ w9.drew.cell? ⟨px, 2, none⟩ = some (.int .i64 (9)) ∧ w9.drew.cell? ⟨px, 3, none⟩ = some (.int .i64 (xl)) ∧ w9.drew.cell? ⟨px, 4, none⟩ = some (.int .i64 ((k : Int) + 1)) ∧ w9.drew.cell? ⟨px, 5, none⟩ = some (.int .i64 (xc))) := ⟨c1, x0, x1, x2, x3, x4, x5⟩
  refine wpAnyX_take (i := 0) (v := .pointer (some ⟨pa, 0, none⟩)) rfl (by kernel_rfl) (by kernel_rfl) (by kernel_rfl) (by kernel_rfl) (fun _ _ _ h => h) HS.out (Or.inl ⟨by rfl, fun w hS => by obtain ⟨hS0, hS1, hS2, hS3, hS4, hS5, hS6⟩ := hS; go_simp⟩) ?_
  go_simp
  refine wpAnyX_take (i := 1) (v := .pointer (some ⟨pa, 0, none⟩)) rfl (by kernel_rfl) (by kernel_rfl) (by kernel_rfl) (by kernel_rfl) (fun _ _ _ h => h) HS.out (Or.inl ⟨by rfl, fun w hS => by obtain ⟨hS0, hS1, hS2, hS3, hS4, hS5, hS6⟩ := hS; go_simp⟩) ?_
  go_simp
  refine wpAnyX_take (i := 2) (v := .pointer (some ⟨pa, 0, none⟩)) rfl (by kernel_rfl) (by kernel_rfl) (by kernel_rfl) (by kernel_rfl) (fun _ _ _ h => h) HS.out (Or.inl ⟨by rfl, fun w hS => by obtain ⟨hS0, hS1, hS2, hS3, hS4, hS5, hS6⟩ := hS; go_simp⟩) ?_
  go_simp
  refine wpAnyX_take (i := 3) (v := .pointer (some ⟨pa, 1, none⟩)) rfl (by kernel_rfl) (by kernel_rfl) (by kernel_rfl) (by kernel_rfl) (fun _ _ _ h => h) HS.out (Or.inl ⟨by rfl, fun w hS => by obtain ⟨hS0, hS1, hS2, hS3, hS4, hS5, hS6⟩ := hS; go_simp⟩) ?_
  go_simp
  refine wpAnyX_take (i := 4) (v := .slice (some ⟨g, 0, none⟩) n cap) rfl (by kernel_rfl) (by kernel_rfl) (by kernel_rfl) (by kernel_rfl) (fun _ _ _ h => h) HS.out (Or.inl ⟨by rfl, fun w hS => by obtain ⟨hS0, hS1, hS2, hS3, hS4, hS5, hS6⟩ := hS; go_simp⟩) ?_
  go_simp
  refine wpAnyX_take (i := 5) (v := .agg #[.int .i64 ((n : Int) + 1), .int .i64 xd, .int .i64 9, .int .i64 xl, .int .i64 ((k : Int) + 1), .int .i64 xc]) rfl (by kernel_rfl) (by kernel_rfl) (by kernel_rfl) (by kernel_rfl) (fun _ _ _ h => h) HS.out (Or.inl ⟨by rfl, fun w hS => by obtain ⟨hS0, hS1, hS2, hS3, hS4, hS5, hS6⟩ := hS; go_simp⟩) ?_
  go_simp
  refine wpAnyX_one (i := 6) (by kernel_rfl) rfl (fun K hK => ?_)
  go_simp
  refine hK.out _ _ (fun _ => ⟨by go_simp, by go_simp, by go_simp, by go_simp, by go_simp, by go_simp, by go_simp⟩) ?_
  clear hK K
  have bA : Below w9.heap.size w9 ((w9.alloc (.cells #[.int .i64 ((n : Int) + 1), .int .i64 xd, .int .i64 9, .int .i64 xl, .int .i64 ((k : Int) + 1), .int .i64 xc] 26)).drew) := ((Below.refl _ _).alloc (Nat.le_refl _) _).drew
  have gA : ((w9.alloc (.cells #[.int .i64 ((n : Int) + 1), .int .i64 xd, .int .i64 9, .int .i64 xl, .int .i64 ((k : Int) + 1), .int .i64 xc] 26)).drew).heap[w9.heap.size]? = some (.cells (enCs (⟨(n : Int) + 1, xd, 9, xl, (k : Int) + 1, xc⟩ : En)).toArray 26 (0, 0)) := heap_alloc_new w9 _
  generalize (w9.alloc (.cells #[.int .i64 ((n : Int) + 1), .int .i64 xd, .int .i64 9, .int .i64 xl, .int .i64 ((k : Int) + 1), .int .i64 xc] 26)).drew = wA at bA gA ⊢
  have AA := Lib.hid (A9.out.below bA)
  have XA := Lib.hid (X9.out.below bA)
  have qA := q9.trans (bA.mono X9.out.room)
  clear bA c0 c1 c2 c3 x0 x1 x2 x3 x4 x5 hpa hpc hb1 hb2 hpx A9 X9 q9 HS
  generalize w9.heap.size = gn at *
  obtain ⟨i0, hi0, hz0, hz1, hz2⟩ := info_parts entInfo
  refine wpAnyX_one (i := 7) (by kernel_rfl) rfl (fun K hK => ?_)
  refine step_append_src wA (by rfl) (.tmp 99) (.tmp 101) 23 (by rfl) B 26 i0 _ 6 48 Try.underlying23 hi0 hz0 hz1 hz2 rfl (by omega) _ l.length (ensCs l) (enCs (⟨(n : Int) + 1, xd, 9, xl, (k : Int) + 1, xc⟩ : En)) 1 1 rfl (by intro u hu; simp [enCs] at hu; rcases hu with rfl | rfl | rfl | rfl | rfl | rfl <;> rfl) (by rfl) AA.out.ent ⟨gn, 0, none⟩ (by rfl) (fun j u hu => by rw [Addr.add_lit, Nat.zero_add, cell_of_row _ _ _ _ _ _ gA]; simpa using hu) (by have := HLEN.out; unfold maxLen; omega) (by have := HLEN.out; omega) XA.out.room ?_
  intro v2 wB hown2 hgB hvB
  have hown3 : wB.ownsRow B 26 6 v2 (l ++ [(⟨(n : Int) + 1, xd, 9, xl, (k : Int) + 1, xc⟩ : En)]).length (ensCs (l ++ [(⟨(n : Int) + 1, xd, 9, xl, (k : Int) + 1, xc⟩ : En)])) := by rw [ensCs_snoc, List.length_append]; exact hown2
  have AC := Lib.hid (AA.out.app hgB hown3 hvB)
  have XB := XA.out.kept hgB HPX.out.2.2.2.1
  have XC := Lib.hid (XB.kept (grown_set (World.grownBy.refl wB (some pa)) 1 v2) HPX.out.1)
  have qB : Below B w wB := qA.grown hgB XA.out.room (fun j e => (AA.out.ent.lt j e).1)
  have qC := Lib.hid (qB.setCell (p := ⟨pa, 1, none⟩) AA.out.base.1 v2)
  have hpB := (hgB.block _ AA.out.lt.1 (fun e => AA.out.apart.2.2.1 e.symm)).trans AA.out.acc
  have p1 : wB.cell? ⟨pa, 1, none⟩ = some (.slice (some ⟨g, 0, none⟩) n cap) := by rw [cell_of_row _ _ _ _ _ _ hpB]; rfl
  have p2 : wB.frozen? ⟨pa, 1, none⟩ = false := frozen_of_row _ _ _ _ _ hpB
  have hpl : pa < wB.heap.size := (Array.getElem?_eq_some_iff.1 hpB).1
  obtain ⟨x0, x1, x2, x3, x4, x5⟩ := XB.cell
  simp only at x0 x1 x2 x3 x4 x5
  obtain ⟨Av, cv, rfl⟩ := own_len hown2
  clear hown2 hown3 hpB XB hgB qA qB hvB gA
  have HS : Hid (wB.cell? ⟨pa, 1, none⟩ = some (.slice (some ⟨g, 0, none⟩) n cap)) := p1
  refine hK.out _ _ (fun _ => ⟨p1, x0, x1, x2, x3, x4, x5⟩) ?_
  clear hK K
  go_simp
  refine wpAnyX_one (i := 8) (by kernel_rfl) rfl (fun K hK => ?_)
  go_simp
  refine hK.out _ _ (fun _ => ⟨p1, x0, x1, x2, x3, x4, x5⟩) ?_
  clear hK K
  refine wpAnyX_one (i := 9) (by kernel_rfl) rfl (fun K hK => ?_)
  go_simp
  refine hK.out _ _ (fun _ => ⟨p1, x0, x1, x2, x3, x4, x5⟩) ?_
  clear hK K
  refine wpAnyX_one (i := 10) (by kernel_rfl) rfl (fun K hK => ?_)
  go_simp
  refine hK.out _ _ (fun h => absurd rfl h) ?_
  clear hK K
  refine wpAnyX_done (by kernel_rfl) ?_
  clear HS
  go_wp2_with fail
  clear p1 p2 hpl x0 x1 x2 x3 x4 x5
  generalize wB.setCell ⟨pa, 1, none⟩ (.slice Av (l.length + 1) cv) = wC at AC XC qC ⊢
  obtain ⟨c0, c1, c2, c3⟩ := AC.out.cell
  obtain ⟨x0, x1, x2, x3, x4, x5⟩ := XC.out.cell
  have hpa := AC.out.lt.1
  have hpx := XC.out.lt
  simp only at x0 x1 x2 x3 x4 x5
  refine wp_region_tail 6 (by kernel_rfl) (by kernel_rfl) ?_
  simp only [List.take_succ_cons, List.take_zero, List.drop_succ_cons, List.drop_zero]
  repeat still_step
  refine wpStill_nil ?_
  refine wpList_store_x _ rfl _ _ _ 61 rfl 3 4 Try.underlying3 Try.underlying61 b2 n2 _ rfl AC.out.rev.drew (by have h1 := HN2.out; have h2 := HLEN.out; unfold maxLen; omega) ((k : Int) + 1) rfl (wf_i64 (by omega) (by omega)) _ rfl ?_
  intro wD hmD hgD
  have AD := Lib.hid (AccG.setRev (AC.out.below (Below.refl _ _).drew) hgD hmD)
  have qD : Below B w wD := qC.out.grown (grown_drew' hgD) XC.out.room (fun j e => by injection e with e; subst e; exact AC.out.base.2.2.2)
  clear hmD hgD c0 c1 c2 c3 x0 x1 x2 x3 x4 x5 hpa hpx
  go_wp2_with fail
  go_ret
  have hln := HL.out
  subst hln
  exact ⟨rfl, qD, acc_done9 HV.out rfl ⟨by simp only; omega, by simp only; omega⟩ (by rw [← HNB.out]; rfl) AD.out HLN.out⟩

end Go.Proofs.Ytefphkefgfoklaa
