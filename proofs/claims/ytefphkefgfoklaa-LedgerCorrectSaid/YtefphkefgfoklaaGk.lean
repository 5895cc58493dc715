/- The contract of add: an entry that would make a balance negative. -/
import Derived.Test.YtefphkefgfoklaaGg
namespace Go.Proofs.Ytefphkefgfoklaa
open Go.RowKit
set_option linter.unusedVariables false
set_option maxRecDepth 100000 in
set_option maxHeartbeats 4000000 in
theorem add_exceeded (B pa : Nat) (l : List En) (x : En) (w : World) (h : Acc w B pa l) (hB : B ≤ w.heap.size) (hv : ledF l = 0) (hl : l.length < 2000) (hr : rangeB x = true) (hn : x.num = (l.length : Int) + 1) (hk9 : x.kind ≠ 9) (hok : (nextB l x).okB = false) :
    Calls Try.prog 30 #[.pointer (some ⟨pa, 0, none⟩), enV x] w (IsRet B 16 w) := by
  obtain ⟨pc, b1, b2, n1, n2, v, h⟩ := h
  have HR := Lib.hid (fun W => inRange_any x W)
  rw [hr] at HR
  obtain ⟨_, _, ⟨xl0, xl1⟩, ⟨hamt, hamt2⟩, _⟩ := range_iff.1 hr
  have HB := fun w3 => acc_box (w3 := w3) h hB x
  have HPX := Lib.hid (h.apart_box)
  have HLN := Lib.hid h.len
  have HN2 := Lib.hid h.len.2
  have HV := Lib.hid hv
  have HR1 := Lib.hid hr
  have HAB : Hid (-64000000000000 ≤ x.amt ∧ x.amt ≤ 64000000000000) := ⟨by omega, by omega⟩
  have HNX : Hid (nextB l x = bump (balF l x.lot) x.kind x.amt) := by unfold nextB effK effA; rw [if_neg hk9, if_neg hk9]; exact rfl
  obtain ⟨xn, xd, xk, xl, xa, xc⟩ := x
  unfold enV at *
  unfold enCs at HB
  simp only at *
  subst hn
  have HB := Lib.hid HB
  have HK9 := Lib.hid hk9
  have hkk : (xk == 9) = false := by simpa using hk9
  have HOK := Lib.hid hok
  have HLEN : Hid (l.length < 2000) := hl
  have HH := Lib.hid h
  have HAMT := Lib.hid (And.intro xl0 xl1)
  clear h hr hv hok hamt hamt2 xl0 xl1 hk9
  have hc1 := HH.out.cell.2.1
  have hpl := HH.out.lt.1
  obtain ⟨A, cap, rfl⟩ := own_len HH.out.ent
  generalize hnn : l.length = n at hc1 hl HR HB HPX ⊢
  have HL := Lib.hid hnn
  clear hnn
  go_enter Try.func30, Try.ntmps30
  go_wp2_with (go_at_call 42; refine (HR.out _).mono ?_; rintro e w3 ⟨rfl, hb3⟩)
  obtain ⟨A3, X3, q3⟩ := HB.out _ hb3
  clear hb3
  clear HB hc1 hpl HH HR
  obtain ⟨x0, x1, x2, x3, x4, x5⟩ := X3.cell
  obtain ⟨c0, c1, c2, c3⟩ := A3.cell
  have hpx := X3.lt
  obtain ⟨hpa, hpc, hb1, hb2⟩ := A3.lt
  simp only at x0 x1 x2 x3 x4 x5
  have A3 := Lib.hid A3
  have X3 := Lib.hid X3
  generalize w.heap.size = px at *
  go_quiet (fail)
  have hqW1 : Below w3.heap.size w3 (w3.drewN nq) := drewN_below (Below.refl _ _) _
  generalize w3.drewN nq = W1 at hqW1 ⊢
  obtain ⟨rcW1, rfW1⟩ := bcell hqW1
  have hsW1 := hqW1.size
  go_wp2
  go_quiet (fail)
  have hqW2 : Below w3.heap.size w3 (W1.drewN nq) := drewN_below (hqW1) _
  generalize W1.drewN nq = W2 at hqW2 ⊢
  clear rcW1 rfW1 hsW1
  obtain ⟨rcW2, rfW2⟩ := bcell hqW2
  have hsW2 := hqW2.size
  go_wp2
  have qW := q3.trans (hqW2.mono (Nat.le_trans X3.out.base (Nat.le_of_lt hpx)))
  have AW := Lib.hid (A3.out.below hqW2)
  have XW := Lib.hid (X3.out.below hqW2)
  clear rcW2 rfW2 hsW2 hqW2
  obtain ⟨c0, c1, c2, c3⟩ := AW.out.cell
  obtain ⟨x0, x1, x2, x3, x4, x5⟩ := XW.out.cell
  obtain ⟨hpa, hpc, hb1, hb2⟩ := AW.out.lt
  have hpx := XW.out.lt
  simp only at x0 x1 x2 x3 x4 x5
  have HLB := Lib.hid (fun (w' : World) (hb : Below W2.heap.size W2 w') => look_bal (AW.out.bal.below hb) xl (by have := HAMT.out; omega) (by have := HAMT.out; omega))
  have HBD := Lib.hid (balF_within HV.out xl)
  unfold baV at HLB
  generalize (if hasLot l xl = true then xl else 0) = l0 at HLB
  generalize hbl : balF l xl = bl at HLB HNX HBD
  have HBL := Lib.hid hbl
  clear hbl
  refine wp_region_x 8 (by kernel_rfl) (fun w' => w'.cell? ⟨pa, 2, none⟩ = some (.map (some b1)) ∧ w'.cell? ⟨px, 3, none⟩ = some (.int .i64 xl) ∧ (Instr.lookup 60 (.map (some b1)) (.int .i64 xl) false).run Try.prog w' = .ok (.agg #[.int .i64 l0, .int .i64 bl.ow, .int .i64 bl.se, .int .i64 bl.pa, .int .i64 bl.re]) w') ?_
  have HS : Hid (W2.drew.cell? ⟨pa, 2, none⟩ = some (.map (some b1)) ∧ W2.drew.cell? ⟨px, 3, none⟩ = some (.int .i64 xl) ∧ (Instr.lookup 60 (.map (some b1)) (.int .i64 xl) false).run Try.prog W2.drew = .ok (.agg #[.int .i64 l0, .int .i64 bl.ow, .int .i64 bl.se, .int .i64 bl.pa, .int .i64 bl.re]) W2.drew) := ⟨c2, x3, HLB.out _ (Below.refl _ _).drew⟩
  refine wpAnyX_take (i := 0) (v := .pointer (some ⟨pa, 0, none⟩)) rfl (by kernel_rfl) (by kernel_rfl) (by kernel_rfl) (by kernel_rfl) (fun _ _ _ h => h) HS.out (Or.inl ⟨by rfl, fun w hS => by obtain ⟨hS0, hS1, hS2⟩ := hS; go_simp⟩) ?_
  go_simp
  refine wpAnyX_take (i := 1) (v := .pointer (some ⟨pa, 0, none⟩)) rfl (by kernel_rfl) (by kernel_rfl) (by kernel_rfl) (by kernel_rfl) (fun _ _ _ h => h) HS.out (Or.inl ⟨by rfl, fun w hS => by obtain ⟨hS0, hS1, hS2⟩ := hS; go_simp⟩) ?_
  go_simp
  refine wpAnyX_take (i := 2) (v := .pointer (some ⟨pa, 2, none⟩)) rfl (by kernel_rfl) (by kernel_rfl) (by kernel_rfl) (by kernel_rfl) (fun _ _ _ h => h) HS.out (Or.inl ⟨by rfl, fun w hS => by obtain ⟨hS0, hS1, hS2⟩ := hS; go_simp⟩) ?_
  go_simp
  refine wpAnyX_take (i := 3) (v := .map (some b1)) rfl (by kernel_rfl) (by kernel_rfl) (by kernel_rfl) (by kernel_rfl) (fun _ _ _ h => h) HS.out (Or.inl ⟨by rfl, fun w hS => by obtain ⟨hS0, hS1, hS2⟩ := hS; go_simp⟩) ?_
  go_simp
  refine wpAnyX_take (i := 4) (v := .pointer (some ⟨px, 3, none⟩)) rfl (by kernel_rfl) (by kernel_rfl) (by kernel_rfl) (by kernel_rfl) (fun _ _ _ h => h) HS.out (Or.inl ⟨by rfl, fun w hS => by obtain ⟨hS0, hS1, hS2⟩ := hS; go_simp⟩) ?_
  go_simp
  refine wpAnyX_take (i := 5) (v := .int .i64 xl) rfl (by kernel_rfl) (by kernel_rfl) (by kernel_rfl) (by kernel_rfl) (fun _ _ _ h => h) HS.out (Or.inl ⟨by rfl, fun w hS => by obtain ⟨hS0, hS1, hS2⟩ := hS; go_simp⟩) ?_
  go_simp
  refine wpAnyX_take (i := 6) (v := .agg #[.int .i64 l0, .int .i64 bl.ow, .int .i64 bl.se, .int .i64 bl.pa, .int .i64 bl.re]) rfl (by kernel_rfl) (by kernel_rfl) (by kernel_rfl) (by kernel_rfl) (fun _ _ _ h => h) HS.out (Or.inl ⟨by rfl, fun w hS => by obtain ⟨hS0, hS1, hS2⟩ := hS; go_simp⟩) ?_
  go_simp
  refine wpAnyX_one (i := 7) (by kernel_rfl) rfl (fun K hK => ?_)
  go_simp
  refine hK.out _ _ (fun _ => ⟨by go_simp, by go_simp, HLB.out _ (((Below.refl _ _).alloc (Nat.le_refl _) _).drew)⟩) ?_
  clear hK K
  refine wpAnyX_one (i := 8) (by kernel_rfl) rfl (fun K hK => ?_)
  go_simp
  refine hK.out _ _ (fun h => absurd rfl h) ?_
  clear hK K
  refine wpAnyX_done (by kernel_rfl) ?_
  have g7 := heap_alloc_new W2 (.cells (baArr xl bl) 37)
  have b7 : Below W2.heap.size W2 ((W2.alloc (.cells (baArr xl bl) 37)).drew) := ((Below.refl _ _).alloc (Nat.le_refl _) _).drew
  have HCH := change_any pa pc W2.heap.size xl bl (xk) (xa) ((W2.alloc (.cells (baArr xl bl) 37)).drew) #[] (AW.out.below b7).cell.1 (fun j u hu => (cell_of_row _ _ _ _ _ _ (AW.out.below b7).col).trans (by rw [← hu]; simp)) g7 (Nat.ne_of_lt hpa) (Nat.ne_of_lt hpc)
    (HBD.out.mono (by have := HLEN.out; omega)) HAB.out
  rw [← HNX.out] at HCH
  rw [HOK.out] at HCH
  unfold baArr at HCH b7 g7
  generalize hnb : nextB l ⟨(l.length : Int) + 1, xd, xk, xl, xa, xc⟩ = nb at HCH
  have HNB := Lib.hid hnb
  have HCH := Lib.hid HCH
  have B7 := Lib.hid b7
  clear g7 b7 hnb
  go_wp2_with (go_at_call 43; refine HCH.out.mono ?_; rintro e w8 ⟨rfl, hg8, hr8⟩)
  have b8 : Below W2.heap.size W2 w8 := B7.out.trans ⟨hr8.os, hr8.tape, hr8.output, hr8.size, fun k hk => hr8.block k (Nat.lt_of_lt_of_le hk (by simp)) (fun e => absurd (Option.some.inj e) (Nat.ne_of_lt hk))⟩
  have q8 := qW.trans (b8.mono (Nat.le_trans XW.out.base (Nat.le_of_lt hpx)))
  go_ret
  exact ⟨rfl, q8⟩

end Go.Proofs.Ytefphkefgfoklaa
