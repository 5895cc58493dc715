/- The contract of steps: the entries that lead from the balance of a lot to a goal. -/
import Derived.Test.YtefphkefgfoklaaHe
import Derived.Test.YtefphkefgfoklaaGm
import Derived.Test.YtefphkefgfoklaaGw
import Derived.Test.YtefphkefgfoklaaSrc
namespace Go.Proofs.Ytefphkefgfoklaa
open Go.RowKit
set_option linter.unusedVariables false

def dnJ (lot : Int) (b g : Ba) : Nat → List En
  | 0 => []
  | 1 => stepOf lot 2 (b.ow - g.ow)
  | 2 => stepOf lot 2 (b.ow - g.ow) ++ stepOf lot 4 (b.se - g.se)
  | 3 => stepOf lot 2 (b.ow - g.ow) ++ stepOf lot 4 (b.se - g.se) ++ stepOf lot 6 (b.pa - g.pa)
  | _ => stepOf lot 2 (b.ow - g.ow) ++ stepOf lot 4 (b.se - g.se) ++ stepOf lot 6 (b.pa - g.pa) ++ stepOf lot 8 (b.re - g.re)
def upJ (lot : Int) (b g : Ba) : Nat → List En
  | 0 => []
  | 1 => stepOf lot 1 (g.ow - b.ow)
  | 2 => stepOf lot 1 (g.ow - b.ow) ++ stepOf lot 3 (g.se - b.se)
  | 3 => stepOf lot 1 (g.ow - b.ow) ++ stepOf lot 3 (g.se - b.se) ++ stepOf lot 5 (g.pa - b.pa)
  | _ => stepOf lot 1 (g.ow - b.ow) ++ stepOf lot 3 (g.se - b.se) ++ stepOf lot 5 (g.pa - b.pa) ++ stepOf lot 7 (g.re - b.re)
theorem dn_up_four (lot : Int) (b g : Ba) : dnJ lot b g 4 ++ upJ lot b g 4 = stepsF lot b g := by simp [dnJ, upJ, stepsF, downF, upF, List.append_assoc]
theorem step_pos {lot k d : Int} (h : 0 < d) : stepOf lot k d = [⟨0, 0, k, lot, d, 0⟩] := if_pos h
theorem step_neg {lot k d : Int} (h : ¬ 0 < d) : stepOf lot k d = [] := if_neg h
theorem stepOf_len (lot k d : Int) : (stepOf lot k d).length ≤ 1 := by unfold stepOf; split <;> simp
theorem dnJ_len (lot : Int) (b g : Ba) (j : Nat) : (dnJ lot b g j).length ≤ 4 ∧ (upJ lot b g j).length ≤ 4 := by
  have h := fun k d => stepOf_len lot k d
  match j with
  | 0 => simp [dnJ, upJ]
  | 1 => have := h 2 (b.ow - g.ow); have := h 1 (g.ow - b.ow); simp only [dnJ, upJ]; omega
  | 2 => have := h 2 (b.ow - g.ow); have := h 1 (g.ow - b.ow); have := h 4 (b.se - g.se); have := h 3 (g.se - b.se); simp only [dnJ, upJ, List.length_append]; omega
  | 3 => have := h 2 (b.ow - g.ow); have := h 1 (g.ow - b.ow); have := h 4 (b.se - g.se); have := h 3 (g.se - b.se); have := h 6 (b.pa - g.pa); have := h 5 (g.pa - b.pa); simp only [dnJ, upJ, List.length_append]; omega
  | n + 4 => have := h 2 (b.ow - g.ow); have := h 1 (g.ow - b.ow); have := h 4 (b.se - g.se); have := h 3 (g.se - b.se); have := h 6 (b.pa - g.pa); have := h 5 (g.pa - b.pa); have := h 8 (b.re - g.re); have := h 7 (g.re - b.re); simp only [dnJ, upJ, List.length_append]; omega
/-- two rows of entries of the call's own, apart -/
structure Two (w : World) (B : Nat) (vd vu : Value) (D U : List En) : Prop where
  d : w.ownsRow B 26 6 vd D.length (ensCs D)
  u : w.ownsRow B 26 6 vu U.length (ensCs U)
  ap : vd.ownBlock = none ∨ vu.ownBlock = none ∨ vd.ownBlock ≠ vu.ownBlock
theorem Two.below {w w' : World} {B : Nat} {vd vu : Value} {D U : List En} (h : Two w B vd vu D U) (hb : Below w.heap.size w w') : Two w' B vd vu D U := by
  have hg : w.grownBy w' none := ⟨hb.os, hb.tape, hb.output, hb.size, fun k hk _ => hb.block k hk⟩
  exact ⟨h.d.kept hg (by cases hv : vd.ownBlock <;> simp), h.u.kept hg (by cases hv : vu.ownBlock <;> simp), h.ap⟩
theorem Two.down {w w' : World} {B : Nat} {vd vu v' : Value} {D U : List En} {x : En} (h : Two w B vd vu D U) (h1 : w'.ownsRow B 26 6 v' (D.length + 1) (ensCs D ++ enCs x)) (hg : w.grownBy w' vd.ownBlock) (hv : v'.ownBlock = vd.ownBlock ∨ v'.ownBlock = some (w.heap.size + 1)) :
    Two w' B v' vu (D ++ [x]) U := by
  refine ⟨by rw [ensCs_snoc, List.length_append]; exact h1, h.u.kept hg ?_, ?_⟩
  · rcases h.ap with a | a | a
    · rw [a]; cases hu : vu.ownBlock <;> simp
    · exact .inl a
    · exact .inr (Ne.symm a)
  · rcases hv with e | e
    · rw [e]; exact h.ap
    · rw [e]
      cases hu : vu.ownBlock with
      | none => exact .inr (.inl rfl)
      | some k => exact .inr (.inr (fun e2 => by injection e2 with e2; have := (h.u.lt k hu).2; omega))
theorem Two.up {w w' : World} {B : Nat} {vd vu v' : Value} {D U : List En} {x : En} (h : Two w B vd vu D U) (h1 : w'.ownsRow B 26 6 v' (U.length + 1) (ensCs U ++ enCs x)) (hg : w.grownBy w' vu.ownBlock) (hv : v'.ownBlock = vu.ownBlock ∨ v'.ownBlock = some (w.heap.size + 1)) :
    Two w' B vd v' D (U ++ [x]) := by
  refine ⟨h.d.kept hg ?_, by rw [ensCs_snoc, List.length_append]; exact h1, ?_⟩
  · rcases h.ap with a | a | a
    · exact .inl a
    · rw [a]; cases hu : vd.ownBlock <;> simp
    · exact .inr a
  · rcases hv with e | e
    · rw [e]; exact h.ap
    · rw [e]
      cases hu : vd.ownBlock with
      | none => exact .inl rfl
      | some k => exact .inr (.inr (fun e2 => by injection e2 with e2; have := (h.d.lt k hu).2; omega))
def StRel (W2 : World) (lot : Int) (b g : Ba) (m : Nat) (vd vu i : Value) (wr : World) : Prop :=
  ∃ j : Nat, j + m = 4 ∧ i = .int .i64 (j : Int) ∧ Two wr W2.heap.size vd vu (dnJ lot b g j) (upJ lot b g j) ∧ Below W2.heap.size W2 wr
def StepsRet (l : List En) (lot : Int) (g : Ba) (w : World) (e : Ending) (w' : World) : Prop := ∃ v, e = .returned v ∧ OwnX w' w.heap.size 26 6 v (stepsF lot (balF l lot) g).length (ensCs (stepsF lot (balF l lot) g)) ∧ Below w.heap.size w w'
theorem steps_done {D U R : List En} {w w3 : World} {B : Nat} {v2 : Value} (hf : D ++ U = R) (ho : OwnX w3 B 26 6 v2 (D.length + U.length) (ensCs D ++ ensCs U)) (hB : w.heap.size ≤ B) (hb : Below w.heap.size w w3) :
    ∃ v, Ending.returned v2 = .returned v ∧ OwnX w3 w.heap.size 26 6 v R.length (ensCs R) ∧ Below w.heap.size w w3 := by
  subst hf
  refine ⟨_, rfl, ?_, hb⟩
  have : ensCs (D ++ U) = ensCs D ++ ensCs U := by simp [ensCs]
  rw [this, List.length_append]
  exact ho.mono hB
set_option maxRecDepth 100000 in
set_option maxHeartbeats 8000000 in
theorem steps_any (B pa : Nat) (l : List En) (lot gl : Int) (g : Ba) (w : World) (h : Acc w B pa l) (hB : B ≤ w.heap.size) (hv : ledF l = 0) (h0 : -9223372036854775808 ≤ lot) (h1 : lot ≤ 9223372036854775807) (hg : g.within 64000000000000) :
    Calls Try.prog 35 #[.pointer (some ⟨pa, 0, none⟩), .int .i64 lot, baV gl g] w (StepsRet l lot g w) := by
  obtain ⟨pc, b1, b2, n1, n2, v, h⟩ := h
  have hlen := ledF_len hv
  have HBD := Lib.hid ((balF_within hv lot).mono (n := 130000000000000000) (by omega))
  have HGD := Lib.hid hg
  have q0 := (Below.refl w.heap.size w).alloc (Nat.le_refl _) (.cells (baArr gl g) 37)
  have A0 := h.below q0
  have hlk := look_bal A0.bal lot h0 h1
  have c2 := h.cell.2.2.1
  have c00 := h.cell.1
  have hpa := h.lt.1
  have hg0 := heap_alloc_new w (.cells (baArr gl g) 37)
  unfold StepsRet
  unfold baV at *
  generalize hbb : balF l lot = b at *
  generalize (if hasLot l lot = true then lot else 0) = l0 at *
  have A0 := Lib.hid A0
  have Q0 := Lib.hid q0
  have HG0 := Lib.hid hg0
  clear h q0 h0 h1 hv hg hg0 hbb hlen
  unfold baArr at *
  go_enter Try.func35, Try.ntmps35
  go_wp2_with fail
  have qz : Below (w.alloc (.cells #[.int .i64 gl, .int .i64 g.ow, .int .i64 g.se, .int .i64 g.pa, .int .i64 g.re] 37)).heap.size (w.alloc (.cells #[.int .i64 gl, .int .i64 g.ow, .int .i64 g.se, .int .i64 g.pa, .int .i64 g.re] 37)) ((w.alloc (.cells #[.int .i64 gl, .int .i64 g.ow, .int .i64 g.se, .int .i64 g.pa, .int .i64 g.re] 37)).alloc (.cells #[.int .i64 l0, .int .i64 b.ow, .int .i64 b.se, .int .i64 b.pa, .int .i64 b.re] 37)) := (Below.refl _ _).alloc (Nat.le_refl _) _
  have AW := Lib.hid (A0.out.below qz)
  have HPG := Lib.hid ((qz.block w.heap.size (by simp)).trans HG0.out)
  have HPB := heap_alloc2_new w (.cells #[.int .i64 gl, .int .i64 g.ow, .int .i64 g.se, .int .i64 g.pa, .int .i64 g.re] 37) (.cells #[.int .i64 l0, .int .i64 b.ow, .int .i64 b.se, .int .i64 b.pa, .int .i64 b.re] 37)
  have HPB := Lib.hid HPB
  have QZ := Lib.hid (Q0.out.trans (qz.mono Q0.out.size))
  clear qz HG0 A0 Q0 hlk c2 c00 hpa
  generalize (w.alloc (.cells #[.int .i64 gl, .int .i64 g.ow, .int .i64 g.se, .int .i64 g.pa, .int .i64 g.re] 37)).alloc (.cells #[.int .i64 l0, .int .i64 b.ow, .int .i64 b.se, .int .i64 b.pa, .int .i64 b.re] 37) = W2 at *
  have hpg : w.heap.size < W2.heap.size := (Array.getElem?_eq_some_iff.1 HPG.out).1
  have hpb : w.heap.size + 1 < W2.heap.size := (Array.getElem?_eq_some_iff.1 HPB.out).1
  generalize w.heap.size + 1 = pb at *
  have HWS := Lib.hid (Nat.le_of_lt hpg)
  generalize w.heap.size = pg at HPG hpg ⊢
  obtain ⟨i0, hi0, hz0, hz1, hz2⟩ := info_parts entInfo
  go_loopg [7, 8, 25] 4 (fun m vd vu i wr => StRel W2 lot b g m vd vu i wr)
  case atStart => exact ⟨0, rfl, rfl, ⟨World.ownsRow_nil _ _ _ _, World.ownsRow_nil _ _ _ _, .inl rfl⟩, Below.refl _ _⟩
  case round =>
    obtain ⟨j, hj, rfl, hT, hb⟩ := hrel
    have HT := Lib.hid hT
    have HB := Lib.hid hb
    have hBr := hb.size
    clear hT hb
    have hj4 : j ≤ 4 := by omega
    match j, hj4 with
    | 0, _ =>
      have c0 := (cell_of_row _ _ 0 _ _ _ (AW.out.below HB.out).col).trans (show _ = some (Value.int .i64 1) from rfl)
      have c1 := (cell_of_row _ _ 1 _ _ _ (AW.out.below HB.out).col).trans (show _ = some (Value.int .i64 2) from rfl)
      have c2 := (cell_of_row _ _ 2 _ _ _ (AW.out.below HB.out).col).trans (show _ = some (Value.func (.func 50) #[] #[]) from rfl)
      have hpl := block_lt_of_cell c0
      have g0 : wr.cell? ⟨pg, 1, none⟩ = some (.int .i64 g.ow) := (HB.out.cell (p := ⟨pg, 1, none⟩) hpg).trans (by rw [cell_of_row _ _ _ _ _ _ HPG.out]; rfl)
      have b0 : wr.cell? ⟨pb, 1, none⟩ = some (.int .i64 b.ow) := (HB.out.cell (p := ⟨pb, 1, none⟩) hpb).trans (by rw [cell_of_row _ _ _ _ _ _ HPB.out]; rfl)
      have hgl := block_lt_of_cell g0
      have hbl := block_lt_of_cell b0
      obtain ⟨b1, b2⟩ := HBD.out.1
      obtain ⟨g1, g2⟩ := HGD.out.1
      have HD := Lib.hid (show dnJ lot b g 1 = dnJ lot b g 0 ++ stepOf lot 2 (b.ow - g.ow) from by simp [dnJ])
      have HU := Lib.hid (show upJ lot b g 1 = upJ lot b g 0 ++ stepOf lot 1 (g.ow - b.ow) from by simp [upJ])
      obtain ⟨l1, l2⟩ := dnJ_len lot b g 0
      generalize dnJ lot b g 0 = D at *
      generalize upJ lot b g 0 = U at *
      have qa : Below wr.heap.size wr (wr.alloc (.cells #[.int .i64 1, .int .i64 2, .func (.func 50) #[] #[]] 83)) := (Below.refl _ _).alloc (Nat.le_refl _) _
      have QA := Lib.hid qa
      clear qa
      generalize b.ow = x at *
      generalize g.ow = y at *
      by_cases hgt : y < x
      · have HD := Lib.hid (HD.out.trans (congrArg (D ++ ·) (step_pos (lot := lot) (k := 2) (show 0 < x - y by omega))))
        have HU := Lib.hid (HU.out.trans ((congrArg (U ++ ·) (step_neg (lot := lot) (k := 1) (show ¬ 0 < y - x by omega))).trans (List.append_nil U)))
        go_wp2_with fail
        go_quiet ((go_at_call 50; exact quietL (col1_any _ _)))
        generalize hW : (wr.alloc (.cells #[.int .i64 1, .int .i64 2, .func (.func 50) #[] #[]] 83)).drewN nq = W
        have QW : Hid (Below wr.heap.size wr W) := by rw [← hW]; exact drewN_below QA.out nq
        have hcol : W.cell? ⟨wr.heap.size, 0, none⟩ = some (.int .i64 1) ∧ W.cell? ⟨wr.heap.size, 1, none⟩ = some (.int .i64 2) := by rw [← hW]; exact ⟨by simp, by simp⟩
        have hwl : wr.heap.size < W.heap.size := block_lt_of_cell hcol.1
        obtain ⟨k0, k1⟩ := hcol
        clear hW c0 c1 c2 g0 b0
        have HTW := Lib.hid (HT.out.below QW.out)
        have hB2 : W2.heap.size ≤ W.heap.size := Nat.le_trans HB.out.size QW.out.size
        go_wp2_with (at_builtin; refine wpList_append_new W rfl (.tmp 42) (.tmp 50) 23 rfl W2.heap.size 26 i0 _ 6 48 Try.underlying23 hi0 hz0 hz1 hz2 rfl (by omega) u7 D.length (ensCs D) [.int .i64 0, .int .i64 0, .int .i64 2, .int .i64 lot, .int .i64 (x - y), .int .i64 0] rfl (by intro u hu; simp at hu; rcases hu with rfl | rfl | rfl | rfl | rfl | rfl <;> rfl) rfl HTW.out.d rfl (by unfold maxLen; omega) (by omega) hB2 ?_; intro v2 w3 hown2 hb3 hv3 hg3; have HT3 := Lib.hid (HTW.out.down (x := ⟨0, 0, 2, lot, x - y, 0⟩) hown2 hg3 hv3); have HB3 := Lib.hid ((HB.out.trans (QW.out.mono HB.out.size)).trans hb3); clear hown2 hb3 hv3 hg3)
        go_roundg 3
        case measure => omega
        case rel => exact ⟨1, rfl, rfl, by rw [HD.out, HU.out]; exact HT3.out, HB3.out⟩
      by_cases hlt : x < y
      · have HD := Lib.hid (HD.out.trans ((congrArg (D ++ ·) (step_neg (lot := lot) (k := 2) (show ¬ 0 < x - y by omega))).trans (List.append_nil D)))
        have HU := Lib.hid (HU.out.trans (congrArg (U ++ ·) (step_pos (lot := lot) (k := 1) (show 0 < y - x by omega))))
        go_wp2_with fail
        go_quiet ((go_at_call 50; exact quietL (col1_any _ _)))
        generalize hW : (wr.alloc (.cells #[.int .i64 1, .int .i64 2, .func (.func 50) #[] #[]] 83)).drewN nq = W
        have QW : Hid (Below wr.heap.size wr W) := by rw [← hW]; exact drewN_below QA.out nq
        have hcol : W.cell? ⟨wr.heap.size, 0, none⟩ = some (.int .i64 1) ∧ W.cell? ⟨wr.heap.size, 1, none⟩ = some (.int .i64 2) := by rw [← hW]; exact ⟨by simp, by simp⟩
        have hwl : wr.heap.size < W.heap.size := block_lt_of_cell hcol.1
        obtain ⟨k0, k1⟩ := hcol
        clear hW c0 c1 c2 g0 b0
        have HTW := Lib.hid (HT.out.below QW.out)
        have hB2 : W2.heap.size ≤ W.heap.size := Nat.le_trans HB.out.size QW.out.size
        go_wp2_with (at_builtin; refine wpList_append_new W rfl (.tmp 55) (.tmp 63) 23 rfl W2.heap.size 26 i0 _ 6 48 Try.underlying23 hi0 hz0 hz1 hz2 rfl (by omega) u8 U.length (ensCs U) [.int .i64 0, .int .i64 0, .int .i64 1, .int .i64 lot, .int .i64 (y - x), .int .i64 0] rfl (by intro u hu; simp at hu; rcases hu with rfl | rfl | rfl | rfl | rfl | rfl <;> rfl) rfl HTW.out.u rfl (by unfold maxLen; omega) (by omega) hB2 ?_; intro v2 w3 hown2 hb3 hv3 hg3; have HT3 := Lib.hid (HTW.out.up (x := ⟨0, 0, 1, lot, y - x, 0⟩) hown2 hg3 hv3); have HB3 := Lib.hid ((HB.out.trans (QW.out.mono HB.out.size)).trans hb3); clear hown2 hb3 hv3 hg3)
        go_roundg 3
        case measure => omega
        case rel => exact ⟨1, rfl, rfl, by rw [HD.out, HU.out]; exact HT3.out, HB3.out⟩
      · have HD := Lib.hid (HD.out.trans ((congrArg (D ++ ·) (step_neg (lot := lot) (k := 2) (show ¬ 0 < x - y by omega))).trans (List.append_nil D)))
        have HU := Lib.hid (HU.out.trans ((congrArg (U ++ ·) (step_neg (lot := lot) (k := 1) (show ¬ 0 < y - x by omega))).trans (List.append_nil U)))
        go_wp2_with fail
        go_quiet ((go_at_call 50; exact quietL (col1_any _ _)))
        generalize hW : (wr.alloc (.cells #[.int .i64 1, .int .i64 2, .func (.func 50) #[] #[]] 83)).drewN nq = W
        have QW : Hid (Below wr.heap.size wr W) := by rw [← hW]; exact drewN_below QA.out nq
        have hcol : W.cell? ⟨wr.heap.size, 0, none⟩ = some (.int .i64 1) ∧ W.cell? ⟨wr.heap.size, 1, none⟩ = some (.int .i64 2) := by rw [← hW]; exact ⟨by simp, by simp⟩
        have hwl : wr.heap.size < W.heap.size := block_lt_of_cell hcol.1
        obtain ⟨k0, k1⟩ := hcol
        clear hW c0 c1 c2 g0 b0
        have HTW := Lib.hid (HT.out.below QW.out)
        have hB2 : W2.heap.size ≤ W.heap.size := Nat.le_trans HB.out.size QW.out.size
        go_wp2_with fail
        have HT3 := HTW
        have HB3 := Lib.hid (HB.out.trans (QW.out.mono HB.out.size))
        go_roundg 3
        case measure => omega
        case rel => exact ⟨1, rfl, rfl, by rw [HD.out, HU.out]; exact HT3.out, HB3.out⟩
    | 1, _ =>
      have c0 := (cell_of_row _ _ 3 _ _ _ (AW.out.below HB.out).col).trans (show _ = some (Value.int .i64 3) from rfl)
      have c1 := (cell_of_row _ _ 4 _ _ _ (AW.out.below HB.out).col).trans (show _ = some (Value.int .i64 4) from rfl)
      have c2 := (cell_of_row _ _ 5 _ _ _ (AW.out.below HB.out).col).trans (show _ = some (Value.func (.func 51) #[] #[]) from rfl)
      have hpl := block_lt_of_cell c0
      have g0 : wr.cell? ⟨pg, 2, none⟩ = some (.int .i64 g.se) := (HB.out.cell (p := ⟨pg, 2, none⟩) hpg).trans (by rw [cell_of_row _ _ _ _ _ _ HPG.out]; rfl)
      have b0 : wr.cell? ⟨pb, 2, none⟩ = some (.int .i64 b.se) := (HB.out.cell (p := ⟨pb, 2, none⟩) hpb).trans (by rw [cell_of_row _ _ _ _ _ _ HPB.out]; rfl)
      have hgl := block_lt_of_cell g0
      have hbl := block_lt_of_cell b0
      obtain ⟨b1, b2⟩ := HBD.out.2.1
      obtain ⟨g1, g2⟩ := HGD.out.2.1
      have HD := Lib.hid (show dnJ lot b g 2 = dnJ lot b g 1 ++ stepOf lot 4 (b.se - g.se) from rfl)
      have HU := Lib.hid (show upJ lot b g 2 = upJ lot b g 1 ++ stepOf lot 3 (g.se - b.se) from rfl)
      obtain ⟨l1, l2⟩ := dnJ_len lot b g 1
      generalize dnJ lot b g 1 = D at *
      generalize upJ lot b g 1 = U at *
      have qa : Below wr.heap.size wr (wr.alloc (.cells #[.int .i64 3, .int .i64 4, .func (.func 51) #[] #[]] 83)) := (Below.refl _ _).alloc (Nat.le_refl _) _
      have QA := Lib.hid qa
      clear qa
      generalize b.se = x at *
      generalize g.se = y at *
      by_cases hgt : y < x
      · have HD := Lib.hid (HD.out.trans (congrArg (D ++ ·) (step_pos (lot := lot) (k := 4) (show 0 < x - y by omega))))
        have HU := Lib.hid (HU.out.trans ((congrArg (U ++ ·) (step_neg (lot := lot) (k := 3) (show ¬ 0 < y - x by omega))).trans (List.append_nil U)))
        go_wp2_with fail
        go_quiet ((go_at_call 51; exact quietL (col2_any _ _)))
        generalize hW : (wr.alloc (.cells #[.int .i64 3, .int .i64 4, .func (.func 51) #[] #[]] 83)).drewN nq = W
        have QW : Hid (Below wr.heap.size wr W) := by rw [← hW]; exact drewN_below QA.out nq
        have hcol : W.cell? ⟨wr.heap.size, 0, none⟩ = some (.int .i64 3) ∧ W.cell? ⟨wr.heap.size, 1, none⟩ = some (.int .i64 4) := by rw [← hW]; exact ⟨by simp, by simp⟩
        have hwl : wr.heap.size < W.heap.size := block_lt_of_cell hcol.1
        obtain ⟨k0, k1⟩ := hcol
        clear hW c0 c1 c2 g0 b0
        have HTW := Lib.hid (HT.out.below QW.out)
        have hB2 : W2.heap.size ≤ W.heap.size := Nat.le_trans HB.out.size QW.out.size
        go_wp2_with (at_builtin; refine wpList_append_new W rfl (.tmp 42) (.tmp 50) 23 rfl W2.heap.size 26 i0 _ 6 48 Try.underlying23 hi0 hz0 hz1 hz2 rfl (by omega) u7 D.length (ensCs D) [.int .i64 0, .int .i64 0, .int .i64 4, .int .i64 lot, .int .i64 (x - y), .int .i64 0] rfl (by intro u hu; simp at hu; rcases hu with rfl | rfl | rfl | rfl | rfl | rfl <;> rfl) rfl HTW.out.d rfl (by unfold maxLen; omega) (by omega) hB2 ?_; intro v2 w3 hown2 hb3 hv3 hg3; have HT3 := Lib.hid (HTW.out.down (x := ⟨0, 0, 4, lot, x - y, 0⟩) hown2 hg3 hv3); have HB3 := Lib.hid ((HB.out.trans (QW.out.mono HB.out.size)).trans hb3); clear hown2 hb3 hv3 hg3)
        go_roundg 2
        case measure => omega
        case rel => exact ⟨2, rfl, rfl, by rw [HD.out, HU.out]; exact HT3.out, HB3.out⟩
      by_cases hlt : x < y
      · have HD := Lib.hid (HD.out.trans ((congrArg (D ++ ·) (step_neg (lot := lot) (k := 4) (show ¬ 0 < x - y by omega))).trans (List.append_nil D)))
        have HU := Lib.hid (HU.out.trans (congrArg (U ++ ·) (step_pos (lot := lot) (k := 3) (show 0 < y - x by omega))))
        go_wp2_with fail
        go_quiet ((go_at_call 51; exact quietL (col2_any _ _)))
        generalize hW : (wr.alloc (.cells #[.int .i64 3, .int .i64 4, .func (.func 51) #[] #[]] 83)).drewN nq = W
        have QW : Hid (Below wr.heap.size wr W) := by rw [← hW]; exact drewN_below QA.out nq
        have hcol : W.cell? ⟨wr.heap.size, 0, none⟩ = some (.int .i64 3) ∧ W.cell? ⟨wr.heap.size, 1, none⟩ = some (.int .i64 4) := by rw [← hW]; exact ⟨by simp, by simp⟩
        have hwl : wr.heap.size < W.heap.size := block_lt_of_cell hcol.1
        obtain ⟨k0, k1⟩ := hcol
        clear hW c0 c1 c2 g0 b0
        have HTW := Lib.hid (HT.out.below QW.out)
        have hB2 : W2.heap.size ≤ W.heap.size := Nat.le_trans HB.out.size QW.out.size
        go_wp2_with (at_builtin; refine wpList_append_new W rfl (.tmp 55) (.tmp 63) 23 rfl W2.heap.size 26 i0 _ 6 48 Try.underlying23 hi0 hz0 hz1 hz2 rfl (by omega) u8 U.length (ensCs U) [.int .i64 0, .int .i64 0, .int .i64 3, .int .i64 lot, .int .i64 (y - x), .int .i64 0] rfl (by intro u hu; simp at hu; rcases hu with rfl | rfl | rfl | rfl | rfl | rfl <;> rfl) rfl HTW.out.u rfl (by unfold maxLen; omega) (by omega) hB2 ?_; intro v2 w3 hown2 hb3 hv3 hg3; have HT3 := Lib.hid (HTW.out.up (x := ⟨0, 0, 3, lot, y - x, 0⟩) hown2 hg3 hv3); have HB3 := Lib.hid ((HB.out.trans (QW.out.mono HB.out.size)).trans hb3); clear hown2 hb3 hv3 hg3)
        go_roundg 2
        case measure => omega
        case rel => exact ⟨2, rfl, rfl, by rw [HD.out, HU.out]; exact HT3.out, HB3.out⟩
      · have HD := Lib.hid (HD.out.trans ((congrArg (D ++ ·) (step_neg (lot := lot) (k := 4) (show ¬ 0 < x - y by omega))).trans (List.append_nil D)))
        have HU := Lib.hid (HU.out.trans ((congrArg (U ++ ·) (step_neg (lot := lot) (k := 3) (show ¬ 0 < y - x by omega))).trans (List.append_nil U)))
        go_wp2_with fail
        go_quiet ((go_at_call 51; exact quietL (col2_any _ _)))
        generalize hW : (wr.alloc (.cells #[.int .i64 3, .int .i64 4, .func (.func 51) #[] #[]] 83)).drewN nq = W
        have QW : Hid (Below wr.heap.size wr W) := by rw [← hW]; exact drewN_below QA.out nq
        have hcol : W.cell? ⟨wr.heap.size, 0, none⟩ = some (.int .i64 3) ∧ W.cell? ⟨wr.heap.size, 1, none⟩ = some (.int .i64 4) := by rw [← hW]; exact ⟨by simp, by simp⟩
        have hwl : wr.heap.size < W.heap.size := block_lt_of_cell hcol.1
        obtain ⟨k0, k1⟩ := hcol
        clear hW c0 c1 c2 g0 b0
        have HTW := Lib.hid (HT.out.below QW.out)
        have hB2 : W2.heap.size ≤ W.heap.size := Nat.le_trans HB.out.size QW.out.size
        go_wp2_with fail
        have HT3 := HTW
        have HB3 := Lib.hid (HB.out.trans (QW.out.mono HB.out.size))
        go_roundg 2
        case measure => omega
        case rel => exact ⟨2, rfl, rfl, by rw [HD.out, HU.out]; exact HT3.out, HB3.out⟩
    | 2, _ =>
      have c0 := (cell_of_row _ _ 6 _ _ _ (AW.out.below HB.out).col).trans (show _ = some (Value.int .i64 5) from rfl)
      have c1 := (cell_of_row _ _ 7 _ _ _ (AW.out.below HB.out).col).trans (show _ = some (Value.int .i64 6) from rfl)
      have c2 := (cell_of_row _ _ 8 _ _ _ (AW.out.below HB.out).col).trans (show _ = some (Value.func (.func 52) #[] #[]) from rfl)
      have hpl := block_lt_of_cell c0
      have g0 : wr.cell? ⟨pg, 3, none⟩ = some (.int .i64 g.pa) := (HB.out.cell (p := ⟨pg, 3, none⟩) hpg).trans (by rw [cell_of_row _ _ _ _ _ _ HPG.out]; rfl)
      have b0 : wr.cell? ⟨pb, 3, none⟩ = some (.int .i64 b.pa) := (HB.out.cell (p := ⟨pb, 3, none⟩) hpb).trans (by rw [cell_of_row _ _ _ _ _ _ HPB.out]; rfl)
      have hgl := block_lt_of_cell g0
      have hbl := block_lt_of_cell b0
      obtain ⟨b1, b2⟩ := HBD.out.2.2.1
      obtain ⟨g1, g2⟩ := HGD.out.2.2.1
      have HD := Lib.hid (show dnJ lot b g 3 = dnJ lot b g 2 ++ stepOf lot 6 (b.pa - g.pa) from rfl)
      have HU := Lib.hid (show upJ lot b g 3 = upJ lot b g 2 ++ stepOf lot 5 (g.pa - b.pa) from rfl)
      obtain ⟨l1, l2⟩ := dnJ_len lot b g 2
      generalize dnJ lot b g 2 = D at *
      generalize upJ lot b g 2 = U at *
      have qa : Below wr.heap.size wr (wr.alloc (.cells #[.int .i64 5, .int .i64 6, .func (.func 52) #[] #[]] 83)) := (Below.refl _ _).alloc (Nat.le_refl _) _
      have QA := Lib.hid qa
      clear qa
      generalize b.pa = x at *
      generalize g.pa = y at *
      by_cases hgt : y < x
      · have HD := Lib.hid (HD.out.trans (congrArg (D ++ ·) (step_pos (lot := lot) (k := 6) (show 0 < x - y by omega))))
        have HU := Lib.hid (HU.out.trans ((congrArg (U ++ ·) (step_neg (lot := lot) (k := 5) (show ¬ 0 < y - x by omega))).trans (List.append_nil U)))
        go_wp2_with fail
        go_quiet ((go_at_call 52; exact quietL (col3_any _ _)))
        generalize hW : (wr.alloc (.cells #[.int .i64 5, .int .i64 6, .func (.func 52) #[] #[]] 83)).drewN nq = W
        have QW : Hid (Below wr.heap.size wr W) := by rw [← hW]; exact drewN_below QA.out nq
        have hcol : W.cell? ⟨wr.heap.size, 0, none⟩ = some (.int .i64 5) ∧ W.cell? ⟨wr.heap.size, 1, none⟩ = some (.int .i64 6) := by rw [← hW]; exact ⟨by simp, by simp⟩
        have hwl : wr.heap.size < W.heap.size := block_lt_of_cell hcol.1
        obtain ⟨k0, k1⟩ := hcol
        clear hW c0 c1 c2 g0 b0
        have HTW := Lib.hid (HT.out.below QW.out)
        have hB2 : W2.heap.size ≤ W.heap.size := Nat.le_trans HB.out.size QW.out.size
        go_wp2_with (at_builtin; refine wpList_append_new W rfl (.tmp 42) (.tmp 50) 23 rfl W2.heap.size 26 i0 _ 6 48 Try.underlying23 hi0 hz0 hz1 hz2 rfl (by omega) u7 D.length (ensCs D) [.int .i64 0, .int .i64 0, .int .i64 6, .int .i64 lot, .int .i64 (x - y), .int .i64 0] rfl (by intro u hu; simp at hu; rcases hu with rfl | rfl | rfl | rfl | rfl | rfl <;> rfl) rfl HTW.out.d rfl (by unfold maxLen; omega) (by omega) hB2 ?_; intro v2 w3 hown2 hb3 hv3 hg3; have HT3 := Lib.hid (HTW.out.down (x := ⟨0, 0, 6, lot, x - y, 0⟩) hown2 hg3 hv3); have HB3 := Lib.hid ((HB.out.trans (QW.out.mono HB.out.size)).trans hb3); clear hown2 hb3 hv3 hg3)
        go_roundg 1
        case measure => omega
        case rel => exact ⟨3, rfl, rfl, by rw [HD.out, HU.out]; exact HT3.out, HB3.out⟩
      by_cases hlt : x < y
      · have HD := Lib.hid (HD.out.trans ((congrArg (D ++ ·) (step_neg (lot := lot) (k := 6) (show ¬ 0 < x - y by omega))).trans (List.append_nil D)))
        have HU := Lib.hid (HU.out.trans (congrArg (U ++ ·) (step_pos (lot := lot) (k := 5) (show 0 < y - x by omega))))
        go_wp2_with fail
        go_quiet ((go_at_call 52; exact quietL (col3_any _ _)))
        generalize hW : (wr.alloc (.cells #[.int .i64 5, .int .i64 6, .func (.func 52) #[] #[]] 83)).drewN nq = W
        have QW : Hid (Below wr.heap.size wr W) := by rw [← hW]; exact drewN_below QA.out nq
        have hcol : W.cell? ⟨wr.heap.size, 0, none⟩ = some (.int .i64 5) ∧ W.cell? ⟨wr.heap.size, 1, none⟩ = some (.int .i64 6) := by rw [← hW]; exact ⟨by simp, by simp⟩
        have hwl : wr.heap.size < W.heap.size := block_lt_of_cell hcol.1
        obtain ⟨k0, k1⟩ := hcol
        clear hW c0 c1 c2 g0 b0
        have HTW := Lib.hid (HT.out.below QW.out)
        have hB2 : W2.heap.size ≤ W.heap.size := Nat.le_trans HB.out.size QW.out.size
        go_wp2_with (at_builtin; refine wpList_append_new W rfl (.tmp 55) (.tmp 63) 23 rfl W2.heap.size 26 i0 _ 6 48 Try.underlying23 hi0 hz0 hz1 hz2 rfl (by omega) u8 U.length (ensCs U) [.int .i64 0, .int .i64 0, .int .i64 5, .int .i64 lot, .int .i64 (y - x), .int .i64 0] rfl (by intro u hu; simp at hu; rcases hu with rfl | rfl | rfl | rfl | rfl | rfl <;> rfl) rfl HTW.out.u rfl (by unfold maxLen; omega) (by omega) hB2 ?_; intro v2 w3 hown2 hb3 hv3 hg3; have HT3 := Lib.hid (HTW.out.up (x := ⟨0, 0, 5, lot, y - x, 0⟩) hown2 hg3 hv3); have HB3 := Lib.hid ((HB.out.trans (QW.out.mono HB.out.size)).trans hb3); clear hown2 hb3 hv3 hg3)
        go_roundg 1
        case measure => omega
        case rel => exact ⟨3, rfl, rfl, by rw [HD.out, HU.out]; exact HT3.out, HB3.out⟩
      · have HD := Lib.hid (HD.out.trans ((congrArg (D ++ ·) (step_neg (lot := lot) (k := 6) (show ¬ 0 < x - y by omega))).trans (List.append_nil D)))
        have HU := Lib.hid (HU.out.trans ((congrArg (U ++ ·) (step_neg (lot := lot) (k := 5) (show ¬ 0 < y - x by omega))).trans (List.append_nil U)))
        go_wp2_with fail
        go_quiet ((go_at_call 52; exact quietL (col3_any _ _)))
        generalize hW : (wr.alloc (.cells #[.int .i64 5, .int .i64 6, .func (.func 52) #[] #[]] 83)).drewN nq = W
        have QW : Hid (Below wr.heap.size wr W) := by rw [← hW]; exact drewN_below QA.out nq
        have hcol : W.cell? ⟨wr.heap.size, 0, none⟩ = some (.int .i64 5) ∧ W.cell? ⟨wr.heap.size, 1, none⟩ = some (.int .i64 6) := by rw [← hW]; exact ⟨by simp, by simp⟩
        have hwl : wr.heap.size < W.heap.size := block_lt_of_cell hcol.1
        obtain ⟨k0, k1⟩ := hcol
        clear hW c0 c1 c2 g0 b0
        have HTW := Lib.hid (HT.out.below QW.out)
        have hB2 : W2.heap.size ≤ W.heap.size := Nat.le_trans HB.out.size QW.out.size
        go_wp2_with fail
        have HT3 := HTW
        have HB3 := Lib.hid (HB.out.trans (QW.out.mono HB.out.size))
        go_roundg 1
        case measure => omega
        case rel => exact ⟨3, rfl, rfl, by rw [HD.out, HU.out]; exact HT3.out, HB3.out⟩
    | 3, _ =>
      have c0 := (cell_of_row _ _ 9 _ _ _ (AW.out.below HB.out).col).trans (show _ = some (Value.int .i64 7) from rfl)
      have c1 := (cell_of_row _ _ 10 _ _ _ (AW.out.below HB.out).col).trans (show _ = some (Value.int .i64 8) from rfl)
      have c2 := (cell_of_row _ _ 11 _ _ _ (AW.out.below HB.out).col).trans (show _ = some (Value.func (.func 53) #[] #[]) from rfl)
      have hpl := block_lt_of_cell c0
      have g0 : wr.cell? ⟨pg, 4, none⟩ = some (.int .i64 g.re) := (HB.out.cell (p := ⟨pg, 4, none⟩) hpg).trans (by rw [cell_of_row _ _ _ _ _ _ HPG.out]; rfl)
      have b0 : wr.cell? ⟨pb, 4, none⟩ = some (.int .i64 b.re) := (HB.out.cell (p := ⟨pb, 4, none⟩) hpb).trans (by rw [cell_of_row _ _ _ _ _ _ HPB.out]; rfl)
      have hgl := block_lt_of_cell g0
      have hbl := block_lt_of_cell b0
      obtain ⟨b1, b2⟩ := HBD.out.2.2.2
      obtain ⟨g1, g2⟩ := HGD.out.2.2.2
      have HD := Lib.hid (show dnJ lot b g 4 = dnJ lot b g 3 ++ stepOf lot 8 (b.re - g.re) from rfl)
      have HU := Lib.hid (show upJ lot b g 4 = upJ lot b g 3 ++ stepOf lot 7 (g.re - b.re) from rfl)
      obtain ⟨l1, l2⟩ := dnJ_len lot b g 3
      generalize dnJ lot b g 3 = D at *
      generalize upJ lot b g 3 = U at *
      have qa : Below wr.heap.size wr (wr.alloc (.cells #[.int .i64 7, .int .i64 8, .func (.func 53) #[] #[]] 83)) := (Below.refl _ _).alloc (Nat.le_refl _) _
      have QA := Lib.hid qa
      clear qa
      generalize b.re = x at *
      generalize g.re = y at *
      by_cases hgt : y < x
      · have HD := Lib.hid (HD.out.trans (congrArg (D ++ ·) (step_pos (lot := lot) (k := 8) (show 0 < x - y by omega))))
        have HU := Lib.hid (HU.out.trans ((congrArg (U ++ ·) (step_neg (lot := lot) (k := 7) (show ¬ 0 < y - x by omega))).trans (List.append_nil U)))
        go_wp2_with fail
        go_quiet ((go_at_call 53; exact quietL (col4_any _ _)))
        generalize hW : (wr.alloc (.cells #[.int .i64 7, .int .i64 8, .func (.func 53) #[] #[]] 83)).drewN nq = W
        have QW : Hid (Below wr.heap.size wr W) := by rw [← hW]; exact drewN_below QA.out nq
        have hcol : W.cell? ⟨wr.heap.size, 0, none⟩ = some (.int .i64 7) ∧ W.cell? ⟨wr.heap.size, 1, none⟩ = some (.int .i64 8) := by rw [← hW]; exact ⟨by simp, by simp⟩
        have hwl : wr.heap.size < W.heap.size := block_lt_of_cell hcol.1
        obtain ⟨k0, k1⟩ := hcol
        clear hW c0 c1 c2 g0 b0
        have HTW := Lib.hid (HT.out.below QW.out)
        have hB2 : W2.heap.size ≤ W.heap.size := Nat.le_trans HB.out.size QW.out.size
        go_wp2_with (at_builtin; refine wpList_append_new W rfl (.tmp 42) (.tmp 50) 23 rfl W2.heap.size 26 i0 _ 6 48 Try.underlying23 hi0 hz0 hz1 hz2 rfl (by omega) u7 D.length (ensCs D) [.int .i64 0, .int .i64 0, .int .i64 8, .int .i64 lot, .int .i64 (x - y), .int .i64 0] rfl (by intro u hu; simp at hu; rcases hu with rfl | rfl | rfl | rfl | rfl | rfl <;> rfl) rfl HTW.out.d rfl (by unfold maxLen; omega) (by omega) hB2 ?_; intro v2 w3 hown2 hb3 hv3 hg3; have HT3 := Lib.hid (HTW.out.down (x := ⟨0, 0, 8, lot, x - y, 0⟩) hown2 hg3 hv3); have HB3 := Lib.hid ((HB.out.trans (QW.out.mono HB.out.size)).trans hb3); clear hown2 hb3 hv3 hg3)
        go_roundg 0
        case measure => omega
        case rel => exact ⟨4, rfl, rfl, by rw [HD.out, HU.out]; exact HT3.out, HB3.out⟩
      by_cases hlt : x < y
      · have HD := Lib.hid (HD.out.trans ((congrArg (D ++ ·) (step_neg (lot := lot) (k := 8) (show ¬ 0 < x - y by omega))).trans (List.append_nil D)))
        have HU := Lib.hid (HU.out.trans (congrArg (U ++ ·) (step_pos (lot := lot) (k := 7) (show 0 < y - x by omega))))
        go_wp2_with fail
        go_quiet ((go_at_call 53; exact quietL (col4_any _ _)))
        generalize hW : (wr.alloc (.cells #[.int .i64 7, .int .i64 8, .func (.func 53) #[] #[]] 83)).drewN nq = W
        have QW : Hid (Below wr.heap.size wr W) := by rw [← hW]; exact drewN_below QA.out nq
        have hcol : W.cell? ⟨wr.heap.size, 0, none⟩ = some (.int .i64 7) ∧ W.cell? ⟨wr.heap.size, 1, none⟩ = some (.int .i64 8) := by rw [← hW]; exact ⟨by simp, by simp⟩
        have hwl : wr.heap.size < W.heap.size := block_lt_of_cell hcol.1
        obtain ⟨k0, k1⟩ := hcol
        clear hW c0 c1 c2 g0 b0
        have HTW := Lib.hid (HT.out.below QW.out)
        have hB2 : W2.heap.size ≤ W.heap.size := Nat.le_trans HB.out.size QW.out.size
        go_wp2_with (at_builtin; refine wpList_append_new W rfl (.tmp 55) (.tmp 63) 23 rfl W2.heap.size 26 i0 _ 6 48 Try.underlying23 hi0 hz0 hz1 hz2 rfl (by omega) u8 U.length (ensCs U) [.int .i64 0, .int .i64 0, .int .i64 7, .int .i64 lot, .int .i64 (y - x), .int .i64 0] rfl (by intro u hu; simp at hu; rcases hu with rfl | rfl | rfl | rfl | rfl | rfl <;> rfl) rfl HTW.out.u rfl (by unfold maxLen; omega) (by omega) hB2 ?_; intro v2 w3 hown2 hb3 hv3 hg3; have HT3 := Lib.hid (HTW.out.up (x := ⟨0, 0, 7, lot, y - x, 0⟩) hown2 hg3 hv3); have HB3 := Lib.hid ((HB.out.trans (QW.out.mono HB.out.size)).trans hb3); clear hown2 hb3 hv3 hg3)
        go_roundg 0
        case measure => omega
        case rel => exact ⟨4, rfl, rfl, by rw [HD.out, HU.out]; exact HT3.out, HB3.out⟩
      · have HD := Lib.hid (HD.out.trans ((congrArg (D ++ ·) (step_neg (lot := lot) (k := 8) (show ¬ 0 < x - y by omega))).trans (List.append_nil D)))
        have HU := Lib.hid (HU.out.trans ((congrArg (U ++ ·) (step_neg (lot := lot) (k := 7) (show ¬ 0 < y - x by omega))).trans (List.append_nil U)))
        go_wp2_with fail
        go_quiet ((go_at_call 53; exact quietL (col4_any _ _)))
        generalize hW : (wr.alloc (.cells #[.int .i64 7, .int .i64 8, .func (.func 53) #[] #[]] 83)).drewN nq = W
        have QW : Hid (Below wr.heap.size wr W) := by rw [← hW]; exact drewN_below QA.out nq
        have hcol : W.cell? ⟨wr.heap.size, 0, none⟩ = some (.int .i64 7) ∧ W.cell? ⟨wr.heap.size, 1, none⟩ = some (.int .i64 8) := by rw [← hW]; exact ⟨by simp, by simp⟩
        have hwl : wr.heap.size < W.heap.size := block_lt_of_cell hcol.1
        obtain ⟨k0, k1⟩ := hcol
        clear hW c0 c1 c2 g0 b0
        have HTW := Lib.hid (HT.out.below QW.out)
        have hB2 : W2.heap.size ≤ W.heap.size := Nat.le_trans HB.out.size QW.out.size
        go_wp2_with fail
        have HT3 := HTW
        have HB3 := Lib.hid (HB.out.trans (QW.out.mono HB.out.size))
        go_roundg 0
        case measure => omega
        case rel => exact ⟨4, rfl, rfl, by rw [HD.out, HU.out]; exact HT3.out, HB3.out⟩
    | 4, _ =>
      obtain ⟨l1, l2⟩ := dnJ_len lot b g 4
      have HF := Lib.hid (dn_up_four lot b g)
      generalize dnJ lot b g 4 = D at *
      generalize upJ lot b g 4 = U at *
      obtain ⟨Au, cu, hvu, hru, hlu, _⟩ := (OwnX.of_row HT.out.u).shape
      subst hvu
      go_wp2_with (at_builtin; refine wpList_append_x wr rfl (.tmp 66) (.tmp 67) 23 rfl W2.heap.size 26 i0 _ 6 48 Try.underlying23 hi0 hz0 hz1 hz2 rfl (by omega) u7 D.length (ensCs D) rfl (OwnX.of_row HT.out.d) Au U.length cu (ensCs U) rfl (ensCs_len U) hru (ensCs_one U) (by unfold maxLen; omega) (by omega) hBr ?_; intro v2 w3 hown hgr _)
      go_ret
      exact steps_done HF.out hown HWS.out (QZ.out.trans ((HB.out.grown hgr hBr (fun k e => (HT.out.d.lt k e).1)).mono HWS.out))
end Go.Proofs.Ytefphkefgfoklaa
