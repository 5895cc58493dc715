/- The contract of awake. -/
import Derived.Test.YtecmpkcjeaiknaaDoorTq
namespace Go.Proofs.YtecmpkcjeaiknaaDoor
open Go.RowKit
set_option linter.unusedVariables false

/-- a transfer lies in block g, its slices elsewhere -/
def TB (w : World) (g : Nat) (t : Trf) : Prop := ∃ ds a1 a2 a3 vf vb, w.heap[g]? = some (.cells (match trfV t ds a1 a2 a3 vf vb with | .agg cs => cs | _ => #[]) 47 (0, 0)) ∧ IntsS (fun i => i ≠ g) w ds t.dep.seals ∧ SlcsS (fun i => i ≠ g) w a1 t.arr.lot.slc ∧ IntsS (fun i => i ≠ g) w a2 t.arr.seals ∧ IntsS (fun i => i ≠ g) w a3 t.arr.found ∧ IntsS (fun i => i ≠ g) w vf t.forth ∧ IntsS (fun i => i ≠ g) w vb t.back
theorem TB.below {w w' : World} {g : Nat} {t : Trf} (h : TB w g t) (hb : Below w.heap.size w w') : TB w' g t := by
  obtain ⟨ds, a1, a2, a3, vf, vb, h, h0, h1, h2, h3, h4, h5⟩ := h
  have ha := (Agr.refl (fun i => i ≠ g) w).below hb
  exact ⟨ds, a1, a2, a3, vf, vb, box_below h hb, h0.agr ha, h1.agr ha, h2.agr ha, h3.agr ha, h4.agr ha, h5.agr ha⟩
theorem range_row {w : World} {b : Nat} {cs : List Value} {t : TypeId} {fr : Nat × Nat} (h : w.heap[b]? = some (.cells cs.toArray t fr)) : w.rangeAt b 0 cs := fun j v hv => by
  rw [Nat.zero_add, cell_of_row w b j _ t fr h]; simpa using hv
theorem run_loadAt_row {P : Program} {w : World} {g : Nat} {t ty : TypeId} {cs : Array Value} {fr : Nat × Nat} (hg : w.heap[g]? = some (.cells cs t fr)) {d : TypeDesc}
    (hu : P.underlying ty = some d) (hd : (match d with | .struct _ | .array _ _ => true | _ => false) = true) (hi : (P.info? ty).map (·.size) = some cs.size) : (Instr.loadAt ty (.pointer (some ⟨g, 0, none⟩))).run P w = .ok (.agg cs) w := by
  simp only [Instr.loadAt, Instr.sureAddr, Sem.run_bind, Sem.run_pure, Result.andThen_ok, run_loadVar_row w g t ty cs fr d hg hu hd hi]
theorem ints_lit {w : World} {b : Nat} {l : List Int} {e : TypeId} {fr : Nat × Nat} {S : Nat → Prop} (h : w.heap[b]? = some (.cells (ints l).toArray e fr)) (hS : S b) (hl : l.length ≤ 1000) : IntsS S w (.slice (some ⟨b, 0, none⟩) l.length l.length) l :=
  ⟨_, _, rfl, fun j u hu => ⟨_, rfl, hS, by rw [Addr.add_lit, cell_of_row _ _ _ _ _ _ h]; simpa using hu⟩, Nat.le_refl _, by unfold maxLen; omega, by omega⟩
def awL : List Int := [1, 5, 3, 6]
def awT (k : Nat) : Trf := (awL.take k).foldl stepF ⟨startF 1 2 3 4 1 50 [7], ⟨0, 0, 0, 0, lot0 0, [], []⟩, [], []⟩
theorem awT_succ {k : Nat} (h : k < 4) : awT (k + 1) = stepF (awT k) (awL[k]?.getD 0) := by
  match k, h with
  | 0, _ => rfl
  | 1, _ => rfl
  | 2, _ => rfl
  | 3, _ => rfl
theorem awL_mem {k : Nat} (h : k < 4) : awL[k]?.getD 0 = 1 ∨ awL[k]?.getD 0 = 3 ∨ awL[k]?.getD 0 = 5 ∨ awL[k]?.getD 0 = 6 := by
  match k, h with
  | 0, _ => exact (by decide)
  | 1, _ => exact (by decide)
  | 2, _ => exact (by decide)
  | 3, _ => exact (by decide)
theorem awT_len {k : Nat} (h : k < 4) : (awT k).forth.length ≤ 1000000 ∧ (awT k).back.length ≤ 1000000 := by
  match k, h with
  | 0, _ => exact ⟨by decide, by decide⟩
  | 1, _ => exact ⟨by decide, by decide⟩
  | 2, _ => exact ⟨by decide, by decide⟩
  | 3, _ => exact ⟨by decide, by decide⟩
set_option maxRecDepth 100000 in
theorem lit_cell {S : Nat → Prop} {w : World} {g n c : Nat} {l : List Int} (h : IntsS S w (.slice (some ⟨g, 0, none⟩) n c) l) {k : Nat} (hk : k < l.length) : w.cell? ⟨g, k, none⟩ = some (.int .i64 (l[k]?.getD 0)) := by
  obtain ⟨A, c', e, h1, _⟩ := h
  injection e with e1 e2 e3
  subst e1
  obtain ⟨b, off, e, hc⟩ := h1.rd.int hk
  injection e with e
  injection e with e1 e2
  subst e1; subst e2
  simpa using hc
theorem But.low {g B : Nat} {w w' : World} (h : But g w w') (hB : B ≤ g) : Below B w w' := ⟨h.os, h.tape, h.output, Nat.le_of_eq h.size.symm, fun i hi => h.block i (by omega)⟩
def AwRel (w : World) (g1 gl : Nat) (m : Nat) (i : Value) (wr : World) : Prop := ∃ k : Nat, k + m = 4 ∧ i = .int .i64 (k : Int) ∧ TB wr g1 (awT k) ∧ IntsS (fun i => i ≠ g1) wr (.slice (some ⟨gl, 0, none⟩) 4 4) awL ∧ Below w.heap.size w wr

set_option maxRecDepth 100000 in
set_option maxHeartbeats 4000000 in
theorem awake_any (w : World) : Calls Tryd.prog 18 #[] w fun e w' => e = .returned (.bool true) ∧ Below w.heap.size w w' := by
  have HB0 := Lib.hid ((Below.refl w.heap.size w).alloc (Nat.le_refl _) (.cells #[.int .i64 7] 3))
  have HN7 := Lib.hid (show IntsAt (w.alloc (.cells #[.int .i64 7] 3)) (.slice (some ⟨w.heap.size, 0, none⟩) 1 1) [7] from (ints_lit (S := fun _ => True) (l := [7]) (heap_alloc_new w _) trivial (by decide)).at_)
  go_enter Tryd.func18, Tryd.ntmps18
  go_wp2_with (first
    | (go_at_call 16; refine (start_any 1 2 3 4 1 50 _ [7] _ HN7.out).mono ?_; rintro e w2 ⟨s7, rfl, hs, hb⟩; obtain ⟨As, cs, rfl⟩ := hs.at_.shape; have HS := Lib.hid hs; have HB2 := Lib.hid (HB0.out.trans (hb.mono HB0.out.size)); clear hs hb; unfold depV startF)
    | (refine at_store 47 (.tmp 1) (.tmp 8) rfl ?_; refine wpList_store_box rfl 47 (.tmp 1) (.tmp 8) rfl w2.heap.size 0 (.agg #[.int .i64 1, .int .i64 1, .int .i64 2, .int .i64 3, .int .i64 4, .int .i64 1, .int .i64 1, .int .i64 50, .int .i64 0, .int .i64 0, .slice As 1 cs, .int .i64 0, .int .i64 0, .int .i64 0, .int .i64 0, .int .i64 0, .string ⟨#[]⟩, .int .i64 0, .int .i64 0, .slice none 0 0, .slice none 0 0, .slice none 0 0, .slice none 0 0, .slice none 0 0]) #[.int .i64 1, .int .i64 1, .int .i64 2, .int .i64 3, .int .i64 4, .int .i64 1, .int .i64 1, .int .i64 50, .int .i64 0, .int .i64 0, .slice As 1 cs, .int .i64 0, .int .i64 0, .int .i64 0, .int .i64 0, .int .i64 0, .string ⟨#[]⟩, .int .i64 0, .int .i64 0, .slice none 0 0, .slice none 0 0, .slice none 0 0, .slice none 0 0, .slice none 0 0] rfl rfl rfl [.int .i64 0, .int .i64 0, .int .i64 0, .int .i64 0, .int .i64 0, .int .i64 0, .int .i64 0, .int .i64 0, .int .i64 0, .int .i64 0, .slice none 0 0, .int .i64 0, .int .i64 0, .int .i64 0, .int .i64 0, .int .i64 0, .string ⟨#[]⟩, .int .i64 0, .int .i64 0, .slice none 0 0, .slice none 0 0, .slice none 0 0, .slice none 0 0, .slice none 0 0] [.int .i64 1, .int .i64 1, .int .i64 2, .int .i64 3, .int .i64 4, .int .i64 1, .int .i64 1, .int .i64 50, .int .i64 0, .int .i64 0, .slice As 1 cs, .int .i64 0, .int .i64 0, .int .i64 0, .int .i64 0, .int .i64 0, .string ⟨#[]⟩, .int .i64 0, .int .i64 0, .slice none 0 0, .slice none 0 0, .slice none 0 0, .slice none 0 0, .slice none 0 0] _ (heap_alloc_new w2 (.cells #[.int .i64 0, .int .i64 0, .int .i64 0, .int .i64 0, .int .i64 0, .int .i64 0, .int .i64 0, .int .i64 0, .int .i64 0, .int .i64 0, .slice none 0 0, .int .i64 0, .int .i64 0, .int .i64 0, .int .i64 0, .int .i64 0, .string ⟨#[]⟩, .int .i64 0, .int .i64 0, .slice none 0 0, .slice none 0 0, .slice none 0 0, .slice none 0 0, .slice none 0 0] 47)) (Nat.le_of_ble_eq_true rfl) rfl (by kernel_rfl) rfl ?_; intro w3 hb hP; have hQ := hP.fresh; have hlt := box_lt hb; have hne := (Agr.refl (fun i => i < w2.heap.size) w2).below hQ; have HTB : Hid (TB w3 w2.heap.size (awT 0)) := Lib.hid ⟨_, _, _, _, _, _, hb, ((HS.out.mono (S' := fun i => i < w2.heap.size) fun i hi _ => hi).agr hne).mono (fun i _ h => Nat.ne_of_lt h), SlcsS.nil_ _ _, IntsS.nil_ _ _, IntsS.nil_ _ _, IntsS.nil_ _ _, IntsS.nil_ _ _⟩; have HB3 := Lib.hid (HB2.out.trans (hQ.mono HB2.out.size)); have HL3 := Lib.hid hlt; have HGW := Lib.hid HB2.out.size; generalize w2.heap.size = g1 at *; clear hb hP hQ hlt hne HS))
  have HB4 := Lib.hid (HB3.out.trans ((Below.refl _ _).alloc HB3.out.size (.cells #[.int .i64 1, .int .i64 5, .int .i64 3, .int .i64 6] 3)))
  have HTB4 := Lib.hid (HTB.out.below ((Below.refl _ _).alloc (Nat.le_refl _) (.cells #[.int .i64 1, .int .i64 5, .int .i64 3, .int .i64 6] 3)))
  have HN4 := Lib.hid (show IntsS (fun i => i ≠ g1) (w3.alloc (.cells #[.int .i64 1, .int .i64 5, .int .i64 3, .int .i64 6] 3)) (.slice (some ⟨w3.heap.size, 0, none⟩) 4 4) awL from ints_lit (l := awL) (heap_alloc_new w3 _) (by have := HL3.out; omega) (by decide))
  generalize w3.alloc (.cells #[.int .i64 1, .int .i64 5, .int .i64 3, .int .i64 6] 3) = w4 at *
  generalize w3.heap.size = gl at *
  clear HB0 HN7 HB2 HB3 HTB HL3
  go_loopg [3] 4 (fun m i wr => AwRel w g1 gl m i wr)
  case atStart => exact ⟨0, by omega, rfl, HTB4.out, HN4.out, HB4.out⟩
  case round =>
    obtain ⟨k, hk, rfl, htb, hli, hbw⟩ := hrel
    have HK := Lib.hid hk
    have HTB := Lib.hid htb
    have HLI := Lib.hid hli
    have HBW := Lib.hid hbw
    clear hk htb hli hbw HTB4 HN4 HB4
    by_cases hlt : k < 4
    · have HLT := Lib.hid hlt
      have HTS := Lib.hid (awT_succ hlt)
      have HTL := Lib.hid (awT_len hlt)
      have hk4 : k ≤ 3 := by omega
      have hcell : wr.cell? ⟨gl, k, none⟩ = some (.int .i64 (awL[k]?.getD 0)) := lit_cell HLI.out hlt
      have HAW := Lib.hid (awL_mem hlt)
      generalize awL[k]?.getD 0 = a at *
      generalize awT k = t at *
      obtain ⟨e0, e1, e2, e3, e4, e5, hbox, i0, i1, i2, i3, i4, i5⟩ := HTB.out
      obtain ⟨Q0, q0, rfl⟩ := i0.at_.shape
      obtain ⟨Q1, q1, rfl⟩ := i1.at_.shape
      obtain ⟨Q2, q2, rfl⟩ := i2.at_.shape
      obtain ⟨Q3, q3, rfl⟩ := i3.at_.shape
      obtain ⟨Q4, q4, rfl⟩ := i4.at_.shape
      obtain ⟨Q5, q5, rfl⟩ := i5.at_.shape
      replace hbox : wr.heap[g1]? = some (.cells #[.int .i64 t.dep.lot, .int .i64 t.dep.trip, .int .i64 t.dep.off, .int .i64 t.dep.guar, .int .i64 t.dep.day, .int .i64 t.dep.st, .int .i64 t.dep.ver, .int .i64 t.dep.ask, .int .i64 t.dep.held, .int .i64 t.dep.ctl, .slice Q0 t.dep.seals.length q0, .int .i64 t.arr.id, .int .i64 t.arr.trip, .int .i64 t.arr.off, .int .i64 t.arr.st, .int .i64 t.arr.lot.id, .string t.arr.lot.code, .int .i64 t.arr.lot.qty, .int .i64 t.arr.lot.proc, .slice Q1 t.arr.lot.slc.length q1, .slice Q2 t.arr.seals.length q2, .slice Q3 t.arr.found.length q3, .slice Q4 t.forth.length q4, .slice Q5 t.back.length q5] 47 (0, 0)) := hbox
      have J0 := Lib.hid i0
      have J1 := Lib.hid i1
      have J2 := Lib.hid i2
      have J3 := Lib.hid i3
      have J4 := Lib.hid i4
      have J5 := Lib.hid i5
      clear i0 i1 i2 i3 i4 i5 HTB hlt
      have HC := Lib.hid hcell
      have HBX := Lib.hid hbox
      clear hcell hbox
      have s1 : (k : Int) < 4 := by omega
      go_wp2_with fail
      refine wp_region_x 6 (by kernel_rfl) (fun W => W.heap[g1]? = some (.cells #[.int .i64 t.dep.lot, .int .i64 t.dep.trip, .int .i64 t.dep.off, .int .i64 t.dep.guar, .int .i64 t.dep.day, .int .i64 t.dep.st, .int .i64 t.dep.ver, .int .i64 t.dep.ask, .int .i64 t.dep.held, .int .i64 t.dep.ctl, .slice Q0 t.dep.seals.length q0, .int .i64 t.arr.id, .int .i64 t.arr.trip, .int .i64 t.arr.off, .int .i64 t.arr.st, .int .i64 t.arr.lot.id, .string t.arr.lot.code, .int .i64 t.arr.lot.qty, .int .i64 t.arr.lot.proc, .slice Q1 t.arr.lot.slc.length q1, .slice Q2 t.arr.seals.length q2, .slice Q3 t.arr.found.length q3, .slice Q4 t.forth.length q4, .slice Q5 t.back.length q5] 47 (0, 0)) ∧ W.cell? ⟨gl, k, none⟩ = some (.int .i64 a)) ?_
      have HBX : Hid (wr.drew.heap[g1]? = some (.cells #[.int .i64 t.dep.lot, .int .i64 t.dep.trip, .int .i64 t.dep.off, .int .i64 t.dep.guar, .int .i64 t.dep.day, .int .i64 t.dep.st, .int .i64 t.dep.ver, .int .i64 t.dep.ask, .int .i64 t.dep.held, .int .i64 t.dep.ctl, .slice Q0 t.dep.seals.length q0, .int .i64 t.arr.id, .int .i64 t.arr.trip, .int .i64 t.arr.off, .int .i64 t.arr.st, .int .i64 t.arr.lot.id, .string t.arr.lot.code, .int .i64 t.arr.lot.qty, .int .i64 t.arr.lot.proc, .slice Q1 t.arr.lot.slc.length q1, .slice Q2 t.arr.seals.length q2, .slice Q3 t.arr.found.length q3, .slice Q4 t.forth.length q4, .slice Q5 t.back.length q5] 47 (0, 0))) := Lib.hid HBX.out
      have HC : Hid (wr.drew.cell? ⟨gl, k, none⟩ = some (.int .i64 a)) := Lib.hid HC.out
      have hd := (Below.refl wr.heap.size wr).drew
      have HBW := Lib.hid (HBW.out.trans (hd.mono HBW.out.size))
      have HLI := Lib.hid (HLI.out.agr ((Agr.refl _ wr).below hd))
      have J0 := Lib.hid (J0.out.agr ((Agr.refl _ wr).below hd))
      have J1 := Lib.hid (J1.out.agr ((Agr.refl _ wr).below hd))
      have J2 := Lib.hid (J2.out.agr ((Agr.refl _ wr).below hd))
      have J3 := Lib.hid (J3.out.agr ((Agr.refl _ wr).below hd))
      have J4 := Lib.hid (J4.out.agr ((Agr.refl _ wr).below hd))
      have J5 := Lib.hid (J5.out.agr ((Agr.refl _ wr).below hd))
      generalize wr.drew = wd at *
      clear hd
      refine wpAnyX_take (i := 0) (v := (.agg #[.int .i64 t.dep.lot, .int .i64 t.dep.trip, .int .i64 t.dep.off, .int .i64 t.dep.guar, .int .i64 t.dep.day, .int .i64 t.dep.st, .int .i64 t.dep.ver, .int .i64 t.dep.ask, .int .i64 t.dep.held, .int .i64 t.dep.ctl, .slice Q0 t.dep.seals.length q0, .int .i64 t.arr.id, .int .i64 t.arr.trip, .int .i64 t.arr.off, .int .i64 t.arr.st, .int .i64 t.arr.lot.id, .string t.arr.lot.code, .int .i64 t.arr.lot.qty, .int .i64 t.arr.lot.proc, .slice Q1 t.arr.lot.slc.length q1, .slice Q2 t.arr.seals.length q2, .slice Q3 t.arr.found.length q3, .slice Q4 t.forth.length q4, .slice Q5 t.back.length q5])) rfl (by kernel_rfl) (by kernel_rfl) (by kernel_rfl) (by kernel_rfl) (fun _ _ _ h => h) ⟨HBX.out, HC.out⟩ (yieldsIf_load_mid (by rfl) 47 (.tmp 1) rfl g1 0 rfl [.int .i64 t.dep.lot, .int .i64 t.dep.trip, .int .i64 t.dep.off, .int .i64 t.dep.guar, .int .i64 t.dep.day, .int .i64 t.dep.st, .int .i64 t.dep.ver, .int .i64 t.dep.ask, .int .i64 t.dep.held, .int .i64 t.dep.ctl, .slice Q0 t.dep.seals.length q0, .int .i64 t.arr.id, .int .i64 t.arr.trip, .int .i64 t.arr.off, .int .i64 t.arr.st, .int .i64 t.arr.lot.id, .string t.arr.lot.code, .int .i64 t.arr.lot.qty, .int .i64 t.arr.lot.proc, .slice Q1 t.arr.lot.slc.length q1, .slice Q2 t.arr.seals.length q2, .slice Q3 t.arr.found.length q3, .slice Q4 t.forth.length q4, .slice Q5 t.back.length q5] _ (fun w hS => range_row hS.1) Tryd.underlying47 rfl (by kernel_rfl)) ?_
      go_simp
      refine wpAnyX_take (i := 1) (v := (.slice (some ⟨gl, 0, none⟩) 4 4)) rfl (by kernel_rfl) (by kernel_rfl) (by kernel_rfl) (by kernel_rfl) (fun _ _ _ h => h) ⟨HBX.out, HC.out⟩ (Or.inl ⟨by rfl, fun w hS => by go_simp⟩) ?_
      go_simp
      refine wpAnyX_take (i := 2) (v := (.int .i64 (k : Int))) rfl (by kernel_rfl) (by kernel_rfl) (by kernel_rfl) (by kernel_rfl) (fun _ _ _ h => h) ⟨HBX.out, HC.out⟩ (Or.inl ⟨by rfl, fun w hS => by go_simp⟩) ?_
      go_simp
      refine wpAnyX_take (i := 3) (v := (.pointer (some ⟨gl, k, none⟩))) rfl (by kernel_rfl) (by kernel_rfl) (by kernel_rfl) (by kernel_rfl) (fun _ _ _ h => h) ⟨HBX.out, HC.out⟩ (Or.inl ⟨by rfl, fun w hS => by go_simp⟩) ?_
      go_simp
      refine wpAnyX_take (i := 4) (v := (.int .i64 a)) rfl (by kernel_rfl) (by kernel_rfl) (by kernel_rfl) (by kernel_rfl) (fun _ _ _ h => h) ⟨HBX.out, HC.out⟩ (Or.inl ⟨by rfl, fun w hS => by have hc := hS.2; go_simp⟩) ?_
      go_simp
      refine wpAnyX_one (i := 5) (by kernel_rfl) rfl (fun K hK => ?_)
      go_simp
      go_wp2_with (go_at_call 24; refine (step_aw t (.agg #[.int .i64 t.dep.lot, .int .i64 t.dep.trip, .int .i64 t.dep.off, .int .i64 t.dep.guar, .int .i64 t.dep.day, .int .i64 t.dep.st, .int .i64 t.dep.ver, .int .i64 t.dep.ask, .int .i64 t.dep.held, .int .i64 t.dep.ctl, .slice Q0 t.dep.seals.length q0, .int .i64 t.arr.id, .int .i64 t.arr.trip, .int .i64 t.arr.off, .int .i64 t.arr.st, .int .i64 t.arr.lot.id, .string t.arr.lot.code, .int .i64 t.arr.lot.qty, .int .i64 t.arr.lot.proc, .slice Q1 t.arr.lot.slc.length q1, .slice Q2 t.arr.seals.length q2, .slice Q3 t.arr.found.length q3, .slice Q4 t.forth.length q4, .slice Q5 t.back.length q5]) a _ ⟨_, _, _, _, _, _, rfl, J0.out.at_, J1.out.at_, J2.out.at_, J3.out.at_, J4.out.at_, J5.out.at_⟩ HTL.out.1 HTL.out.2 HAW.out).mono ?_; rintro e w6 ⟨v6, rfl, hv, hb⟩; have HV := Lib.hid hv; have HB6 := Lib.hid hb; clear hv hb)
      generalize hτ : stepF t a = τ at *
      obtain ⟨e0, e1, e2, e3, e4, e5, rfl, i0, i1, i2, i3, i4, i5⟩ := HV.out
      obtain ⟨P0, p0, rfl⟩ := i0.at_.shape
      obtain ⟨P1, p1, rfl⟩ := i1.at_.shape
      obtain ⟨P2, p2, rfl⟩ := i2.at_.shape
      obtain ⟨P3, p3, rfl⟩ := i3.at_.shape
      obtain ⟨P4, p4, rfl⟩ := i4.at_.shape
      obtain ⟨P5, p5, rfl⟩ := i5.at_.shape
      have J0 := Lib.hid i0
      have J1 := Lib.hid i1
      have J2 := Lib.hid i2
      have J3 := Lib.hid i3
      have J4 := Lib.hid i4
      have J5 := Lib.hid i5
      clear i0 i1 i2 i3 i4 i5 HV
      have HG : Hid (g1 < wd.heap.size) := Lib.hid (box_lt HBX.out)
      have HBX := Lib.hid (box_below HBX.out HB6.out)
      have HC := Lib.hid ((HB6.out.cell (cell_lt HC.out)).trans HC.out)
      have HLI := Lib.hid (HLI.out.agr ((Agr.refl _ wd).below HB6.out))
      have HBW := Lib.hid (HBW.out.trans (HB6.out.mono HBW.out.size))
      unfold trfV
      refine hK.out _ _ (fun _ => ⟨HBX.out, HC.out⟩) ?_
      clear hK K
      refine wpAnyX_one (i := 6) (by kernel_rfl) rfl (fun K hK => ?_)
      rw [if_pos (show Region.wanted _ _ = true from rfl)]
      refine wp_store_box 47 (.tmp 1) (.tmp 21) rfl g1 0 (.agg #[.int .i64 τ.dep.lot, .int .i64 τ.dep.trip, .int .i64 τ.dep.off, .int .i64 τ.dep.guar, .int .i64 τ.dep.day, .int .i64 τ.dep.st, .int .i64 τ.dep.ver, .int .i64 τ.dep.ask, .int .i64 τ.dep.held, .int .i64 τ.dep.ctl, .slice P0 τ.dep.seals.length p0, .int .i64 τ.arr.id, .int .i64 τ.arr.trip, .int .i64 τ.arr.off, .int .i64 τ.arr.st, .int .i64 τ.arr.lot.id, .string τ.arr.lot.code, .int .i64 τ.arr.lot.qty, .int .i64 τ.arr.lot.proc, .slice P1 τ.arr.lot.slc.length p1, .slice P2 τ.arr.seals.length p2, .slice P3 τ.arr.found.length p3, .slice P4 τ.forth.length p4, .slice P5 τ.back.length p5]) #[.int .i64 τ.dep.lot, .int .i64 τ.dep.trip, .int .i64 τ.dep.off, .int .i64 τ.dep.guar, .int .i64 τ.dep.day, .int .i64 τ.dep.st, .int .i64 τ.dep.ver, .int .i64 τ.dep.ask, .int .i64 τ.dep.held, .int .i64 τ.dep.ctl, .slice P0 τ.dep.seals.length p0, .int .i64 τ.arr.id, .int .i64 τ.arr.trip, .int .i64 τ.arr.off, .int .i64 τ.arr.st, .int .i64 τ.arr.lot.id, .string τ.arr.lot.code, .int .i64 τ.arr.lot.qty, .int .i64 τ.arr.lot.proc, .slice P1 τ.arr.lot.slc.length p1, .slice P2 τ.arr.seals.length p2, .slice P3 τ.arr.found.length p3, .slice P4 τ.forth.length p4, .slice P5 τ.back.length p5] rfl rfl rfl [.int .i64 t.dep.lot, .int .i64 t.dep.trip, .int .i64 t.dep.off, .int .i64 t.dep.guar, .int .i64 t.dep.day, .int .i64 t.dep.st, .int .i64 t.dep.ver, .int .i64 t.dep.ask, .int .i64 t.dep.held, .int .i64 t.dep.ctl, .slice Q0 t.dep.seals.length q0, .int .i64 t.arr.id, .int .i64 t.arr.trip, .int .i64 t.arr.off, .int .i64 t.arr.st, .int .i64 t.arr.lot.id, .string t.arr.lot.code, .int .i64 t.arr.lot.qty, .int .i64 t.arr.lot.proc, .slice Q1 t.arr.lot.slc.length q1, .slice Q2 t.arr.seals.length q2, .slice Q3 t.arr.found.length q3, .slice Q4 t.forth.length q4, .slice Q5 t.back.length q5] [.int .i64 τ.dep.lot, .int .i64 τ.dep.trip, .int .i64 τ.dep.off, .int .i64 τ.dep.guar, .int .i64 τ.dep.day, .int .i64 τ.dep.st, .int .i64 τ.dep.ver, .int .i64 τ.dep.ask, .int .i64 τ.dep.held, .int .i64 τ.dep.ctl, .slice P0 τ.dep.seals.length p0, .int .i64 τ.arr.id, .int .i64 τ.arr.trip, .int .i64 τ.arr.off, .int .i64 τ.arr.st, .int .i64 τ.arr.lot.id, .string τ.arr.lot.code, .int .i64 τ.arr.lot.qty, .int .i64 τ.arr.lot.proc, .slice P1 τ.arr.lot.slc.length p1, .slice P2 τ.arr.seals.length p2, .slice P3 τ.arr.found.length p3, .slice P4 τ.forth.length p4, .slice P5 τ.back.length p5] _ HBX.out (Nat.le_of_ble_eq_true rfl) rfl (by kernel_rfl) rfl ?_
      intro w7 hb hP
      have ha : Agr (fun i => i ≠ g1) w6 w7 := hP.agr (by simp)
      have HLI := Lib.hid (HLI.out.agr ha)
      have HTB : Hid (TB w7 g1 τ) := Lib.hid ⟨_, _, _, _, _, _, hb, (J0.out.mono (S' := fun i => i ≠ g1) fun i _ h => by have := HG.out; have h : wd.heap.size ≤ i := h; omega).agr ha, (J1.out.mono (S' := fun i => i ≠ g1) fun i _ h => by have := HG.out; have h : wd.heap.size ≤ i := h; omega).agr ha, (J2.out.mono (S' := fun i => i ≠ g1) fun i _ h => by have := HG.out; have h : wd.heap.size ≤ i := h; omega).agr ha, (J3.out.mono (S' := fun i => i ≠ g1) fun i _ h => by have := HG.out; have h : wd.heap.size ≤ i := h; omega).agr ha, (J4.out.mono (S' := fun i => i ≠ g1) fun i _ h => by have := HG.out; have h : wd.heap.size ≤ i := h; omega).agr ha, (J5.out.mono (S' := fun i => i ≠ g1) fun i _ h => by have := HG.out; have h : wd.heap.size ≤ i := h; omega).agr ha⟩
      have HBW := Lib.hid (HBW.out.trans (But.low hP HGW.out))
      refine hK.out _ _ (fun h => absurd rfl h) ?_
      clear hK K hb hP ha
      refine wpAnyX_done (by kernel_rfl) ?_
      go_wp2
      go_roundg (4 - (k + 1))
      case measure => have := HK.out; omega
      case rel => exact ⟨k + 1, by have := HK.out; omega, by go_num, by rw [HTS.out]; exact HTB.out, HLI.out, HBW.out⟩
    · obtain rfl : k = 4 := by have := HK.out; omega
      have h4 := HTB.out
      rw [show awT 4 = ⟨⟨1, 1, 2, 3, 4, 4, 1, 50, 0, 1, [7]⟩, ⟨1, 1, 0, 3, ⟨1, ⟨#[]⟩, 0, 0, []⟩, [7], [7]⟩, [], []⟩ from rfl] at h4
      obtain ⟨e0, e1, e2, e3, e4, e5, hbox, i0, i1, i2, i3, i4, i5⟩ := h4
      obtain ⟨Q0, q0, rfl⟩ := i0.at_.shape
      obtain ⟨Q1, q1, rfl⟩ := i1.at_.shape
      obtain ⟨Q2, q2, rfl⟩ := i2.at_.shape
      obtain ⟨Q3, q3, rfl⟩ := i3.at_.shape
      obtain ⟨Q4, q4, rfl⟩ := i4.at_.shape
      obtain ⟨Q5, q5, rfl⟩ := i5.at_.shape
      replace hbox : wr.heap[g1]? = some (.cells #[.int .i64 1, .int .i64 1, .int .i64 2, .int .i64 3, .int .i64 4, .int .i64 4, .int .i64 1, .int .i64 50, .int .i64 0, .int .i64 1, .slice Q0 1 q0, .int .i64 1, .int .i64 1, .int .i64 0, .int .i64 3, .int .i64 1, .string ⟨#[]⟩, .int .i64 0, .int .i64 0, .slice Q1 0 q1, .slice Q2 1 q2, .slice Q3 1 q3, .slice Q4 0 q4, .slice Q5 0 q5] 47 (0, 0)) := hbox
      clear i0 i1 i2 i3 i4 i5 HTB HLI HK
      have b1 := (Below.refl wr.heap.size wr).alloc (Nat.le_refl _) (.cells #[.int .i64 6, .int .i64 8] 3)
      have b2 := b1.alloc (by simp) (.cells #[.int .i64 8, .int .i64 9] 3)
      have HN1 := Lib.hid (show IntsAt ((wr.alloc (.cells #[.int .i64 6, .int .i64 8] 3)).alloc (.cells #[.int .i64 8, .int .i64 9] 3)) (.slice (some ⟨wr.heap.size, 0, none⟩) 2 2) [6, 8] from ((ints_lit (S := fun _ => True) (l := [6, 8]) (heap_alloc_new wr _) trivial (by decide)).at_).below ((Below.refl _ _).alloc (Nat.le_refl _) _))
      have HN2 := Lib.hid (show IntsAt ((wr.alloc (.cells #[.int .i64 6, .int .i64 8] 3)).alloc (.cells #[.int .i64 8, .int .i64 9] 3)) (.slice (some ⟨wr.heap.size + 1, 0, none⟩) 2 2) [8, 9] from (ints_lit (S := fun _ => True) (l := [8, 9]) (b := wr.heap.size + 1) (new_at (by simp)) trivial (by decide)).at_)
      have HB8 := Lib.hid (HBW.out.trans (b2.mono HBW.out.size))
      have HX := Lib.hid (box_below hbox b2)
      have HW := Lib.hid (show WfL [6, 8] ∧ WfL [8, 9] from ⟨by intro x hx; simp at hx; rcases hx with rfl | rfl <;> rfl, by intro x hx; simp at hx; rcases hx with rfl | rfl <;> rfl⟩)
      clear hbox b1 b2 HBW
      have FIRST : True := trivial
      go_wp2_with (first
        | (go_at_call 25; refine (compare_any _ _ [6, 8] [8, 9] _ HN1.out HN2.out HW.out.1 HW.out.2).mono ?_; rintro e w8 ⟨u1, u2, rfl, g1_, g2_, hb⟩; rw [show withoutF [6, 8] [8, 9] = [6] by decide] at g1_; rw [show withoutF [8, 9] [6, 8] = [9] by decide] at g2_; obtain ⟨R1, r1, rfl⟩ := g1_.shape; obtain ⟨R2, r2, rfl⟩ := g2_.shape; have HX := Lib.hid (box_below HX.out hb); have HB8 := Lib.hid (HB8.out.trans (hb.mono HB8.out.size)); have bn := (Below.refl w8.heap.size w8).alloc (Nat.le_refl _) (.cells #[.int .i64 6] 3); have HU1 := Lib.hid (g1_.below bn); have HU2 := Lib.hid (g2_.below bn); have HB9 := Lib.hid (HB8.out.trans (bn.mono HB8.out.size)); have HM6 := Lib.hid ((ints_lit (S := fun _ => True) (l := [6]) (heap_alloc_new w8 (.cells #[.int .i64 6] 3)) trivial (by decide)).at_); clear g1_ g2_ hb bn)
        | (refine at_load 3 (.tmp 29) rfl ?_; refine wpList_load_one rfl 3 (.tmp 29) rfl g1 5 rfl [.int .i64 1, .int .i64 1, .int .i64 2, .int .i64 3, .int .i64 4, .int .i64 4, .int .i64 1, .int .i64 50, .int .i64 0, .int .i64 1, .slice Q0 1 q0, .int .i64 1, .int .i64 1, .int .i64 0, .int .i64 3, .int .i64 1, .string ⟨#[]⟩, .int .i64 0, .int .i64 0, .slice Q1 0 q1, .slice Q2 1 q2, .slice Q3 1 q3, .slice Q4 0 q4, .slice Q5 0 q5] (.int .i64 4) _ HX.out rfl _ Tryd.underlying3 rfl ?_)
        | (refine at_load 3 (.tmp 34) rfl ?_; refine wpList_load_one_w rfl 3 (.tmp 34) rfl g1 14 rfl [.int .i64 1, .int .i64 1, .int .i64 2, .int .i64 3, .int .i64 4, .int .i64 4, .int .i64 1, .int .i64 50, .int .i64 0, .int .i64 1, .slice Q0 1 q0, .int .i64 1, .int .i64 1, .int .i64 0, .int .i64 3, .int .i64 1, .string ⟨#[]⟩, .int .i64 0, .int .i64 0, .slice Q1 0 q1, .slice Q2 1 q2, .slice Q3 1 q3, .slice Q4 0 q4, .slice Q5 0 q5] (.int .i64 3) _ HX.out rfl _ Tryd.underlying3 rfl ?_)
        | (refine at_load 22 (.tmp 39) rfl ?_; refine wpList_load_one_w rfl 22 (.tmp 39) rfl g1 22 rfl [.int .i64 1, .int .i64 1, .int .i64 2, .int .i64 3, .int .i64 4, .int .i64 4, .int .i64 1, .int .i64 50, .int .i64 0, .int .i64 1, .slice Q0 1 q0, .int .i64 1, .int .i64 1, .int .i64 0, .int .i64 3, .int .i64 1, .string ⟨#[]⟩, .int .i64 0, .int .i64 0, .slice Q1 0 q1, .slice Q2 1 q2, .slice Q3 1 q3, .slice Q4 0 q4, .slice Q5 0 q5] (.slice Q4 0 q4) _ HX.out rfl _ Tryd.underlying22 rfl ?_)
        | (go_at_call 20; clear FIRST; refine (sameInts_any _ _ [6] _ HU1.out HM6.out).mono ?_; rintro e w9 ⟨rfl, hq⟩; have bq := hq.below (w8.alloc (.cells #[.int .i64 6] 3)).heap.size; have HU2 := Lib.hid (HU2.out.below bq); have HB9 := Lib.hid (HB9.out.trans (bq.mono HB9.out.size)); have bn := (Below.refl w9.heap.size w9).alloc (Nat.le_refl _) (.cells #[.int .i64 9] 3); have HU3 := Lib.hid (HU2.out.below bn); have HBA := Lib.hid (HB9.out.trans (bn.mono HB9.out.size)); have HM9 := Lib.hid ((ints_lit (S := fun _ => True) (l := [9]) (heap_alloc_new w9 (.cells #[.int .i64 9] 3)) trivial (by decide)).at_); clear hq bq bn)
        | (go_at_call 20; refine (sameInts_any _ _ [9] _ HU3.out HM9.out).mono ?_; rintro e wb ⟨rfl, hq⟩; have HBB := Lib.hid (HBA.out.trans ((hq.below _).mono HBA.out.size)); clear hq))
      go_ret
      exact ⟨rfl, HBB.out⟩
end Go.Proofs.YtecmpkcjeaiknaaDoor
