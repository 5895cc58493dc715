/- The walk of TransitOneEnd. -/
import Derived.Test.YtecmpkcjeaiknaaTs
namespace Go.Proofs.Ytecmpkcjeaiknaa
open Go.RowKit
set_option linter.unusedVariables false
/-- what holds between the rounds -/
def OneRel (l : List Int) (w : World) (g1 : Nat) (m : Nat) (i : Value) (wr : World) : Prop := ∃ (k : Nat) (t : Trf), k + m = l.length ∧ i = .int .i64 (k : Int) ∧ TB wr g1 t ∧ Inv t ∧ t.forth.length ≤ k ∧ t.back.length ≤ k ∧ k ≤ 60 ∧ Below w.heap.size w wr

set_option maxRecDepth 100000 in
set_option maxHeartbeats 4000000 in
theorem transitOneEnd.walkTransitOneEnd (A0 : Option Addr) (c0 : Nat) (l : List Int) (A1 : Option Addr) (c1 : Nat) (l1 : List Int) (x : Int) (w : World) (h0 : SlI w A0 c0 l) (h1 : SlI w A1 c1 l1) (_ : -9223372036854775808 ≤ x ∧ x ≤ 9223372036854775807) :
    Calls Try.prog 4 #[.slice A0 l.length c0, .slice A1 l1.length c1, .int .i64 x] w fun e w' => e = .returned (.bool true) ∧ Below w.heap.size w w' := by
  have HL0 := Lib.hid h0
  have HL1 := Lib.hid h1.at_
  clear h0 h1
  go_enter Try.func4, Try.ntmps4
  go_wp2_with (first
    | (go_at_call 16; refine (begin_any x _ l1 _ HL1.out).mono ?_; rintro e w2 ⟨v2, t, rfl, hv, hinv, hf0, hb0, hs1, hs0, hb⟩; obtain ⟨e0, e1, e2, e3, e4, e5, rfl, i0, i1, i2, i3, i4, i5⟩ := hv; obtain ⟨Q0, q0, rfl⟩ := i0.at_.shape; obtain ⟨Q1, q1, rfl⟩ := i1.at_.shape; obtain ⟨Q2, q2, rfl⟩ := i2.at_.shape; obtain ⟨Q3, q3, rfl⟩ := i3.at_.shape; obtain ⟨Q4, q4, rfl⟩ := i4.at_.shape; obtain ⟨Q5, q5, rfl⟩ := i5.at_.shape; have J0 := Lib.hid i0; have J1 := Lib.hid i1; have J2 := Lib.hid i2; have J3 := Lib.hid i3; have J4 := Lib.hid i4; have J5 := Lib.hid i5; have HI := Lib.hid hinv; have HF0 := Lib.hid (And.intro hf0 hb0); have HB2 := Lib.hid hb; clear i0 i1 i2 i3 i4 i5 hinv hf0 hb0 hs1 hs0 hb; unfold trfV)
    | (refine at_store 40 (.tmp 7) (.tmp 12) rfl ?_; refine wpList_store_box rfl 40 (.tmp 7) (.tmp 12) rfl w2.heap.size 0 (.agg #[.int .i64 t.dep.lot, .int .i64 t.dep.trip, .int .i64 t.dep.off, .int .i64 t.dep.guar, .int .i64 t.dep.day, .int .i64 t.dep.st, .int .i64 t.dep.ver, .int .i64 t.dep.ask, .int .i64 t.dep.held, .int .i64 t.dep.ctl, .slice Q0 t.dep.seals.length q0, .int .i64 t.arr.id, .int .i64 t.arr.trip, .int .i64 t.arr.off, .int .i64 t.arr.st, .int .i64 t.arr.lot.id, .string t.arr.lot.code, .int .i64 t.arr.lot.qty, .int .i64 t.arr.lot.proc, .slice Q1 t.arr.lot.slc.length q1, .slice Q2 t.arr.seals.length q2, .slice Q3 t.arr.found.length q3, .slice Q4 t.forth.length q4, .slice Q5 t.back.length q5]) #[.int .i64 t.dep.lot, .int .i64 t.dep.trip, .int .i64 t.dep.off, .int .i64 t.dep.guar, .int .i64 t.dep.day, .int .i64 t.dep.st, .int .i64 t.dep.ver, .int .i64 t.dep.ask, .int .i64 t.dep.held, .int .i64 t.dep.ctl, .slice Q0 t.dep.seals.length q0, .int .i64 t.arr.id, .int .i64 t.arr.trip, .int .i64 t.arr.off, .int .i64 t.arr.st, .int .i64 t.arr.lot.id, .string t.arr.lot.code, .int .i64 t.arr.lot.qty, .int .i64 t.arr.lot.proc, .slice Q1 t.arr.lot.slc.length q1, .slice Q2 t.arr.seals.length q2, .slice Q3 t.arr.found.length q3, .slice Q4 t.forth.length q4, .slice Q5 t.back.length q5] rfl rfl rfl [.int .i64 0, .int .i64 0, .int .i64 0, .int .i64 0, .int .i64 0, .int .i64 0, .int .i64 0, .int .i64 0, .int .i64 0, .int .i64 0, .slice none 0 0, .int .i64 0, .int .i64 0, .int .i64 0, .int .i64 0, .int .i64 0, .string ⟨#[]⟩, .int .i64 0, .int .i64 0, .slice none 0 0, .slice none 0 0, .slice none 0 0, .slice none 0 0, .slice none 0 0] [.int .i64 t.dep.lot, .int .i64 t.dep.trip, .int .i64 t.dep.off, .int .i64 t.dep.guar, .int .i64 t.dep.day, .int .i64 t.dep.st, .int .i64 t.dep.ver, .int .i64 t.dep.ask, .int .i64 t.dep.held, .int .i64 t.dep.ctl, .slice Q0 t.dep.seals.length q0, .int .i64 t.arr.id, .int .i64 t.arr.trip, .int .i64 t.arr.off, .int .i64 t.arr.st, .int .i64 t.arr.lot.id, .string t.arr.lot.code, .int .i64 t.arr.lot.qty, .int .i64 t.arr.lot.proc, .slice Q1 t.arr.lot.slc.length q1, .slice Q2 t.arr.seals.length q2, .slice Q3 t.arr.found.length q3, .slice Q4 t.forth.length q4, .slice Q5 t.back.length q5] _ (heap_alloc_new w2 (.cells #[.int .i64 0, .int .i64 0, .int .i64 0, .int .i64 0, .int .i64 0, .int .i64 0, .int .i64 0, .int .i64 0, .int .i64 0, .int .i64 0, .slice none 0 0, .int .i64 0, .int .i64 0, .int .i64 0, .int .i64 0, .int .i64 0, .string ⟨#[]⟩, .int .i64 0, .int .i64 0, .slice none 0 0, .slice none 0 0, .slice none 0 0, .slice none 0 0, .slice none 0 0] 40)) (Nat.le_of_ble_eq_true rfl) rfl (by kernel_rfl) rfl ?_; intro w3 hb hP; have hQ := hP.fresh; have hne := (Agr.refl (fun i => i < w2.heap.size) w2).below hQ; have HTB : Hid (TB w3 w2.heap.size t) := Lib.hid ⟨_, _, _, _, _, _, hb, ((J0.out.mono (S' := fun i => i < w2.heap.size) fun i hi _ => hi).agr hne).mono (fun i _ h => Nat.ne_of_lt h), ((J1.out.mono (S' := fun i => i < w2.heap.size) fun i hi _ => hi).agr hne).mono (fun i _ h => Nat.ne_of_lt h), ((J2.out.mono (S' := fun i => i < w2.heap.size) fun i hi _ => hi).agr hne).mono (fun i _ h => Nat.ne_of_lt h), ((J3.out.mono (S' := fun i => i < w2.heap.size) fun i hi _ => hi).agr hne).mono (fun i _ h => Nat.ne_of_lt h), ((J4.out.mono (S' := fun i => i < w2.heap.size) fun i hi _ => hi).agr hne).mono (fun i _ h => Nat.ne_of_lt h), ((J5.out.mono (S' := fun i => i < w2.heap.size) fun i hi _ => hi).agr hne).mono (fun i _ h => Nat.ne_of_lt h)⟩; have HB3 := Lib.hid (HB2.out.trans (hQ.mono HB2.out.size)); have HGW := Lib.hid HB2.out.size; generalize w2.heap.size = g1 at *; clear hb hP hQ hne J0 J1 J2 J3 J4 J5))
  have HREL : Hid (OneRel l w g1 l.length (.int .i64 0) w3) := Lib.hid ⟨0, t, by omega, rfl, HTB.out, HI.out, by rw [HF0.out.1]; exact Nat.le_refl _, by rw [HF0.out.2]; exact Nat.le_refl _, Nat.zero_le _, HB3.out⟩
  clear HTB HI HF0 HB2 HB3 HL1
  go_loopg [8] l.length (fun m i wr => OneRel l w g1 m i wr)
  case atStart => exact HREL.out
  case round =>
    clear HREL
    obtain ⟨k, t, hk, rfl, htb, hinv, hlf, hlb, h60, hbw⟩ := hrel
    have HK := Lib.hid hk
    have HTB := Lib.hid htb
    have HI := Lib.hid hinv
    have HLF := Lib.hid (And.intro hlf hlb)
    have HBW := Lib.hid hbw
    clear hk htb hinv hlf hlb hbw
    by_cases hlt : k < l.length
    · have s1 : (k : Int) < l.length := by omega
      by_cases hl6 : k < 60
      · have s2 : (k : Int) < 60 := by omega
        have HL0W := Lib.hid ((HL0.out.at_).below HBW.out)
        obtain ⟨bl, ol, he, hcell⟩ := (HL0.out.rd.below HBW.out).int hlt
        subst he
        generalize l[k]?.getD 0 = a at *
        obtain ⟨e0, e1, e2, e3, e4, e5, hbox, i0, i1, i2, i3, i4, i5⟩ := HTB.out
        obtain ⟨Q0, q0, rfl⟩ := i0.at_.shape
        obtain ⟨Q1, q1, rfl⟩ := i1.at_.shape
        obtain ⟨Q2, q2, rfl⟩ := i2.at_.shape
        obtain ⟨Q3, q3, rfl⟩ := i3.at_.shape
        obtain ⟨Q4, q4, rfl⟩ := i4.at_.shape
        obtain ⟨Q5, q5, rfl⟩ := i5.at_.shape
        replace hbox : wr.heap[g1]? = some (.cells #[.int .i64 t.dep.lot, .int .i64 t.dep.trip, .int .i64 t.dep.off, .int .i64 t.dep.guar, .int .i64 t.dep.day, .int .i64 t.dep.st, .int .i64 t.dep.ver, .int .i64 t.dep.ask, .int .i64 t.dep.held, .int .i64 t.dep.ctl, .slice Q0 t.dep.seals.length q0, .int .i64 t.arr.id, .int .i64 t.arr.trip, .int .i64 t.arr.off, .int .i64 t.arr.st, .int .i64 t.arr.lot.id, .string t.arr.lot.code, .int .i64 t.arr.lot.qty, .int .i64 t.arr.lot.proc, .slice Q1 t.arr.lot.slc.length q1, .slice Q2 t.arr.seals.length q2, .slice Q3 t.arr.found.length q3, .slice Q4 t.forth.length q4, .slice Q5 t.back.length q5] 40 (0, 0)) := hbox
        have J0 := Lib.hid i0
        have J1 := Lib.hid i1
        have J2 := Lib.hid i2
        have J3 := Lib.hid i3
        have J4 := Lib.hid i4
        have J5 := Lib.hid i5
        clear i0 i1 i2 i3 i4 i5 HTB HL0W
        have HC := Lib.hid hcell
        have HBX := Lib.hid hbox
        clear hcell hbox
        go_wp2_with fail
        refine wp_region_x 8 (by kernel_rfl) (fun W => W.heap[g1]? = some (.cells #[.int .i64 t.dep.lot, .int .i64 t.dep.trip, .int .i64 t.dep.off, .int .i64 t.dep.guar, .int .i64 t.dep.day, .int .i64 t.dep.st, .int .i64 t.dep.ver, .int .i64 t.dep.ask, .int .i64 t.dep.held, .int .i64 t.dep.ctl, .slice Q0 t.dep.seals.length q0, .int .i64 t.arr.id, .int .i64 t.arr.trip, .int .i64 t.arr.off, .int .i64 t.arr.st, .int .i64 t.arr.lot.id, .string t.arr.lot.code, .int .i64 t.arr.lot.qty, .int .i64 t.arr.lot.proc, .slice Q1 t.arr.lot.slc.length q1, .slice Q2 t.arr.seals.length q2, .slice Q3 t.arr.found.length q3, .slice Q4 t.forth.length q4, .slice Q5 t.back.length q5] 40 (0, 0)) ∧ W.cell? ⟨bl, ol + k, none⟩ = some (.int .i64 a)) ?_
        have HBX : Hid (wr.drew.heap[g1]? = some (.cells #[.int .i64 t.dep.lot, .int .i64 t.dep.trip, .int .i64 t.dep.off, .int .i64 t.dep.guar, .int .i64 t.dep.day, .int .i64 t.dep.st, .int .i64 t.dep.ver, .int .i64 t.dep.ask, .int .i64 t.dep.held, .int .i64 t.dep.ctl, .slice Q0 t.dep.seals.length q0, .int .i64 t.arr.id, .int .i64 t.arr.trip, .int .i64 t.arr.off, .int .i64 t.arr.st, .int .i64 t.arr.lot.id, .string t.arr.lot.code, .int .i64 t.arr.lot.qty, .int .i64 t.arr.lot.proc, .slice Q1 t.arr.lot.slc.length q1, .slice Q2 t.arr.seals.length q2, .slice Q3 t.arr.found.length q3, .slice Q4 t.forth.length q4, .slice Q5 t.back.length q5] 40 (0, 0))) := Lib.hid HBX.out
        have HC : Hid (wr.drew.cell? ⟨bl, ol + k, none⟩ = some (.int .i64 a)) := Lib.hid HC.out
        have hd := (Below.refl wr.heap.size wr).drew
        have HBW := Lib.hid (HBW.out.trans (hd.mono HBW.out.size))
        have J0 := Lib.hid (J0.out.agr ((Agr.refl _ wr).below hd))
        have J1 := Lib.hid (J1.out.agr ((Agr.refl _ wr).below hd))
        have J2 := Lib.hid (J2.out.agr ((Agr.refl _ wr).below hd))
        have J3 := Lib.hid (J3.out.agr ((Agr.refl _ wr).below hd))
        have J4 := Lib.hid (J4.out.agr ((Agr.refl _ wr).below hd))
        have J5 := Lib.hid (J5.out.agr ((Agr.refl _ wr).below hd))
        generalize wr.drew = wd at *
        clear hd
        refine wpAnyX_take (i := 0) (v := (.agg #[.int .i64 t.dep.lot, .int .i64 t.dep.trip, .int .i64 t.dep.off, .int .i64 t.dep.guar, .int .i64 t.dep.day, .int .i64 t.dep.st, .int .i64 t.dep.ver, .int .i64 t.dep.ask, .int .i64 t.dep.held, .int .i64 t.dep.ctl, .slice Q0 t.dep.seals.length q0, .int .i64 t.arr.id, .int .i64 t.arr.trip, .int .i64 t.arr.off, .int .i64 t.arr.st, .int .i64 t.arr.lot.id, .string t.arr.lot.code, .int .i64 t.arr.lot.qty, .int .i64 t.arr.lot.proc, .slice Q1 t.arr.lot.slc.length q1, .slice Q2 t.arr.seals.length q2, .slice Q3 t.arr.found.length q3, .slice Q4 t.forth.length q4, .slice Q5 t.back.length q5])) rfl (by kernel_rfl) (by kernel_rfl) (by kernel_rfl) (by kernel_rfl) (fun _ _ _ h => h) ⟨HBX.out, HC.out⟩ (yieldsIf_load_mid (by rfl) 40 (.tmp 7) rfl g1 0 rfl [.int .i64 t.dep.lot, .int .i64 t.dep.trip, .int .i64 t.dep.off, .int .i64 t.dep.guar, .int .i64 t.dep.day, .int .i64 t.dep.st, .int .i64 t.dep.ver, .int .i64 t.dep.ask, .int .i64 t.dep.held, .int .i64 t.dep.ctl, .slice Q0 t.dep.seals.length q0, .int .i64 t.arr.id, .int .i64 t.arr.trip, .int .i64 t.arr.off, .int .i64 t.arr.st, .int .i64 t.arr.lot.id, .string t.arr.lot.code, .int .i64 t.arr.lot.qty, .int .i64 t.arr.lot.proc, .slice Q1 t.arr.lot.slc.length q1, .slice Q2 t.arr.seals.length q2, .slice Q3 t.arr.found.length q3, .slice Q4 t.forth.length q4, .slice Q5 t.back.length q5] _ (fun w hS => range_row hS.1) Try.underlying40 rfl (by kernel_rfl)) ?_
        go_simp
        refine wpAnyX_take (i := 1) (v := (.slice (some ⟨bl, ol, none⟩) l.length c0)) rfl (by kernel_rfl) (by kernel_rfl) (by kernel_rfl) (by kernel_rfl) (fun _ _ _ h => h) ⟨HBX.out, HC.out⟩ (Or.inl ⟨by rfl, fun w hS => by go_simp⟩) ?_
        go_simp
        refine wpAnyX_take (i := 2) (v := (.int .i64 (k : Int))) rfl (by kernel_rfl) (by kernel_rfl) (by kernel_rfl) (by kernel_rfl) (fun _ _ _ h => h) ⟨HBX.out, HC.out⟩ (Or.inl ⟨by rfl, fun w hS => by go_simp⟩) ?_
        go_simp
        refine wpAnyX_take (i := 3) (v := (.pointer (some ⟨bl, ol + k, none⟩))) rfl (by kernel_rfl) (by kernel_rfl) (by kernel_rfl) (by kernel_rfl) (fun _ _ _ h => h) ⟨HBX.out, HC.out⟩ (Or.inl ⟨by rfl, fun w hS => by go_simp⟩) ?_
        go_simp
        refine wpAnyX_take (i := 4) (v := (.int .i64 a)) rfl (by kernel_rfl) (by kernel_rfl) (by kernel_rfl) (by kernel_rfl) (fun _ _ _ h => h) ⟨HBX.out, HC.out⟩ (Or.inl ⟨by rfl, fun w hS => by have hc := hS.2; go_simp⟩) ?_
        go_simp
        refine wpAnyX_one (i := 5) (by kernel_rfl) rfl (fun K hK => ?_)
        go_simp
        go_wp2_with (go_at_call 7; refine (within_any a 6 _ (by decide) (by decide)).mono ?_; rintro e w5 ⟨rfl, rfl⟩)
        refine hK.out _ _ (fun _ => ⟨HBX.out, HC.out⟩) ?_
        clear hK K
        have m1 := Int.emod_nonneg a (by decide : (6 : Int) ≠ 0)
        have m2 := Int.emod_lt_of_pos a (by decide : (0 : Int) < 6)
        generalize a % 6 = b at *
        have hwr : IntKind.i64.wrap (1 + b) = 1 + b := IntWalk.i64_in _ (by omega)
        refine wpAnyX_take (i := 6) (v := (.int .i64 (1 + b))) rfl (by kernel_rfl) (by kernel_rfl) (by kernel_rfl) (by kernel_rfl) (fun _ _ _ h => h) ⟨HBX.out, HC.out⟩ (Or.inl ⟨by rfl, fun w hS => by go_simp⟩) ?_
        go_simp
        clear hwr
        have HTL := Lib.hid (show t.forth.length ≤ 1000000 ∧ t.back.length ≤ 1000000 from ⟨by have := HLF.out.1; omega, by have := HLF.out.2; omega⟩)
        refine wpAnyX_one (i := 7) (by kernel_rfl) rfl (fun K hK => ?_)
        go_simp
        go_wp2_with (go_at_call 17; refine (step_any t (.agg #[.int .i64 t.dep.lot, .int .i64 t.dep.trip, .int .i64 t.dep.off, .int .i64 t.dep.guar, .int .i64 t.dep.day, .int .i64 t.dep.st, .int .i64 t.dep.ver, .int .i64 t.dep.ask, .int .i64 t.dep.held, .int .i64 t.dep.ctl, .slice Q0 t.dep.seals.length q0, .int .i64 t.arr.id, .int .i64 t.arr.trip, .int .i64 t.arr.off, .int .i64 t.arr.st, .int .i64 t.arr.lot.id, .string t.arr.lot.code, .int .i64 t.arr.lot.qty, .int .i64 t.arr.lot.proc, .slice Q1 t.arr.lot.slc.length q1, .slice Q2 t.arr.seals.length q2, .slice Q3 t.arr.found.length q3, .slice Q4 t.forth.length q4, .slice Q5 t.back.length q5]) (1 + b) _ ⟨_, _, _, _, _, _, rfl, J0.out.at_, J1.out.at_, J2.out.at_, J3.out.at_, J4.out.at_, J5.out.at_⟩ HTL.out.1 HTL.out.2).mono ?_; rintro e w6 ⟨v6, rfl, hv, hb⟩; have HV := Lib.hid hv; have HB6 := Lib.hid hb; clear hv hb)
        have HI2 := Lib.hid (HI.out.step (1 + b))
        have HLS := Lib.hid (step_len t (1 + b))
        generalize hτ : stepF t (1 + b) = τ at *
        clear hτ
        obtain ⟨e0, e1, e2, e3, e4, e5, rfl, i0, i1, i2, i3, i4, i5⟩ := HV.out
        obtain ⟨P0, p0, rfl⟩ := i0.at_.shape
        obtain ⟨P1, p1, rfl⟩ := i1.at_.shape
        obtain ⟨P2, p2, rfl⟩ := i2.at_.shape
        obtain ⟨P3, p3, rfl⟩ := i3.at_.shape
        obtain ⟨P4, p4, rfl⟩ := i4.at_.shape
        obtain ⟨P5, p5, rfl⟩ := i5.at_.shape
        have J0 := Lib.hid i0
        have J1 := Lib.hid i1
        have J2 := Lib.hid i2
        have J3 := Lib.hid i3
        have J4 := Lib.hid i4
        have J5 := Lib.hid i5
        clear i0 i1 i2 i3 i4 i5 HV
        have HG : Hid (g1 < wd.heap.size) := Lib.hid (box_lt HBX.out)
        have HBX := Lib.hid (box_below HBX.out HB6.out)
        have HC := Lib.hid ((HB6.out.cell (cell_lt HC.out)).trans HC.out)
        have HBW := Lib.hid (HBW.out.trans (HB6.out.mono HBW.out.size))
        unfold trfV
        refine hK.out _ _ (fun _ => ⟨HBX.out, HC.out⟩) ?_
        clear hK K
        refine wpAnyX_one (i := 8) (by kernel_rfl) rfl (fun K hK => ?_)
        rw [if_pos (show Region.wanted _ _ = true from rfl)]
        refine wp_store_box 40 (.tmp 7) (.tmp 30) rfl g1 0 (.agg #[.int .i64 τ.dep.lot, .int .i64 τ.dep.trip, .int .i64 τ.dep.off, .int .i64 τ.dep.guar, .int .i64 τ.dep.day, .int .i64 τ.dep.st, .int .i64 τ.dep.ver, .int .i64 τ.dep.ask, .int .i64 τ.dep.held, .int .i64 τ.dep.ctl, .slice P0 τ.dep.seals.length p0, .int .i64 τ.arr.id, .int .i64 τ.arr.trip, .int .i64 τ.arr.off, .int .i64 τ.arr.st, .int .i64 τ.arr.lot.id, .string τ.arr.lot.code, .int .i64 τ.arr.lot.qty, .int .i64 τ.arr.lot.proc, .slice P1 τ.arr.lot.slc.length p1, .slice P2 τ.arr.seals.length p2, .slice P3 τ.arr.found.length p3, .slice P4 τ.forth.length p4, .slice P5 τ.back.length p5]) #[.int .i64 τ.dep.lot, .int .i64 τ.dep.trip, .int .i64 τ.dep.off, .int .i64 τ.dep.guar, .int .i64 τ.dep.day, .int .i64 τ.dep.st, .int .i64 τ.dep.ver, .int .i64 τ.dep.ask, .int .i64 τ.dep.held, .int .i64 τ.dep.ctl, .slice P0 τ.dep.seals.length p0, .int .i64 τ.arr.id, .int .i64 τ.arr.trip, .int .i64 τ.arr.off, .int .i64 τ.arr.st, .int .i64 τ.arr.lot.id, .string τ.arr.lot.code, .int .i64 τ.arr.lot.qty, .int .i64 τ.arr.lot.proc, .slice P1 τ.arr.lot.slc.length p1, .slice P2 τ.arr.seals.length p2, .slice P3 τ.arr.found.length p3, .slice P4 τ.forth.length p4, .slice P5 τ.back.length p5] rfl rfl rfl [.int .i64 t.dep.lot, .int .i64 t.dep.trip, .int .i64 t.dep.off, .int .i64 t.dep.guar, .int .i64 t.dep.day, .int .i64 t.dep.st, .int .i64 t.dep.ver, .int .i64 t.dep.ask, .int .i64 t.dep.held, .int .i64 t.dep.ctl, .slice Q0 t.dep.seals.length q0, .int .i64 t.arr.id, .int .i64 t.arr.trip, .int .i64 t.arr.off, .int .i64 t.arr.st, .int .i64 t.arr.lot.id, .string t.arr.lot.code, .int .i64 t.arr.lot.qty, .int .i64 t.arr.lot.proc, .slice Q1 t.arr.lot.slc.length q1, .slice Q2 t.arr.seals.length q2, .slice Q3 t.arr.found.length q3, .slice Q4 t.forth.length q4, .slice Q5 t.back.length q5] [.int .i64 τ.dep.lot, .int .i64 τ.dep.trip, .int .i64 τ.dep.off, .int .i64 τ.dep.guar, .int .i64 τ.dep.day, .int .i64 τ.dep.st, .int .i64 τ.dep.ver, .int .i64 τ.dep.ask, .int .i64 τ.dep.held, .int .i64 τ.dep.ctl, .slice P0 τ.dep.seals.length p0, .int .i64 τ.arr.id, .int .i64 τ.arr.trip, .int .i64 τ.arr.off, .int .i64 τ.arr.st, .int .i64 τ.arr.lot.id, .string τ.arr.lot.code, .int .i64 τ.arr.lot.qty, .int .i64 τ.arr.lot.proc, .slice P1 τ.arr.lot.slc.length p1, .slice P2 τ.arr.seals.length p2, .slice P3 τ.arr.found.length p3, .slice P4 τ.forth.length p4, .slice P5 τ.back.length p5] _ HBX.out (Nat.le_of_ble_eq_true rfl) rfl (by kernel_rfl) rfl ?_
        intro w7 hb hP
        have ha : Agr (fun i => i ≠ g1) w6 w7 := hP.agr (by simp)
        have HTB : Hid (TB w7 g1 τ) := Lib.hid ⟨_, _, _, _, _, _, hb, (J0.out.mono (S' := fun i => i ≠ g1) fun i _ h => by have := HG.out; have h : wd.heap.size ≤ i := h; omega).agr ha, (J1.out.mono (S' := fun i => i ≠ g1) fun i _ h => by have := HG.out; have h : wd.heap.size ≤ i := h; omega).agr ha, (J2.out.mono (S' := fun i => i ≠ g1) fun i _ h => by have := HG.out; have h : wd.heap.size ≤ i := h; omega).agr ha, (J3.out.mono (S' := fun i => i ≠ g1) fun i _ h => by have := HG.out; have h : wd.heap.size ≤ i := h; omega).agr ha, (J4.out.mono (S' := fun i => i ≠ g1) fun i _ h => by have := HG.out; have h : wd.heap.size ≤ i := h; omega).agr ha, (J5.out.mono (S' := fun i => i ≠ g1) fun i _ h => by have := HG.out; have h : wd.heap.size ≤ i := h; omega).agr ha⟩
        have HBX := Lib.hid hb
        have HBW := Lib.hid (HBW.out.trans (But.low hP HGW.out))
        refine hK.out _ _ (fun h => absurd rfl h) ?_
        clear hK K hb hP ha J0 J1 J2 J3 J4 J5 HC HI
        refine wpAnyX_done (by kernel_rfl) ?_
        have HREL : Hid (OneRel l w g1 (l.length - (k + 1)) (.int .i64 ((k : Int) + 1)) w7) := Lib.hid ⟨k + 1, τ, by have := HK.out; omega, by go_num, HTB.out, HI2.out, by have := HLS.out.1; have := HLF.out.1; omega, by have := HLS.out.2; have := HLF.out.2; omega, by omega, HBW.out⟩
        have hg1 := HI2.out.good.1
        have hg2 := HI2.out.good.2
        by_cases s5 : τ.dep.st = 5
        · have r3 : τ.arr.st ≠ 3 := fun h => hg1 ⟨s5, h⟩
          have b1 : (τ.dep.st == 5) = true := by simp [s5]
          have b2 : (τ.dep.st == 4) = false := by simp [s5]
          have b3 : (τ.arr.st == 3) = false := by simpa using r3
          clear s5 r3 hg1 hg2
          go_wp2_with (first
            | (refine at_load 3 (.tmp 32) rfl ?_; refine wpList_load_one rfl 3 (.tmp 32) rfl g1 14 rfl [.int .i64 τ.dep.lot, .int .i64 τ.dep.trip, .int .i64 τ.dep.off, .int .i64 τ.dep.guar, .int .i64 τ.dep.day, .int .i64 τ.dep.st, .int .i64 τ.dep.ver, .int .i64 τ.dep.ask, .int .i64 τ.dep.held, .int .i64 τ.dep.ctl, .slice P0 τ.dep.seals.length p0, .int .i64 τ.arr.id, .int .i64 τ.arr.trip, .int .i64 τ.arr.off, .int .i64 τ.arr.st, .int .i64 τ.arr.lot.id, .string τ.arr.lot.code, .int .i64 τ.arr.lot.qty, .int .i64 τ.arr.lot.proc, .slice P1 τ.arr.lot.slc.length p1, .slice P2 τ.arr.seals.length p2, .slice P3 τ.arr.found.length p3, .slice P4 τ.forth.length p4, .slice P5 τ.back.length p5] (.int .i64 τ.arr.st) _ HBX.out rfl _ Try.underlying3 rfl ?_)
            | (refine at_load 3 (.tmp 36) rfl ?_; refine wpList_load_one rfl 3 (.tmp 36) rfl g1 5 rfl [.int .i64 τ.dep.lot, .int .i64 τ.dep.trip, .int .i64 τ.dep.off, .int .i64 τ.dep.guar, .int .i64 τ.dep.day, .int .i64 τ.dep.st, .int .i64 τ.dep.ver, .int .i64 τ.dep.ask, .int .i64 τ.dep.held, .int .i64 τ.dep.ctl, .slice P0 τ.dep.seals.length p0, .int .i64 τ.arr.id, .int .i64 τ.arr.trip, .int .i64 τ.arr.off, .int .i64 τ.arr.st, .int .i64 τ.arr.lot.id, .string τ.arr.lot.code, .int .i64 τ.arr.lot.qty, .int .i64 τ.arr.lot.proc, .slice P1 τ.arr.lot.slc.length p1, .slice P2 τ.arr.seals.length p2, .slice P3 τ.arr.found.length p3, .slice P4 τ.forth.length p4, .slice P5 τ.back.length p5] (.int .i64 τ.dep.st) _ HBX.out rfl _ Try.underlying3 rfl ?_)
            | (refine at_load 3 (.tmp 44) rfl ?_; refine wpList_load_one_w rfl 3 (.tmp 44) rfl g1 5 rfl [.int .i64 τ.dep.lot, .int .i64 τ.dep.trip, .int .i64 τ.dep.off, .int .i64 τ.dep.guar, .int .i64 τ.dep.day, .int .i64 τ.dep.st, .int .i64 τ.dep.ver, .int .i64 τ.dep.ask, .int .i64 τ.dep.held, .int .i64 τ.dep.ctl, .slice P0 τ.dep.seals.length p0, .int .i64 τ.arr.id, .int .i64 τ.arr.trip, .int .i64 τ.arr.off, .int .i64 τ.arr.st, .int .i64 τ.arr.lot.id, .string τ.arr.lot.code, .int .i64 τ.arr.lot.qty, .int .i64 τ.arr.lot.proc, .slice P1 τ.arr.lot.slc.length p1, .slice P2 τ.arr.seals.length p2, .slice P3 τ.arr.found.length p3, .slice P4 τ.forth.length p4, .slice P5 τ.back.length p5] (.int .i64 τ.dep.st) _ HBX.out rfl _ Try.underlying3 rfl ?_))
          go_roundg (l.length - (k + 1))
          case measure => have := HK.out; omega
          case rel => exact HREL.out
        · have b1 : (τ.dep.st == 5) = false := by simpa using s5
          by_cases s4 : τ.dep.st = 4
          · have r3 : τ.arr.st = 3 := Classical.byContradiction fun h => hg2 ⟨s4, h⟩
            have b2 : (τ.dep.st == 4) = true := by simp [s4]
            have b3 : (τ.arr.st == 3) = true := by simp [r3]
            clear s4 s5 r3 hg1 hg2
            go_wp2_with (first
              | (refine at_load 3 (.tmp 32) rfl ?_; refine wpList_load_one rfl 3 (.tmp 32) rfl g1 14 rfl [.int .i64 τ.dep.lot, .int .i64 τ.dep.trip, .int .i64 τ.dep.off, .int .i64 τ.dep.guar, .int .i64 τ.dep.day, .int .i64 τ.dep.st, .int .i64 τ.dep.ver, .int .i64 τ.dep.ask, .int .i64 τ.dep.held, .int .i64 τ.dep.ctl, .slice P0 τ.dep.seals.length p0, .int .i64 τ.arr.id, .int .i64 τ.arr.trip, .int .i64 τ.arr.off, .int .i64 τ.arr.st, .int .i64 τ.arr.lot.id, .string τ.arr.lot.code, .int .i64 τ.arr.lot.qty, .int .i64 τ.arr.lot.proc, .slice P1 τ.arr.lot.slc.length p1, .slice P2 τ.arr.seals.length p2, .slice P3 τ.arr.found.length p3, .slice P4 τ.forth.length p4, .slice P5 τ.back.length p5] (.int .i64 τ.arr.st) _ HBX.out rfl _ Try.underlying3 rfl ?_)
              | (refine at_load 3 (.tmp 36) rfl ?_; refine wpList_load_one rfl 3 (.tmp 36) rfl g1 5 rfl [.int .i64 τ.dep.lot, .int .i64 τ.dep.trip, .int .i64 τ.dep.off, .int .i64 τ.dep.guar, .int .i64 τ.dep.day, .int .i64 τ.dep.st, .int .i64 τ.dep.ver, .int .i64 τ.dep.ask, .int .i64 τ.dep.held, .int .i64 τ.dep.ctl, .slice P0 τ.dep.seals.length p0, .int .i64 τ.arr.id, .int .i64 τ.arr.trip, .int .i64 τ.arr.off, .int .i64 τ.arr.st, .int .i64 τ.arr.lot.id, .string τ.arr.lot.code, .int .i64 τ.arr.lot.qty, .int .i64 τ.arr.lot.proc, .slice P1 τ.arr.lot.slc.length p1, .slice P2 τ.arr.seals.length p2, .slice P3 τ.arr.found.length p3, .slice P4 τ.forth.length p4, .slice P5 τ.back.length p5] (.int .i64 τ.dep.st) _ HBX.out rfl _ Try.underlying3 rfl ?_)
              | (refine at_load 3 (.tmp 44) rfl ?_; refine wpList_load_one_w rfl 3 (.tmp 44) rfl g1 5 rfl [.int .i64 τ.dep.lot, .int .i64 τ.dep.trip, .int .i64 τ.dep.off, .int .i64 τ.dep.guar, .int .i64 τ.dep.day, .int .i64 τ.dep.st, .int .i64 τ.dep.ver, .int .i64 τ.dep.ask, .int .i64 τ.dep.held, .int .i64 τ.dep.ctl, .slice P0 τ.dep.seals.length p0, .int .i64 τ.arr.id, .int .i64 τ.arr.trip, .int .i64 τ.arr.off, .int .i64 τ.arr.st, .int .i64 τ.arr.lot.id, .string τ.arr.lot.code, .int .i64 τ.arr.lot.qty, .int .i64 τ.arr.lot.proc, .slice P1 τ.arr.lot.slc.length p1, .slice P2 τ.arr.seals.length p2, .slice P3 τ.arr.found.length p3, .slice P4 τ.forth.length p4, .slice P5 τ.back.length p5] (.int .i64 τ.dep.st) _ HBX.out rfl _ Try.underlying3 rfl ?_))
            go_roundg (l.length - (k + 1))
            case measure => have := HK.out; omega
            case rel => exact HREL.out
          · have b2 : (τ.dep.st == 4) = false := by simpa using s4
            clear s4 s5 hg1 hg2
            go_wp2_with (first
              | (refine at_load 3 (.tmp 32) rfl ?_; refine wpList_load_one rfl 3 (.tmp 32) rfl g1 14 rfl [.int .i64 τ.dep.lot, .int .i64 τ.dep.trip, .int .i64 τ.dep.off, .int .i64 τ.dep.guar, .int .i64 τ.dep.day, .int .i64 τ.dep.st, .int .i64 τ.dep.ver, .int .i64 τ.dep.ask, .int .i64 τ.dep.held, .int .i64 τ.dep.ctl, .slice P0 τ.dep.seals.length p0, .int .i64 τ.arr.id, .int .i64 τ.arr.trip, .int .i64 τ.arr.off, .int .i64 τ.arr.st, .int .i64 τ.arr.lot.id, .string τ.arr.lot.code, .int .i64 τ.arr.lot.qty, .int .i64 τ.arr.lot.proc, .slice P1 τ.arr.lot.slc.length p1, .slice P2 τ.arr.seals.length p2, .slice P3 τ.arr.found.length p3, .slice P4 τ.forth.length p4, .slice P5 τ.back.length p5] (.int .i64 τ.arr.st) _ HBX.out rfl _ Try.underlying3 rfl ?_)
              | (refine at_load 3 (.tmp 36) rfl ?_; refine wpList_load_one rfl 3 (.tmp 36) rfl g1 5 rfl [.int .i64 τ.dep.lot, .int .i64 τ.dep.trip, .int .i64 τ.dep.off, .int .i64 τ.dep.guar, .int .i64 τ.dep.day, .int .i64 τ.dep.st, .int .i64 τ.dep.ver, .int .i64 τ.dep.ask, .int .i64 τ.dep.held, .int .i64 τ.dep.ctl, .slice P0 τ.dep.seals.length p0, .int .i64 τ.arr.id, .int .i64 τ.arr.trip, .int .i64 τ.arr.off, .int .i64 τ.arr.st, .int .i64 τ.arr.lot.id, .string τ.arr.lot.code, .int .i64 τ.arr.lot.qty, .int .i64 τ.arr.lot.proc, .slice P1 τ.arr.lot.slc.length p1, .slice P2 τ.arr.seals.length p2, .slice P3 τ.arr.found.length p3, .slice P4 τ.forth.length p4, .slice P5 τ.back.length p5] (.int .i64 τ.dep.st) _ HBX.out rfl _ Try.underlying3 rfl ?_)
              | (refine at_load 3 (.tmp 44) rfl ?_; refine wpList_load_one_w rfl 3 (.tmp 44) rfl g1 5 rfl [.int .i64 τ.dep.lot, .int .i64 τ.dep.trip, .int .i64 τ.dep.off, .int .i64 τ.dep.guar, .int .i64 τ.dep.day, .int .i64 τ.dep.st, .int .i64 τ.dep.ver, .int .i64 τ.dep.ask, .int .i64 τ.dep.held, .int .i64 τ.dep.ctl, .slice P0 τ.dep.seals.length p0, .int .i64 τ.arr.id, .int .i64 τ.arr.trip, .int .i64 τ.arr.off, .int .i64 τ.arr.st, .int .i64 τ.arr.lot.id, .string τ.arr.lot.code, .int .i64 τ.arr.lot.qty, .int .i64 τ.arr.lot.proc, .slice P1 τ.arr.lot.slc.length p1, .slice P2 τ.arr.seals.length p2, .slice P3 τ.arr.found.length p3, .slice P4 τ.forth.length p4, .slice P5 τ.back.length p5] (.int .i64 τ.dep.st) _ HBX.out rfl _ Try.underlying3 rfl ?_))
            go_roundg (l.length - (k + 1))
            case measure => have := HK.out; omega
            case rel => exact HREL.out
      · have s2 : ¬ (k : Int) < 60 := by omega
        go_wp2_with (go_at_call 15; refine (awake_any _).mono ?_; rintro e w5 ⟨rfl, hb⟩; have HB5 := Lib.hid (HBW.out.trans (hb.mono HBW.out.size)); clear hb)
        go_ret
        exact ⟨rfl, HB5.out⟩
    · have s1 : ¬ (k : Int) < l.length := by omega
      go_wp2_with (go_at_call 15; refine (awake_any _).mono ?_; rintro e w5 ⟨rfl, hb⟩; have HB5 := Lib.hid (HBW.out.trans (hb.mono HBW.out.size)); clear hb)
      go_ret
      exact ⟨rfl, HB5.out⟩

end Go.Proofs.Ytecmpkcjeaiknaa
