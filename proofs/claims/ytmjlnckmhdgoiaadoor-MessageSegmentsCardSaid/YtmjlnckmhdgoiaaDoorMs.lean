/- Contract of customsref06.row. -/
import Derived.Test.YtmjlnckmhdgoiaaDoorMr
import Derived.Test.YtmjlnckmhdgoiaaDoorLast
import Derived.Test.YtmjlnckmhdgoiaaDoorMany
namespace Go.Proofs.YtmjlnckmhdgoiaaDoor
open Go.RowKit
set_option linter.unusedVariables false

theorem two_below' (w : World) (a b : Obj) : Below w.heap.size w ((w.alloc a).alloc b) := ((Below.refl _ _).alloc (Nat.le_refl _) _).alloc (by simp) _
def RowRet (w : World) (t : Bs) (els : List (List Bs)) (e : Ending) (w' : World) : Prop :=
  ∃ A c, e = .returned (.agg #[.string ⟨t.toArray⟩, .slice A els.length c]) ∧ ElsOwn w' w.heap.size (.slice A els.length c) els ∧ Below w.heap.size w w'
/-- the result's block g and the segment's block g + 1 -/
structure RowSt (w : World) (g : Nat) (t : Bs) (els : List (List Bs)) (v : Value) (wr : World) : Prop where
  res : wr.heap[g]? = some (.cells #[.string ⟨#[]⟩, .slice none 0 0] 49 (0, 0))
  seg : wr.heap[g + 1]? = some (.cells #[.string ⟨t.toArray⟩, v] 49 (0, 0))
  own : ElsOwn wr (g + 2) v els
  below : Below g w wr
  size : g + 2 ≤ wr.heap.size
def RowRel (w : World) (g : Nat) (t : Bs) (l : List Int) (gk : Nat) (i : Value) (wr : World) : Prop :=
  ∃ (k : Nat) (v : Value), k + gk = l.length ∧ i = .int .i64 (k : Int) ∧ RowSt w g t ((l.take k).map elN) v wr
theorem ints_at' {l : List Int} {k : Nat} (h : k < l.length) : (ints l)[k]? = some (.int .i64 l[k]) := by simp [ints, List.getElem?_map, List.getElem?_eq_getElem h]
theorem RdB.at_lit {w : World} {B : Nat} {A : Option Addr} {cs : List Value} (h : RdB w B A cs) {k : Nat} {u : Value} (hk : cs[k]? = some u) : ∃ b off, A = some ⟨b, off, none⟩ ∧ b < B ∧ w.cell? ⟨b, off + k, none⟩ = some u := by
  obtain ⟨b, off, rfl, hc⟩ := h.rd.at_lit hk
  obtain ⟨ad, had, hlt, _⟩ := h k u hk
  injection had with had
  subst had
  exact ⟨b, off, rfl, hlt, hc⟩
theorem number_el {n : Int} : elT (Lib.itoa n) = elN n := by unfold elT elN; rw [if_neg (itoa_ne n)]
set_option maxRecDepth 100000 in
set_option maxHeartbeats 4000000 in
theorem row_any (t : Bs) (A : Option Addr) (c : Nat) (l : List Int) (w : World) (hr : Rd w A (ints l)) (hl : l.length ≤ 1000) (hb : ∀ x ∈ l, -9223372036854775807 ≤ x ∧ x ≤ 9223372036854775807) :
    Calls Tryd.prog 44 #[.string ⟨t.toArray⟩, .slice A l.length c] w (RowRet w t (l.map elN)) := by
  have hrB := RdB.of_rd hr
  have hst : RowSt w w.heap.size t ((l.take 0).map elN) (.slice none 0 0) ((w.alloc (.cells #[.string ⟨#[]⟩, .slice none 0 0] 49)).alloc (.cells #[.string ⟨t.toArray⟩, .slice none 0 0] 49)) := by
    refine ⟨?_, ?_, ElsOwn.nil_ _ _, two_below' w _ _, by simp⟩
    · rw [Below.heap_alloc _ _ _ (by simp)]
      exact heap_alloc_new w _
    · have := heap_alloc_new (w.alloc (.cells #[.string ⟨#[]⟩, .slice none 0 0] 49)) (.cells #[.string ⟨t.toArray⟩, .slice none 0 0] 49)
      simpa using this
  have HST := Lib.hid hst
  have HBD := Lib.hid hb
  obtain ⟨i0, hi0, hz0, hz1, hz2⟩ := info_parts strsInfo
  clear hst hb hr
  go_enter Tryd.func44, Tryd.ntmps44
  go_wp2_with fail
  go_loopg [6] l.length (fun g i wr => RowRel w w.heap.size t l g i wr)
  case atStart => exact ⟨0, _, by omega, rfl, HST.out⟩
  case round =>
    obtain ⟨k, v, hk, rfl, hS⟩ := hrel
    have HK := Lib.hid hk
    have HSS := Lib.hid hS
    have hk2 : k ≤ l.length := by omega
    generalize hgw : w.heap.size = g at *
    have hgr : g + 2 ≤ wr.heap.size := hS.size
    have hcv : wr.cell? ⟨g + 1, 1, none⟩ = some v := by rw [cell_of_row _ _ _ _ _ _ hS.seg]; rfl
    have hfv : wr.frozen? ⟨g + 1, 1, none⟩ = false := frozen_of_row _ _ _ _ _ hS.seg
    have hct : wr.cell? ⟨g + 1, 0, none⟩ = some (.string ⟨t.toArray⟩) := by rw [cell_of_row _ _ _ _ _ _ hS.seg]; rfl
    clear hk HST
    by_cases hlt : k < l.length
    · obtain ⟨b0, o0, rfl, hb0, hc⟩ := (hrB.below hS.below).at_lit (ints_at' hlt)
      obtain ⟨hx0, hx1⟩ := HBD.out l[k] (List.getElem_mem hlt)
      have HSN : Hid ((l.take (k + 1)).map elN = (l.take k).map elN ++ [elN l[k]]) := by show _ = _; rw [take_snoc hlt, List.map_append]; rfl
      have hkl : ((l.take k).map elN).length = k := by rw [List.length_map, List.length_take]; omega
      obtain ⟨ecs, ho1, ho2⟩ := hS.own
      have HO2 := Lib.hid ho2
      clear ho2 hS
      obtain ⟨Av, cv, hv, _, _⟩ := own_shape ho1
      rw [hkl] at hv ho1
      subst hv
      generalize l[k] = x at *
      have HNB := Lib.hid (fun W => number02_any x W hx0 hx1)
      have HEL := Lib.hid (fun W => (number_el (n := x) ▸ element_any (Lib.itoa x) W : Calls Tryd.prog 45 #[.string ⟨(Lib.itoa x).toArray⟩] W (ElRet W (elN x))))
      generalize Lib.itoa x = sx at HNB HEL
      generalize (l.take k).map elN = es at *
      go_wp2_with fail
      refine wp_region_x 11 (by kernel_rfl) (fun w' => w'.cell? ⟨g + 1, 1, none⟩ = some (.slice Av k cv) ∧ w'.cell? ⟨b0, o0 + k, none⟩ = some (.int .i64 x)) ?_
      have HS : Hid (wr.drew.cell? ⟨g + 1, 1, none⟩ = some (.slice Av k cv) ∧ wr.drew.cell? ⟨b0, o0 + k, none⟩ = some (.int .i64 x)) := ⟨hcv, hc⟩
      refine wpAnyX_take (i := 0) (v := .pointer (some ⟨g + 1, 1, none⟩)) rfl (by kernel_rfl) (by kernel_rfl) (by kernel_rfl) (by kernel_rfl) (fun _ _ _ h => h) HS.out (Or.inl ⟨by rfl, fun w hS => by obtain ⟨hS1, hS2⟩ := hS; go_simp⟩) ?_
      go_simp
      refine wpAnyX_take (i := 1) (v := .slice Av k cv) rfl (by kernel_rfl) (by kernel_rfl) (by kernel_rfl) (by kernel_rfl) (fun _ _ _ h => h) HS.out (Or.inl ⟨by rfl, fun w hS => by obtain ⟨hS1, hS2⟩ := hS; go_simp⟩) ?_
      go_simp
      refine wpAnyX_take (i := 2) (v := .slice (some ⟨b0, o0, none⟩) l.length c) rfl (by kernel_rfl) (by kernel_rfl) (by kernel_rfl) (by kernel_rfl) (fun _ _ _ h => h) HS.out (Or.inl ⟨by rfl, fun w hS => by obtain ⟨hS1, hS2⟩ := hS; go_simp⟩) ?_
      go_simp
      refine wpAnyX_take (i := 3) (v := .int .i64 (k : Int)) rfl (by kernel_rfl) (by kernel_rfl) (by kernel_rfl) (by kernel_rfl) (fun _ _ _ h => h) HS.out (Or.inl ⟨by rfl, fun w hS => by obtain ⟨hS1, hS2⟩ := hS; go_simp⟩) ?_
      go_simp
      refine wpAnyX_take (i := 4) (v := .pointer (some ⟨b0, o0 + k, none⟩)) rfl (by kernel_rfl) (by kernel_rfl) (by kernel_rfl) (by kernel_rfl) (fun _ _ _ h => h) HS.out (Or.inl ⟨by rfl, fun w hS => by obtain ⟨hS1, hS2⟩ := hS; go_simp⟩) ?_
      go_simp
      refine wpAnyX_take (i := 5) (v := .int .i64 x) rfl (by kernel_rfl) (by kernel_rfl) (by kernel_rfl) (by kernel_rfl) (fun _ _ _ h => h) HS.out (Or.inl ⟨by rfl, fun w hS => by obtain ⟨hS1, hS2⟩ := hS; go_simp⟩) ?_
      go_simp
      refine wpAnyX_one (i := 6) (by kernel_rfl) rfl (fun K hK => ?_)
      go_simp
      go_wp2_with (go_at_call 46; refine (HNB.out _).mono ?_; rintro e w4 ⟨rfl, hb4⟩)
      have hb4 : Below wr.heap.size wr w4 := ⟨hb4.os, hb4.tape, hb4.output, hb4.size, hb4.block⟩
      have keep : ∀ W : World, Below (g + 2) wr W → W.cell? ⟨g + 1, 1, none⟩ = some (.slice Av k cv) ∧ W.cell? ⟨b0, o0 + k, none⟩ = some (.int .i64 x) := fun W h => ⟨(h.cell (p := ⟨g + 1, 1, none⟩) (Nat.lt_succ_self _)).trans hcv, (h.cell (p := ⟨b0, o0 + k, none⟩) (show b0 < g + 2 by omega)).trans hc⟩
      have KEEP := Lib.hid keep
      clear keep HS
      have hc4 := hb4.mono hgr
      refine hK.out _ _ (fun _ => KEEP.out _ hc4) ?_
      clear hK K
      refine wpAnyX_one (i := 7) (by kernel_rfl) rfl (fun K hK => ?_)
      go_simp
      go_wp2_with (go_at_call 45; refine (HEL.out _).mono ?_; rintro e w5 ⟨A5, c5, rfl, ho5, hb5⟩)
      have hb35 := hb4.trans (hb5.mono hb4.size)
      have hc5 := hb35.mono hgr
      refine hK.out _ _ (fun _ => KEEP.out _ hc5) ?_
      clear hK K
      refine wpAnyX_one (i := 8) (by kernel_rfl) rfl (fun K hK => ?_)
      go_simp
      have hs5 : g + 2 ≤ w5.heap.size := Nat.le_trans hgr hb35.size
      refine hK.out _ _ (fun _ => KEEP.out _ (hc5.alloc hs5 _)) ?_
      clear hK K
      refine wpAnyX_one (i := 9) (by kernel_rfl) rfl (fun K hK => ?_)
      have hown5 := own_below ho1 hb35
      refine step_append_one w5 rfl (.tmp 16) (.tmp 23) 47 rfl (g + 2) 50 i0 _ 1 24 Tryd.underlying47 hi0 hz0 hz1 hz2 rfl (by omega) _ k ecs [.slice A5 (elN x).length c5] rfl (by simp [Value.oneCell']) rfl hown5 rfl (by unfold maxLen; omega) (by omega) hs5 (fun v6 w6 hown6 hb6 hg6 => ?_)
      obtain ⟨A6, c6, rfl, _, _⟩ := own_shape hown6
      have hc6 := hc5.trans hb6
      refine hK.out _ _ (fun _ => KEEP.out _ hc6) ?_
      clear hK K
      go_simp
      refine wpAnyX_one (i := 10) (by kernel_rfl) rfl (fun K hK => ?_)
      go_simp
      refine hK.out _ _ (fun _ => KEEP.out _ hc6) ?_
      clear hK K
      refine wpAnyX_one (i := 11) (by kernel_rfl) rfl (fun K hK => ?_)
      have hcell6 := (KEEP.out _ hc6).1
      have hfz6 : w6.frozen? ⟨g + 1, 1, none⟩ = false := (hc6.frozen (p := ⟨g + 1, 1, none⟩) (Nat.lt_succ_self _)).trans hfv
      go_simp
      refine hK.out _ _ (fun h => absurd rfl h) ?_
      clear hK K
      refine wpAnyX_done (by kernel_rfl) ?_
      have hES : es.length = k := hkl
      have hpush := ElsOwn.push (w := w5) (e := elN x) (by rw [hES]; exact hown5) (fun i e he => by obtain ⟨u, h1, h2⟩ := HO2.out i e he; exact ⟨u, h1, h2.below hb35⟩) ((ho5.mono (B' := g + 2) (Nat.le_trans hgr hb4.size))) hg6 (by rw [hES]; exact hown6)
      have HP := Lib.hid hpush
      have HOLD := Lib.hid HSS.out
      clear hpush hES hkl
      go_wp2_with fail
      go_roundg (l.length - (k + 1))
      case measure => have := HK.out; omega
      case rel =>
        refine ⟨k + 1, .slice A6 (k + 1) c6, by omega, by go_num, ?_⟩
        have o := HOLD.out
        rw [HSN.out]
        refine ⟨?_, ?_, HP.out.set (p := ⟨g + 1, 1, none⟩) (show g + 1 < g + 2 by omega) _, ?_, by simp; exact Nat.le_trans hgr hc6.size⟩
        · rw [Below.heap_setCell w6 ⟨g + 1, 1, none⟩ _ g (by simp)]
          exact (hc6.block g (by omega)).trans o.res
        · rw [heap_setCell_m ((hc6.block (g + 1) (by omega)).trans o.seg)]
          rfl
        · exact (o.below.trans (hc6.mono (by omega))).setCell (p := ⟨g + 1, 1, none⟩) (by show g ≤ g + 1; omega) _
    · have hge : l.length ≤ k := by omega
      have hd : l.take k = l := List.take_of_length_le hge
      rw [hd] at HSS
      have o := HSS.out
      have hcr0 : wr.cell? ⟨g, 0, none⟩ = some (.string ⟨#[]⟩) := by rw [cell_of_row _ _ _ _ _ _ o.res]; rfl
      have hcr1 : wr.cell? ⟨g, 1, none⟩ = some (.slice none 0 0) := by rw [cell_of_row _ _ _ _ _ _ o.res]; rfl
      have hfr0 : wr.frozen? ⟨g, 0, none⟩ = false := frozen_of_row _ _ _ _ _ o.res
      have hfr1 : wr.frozen? ⟨g, 1, none⟩ = false := frozen_of_row _ _ _ _ _ o.res
      obtain ⟨A6, c6, rfl, _⟩ := o.own.at_
      have HO := Lib.hid o.own
      have HB := Lib.hid o.below
      have HRES := Lib.hid o.res
      clear o hS hd HSS
      generalize l.map elN = es at *
      have q0 : (wr.setCell ⟨g, 0, none⟩ (.string ⟨t.toArray⟩)).cell? ⟨g, 0, none⟩ = some (.string ⟨t.toArray⟩) := by rw [cell_of_row _ _ _ _ _ _ (heap_setCell_m HRES.out _)]; rfl
      have q1 : ((wr.setCell ⟨g, 0, none⟩ (.string ⟨t.toArray⟩)).setCell ⟨g, 1, none⟩ (.slice A6 es.length c6)).cell? ⟨g, 1, none⟩ = some (.slice A6 es.length c6) := by rw [cell_of_row _ _ _ _ _ _ (heap_setCell_m (heap_setCell_m HRES.out _) _)]; rfl
      go_wp2_with fail
      refine bodyPost_ret (v := .agg #[.string ⟨t.toArray⟩, .slice A6 es.length c6]) (by simp [results, Tryd.results44, go_sem, q0, q1]) rfl ⟨A6, c6, rfl, ?_, ?_⟩
      · rw [hgw]
        refine (ElsOwn.set (p := ⟨g, 1, none⟩) (ElsOwn.set (p := ⟨g, 0, none⟩) HO.out (by show g < g + 2; omega) _) (by show g < g + 2; omega) _).mono (by omega)
      · rw [hgw]
        exact (HB.out.setCell (p := ⟨g, 0, none⟩) (Nat.le_refl _) _).setCell (p := ⟨g, 1, none⟩) (Nat.le_refl _) _
end Go.Proofs.YtmjlnckmhdgoiaaDoor
