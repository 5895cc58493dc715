/- Contracts of customsref02.Digits and Number, and of customsref06.element. -/
import Derived.Test.YtmjlnckmhdgoiaaGreatDoorMl
import Derived.Test.YtmjlnckmhdgoiaaGreatDoorLast
import Derived.Test.YtmjlnckmhdgoiaaGreatDoorMany
import Derived.Test.YtmjlnckmhdgoiaaGreatDoorOne
namespace Go.Proofs.YtmjlnckmhdgoiaaGreatDoor
open Go.RowKit
set_option linter.unusedVariables false

theorem dec_small {k : Nat} (h : k < 10) : Lib.decDigits k = [UInt8.ofNat (48 + k)] := by rw [Lib.decDigits, dif_pos h]
theorem dec_big {k : Nat} (h : ¬ k < 10) : Lib.decDigits k = Lib.decDigits (k / 10) ++ [UInt8.ofNat (48 + k % 10)] := by rw [Lib.decDigits, dif_neg h]
theorem dec_len {k : Nat} (h : k ≤ 9223372036854775807) : (Lib.decDigits k).length ≤ 20 := by rw [Lib.decDigits_length]; exact Lib.nDigits_le20 k (by omega)
def DigRel (n : Nat) (w : World) (g : Nat) (x s : Value) (wr : World) : Prop := ∃ t : Bs, x = .int .i64 (g : Int) ∧ s = .string ⟨t.toArray⟩ ∧ Lib.decDigits n = Lib.decDigits g ++ t ∧ g ≤ 9223372036854775807 ∧ Below w.heap.size w wr
theorem conv_one (w : World) (c : UInt8) (x : Int) (hx : x = (c.toNat : Int)) : (convert 23 9 (.slice (some ⟨w.heap.size, 0, none⟩) 1 1)).run Tryz.prog (w.alloc (.cells #[.int .u8 x] 5)) = .ok (.string ⟨#[c]⟩) (w.alloc (.cells #[.int .u8 x] 5)) := by
  subst hx
  exact conv_back (w.alloc (.cells #[.int .u8 (c.toNat : Int)] 5)) (some ⟨w.heap.size, 0, none⟩) 1 [c] (RdB.new w (u8s [c]) 5 (0, 0) _ rfl).rd
set_option maxHeartbeats 2000000 in
set_option maxRecDepth 100000 in
theorem digits_any (n : Nat) (w : World) (hn : n ≤ 9223372036854775807) :
    Calls Tryz.prog 39 #[.int .i64 (n : Int)] w fun e w' => e = .returned (.string ⟨(Lib.decDigits n).toArray⟩) ∧ Below w.heap.size w w' := by
  go_enter Tryz.func39, Tryz.ntmps39
  go_wp2
  go_loopg [0, 3] n (fun g x s wr => DigRel n w g x s wr)
  case atStart => exact ⟨[], rfl, rfl, by simp, hn, Below.refl _ _⟩
  case round =>
    obtain ⟨t, rfl, rfl, hd, hg, hb⟩ := hrel
    have HD := Lib.hid hd
    have HB := Lib.hid hb
    clear hd hb
    obtain ⟨c, hc, hce⟩ : ∃ c : UInt8, (48 + (gk : Int) % 10) = (c.toNat : Int) ∧ c = UInt8.ofNat (48 + gk % 10) := ⟨_, by rw [dig_toNat (Nat.mod_lt _ (by omega))]; omega, rfl⟩
    have htl : t.length ≤ 20 := by have h1 := dec_len hn; rw [HD.out, List.length_append] at h1; omega
    have hcv := conv_one wr c _ hc
    have hcat := cat_bytes [c] t
    have HCE := Lib.hid hce
    have hcb : (48 + (gk : Int) % 10) ≤ 255 := by omega
    clear hce hc
    by_cases hlt : gk < 10
    · have hq : ((gk : Int) / 10 == 0) = true := by rw [beq_iff_eq]; omega
      have HE : Hid (Lib.decDigits n = [c] ++ t) := by show _ = _; rw [HD.out, dec_small hlt, HCE.out, Nat.mod_eq_of_lt hlt]
      clear HD HCE
      go_wp2
      go_ret
      exact ⟨by rw [HE.out]; rfl, HB.out.alloc HB.out.size _⟩
    · have hq : ((gk : Int) / 10 == 0) = false := by rw [beq_eq_false_iff_ne]; omega
      have HE : Hid (Lib.decDigits n = Lib.decDigits (gk / 10) ++ ([c] ++ t)) := by show _ = _; rw [HD.out, dec_big hlt, HCE.out, List.append_assoc]
      clear HD HCE
      go_wp2
      go_roundg (gk / 10)
      case measure => omega
      case rel => exact ⟨[c] ++ t, by go_num, rfl, HE.out, by omega, HB.out.alloc HB.out.size _⟩
theorem number02_any (n : Int) (w : World) (h0 : -9223372036854775807 ≤ n) (h1 : n ≤ 9223372036854775807) :
    Calls Tryz.prog 27 #[.int .i64 n] w fun e w' => e = .returned (.string ⟨(Lib.itoa n).toArray⟩) ∧ Below w.heap.size w w' := by
  by_cases hneg : n < 0
  · obtain ⟨k, hk⟩ : ∃ k : Nat, -n = (k : Int) := ⟨n.natAbs, by omega⟩
    have HD := Lib.hid (digits_any k w (by omega))
    have HE : Hid (Lib.itoa n = [45] ++ Lib.decDigits k) := by show _ = _; unfold Lib.itoa; rw [if_pos hneg, show n.natAbs = k by omega]; rfl
    have hcat := cat_bytes [45] (Lib.decDigits k)
    have hsl := dec_len (k := k) (by omega)
    generalize Lib.decDigits k = s at HD HE hcat hsl
    go_enter Tryz.func27, Tryz.ntmps27
    go_wp2_with fail
    refine HD.out.mono ?_
    rintro e w1 ⟨rfl, hb⟩
    go_wp2_with fail
    go_ret
    exact ⟨by rw [HE.out]; rfl, hb⟩
  · obtain ⟨k, rfl⟩ : ∃ k : Nat, n = (k : Int) := ⟨n.toNat, by omega⟩
    have HD := Lib.hid (digits_any k w (by omega))
    have HE : Hid (Lib.itoa (k : Int) = Lib.decDigits k) := by show _ = _; unfold Lib.itoa; rw [if_neg hneg, Int.toNat_natCast]
    generalize Lib.decDigits k = s at HD HE
    go_enter Tryz.func27, Tryz.ntmps27
    go_wp2_with fail
    refine HD.out.mono ?_
    rintro e w1 ⟨rfl, hb⟩
    go_wp2_with fail
    go_ret
    exact ⟨by rw [HE.out]; rfl, hb⟩
theorem element_any (s : Bs) (w : World) : Calls Tryz.prog 26 #[.string ⟨s.toArray⟩] w (ElRet w (elT s)) := by
  by_cases h : s = []
  · subst h
    go_enter Tryz.func26, Tryz.ntmps26
    go_wp2_with fail
    go_ret
    exact ⟨none, 0, rfl, OwnStr.nil_ _ _, Below.refl _ _⟩
  · have HE : Hid (elT s = [s]) := by show _ = _; unfold elT; rw [if_neg h]
    have h2 : s.isEmpty = false := by simpa using h
    go_enter Tryz.func26, Tryz.ntmps26
    go_wp2_with fail
    go_ret
    rw [HE.out]
    exact ⟨_, 1, rfl, own_one w s w.heap.size (Nat.le_refl _), (Below.refl _ _).alloc (Nat.le_refl _) _⟩
end Go.Proofs.YtmjlnckmhdgoiaaGreatDoor

/-! Contract of customsref06.row. -/
namespace Go.Proofs.YtmjlnckmhdgoiaaGreatDoor
open Go.RowKit
set_option linter.unusedVariables false

theorem two_below' (w : World) (a b : Obj) : Below w.heap.size w ((w.alloc a).alloc b) := ((Below.refl _ _).alloc (Nat.le_refl _) _).alloc (by simp) _
def RowRet (w : World) (t : Bs) (els : List (List Bs)) (e : Ending) (w' : World) : Prop :=
  ∃ A c, e = .returned (.agg #[.string ⟨t.toArray⟩, .slice A els.length c]) ∧ ElsOwn w' w.heap.size (.slice A els.length c) els ∧ Below w.heap.size w w'
/-- the result's block g and the segment's block g + 1 -/
structure RowSt (w : World) (g : Nat) (t : Bs) (els : List (List Bs)) (v : Value) (wr : World) : Prop where
  res : wr.heap[g]? = some (.cells #[.string ⟨#[]⟩, .slice none 0 0] 57 (0, 0))
  seg : wr.heap[g + 1]? = some (.cells #[.string ⟨t.toArray⟩, v] 57 (0, 0))
  own : ElsOwn wr (g + 2) v els
  below : Below g w wr
  size : g + 2 ≤ wr.heap.size
def RowRel (w : World) (g : Nat) (t : Bs) (l : List Int) (gk : Nat) (i : Value) (wr : World) : Prop :=
  ∃ (k : Nat) (v : Value), k + gk = l.length ∧ i = .int .i64 (k : Int) ∧ RowSt w g t ((l.take k).map elN) v wr
theorem ints_at' {l : List Int} {k : Nat} (h : k < l.length) : (ints l)[k]? = some (.int .i64 l[k]) := by simp [ints, List.getElem?_map, List.getElem?_eq_getElem h]
theorem RdB.at_lit {w : World} {B : Nat} {A : Option Addr} {cs : List Value} (h : RdB w B A cs) {k : Nat} {u : Value} (hk : cs[k]? = some u) : ∃ b off, A = some ⟨b, off, none⟩ ∧ b < B ∧ w.cell? ⟨b, off + k, none⟩ = some u := by
  obtain ⟨b, off, rfl, hc⟩ := h.rd.at_lit hk
  obtain ⟨ad, had, hlt, _⟩ := h k u hk
  injection had with had
  subst had
  exact ⟨b, off, rfl, hlt, hc⟩
theorem number_el {n : Int} : elT (Lib.itoa n) = elN n := by unfold elT elN; rw [if_neg (itoa_ne n)]
set_option maxRecDepth 100000 in
set_option maxHeartbeats 4000000 in
theorem row_any (t : Bs) (A : Option Addr) (c : Nat) (l : List Int) (w : World) (hr : Rd w A (ints l)) (hl : l.length ≤ 1000) (hb : ∀ x ∈ l, -9223372036854775807 ≤ x ∧ x ≤ 9223372036854775807) :
    Calls Tryz.prog 25 #[.string ⟨t.toArray⟩, .slice A l.length c] w (RowRet w t (l.map elN)) := by
  have hrB := RdB.of_rd hr
  have hst : RowSt w w.heap.size t ((l.take 0).map elN) (.slice none 0 0) ((w.alloc (.cells #[.string ⟨#[]⟩, .slice none 0 0] 57)).alloc (.cells #[.string ⟨t.toArray⟩, .slice none 0 0] 57)) := by
    refine ⟨?_, ?_, ElsOwn.nil_ _ _, two_below' w _ _, by simp⟩
    · rw [Below.heap_alloc _ _ _ (by simp)]
      exact heap_alloc_new w _
    · have := heap_alloc_new (w.alloc (.cells #[.string ⟨#[]⟩, .slice none 0 0] 57)) (.cells #[.string ⟨t.toArray⟩, .slice none 0 0] 57)
      simpa using this
  have HST := Lib.hid hst
  have HBD := Lib.hid hb
  obtain ⟨i0, hi0, hz0, hz1, hz2⟩ := info_parts strsInfo
  clear hst hb hr
  go_enter Tryz.func25, Tryz.ntmps25
  go_wp2_with fail
  go_loopg [6] l.length (fun g i wr => RowRel w w.heap.size t l g i wr)
  case atStart => exact ⟨0, _, by omega, rfl, HST.out⟩
  case round =>
    obtain ⟨k, v, hk, rfl, hS⟩ := hrel
    have HK := Lib.hid hk
    have HSS := Lib.hid hS
    have hk2 : k ≤ l.length := by omega
    generalize hgw : w.heap.size = g at *
    have hgr : g + 2 ≤ wr.heap.size := hS.size
    have hcv : wr.cell? ⟨g + 1, 1, none⟩ = some v := by rw [cell_of_row _ _ _ _ _ _ hS.seg]; rfl
    have hfv : wr.frozen? ⟨g + 1, 1, none⟩ = false := frozen_of_row _ _ _ _ _ hS.seg
    have hct : wr.cell? ⟨g + 1, 0, none⟩ = some (.string ⟨t.toArray⟩) := by rw [cell_of_row _ _ _ _ _ _ hS.seg]; rfl
    clear hk HST
    by_cases hlt : k < l.length
    · obtain ⟨b0, o0, rfl, hb0, hc⟩ := (hrB.below hS.below).at_lit (ints_at' hlt)
      obtain ⟨hx0, hx1⟩ := HBD.out l[k] (List.getElem_mem hlt)
      have HSN : Hid ((l.take (k + 1)).map elN = (l.take k).map elN ++ [elN l[k]]) := by show _ = _; rw [take_snoc hlt, List.map_append]; rfl
      have hkl : ((l.take k).map elN).length = k := by rw [List.length_map, List.length_take]; omega
      obtain ⟨ecs, ho1, ho2⟩ := hS.own
      have HO2 := Lib.hid ho2
      clear ho2 hS
      obtain ⟨Av, cv, hv, _, _⟩ := own_shape ho1
      rw [hkl] at hv ho1
      subst hv
      generalize l[k] = x at *
      have HNB := Lib.hid (fun W => number02_any x W hx0 hx1)
      have HEL := Lib.hid (fun W => (number_el (n := x) ▸ element_any (Lib.itoa x) W : Calls Tryz.prog 26 #[.string ⟨(Lib.itoa x).toArray⟩] W (ElRet W (elN x))))
      generalize Lib.itoa x = sx at HNB HEL
      generalize (l.take k).map elN = es at *
      go_wp2_with fail
      refine wp_region_x 11 (by kernel_rfl) (fun w' => w'.cell? ⟨g + 1, 1, none⟩ = some (.slice Av k cv) ∧ w'.cell? ⟨b0, o0 + k, none⟩ = some (.int .i64 x)) ?_
      have HS : Hid (wr.drew.cell? ⟨g + 1, 1, none⟩ = some (.slice Av k cv) ∧ wr.drew.cell? ⟨b0, o0 + k, none⟩ = some (.int .i64 x)) := ⟨hcv, hc⟩
      refine wpAnyX_take (i := 0) (v := .pointer (some ⟨g + 1, 1, none⟩)) rfl (by kernel_rfl) (by kernel_rfl) (by kernel_rfl) (by kernel_rfl) (fun _ _ _ h => h) HS.out (Or.inl ⟨by rfl, fun w hS => by obtain ⟨hS1, hS2⟩ := hS; go_simp⟩) ?_
      go_simp
      refine wpAnyX_take (i := 1) (v := .slice Av k cv) rfl (by kernel_rfl) (by kernel_rfl) (by kernel_rfl) (by kernel_rfl) (fun _ _ _ h => h) HS.out (Or.inl ⟨by rfl, fun w hS => by obtain ⟨hS1, hS2⟩ := hS; go_simp⟩) ?_
      go_simp
      refine wpAnyX_take (i := 2) (v := .slice (some ⟨b0, o0, none⟩) l.length c) rfl (by kernel_rfl) (by kernel_rfl) (by kernel_rfl) (by kernel_rfl) (fun _ _ _ h => h) HS.out (Or.inl ⟨by rfl, fun w hS => by obtain ⟨hS1, hS2⟩ := hS; go_simp⟩) ?_
      go_simp
      refine wpAnyX_take (i := 3) (v := .int .i64 (k : Int)) rfl (by kernel_rfl) (by kernel_rfl) (by kernel_rfl) (by kernel_rfl) (fun _ _ _ h => h) HS.out (Or.inl ⟨by rfl, fun w hS => by obtain ⟨hS1, hS2⟩ := hS; go_simp⟩) ?_
      go_simp
      refine wpAnyX_take (i := 4) (v := .pointer (some ⟨b0, o0 + k, none⟩)) rfl (by kernel_rfl) (by kernel_rfl) (by kernel_rfl) (by kernel_rfl) (fun _ _ _ h => h) HS.out (Or.inl ⟨by rfl, fun w hS => by obtain ⟨hS1, hS2⟩ := hS; go_simp⟩) ?_
      go_simp
      refine wpAnyX_take (i := 5) (v := .int .i64 x) rfl (by kernel_rfl) (by kernel_rfl) (by kernel_rfl) (by kernel_rfl) (fun _ _ _ h => h) HS.out (Or.inl ⟨by rfl, fun w hS => by obtain ⟨hS1, hS2⟩ := hS; go_simp⟩) ?_
      go_simp
      refine wpAnyX_one (i := 6) (by kernel_rfl) rfl (fun K hK => ?_)
      go_simp
      go_wp2_with (go_at_call 27; refine (HNB.out _).mono ?_; rintro e w4 ⟨rfl, hb4⟩)
      have hb4 : Below wr.heap.size wr w4 := ⟨hb4.os, hb4.tape, hb4.output, hb4.size, hb4.block⟩
      have keep : ∀ W : World, Below (g + 2) wr W → W.cell? ⟨g + 1, 1, none⟩ = some (.slice Av k cv) ∧ W.cell? ⟨b0, o0 + k, none⟩ = some (.int .i64 x) := fun W h => ⟨(h.cell (p := ⟨g + 1, 1, none⟩) (Nat.lt_succ_self _)).trans hcv, (h.cell (p := ⟨b0, o0 + k, none⟩) (show b0 < g + 2 by omega)).trans hc⟩
      have KEEP := Lib.hid keep
      clear keep HS
      have hc4 := hb4.mono hgr
      refine hK.out _ _ (fun _ => KEEP.out _ hc4) ?_
      clear hK K
      refine wpAnyX_one (i := 7) (by kernel_rfl) rfl (fun K hK => ?_)
      go_simp
      go_wp2_with (go_at_call 26; refine (HEL.out _).mono ?_; rintro e w5 ⟨A5, c5, rfl, ho5, hb5⟩)
      have hb35 := hb4.trans (hb5.mono hb4.size)
      have hc5 := hb35.mono hgr
      refine hK.out _ _ (fun _ => KEEP.out _ hc5) ?_
      clear hK K
      refine wpAnyX_one (i := 8) (by kernel_rfl) rfl (fun K hK => ?_)
      go_simp
      have hs5 : g + 2 ≤ w5.heap.size := Nat.le_trans hgr hb35.size
      refine hK.out _ _ (fun _ => KEEP.out _ (hc5.alloc hs5 _)) ?_
      clear hK K
      refine wpAnyX_one (i := 9) (by kernel_rfl) rfl (fun K hK => ?_)
      have hown5 := own_below ho1 hb35
      refine step_append_one w5 rfl (.tmp 16) (.tmp 23) 55 rfl (g + 2) 60 i0 _ 1 24 Tryz.underlying55 hi0 hz0 hz1 hz2 rfl (by omega) _ k ecs [.slice A5 (elN x).length c5] rfl (by simp [Value.oneCell']) rfl hown5 rfl (by unfold maxLen; omega) (by omega) hs5 (fun v6 w6 hown6 hb6 hg6 => ?_)
      obtain ⟨A6, c6, rfl, _, _⟩ := own_shape hown6
      have hc6 := hc5.trans hb6
      refine hK.out _ _ (fun _ => KEEP.out _ hc6) ?_
      clear hK K
      go_simp
      refine wpAnyX_one (i := 10) (by kernel_rfl) rfl (fun K hK => ?_)
      go_simp
      refine hK.out _ _ (fun _ => KEEP.out _ hc6) ?_
      clear hK K
      refine wpAnyX_one (i := 11) (by kernel_rfl) rfl (fun K hK => ?_)
      have hcell6 := (KEEP.out _ hc6).1
      have hfz6 : w6.frozen? ⟨g + 1, 1, none⟩ = false := (hc6.frozen (p := ⟨g + 1, 1, none⟩) (Nat.lt_succ_self _)).trans hfv
      go_simp
      refine hK.out _ _ (fun h => absurd rfl h) ?_
      clear hK K
      refine wpAnyX_done (by kernel_rfl) ?_
      have hES : es.length = k := hkl
      have hpush := ElsOwn.push (w := w5) (e := elN x) (by rw [hES]; exact hown5) (fun i e he => by obtain ⟨u, h1, h2⟩ := HO2.out i e he; exact ⟨u, h1, h2.below hb35⟩) ((ho5.mono (B' := g + 2) (Nat.le_trans hgr hb4.size))) hg6 (by rw [hES]; exact hown6)
      have HP := Lib.hid hpush
      have HOLD := Lib.hid HSS.out
      clear hpush hES hkl
      go_wp2_with fail
      go_roundg (l.length - (k + 1))
      case measure => have := HK.out; omega
      case rel =>
        refine ⟨k + 1, .slice A6 (k + 1) c6, by omega, by go_num, ?_⟩
        have o := HOLD.out
        rw [HSN.out]
        refine ⟨?_, ?_, HP.out.set (p := ⟨g + 1, 1, none⟩) (show g + 1 < g + 2 by omega) _, ?_, by simp; exact Nat.le_trans hgr hc6.size⟩
        · rw [Below.heap_setCell w6 ⟨g + 1, 1, none⟩ _ g (by simp)]
          exact (hc6.block g (by omega)).trans o.res
        · rw [heap_setCell_m ((hc6.block (g + 1) (by omega)).trans o.seg)]
          rfl
        · exact (o.below.trans (hc6.mono (by omega))).setCell (p := ⟨g + 1, 1, none⟩) (by show g ≤ g + 1; omega) _
    · have hge : l.length ≤ k := by omega
      have hd : l.take k = l := List.take_of_length_le hge
      rw [hd] at HSS
      have o := HSS.out
      have hcr0 : wr.cell? ⟨g, 0, none⟩ = some (.string ⟨#[]⟩) := by rw [cell_of_row _ _ _ _ _ _ o.res]; rfl
      have hcr1 : wr.cell? ⟨g, 1, none⟩ = some (.slice none 0 0) := by rw [cell_of_row _ _ _ _ _ _ o.res]; rfl
      have hfr0 : wr.frozen? ⟨g, 0, none⟩ = false := frozen_of_row _ _ _ _ _ o.res
      have hfr1 : wr.frozen? ⟨g, 1, none⟩ = false := frozen_of_row _ _ _ _ _ o.res
      obtain ⟨A6, c6, rfl, _⟩ := o.own.at_
      have HO := Lib.hid o.own
      have HB := Lib.hid o.below
      have HRES := Lib.hid o.res
      clear o hS hd HSS
      generalize l.map elN = es at *
      have q0 : (wr.setCell ⟨g, 0, none⟩ (.string ⟨t.toArray⟩)).cell? ⟨g, 0, none⟩ = some (.string ⟨t.toArray⟩) := by rw [cell_of_row _ _ _ _ _ _ (heap_setCell_m HRES.out _)]; rfl
      have q1 : ((wr.setCell ⟨g, 0, none⟩ (.string ⟨t.toArray⟩)).setCell ⟨g, 1, none⟩ (.slice A6 es.length c6)).cell? ⟨g, 1, none⟩ = some (.slice A6 es.length c6) := by rw [cell_of_row _ _ _ _ _ _ (heap_setCell_m (heap_setCell_m HRES.out _) _)]; rfl
      go_wp2_with fail
      refine bodyPost_ret (v := .agg #[.string ⟨t.toArray⟩, .slice A6 es.length c6]) (by simp [results, Tryz.results25, go_sem, q0, q1]) rfl ⟨A6, c6, rfl, ?_, ?_⟩
      · rw [hgw]
        refine (ElsOwn.set (p := ⟨g, 1, none⟩) (ElsOwn.set (p := ⟨g, 0, none⟩) HO.out (by show g < g + 2; omega) _) (by show g < g + 2; omega) _).mono (by omega)
      · rw [hgw]
        exact (HB.out.setCell (p := ⟨g, 0, none⟩) (Nat.le_refl _) _).setCell (p := ⟨g, 1, none⟩) (Nat.le_refl _) _
end Go.Proofs.YtmjlnckmhdgoiaaGreatDoor

/-! Contract of customsref06.Segments: the state, and appends of segments. -/
namespace Go.Proofs.YtmjlnckmhdgoiaaGreatDoor
open Go.RowKit
set_option linter.unusedVariables false

theorem SegsOwn.single {w : World} {B : Nat} {t : Bs} {els : List (List Bs)} {u : Value} (hB : B ≤ w.heap.size) (hu : ElsOwn w B u els) :
    SegsOwn (w.alloc (.cells #[.string ⟨t.toArray⟩, u] 57)) B (.slice (some ⟨w.heap.size, 0, none⟩) 1 1) [⟨t, els⟩] := by
  have h := own_new w [.string ⟨t.toArray⟩, u] 57 2 1 B (by unfold maxLen; omega) rfl hB
  refine ⟨_, h, fun i s hs => ?_⟩
  match i, hs with
  | 0, hs =>
    simp only [List.getElem?_cons_zero, Option.some.injEq] at hs
    subst hs
    exact ⟨rfl, u, rfl, hu.below ((Below.refl _ _).alloc (Nat.le_refl _) _)⟩
theorem wpList_append_segO (w : World) {ops : Array Oper} {rest : List Oper} {o : Oper} {a : Act} {Q : Exit → Act → World → Prop} (hgd : o.guard = none) (s x : Operand)
    (ho : o.op = .call { callee := .builtin .append, args := #[s, x], argTypes := #[27, 27] })
    (B : Nat) (v : Value) (l : List Seg) (hs : a.eval s = v) (hown : SegsOwn w B v l) (t : Bs) (els : List (List Bs)) (u : Value) (hu : ElsOwn w B u els)
    (hu1 : u.oneCell' = true) (hx : a.eval x = .slice (some ⟨w.heap.size, 0, none⟩) 1 1) (hl : l.length ≤ 1000000) (hB : B ≤ w.heap.size)
    (h : ∀ v' w', SegsOwn w' B v' (l ++ [⟨t, els⟩]) → Below B w w' → wpList Tryz.prog ops Q rest (a.put o.dst v') w') :
    wpList Tryz.prog ops Q (o :: rest) a (w.alloc (.cells #[.string ⟨t.toArray⟩, u] 57)) := by
  obtain ⟨ecs, ho1, ho2⟩ := hown
  obtain ⟨i0, hi0, hz0, hz1, hz2⟩ := info_parts segInfo
  refine wpList_append_new w hgd s x 27 ho B 57 i0 _ 2 40 Tryz.underlying27 hi0 hz0 hz1 hz2 rfl (by omega) v l.length ecs [.string ⟨t.toArray⟩, u] rfl (by intro y hy; simp only [List.mem_cons, List.not_mem_nil, or_false] at hy; rcases hy with rfl | rfl; rfl; exact hu1) hs ho1 hx (by unfold maxLen; omega) (by omega) hB ?_
  intro v' w' hown' hb' _ hg'
  exact h v' w' (SegsOwn.push (s := ⟨t, els⟩) ho1 ho2 hu hg' hown') hb'
theorem ElsOwn.one {w : World} {B : Nat} {cs : List Value} {l : List (List Bs)} (h1 : cs.length = l.length) (h2 : ∀ (i : Nat) (e : List Bs), l[i]? = some e → ∃ u, cs[i]? = some u ∧ OwnStr w B u e) : ∀ u ∈ cs, u.oneCell' = true := by
  intro u hu
  obtain ⟨i, hi, rfl⟩ := List.getElem_of_mem hu
  obtain ⟨y, a, b⟩ := h2 i _ (List.getElem?_eq_getElem (by omega))
  rw [List.getElem?_eq_getElem hi] at a
  injection a with a
  obtain ⟨A, c, h, _, _⟩ := own_shape b
  rw [a, h]
  rfl
set_option maxRecDepth 100000 in
/-- append(x, y...) of slices of components, at a step of a region that draws -/
theorem step_append_els (w : World) {ops : Array Oper} {o : Oper} {a : Act} {K : Act → World → Prop} {Q : Exit → Act → World → Prop} {E : Prop} (hg : o.guard = none) (s x : Operand)
    (hop : o.op = .call { callee := .builtin .append, args := #[s, x], argTypes := #[55, 55] })
    (B : Nat) (v : Value) (l1 l2 : List (List Bs)) (hs : a.eval s = v) (h1 : ElsOwn w B v l1) (A : Addr) (n c : Nat) (hx : a.eval x = .slice (some A) n c) (hn : n = l2.length) (h2 : ElsOwn w B (.slice (some A) n c) l2)
    (hl : l1.length + l2.length ≤ 1000) (hB : B ≤ w.heap.size)
    (hK : ∀ v' w', ElsOwn w' B v' (l1 ++ l2) → w.grownBy w' v.ownBlock → K (a.put o.dst v') w') : if Region.wanted o (yielded ops a.tmps) = true then Oper.wp Tryz.prog o a w K Q else E := by
  subst hn
  have hw : Region.wanted o (yielded ops a.tmps) = true := by simp [Region.wanted, hg]
  rw [if_pos hw]
  obtain ⟨cs1, p1, p2⟩ := h1
  obtain ⟨cs2, q1, q2⟩ := h2
  obtain ⟨i0, hi0, hz0, hz1, hz2⟩ := info_parts strsInfo
  have hc1 : cs1.length = l1.length := by have := p1.1; omega
  have hc2 : cs2.length = l2.length := by have := q1.1; omega
  obtain ⟨A', c', e1, e2, _⟩ := own_shape q1
  injection e1 with e1 _ _
  subst e1
  obtain ⟨v', w', hrun, r1, r2, _, _⟩ := run_append_own_at (P := Tryz.prog) w B 55 o.type 60 i0 _ 1 24 Tryz.underlying55 hi0 hz0 hz1 hz2 rfl (by omega) v l1.length cs1 p1 A l2.length c cs2 (by omega) (fun j u hu => by obtain ⟨ad, h, _, hc⟩ := e2 j u hu; injection h with h; subst h; exact hc) (ElsOwn.one hc2 q2) (by unfold maxLen; omega) (by omega) hB
  unfold Oper.wp
  simp [execOp, hop, resolve, invoke, builtin, hs, hx, hrun, Result.andThen]
  refine hK _ _ ⟨cs1 ++ cs2, by rw [List.length_append]; exact r1, fun i e he => ?_⟩ r2
  by_cases hi : i < l1.length
  · rw [List.getElem?_append_left hi] at he
    obtain ⟨y, a, b⟩ := p2 i e he
    exact ⟨y, by rw [List.getElem?_append_left (by omega)]; exact a, World.ownsRow.kept b r2 (own_ne p1 b (by decide))⟩
  · rw [List.getElem?_append_right (by omega)] at he
    obtain ⟨y, a, b⟩ := q2 _ e he
    exact ⟨y, by rw [List.getElem?_append_right (by omega), hc1]; exact a, World.ownsRow.kept b r2 (own_ne p1 b (by decide))⟩
/-- a store into a block of another type -/
theorem own_setT {w : World} {B : Nat} {e T : TypeId} {size n : Nat} {v : Value} {xs : List Value} (h : w.ownsRow B e size v n xs) {b k : Nat} {cs : Array Value} {fr : Nat × Nat} (hb : w.heap[b]? = some (.cells cs T fr)) (hT : T ≠ e) (x : Value) : (w.setCell ⟨b, k, none⟩ x).ownsRow B e size v n xs := by
  refine ⟨h.1, ?_⟩
  rcases h.2 with h2 | ⟨g, cap, cur, hv, hg, hh, r⟩
  · exact .inl h2
  · refine .inr ⟨g, cap, cur, hv, hg, ?_, r⟩
    rw [Below.heap_setCell w ⟨b, k, none⟩ x g (by
      intro e2
      simp only at e2
      subst e2
      rw [hb] at hh
      injection hh with hh
      injection hh with _ hh
      exact hT hh)]
    exact hh
theorem ElsOwn.setT {w : World} {B : Nat} {v : Value} {l : List (List Bs)} (h : ElsOwn w B v l) {T : TypeId} {b k : Nat} {cs : Array Value} {fr : Nat × Nat} (hb : w.heap[b]? = some (.cells cs T fr)) (h1 : T ≠ 60) (h2 : T ≠ 9) (x : Value) : ElsOwn (w.setCell ⟨b, k, none⟩ x) B v l := by
  obtain ⟨c, p, q⟩ := h
  exact ⟨c, own_setT p hb h1 x, fun i e he => by obtain ⟨u, a, d⟩ := q i e he; exact ⟨u, a, own_setT d hb h2 x⟩⟩
structure RS (w : World) (g : Nat) (m : Msg) (A : Option Addr) (c : Nat) (l : List Seg) (v : Value) (W : World) : Prop where
  blk : MBlk W g m A c
  own : SegsOwn W (g + 1) v l
  below : Below g w W
  size : g + 1 ≤ W.heap.size
theorem RS.trans {w W W' : World} {g : Nat} {m : Msg} {A : Option Addr} {c : Nat} {l : List Seg} {v : Value} (h : RS w g m A c l v W) (hb : Below W.heap.size W W') : RS w g m A c l v W' :=
  ⟨h.blk.below hb, h.own.below hb, h.below.trans (hb.mono (by have := h.size; omega)), Nat.le_trans h.size hb.size⟩
theorem RS.put {w W W' : World} {g : Nat} {m : Msg} {A : Option Addr} {c : Nat} {l l' : List Seg} {v v' : Value} (h : RS w g m A c l v W) (hb : Below (g + 1) W W') (ho : SegsOwn W' (g + 1) v' l') : RS w g m A c l' v' W' :=
  ⟨h.blk.belowB hb (Nat.lt_succ_self _), ho, h.below.trans (hb.mono (by omega)), Nat.le_trans h.size hb.size⟩
/-- slot 3 and the world between two statements -/
def RSx (w : World) (g : Nat) (m : Msg) (A : Option Addr) (c : Nat) (l : List Seg) (v : Value) (W : World) : Prop := RS w g m A c l v W ∧ ∃ Av n cv, v = .slice Av n cv
/-- the segment LST under way: its one element in block be, the segment in block be + 1 -/
structure LstSt (W3 : World) (be : Nat) (es : List Bs) (v : Value) (wr : World) : Prop where
  el : wr.heap[be]? = some (.cells #[v] 60 (0, 0))
  seg : wr.heap[be + 1]? = some (.cells #[.string ⟨tLST.toArray⟩, .slice (some ⟨be, 0, none⟩) 1 1] 57 (0, 0))
  own : OwnStr wr (be + 2) v es
  below : Below be W3 wr
  size : be + 2 ≤ wr.heap.size
def LstRelM (W3 : World) (be : Nat) (l : List Int) (g : Nat) (i : Value) (wr : World) : Prop := ∃ (k : Nat) (v : Value), k + g = l.length ∧ i = .int .i64 (k : Int) ∧ LstSt W3 be ((l.take k).map Lib.itoa) v wr
theorem LstSt.els {W3 wr : World} {be : Nat} {es : List Bs} {v : Value} (h : LstSt W3 be es v wr) {B : Nat} (hB : B ≤ be) : ElsOwn wr B (.slice (some ⟨be, 0, none⟩) 1 1) [es] := by
  refine ⟨[v], ⟨rfl, .inr ⟨be, 1, #[v], rfl, hB, h.el, Nat.le_refl _, by unfold maxLen; omega, by simp, rfl⟩⟩, fun i e he => ?_⟩
  match i, he with
  | 0, he =>
    simp only [List.getElem?_cons_zero, Option.some.injEq] at he
    subst he
    exact ⟨v, rfl, h.own.mono (by omega)⟩
set_option maxRecDepth 100000 in
set_option maxHeartbeats 40000000 in
theorem refSegments_any (m : Msg) (A : Option Addr) (c : Nat) (w : World) (hr : Rd w A (ints m.list)) (ok : OkM m) :
    Calls Tryz.prog 8 #[msgV m A c] w fun e w' => ∃ v, e = .returned v ∧ SegsOwn w' w.heap.size v (segsM m) ∧ Below w.heap.size w w' := by
  have hrB := RdB.of_rd hr
  have q0 := (Below.refl w.heap.size w).alloc (Nat.le_refl _) (.cells (msgC m A c) 30)
  have hM0 : MBlk (w.alloc (.cells (msgC m A c) 30)) w.heap.size m A c := heap_alloc_new w _
  have hs0 : (w.alloc (.cells (msgC m A c) 30)).heap.size = w.heap.size + 1 := by simp
  obtain ⟨g, hg⟩ : ∃ g, w.heap.size = g := ⟨_, rfl⟩
  rw [hg] at hM0 q0 hs0 hrB
  obtain ⟨d0, d1, d2, d3, d4, d5, d6, d7, d8, d9, d10, d11, d12⟩ := hM0.all
  generalize hW0 : w.alloc (.cells (msgC m A c) 30) = W0 at q0 hM0 hs0 d0 d1 d2 d3 d4 d5 d6 d7 d8 d9 d10 d11 d12
  have k0 := ok.kind
  have k1 := ok.src
  have k2 := ok.dst
  have k3 := ok.number
  have k4 := ok.day
  have k5 := ok.lot
  have k6 := ok.other
  have k9 := ok.quantity
  have k10 := ok.amount
  have HRW := Lib.hid (fun (t : Bs) (l : List Int) (W : World) (h : l.length ≤ 1000) (hb : ∀ x ∈ l, -9223372036854775807 ≤ x ∧ x ≤ 9223372036854775807) => row_any t (some ⟨W.heap.size, 0, none⟩) l.length l (W.alloc (.cells (ints l).toArray 3)) (RdB.new W (ints l) 3 (0, 0) _ rfl).rd h hb)
  have h1 := HRW.out tMSG [m.kind, m.src, m.dst, m.number, m.day] W0 (by simp) (by intro x hx; simp only [List.mem_cons, List.not_mem_nil, or_false] at hx; rcases hx with rfl | rfl | rfl | rfl | rfl <;> omega)
  have H1 : Hid (Calls Tryz.prog 25 #[.string ⟨#[77, 83, 71]⟩, .slice (some ⟨W0.heap.size, 0, none⟩) 5 5] (W0.alloc (.cells #[.int .i64 m.kind, .int .i64 m.src, .int .i64 m.dst, .int .i64 m.number, .int .i64 m.day] 3)) (RowRet (W0.alloc (.cells #[.int .i64 m.kind, .int .i64 m.src, .int .i64 m.dst, .int .i64 m.number, .int .i64 m.day] 3)) tMSG (sMSG m).els)) := h1
  rw [hs0] at H1
  have HOL := Lib.hid ok.list
  have hll := ok.ll
  have hrl := hrB
  clear h1 hr
  go_enter Tryz.func8, Tryz.ntmps8
  go_wp2_with fail
  refine H1.out.mono ?_
  rintro e w1 ⟨A1, c1, rfl, ho1, hb1⟩
  have qi := (Below.refl W0.heap.size W0).alloc (Nat.le_refl _) (.cells #[.int .i64 m.kind, .int .i64 m.src, .int .i64 m.dst, .int .i64 m.number, .int .i64 m.day] 3)
  have hb01 := qi.trans (hb1.mono qi.size)
  have hs1 : g + 1 ≤ w1.heap.size := by have := hb01.size; omega
  have hu1 := ho1.mono (B' := g + 1) (by simp; omega)
  have qs := (Below.refl w1.heap.size w1).alloc (Nat.le_refl _) (.cells #[.string ⟨tMSG.toArray⟩, .slice A1 (sMSG m).els.length c1] 57)
  have hb02 := hb01.trans (qs.mono hb01.size)
  have hRS : RS w g m A c [sMSG m] (.slice (some ⟨w1.heap.size, 0, none⟩) 1 1) (w1.alloc (.cells #[.string ⟨tMSG.toArray⟩, .slice A1 (sMSG m).els.length c1] 57)) := ⟨hM0.below hb02, SegsOwn.single hs1 hu1, q0.trans (hb02.mono (by omega)), Nat.le_trans hs1 qs.size⟩
  clear d0 d1 d2 d3 d4 d5 d6 d7 d8 d9 d10 d11 d12 hW0 H1 qi hb01 hs1 hu1 qs hb02 ho1 hb1
  go_upto_region 2 with (fail)
  generalize hW1 : w1.alloc (.cells #[.string ⟨tMSG.toArray⟩, .slice A1 (sMSG m).els.length c1] 57) = W1 at hRS ⊢
  clear hW1
  generalize w1.heap.size = g1 at hRS ⊢
  have hll0 : [sMSG m].length ≤ 1 := by simp
  generalize hLL : [sMSG m] = L0 at hRS hll0
  have HL0 := Lib.hid hLL
  clear hLL
  have HD := Lib.hid hRS
  have hwz := hRS.size
  clear hRS hM0 q0 hs0
  go_upto_region 2 with (fail)
  go_cut [27] (fun s27 wx => s27 = .bool (lotB m) ∧ W1 = wx)
  case first =>
    obtain ⟨d0, d1, d2, d3, d4, d5, d6, d7, d8, d9, d10, d11, d12⟩ := HD.out.blk.all
    by_cases b1 : m.lot = 0
    · have c1 : (m.lot != 0) = false := by simp [b1]
      by_cases b2 : m.other = 0
      · have c2 : (m.other != 0) = false := by simp [b2]
        have HV : Hid (lotB m = false) := by show _ = _; unfold lotB; rw [c1, c2]; rfl
        clear b1 b2
        go_wp2_with fail
        go_meet
        exact ⟨by rw [HV.out], rfl⟩
      · have c2 : (m.other != 0) = true := by simp [b2]
        have HV : Hid (lotB m = true) := by show _ = _; unfold lotB; rw [c1, c2]; rfl
        clear b1 b2
        go_wp2_with fail
        go_meet
        exact ⟨by rw [HV.out], rfl⟩
    · have c1 : (m.lot != 0) = true := by simp [b1]
      have HV : Hid (lotB m = true) := by show _ = _; unfold lotB; rw [c1]; rfl
      clear b1
      go_wp2_with fail
      go_meet
      exact ⟨by rw [HV.out], rfl⟩
  case rest =>
    obtain ⟨rfl, rfl⟩ := hcut
    go_upto_if 27 with (fail)
    go_cut [3, 27] (fun s3 s27 wx => RS w g m A c (L0 ++ optS (lotB m) (sLOT m)) s3 wx)
    case first =>
      rcases hbb : lotB m with _ | _
      · have HBB := Lib.hid hbb
        go_wp2_with fail
        go_meet
        have := HD.out
        rw [HBB.out]
        simpa [optS] using this
      · have HBB := Lib.hid hbb
        clear hbb
        have hbb := HBB.out
        have h1 := HRW.out tLOT [m.lot, m.other] W1 (by simp) (by intro x hx; simp only [List.mem_cons, List.not_mem_nil, or_false] at hx; rcases hx with rfl | rfl <;> omega)
        have H1 : Hid (Calls Tryz.prog 25 #[.string ⟨#[76, 79, 84]⟩, .slice (some ⟨W1.heap.size, 0, none⟩) 2 2] (W1.alloc (.cells #[.int .i64 m.lot, .int .i64 m.other] 3)) (RowRet (W1.alloc (.cells #[.int .i64 m.lot, .int .i64 m.other] 3)) tLOT (sLOT m).els)) := h1
        clear h1
        obtain ⟨d0, d1, d2, d3, d4, d5, d6, d7, d8, d9, d10, d11, d12⟩ := HD.out.blk.all
        go_wp2_with fail
        refine H1.out.mono ?_
        rintro e w2 ⟨A2, c2, rfl, ho2, hb2⟩
        have qq := ((Below.refl W1.heap.size W1).alloc (Nat.le_refl _) _).trans (hb2.mono (by simp))
        have hRS2 := HD.out.trans qq
        have hu2 := ho2.mono (B' := g + 1) (by simp; omega)
        go_wp2_with (at_builtin; refine wpList_append_segO w2 rfl (.tmp 28) (.tmp 35) rfl (g + 1) (.slice (some ⟨g1, 0, none⟩) 1 1) L0 rfl hRS2.own tLOT (sLOT m).els _ hu2 rfl rfl (by omega) hRS2.size ?_; intro v3 w3 hown3 hb3; obtain ⟨A3, c3, rfl, _, _⟩ := hown3.at_)
        go_meet
        have this : RS w g m A c (L0 ++ [(sLOT m)]) _ w3 := hRS2.put hb3 hown3
        rw [HBB.out]
        simpa [optS] using this
    case rest =>
      obtain ⟨W2, rfl⟩ : ∃ x, x = wc := ⟨_, rfl⟩
      clear HD
      have hlen2 : (L0 ++ optS (lotB m) (sLOT m)).length ≤ L0.length + 1 := by have := optS_len (lotB m) (sLOT m); rw [List.length_append]; omega
      generalize hLL : L0 ++ optS (lotB m) (sLOT m) = La at hcut hlen2
      have HLa := Lib.hid hLL
      clear hLL
      have hllLa : La.length ≤ 2 := by omega
      have HD := Lib.hid hcut
      clear hcut hlen2
      obtain ⟨Av, cv, rfl, _, _⟩ := HD.out.own.at_
      have hwz := HD.out.size
      go_upto_region 4 with (fail)
      go_cut [54] (fun s54 wx => s54 = .bool (gdsB m) ∧ W2 = wx)
      case first =>
        obtain ⟨d0, d1, d2, d3, d4, d5, d6, d7, d8, d9, d10, d11, d12⟩ := HD.out.blk.all
        by_cases b0 : m.code = []
        · have c0 : (m.code != []) = false := by simp [b0]
          have f0 : m.code.isEmpty = true := by simp [b0]
          by_cases b1 : m.country = []
          · have c1 : (m.country != []) = false := by simp [b1]
            have f1 : m.country.isEmpty = true := by simp [b1]
            by_cases b2 : m.quantity = 0
            · have c2 : (m.quantity != 0) = false := by simp [b2]
              by_cases b3 : m.amount = 0
              · have c3 : (m.amount != 0) = false := by simp [b3]
                have HV : Hid (gdsB m = false) := by show _ = _; unfold gdsB; rw [c0, c1, c2, c3]; rfl
                clear b0 b1 b2 b3
                go_wp2_with fail
                go_meet
                exact ⟨by rw [HV.out], rfl⟩
              · have c3 : (m.amount != 0) = true := by simp [b3]
                have HV : Hid (gdsB m = true) := by show _ = _; unfold gdsB; rw [c0, c1, c2, c3]; rfl
                clear b3
                go_wp2_with fail
                go_meet
                exact ⟨by rw [HV.out], rfl⟩
            · have c2 : (m.quantity != 0) = true := by simp [b2]
              have HV : Hid (gdsB m = true) := by show _ = _; unfold gdsB; rw [c0, c1, c2]; rfl
              clear b2
              go_wp2_with fail
              go_meet
              exact ⟨by rw [HV.out], rfl⟩
          · have c1 : (m.country != []) = true := by simp [b1]
            have f1 : m.country.isEmpty = false := by simp [b1]
            have HV : Hid (gdsB m = true) := by show _ = _; unfold gdsB; rw [c0, c1]; rfl
            go_wp2_with fail
            go_meet
            exact ⟨by rw [HV.out], rfl⟩
        · have c0 : (m.code != []) = true := by simp [b0]
          have f0 : m.code.isEmpty = false := by simp [b0]
          have HV : Hid (gdsB m = true) := by show _ = _; unfold gdsB; rw [c0]; rfl
          go_wp2_with fail
          go_meet
          exact ⟨by rw [HV.out], rfl⟩
      case rest =>
        obtain ⟨rfl, rfl⟩ := hcut
        go_upto_if 54 with (fail)
        go_cut [3, 54] (fun s3 s54 wx => RS w g m A c (La ++ optS (gdsB m) (sGDS m)) s3 wx)
        case first =>
          rcases hbb : gdsB m with _ | _
          · have HBB := Lib.hid hbb
            go_wp2_with fail
            go_meet
            have := HD.out
            rw [HBB.out]
            simpa [optS] using this
          · have HBB := Lib.hid hbb
            clear hbb
            have hbb := HBB.out
            have h1 := HRW.out tGDS [m.quantity, m.amount] W2 (by simp) (by intro x hx; simp only [List.mem_cons, List.not_mem_nil, or_false] at hx; rcases hx with rfl | rfl <;> omega)
            have H1 : Hid (Calls Tryz.prog 25 #[.string ⟨#[71, 68, 83]⟩, .slice (some ⟨W2.heap.size, 0, none⟩) 2 2] (W2.alloc (.cells #[.int .i64 m.quantity, .int .i64 m.amount] 3)) (RowRet (W2.alloc (.cells #[.int .i64 m.quantity, .int .i64 m.amount] 3)) tGDS [elN m.quantity, elN m.amount])) := h1
            clear h1
            obtain ⟨d0, d1, d2, d3, d4, d5, d6, d7, d8, d9, d10, d11, d12⟩ := HD.out.blk.all
            go_wp2_with fail
            refine H1.out.mono ?_
            rintro e w2 ⟨A2, c2, rfl, ho2, hb2⟩
            have qq := ((Below.refl W2.heap.size W2).alloc (Nat.le_refl _) _).trans (hb2.mono (by simp))
            have hRS2 := HD.out.trans qq
            have hu2 := ho2.mono (B' := g + 1) (by simp; omega)
            have q4 := (Below.refl w2.heap.size w2).alloc (Nat.le_refl _) (.cells #[.string ⟨tGDS.toArray⟩, .slice A2 2 c2] 57)
            have hRS4 := hRS2.trans q4
            have hu4 := hu2.below q4
            have hC4 : (w2.alloc (.cells #[.string ⟨tGDS.toArray⟩, .slice A2 2 c2] 57)).heap[w2.heap.size]? = some (.cells #[.string ⟨tGDS.toArray⟩, .slice A2 2 c2] 57 (0, 0)) := heap_alloc_new w2 _
            have hz4 : w2.heap.size < (w2.alloc (.cells #[.string ⟨tGDS.toArray⟩, .slice A2 2 c2] 57)).heap.size := by simp
            have hg4 : g + 1 ≤ w2.heap.size := hRS2.size
            go_upto_region 6 with (fail)
            generalize hW4 : w2.alloc (.cells #[.string ⟨tGDS.toArray⟩, .slice A2 2 c2] 57) = W4 at hRS4 hu4 hC4 hz4 q4 ⊢
            generalize hb4 : w2.heap.size = b4 at hC4 hz4 hg4 q4 ⊢
            have HB4 := Lib.hid hb4
            have HRS2 := Lib.hid hRS2
            clear hW4 hb4 hRS2 qq hu2 ho2 hb2 d0 d1 d2 d3 d4 d5 d6 d7 d8 d9 d10 d11 d12 H1 HD
            obtain ⟨A2, rfl⟩ : ∃ a, A2 = some a := by
              obtain ⟨cs, h1, _⟩ := hu4
              obtain ⟨A', c', e1, e2, _⟩ := own_shape h1
              injection e1 with e1 _ _
              subst e1
              have hlen : cs.length = 2 := h1.1
              obtain ⟨ad, h, _⟩ := e2 0 cs[0] (List.getElem?_eq_getElem (by omega))
              exact ⟨ad, h⟩
            obtain ⟨d0, d1, d2, d3, d4, d5, d6, d7, d8, d9, d10, d11, d12⟩ := hRS4.blk.all
            clear d0 d1 d2 d3 d4 d5 d6 d9 d10 d11 d12
            have h41 : W4.cell? ⟨b4, 1, none⟩ = some (.slice (some A2) 2 c2) := by rw [cell_of_row _ _ _ _ _ _ hC4]; rfl
            have hlt4 := hRS4.blk.lt
            go_wp2_with fail
            refine wp_region_x 11 (by kernel_rfl) (fun w' => w'.cell? ⟨g, 7, none⟩ = some (.string ⟨m.code.toArray⟩) ∧ w'.cell? ⟨g, 8, none⟩ = some (.string ⟨m.country.toArray⟩) ∧ w'.cell? ⟨b4, 1, none⟩ = some (.slice (some A2) 2 c2)) ?_
            have HS : Hid (W4.drew.cell? ⟨g, 7, none⟩ = some (.string ⟨m.code.toArray⟩) ∧ W4.drew.cell? ⟨g, 8, none⟩ = some (.string ⟨m.country.toArray⟩) ∧ W4.drew.cell? ⟨b4, 1, none⟩ = some (.slice (some A2) 2 c2)) := ⟨d7, d8, h41⟩
            have KEEP := Lib.hid (fun (W : World) (h : Below W4.heap.size W4 W) => (⟨(h.cell (p := ⟨g, 7, none⟩) hlt4).trans d7, (h.cell (p := ⟨g, 8, none⟩) hlt4).trans d8, (h.cell (p := ⟨b4, 1, none⟩) hz4).trans h41⟩ : W.cell? ⟨g, 7, none⟩ = some (.string ⟨m.code.toArray⟩) ∧ W.cell? ⟨g, 8, none⟩ = some (.string ⟨m.country.toArray⟩) ∧ W.cell? ⟨b4, 1, none⟩ = some (.slice (some A2) 2 c2)))
            refine wpAnyX_take (i := 0) (v := .pointer (some ⟨g, 7, none⟩)) rfl (by kernel_rfl) (by kernel_rfl) (by kernel_rfl) (by kernel_rfl) (fun _ _ _ h => h) HS.out (Or.inl ⟨by rfl, fun w hS => by obtain ⟨hS1, hS2, hS3⟩ := hS; go_simp⟩) ?_
            go_simp
            refine wpAnyX_take (i := 1) (v := .string ⟨m.code.toArray⟩) rfl (by kernel_rfl) (by kernel_rfl) (by kernel_rfl) (by kernel_rfl) (fun _ _ _ h => h) HS.out (Or.inl ⟨by rfl, fun w hS => by obtain ⟨hS1, hS2, hS3⟩ := hS; go_simp⟩) ?_
            go_simp
            refine wpAnyX_take (i := 3) (v := .pointer (some ⟨g, 8, none⟩)) rfl (by kernel_rfl) (by kernel_rfl) (by kernel_rfl) (by kernel_rfl) (fun _ _ _ h => h) HS.out (Or.inl ⟨by rfl, fun w hS => by obtain ⟨hS1, hS2, hS3⟩ := hS; go_simp⟩) ?_
            go_simp
            refine wpAnyX_take (i := 4) (v := .string ⟨m.country.toArray⟩) rfl (by kernel_rfl) (by kernel_rfl) (by kernel_rfl) (by kernel_rfl) (fun _ _ _ h => h) HS.out (Or.inl ⟨by rfl, fun w hS => by obtain ⟨hS1, hS2, hS3⟩ := hS; go_simp⟩) ?_
            go_simp
            refine wpAnyX_take (i := 7) (v := .pointer (some ⟨b4, 1, none⟩)) rfl (by kernel_rfl) (by kernel_rfl) (by kernel_rfl) (by kernel_rfl) (fun _ _ _ h => h) HS.out (Or.inl ⟨by rfl, fun w hS => by obtain ⟨hS1, hS2, hS3⟩ := hS; go_simp⟩) ?_
            go_simp
            refine wpAnyX_take (i := 8) (v := .slice (some A2) 2 c2) rfl (by kernel_rfl) (by kernel_rfl) (by kernel_rfl) (by kernel_rfl) (fun _ _ _ h => h) HS.out (Or.inl ⟨by rfl, fun w hS => by obtain ⟨hS1, hS2, hS3⟩ := hS; go_simp⟩) ?_
            go_simp
            clear HS
            refine wpAnyX_one (i := 2) (by kernel_rfl) rfl (fun K hK => ?_)
            go_simp
            go_wp2_with (go_at_call 26; refine (element_any m.code _).mono ?_; rintro e w5 ⟨A5, c5, rfl, ho5, hb5⟩)
            have hb5 : Below W4.heap.size W4 w5 := ⟨hb5.os, hb5.tape, hb5.output, hb5.size, hb5.block⟩
            refine hK.out _ _ (fun _ => KEEP.out _ hb5) ?_
            clear hK K
            refine wpAnyX_one (i := 5) (by kernel_rfl) rfl (fun K hK => ?_)
            go_simp
            go_wp2_with (go_at_call 26; refine (element_any m.country _).mono ?_; rintro e w6 ⟨A6, c6, rfl, ho6, hb6⟩)
            have hb46 := hb5.trans (hb6.mono hb5.size)
            refine hK.out _ _ (fun _ => KEEP.out _ hb46) ?_
            clear hK K
            refine wpAnyX_one (i := 6) (by kernel_rfl) rfl (fun K hK => ?_)
            go_simp
            have hg6 : g + 1 ≤ w6.heap.size := Nat.le_trans hRS4.size hb46.size
            have q6 := (Below.refl w6.heap.size w6).alloc (Nat.le_refl _) (.cells #[.slice A5 (elT m.code).length c5, .slice A6 (elT m.country).length c6] 60)
            have hb47 := hb46.trans (q6.mono hb46.size)
            have hEL := els2 (w := w6) hg6 ((ho5.mono (B' := g + 1) hRS4.size).below hb6) (ho6.mono (B' := g + 1) (Nat.le_trans hRS4.size hb5.size))
            have hu7 := hu4.below hb47
            refine hK.out _ _ (fun _ => KEEP.out _ hb47) ?_
            clear hK K
            refine wpAnyX_one (i := 9) (by kernel_rfl) rfl (fun K hK => ?_)
            refine step_append_els _ rfl (.tmp 67) (.tmp 69) rfl (g + 1) (.slice (some ⟨w6.heap.size, 0, none⟩) 2 2) _ [elN m.quantity, elN m.amount] rfl hEL A2 2 c2 rfl rfl hu7 (by simp) (Nat.le_trans hg6 q6.size) (fun v8 w8 hu8 hg8 => ?_)
            obtain ⟨A8, c8, rfl, _⟩ := hu8.at_
            have hb48 : Below W4.heap.size W4 w8 := hb47.trans (Below.of_grown hg8 _ hb47.size (fun g' e => by simp only [Value.ownBlock, Option.some.injEq] at e; subst e; exact hb46.size))
            refine hK.out _ _ (fun _ => KEEP.out _ hb48) ?_
            clear hK K
            go_simp
            refine wpAnyX_one (i := 10) (by kernel_rfl) rfl (fun K hK => ?_)
            go_simp
            refine hK.out _ _ (fun _ => KEEP.out _ hb48) ?_
            clear hK K
            refine wpAnyX_one (i := 11) (by kernel_rfl) rfl (fun K hK => ?_)
            have hC8 := (hb48.block b4 hz4).trans hC4
            have hcell8 : w8.cell? ⟨b4, 1, none⟩ = some (.slice (some A2) 2 c2) := (KEEP.out _ hb48).2.2
            have hfz8 : w8.frozen? ⟨b4, 1, none⟩ = false := frozen_of_row _ _ _ _ _ hC8
            have hu9 : ElsOwn (w8.setCell ⟨b4, 1, none⟩ (.slice A8 4 c8)) (g + 1) (.slice A8 4 c8) (sGDS m).els := hu8.setT hC8 (k := 1) (by decide) (by decide) (.slice A8 4 c8)
            have hC9 : (w8.setCell ⟨b4, 1, none⟩ (.slice A8 4 c8)).heap[b4]? = some (.cells #[.string ⟨tGDS.toArray⟩, .slice A8 4 c8] 57 (0, 0)) := by rw [heap_setCell_m hC8]; rfl
            have hb29 : Below b4 w2 (w8.setCell ⟨b4, 1, none⟩ (.slice A8 4 c8)) := (q4.trans (hb48.mono (Nat.le_of_lt hz4))).setCell (p := ⟨b4, 1, none⟩) (Nat.le_refl _) _
            have hRS9 := HRS2.out.trans (show Below w2.heap.size w2 _ by rw [HB4.out]; exact hb29)
            go_simp
            refine hK.out _ _ (fun h => absurd rfl h) ?_
            clear hK K
            refine wpAnyX_done (by kernel_rfl) ?_
            generalize hW9 : w8.setCell ⟨b4, 1, none⟩ (.slice A8 4 c8) = w9 at hu9 hC9 hb29 hRS9 ⊢
            clear hW9 hcell8 hfz8 hu8 hC8 h41 d7 d8 KEEP
            have e0 : w9.cell? ⟨b4, 0, none⟩ = some (.string ⟨tGDS.toArray⟩) := by rw [cell_of_row _ _ _ _ _ _ hC9]; rfl
            have e1 : w9.cell? ⟨b4, 1, none⟩ = some (.slice A8 4 c8) := by rw [cell_of_row _ _ _ _ _ _ hC9]; rfl
            go_wp2_with (at_builtin; refine wpList_append_segO w9 rfl (.tmp 72) (.tmp 74) rfl (g + 1) (.slice Av La.length cv) La rfl hRS9.own tGDS (sGDS m).els (.slice A8 4 c8) hu9 rfl rfl (by omega) hRS9.size ?_; intro v3 w3 hown3 hb3; obtain ⟨A3, c3, rfl, _, _⟩ := hown3.at_)
            go_meet
            have this : RS w g m A c (La ++ [sGDS m]) _ w3 := hRS9.put hb3 hown3
            rw [HBB.out]
            simpa [optS] using this
        case rest =>
          obtain ⟨W3, rfl⟩ : ∃ x, x = wc := ⟨_, rfl⟩
          clear HD
          have hlen2 : (La ++ optS (gdsB m) (sGDS m)).length ≤ La.length + 1 := by have := optS_len (gdsB m) (sGDS m); rw [List.length_append]; omega
          generalize hLL : La ++ optS (gdsB m) (sGDS m) = Lb at hcut hlen2
          have HLb := Lib.hid hLL
          clear hLL
          have hllLb : Lb.length ≤ 3 := by omega
          have HD := Lib.hid hcut
          clear hcut hlen2
          obtain ⟨Av, cv, rfl, _, _⟩ := HD.out.own.at_
          have hwz := HD.out.size
          go_upto_region 8 with (fail)
          go_cut [79] (fun s79 wx => s79 = .bool (lstB m) ∧ W3 = wx)
          case first =>
            obtain ⟨d0, d1, d2, d3, d4, d5, d6, d7, d8, d9, d10, d11, d12⟩ := HD.out.blk.all
            by_cases b1 : 0 < m.list.length
            · have HV : Hid (lstB m = true) := by show _ = _; unfold lstB; simpa using b1
              have c1 : decide (0 < m.list.length) = true := by simpa using b1
              go_wp2_with fail
              go_meet
              exact ⟨by rw [HV.out], rfl⟩
            · have HV : Hid (lstB m = false) := by show _ = _; unfold lstB; simpa using b1
              have c1 : decide (0 < m.list.length) = false := by simpa using b1
              go_wp2_with fail
              go_meet
              exact ⟨by rw [HV.out], rfl⟩
          case rest =>
            obtain ⟨rfl, rfl⟩ := hcut
            go_upto_if 79 with (fail)
            go_cut [3, 79] (fun s3 s79 wx => RS w g m A c (Lb ++ optS (lstB m) (sLST m)) s3 wx)
            case first =>
              rcases hbb : lstB m with _ | _
              · have HBB := Lib.hid hbb
                go_wp2_with fail
                go_meet
                have := HD.out
                rw [HBB.out]
                simpa [optS] using this
              · have HBB := Lib.hid hbb
                clear hbb
                have hbb := HBB.out
                have hst : LstSt W3 W3.heap.size ((m.list.take 0).map Lib.itoa) (.slice none 0 0) ((W3.alloc (.cells #[.slice none 0 0] 60)).alloc (.cells #[.string ⟨tLST.toArray⟩, .slice (some ⟨W3.heap.size, 0, none⟩) 1 1] 57)) := by
                  refine ⟨?_, ?_, OwnStr.nil_ _ _, two_below' W3 _ _, by simp⟩
                  · rw [Below.heap_alloc _ _ _ (by simp)]
                    exact heap_alloc_new W3 _
                  · have := heap_alloc_new (W3.alloc (.cells #[.slice none 0 0] 60)) (.cells #[.string ⟨tLST.toArray⟩, .slice (some ⟨W3.heap.size, 0, none⟩) 1 1] 57)
                    simpa using this
                have HST := Lib.hid hst
                obtain ⟨i2, hi2, hx0, hx1, hx2⟩ := info_parts strInfo
                clear hst hbb
                have htl : tLST.toArray = #[76, 83, 84] := rfl
                go_wp2_with fail
                generalize hbe : W3.heap.size = be at HST hwz ⊢
                have HBE := Lib.hid hbe
                clear hbe
                go_loopg [6] m.list.length (fun g i wr => LstRelM W3 be m.list g i wr)
                case atStart => exact ⟨0, _, by omega, rfl, HST.out⟩
                case round =>
                  obtain ⟨k, v, hk, rfl, hS⟩ := hrel
                  clear htl
                  have HK := Lib.hid hk
                  have hk2 : k ≤ m.list.length := by omega
                  have hbb3 : Below W3.heap.size W3 wr := by rw [HBE.out]; exact hS.below
                  have hRSr := HD.out.trans hbb3
                  have hgb : g < be := by omega
                  have hgr := hS.size
                  have hcs1 : wr.cell? ⟨be + 1, 1, none⟩ = some (.slice (some ⟨be, 0, none⟩) 1 1) := by rw [cell_of_row _ _ _ _ _ _ hS.seg]; rfl
                  have hcs0 : wr.cell? ⟨be + 1, 0, none⟩ = some (.string ⟨tLST.toArray⟩) := by rw [cell_of_row _ _ _ _ _ _ hS.seg]; rfl
                  have hce : wr.cell? ⟨be, 0, none⟩ = some v := by rw [cell_of_row _ _ _ _ _ _ hS.el]; rfl
                  have hfe : wr.frozen? ⟨be, 0, none⟩ = false := frozen_of_row _ _ _ _ _ hS.el
                  have hc11 := hRSr.blk.cell 11
                  simp only [msgC, List.getElem?_toArray, List.getElem?_cons_succ, List.getElem?_cons_zero] at hc11
                  have HSS := Lib.hid hS
                  clear hk HST
                  by_cases hlt : k < m.list.length
                  · have hdl : decide (k < m.list.length) = true := by simpa using hlt
                    have hrb := hrl.below hRSr.below
                    obtain ⟨b0, o0, hA0, hb0, hc⟩ := hrb.at_lit (ints_at' hlt)
                    subst hA0
                    obtain ⟨hxb1, hxb2⟩ := HOL.out m.list[k] (List.getElem_mem hlt)
                    have HSN : Hid ((m.list.take (k + 1)).map Lib.itoa = (m.list.take k).map Lib.itoa ++ [Lib.itoa m.list[k]]) := by show _ = _; rw [take_snoc hlt, List.map_append]; rfl
                    have hel : ((m.list.take k).map Lib.itoa).length = k := by rw [List.length_map, List.length_take]; omega
                    have HNB := Lib.hid (fun W => number02_any m.list[k] W (by omega) (by omega))
                    have ho := hS.own
                    obtain ⟨Ax, cx, hv, _, _⟩ := own_shape ho
                    rw [hel] at hv
                    subst hv
                    clear hS
                    generalize m.list[k] = x at hc hxb1 hxb2 HSN HNB
                    generalize (m.list.take k).map Lib.itoa = es at HSN hel HSS ho
                    generalize Lib.itoa x = sx at HSN HNB
                    go_wp2_with fail
                    refine wp_region_x 15 (by kernel_rfl) (fun w' => w'.cell? ⟨be + 1, 1, none⟩ = some (.slice (some ⟨be, 0, none⟩) 1 1) ∧ w'.cell? ⟨be, 0, none⟩ = some (.slice Ax k cx) ∧ w'.cell? ⟨g, 11, none⟩ = some (.slice (some ⟨b0, o0, none⟩) m.list.length c) ∧ w'.cell? ⟨b0, o0 + k, none⟩ = some (.int .i64 x)) ?_
                    have HS : Hid (wr.drew.cell? ⟨be + 1, 1, none⟩ = some (.slice (some ⟨be, 0, none⟩) 1 1) ∧ wr.drew.cell? ⟨be, 0, none⟩ = some (.slice Ax k cx) ∧ wr.drew.cell? ⟨g, 11, none⟩ = some (.slice (some ⟨b0, o0, none⟩) m.list.length c) ∧ wr.drew.cell? ⟨b0, o0 + k, none⟩ = some (.int .i64 x)) := ⟨hcs1, hce, hc11, hc⟩
                    have KEEP := Lib.hid (fun (W : World) (h : Below (be + 2) wr W) => (⟨(h.cell (p := ⟨be + 1, 1, none⟩) (Nat.lt_succ_self _)).trans hcs1, (h.cell (p := ⟨be, 0, none⟩) (show be < be + 2 by omega)).trans hce, (h.cell (p := ⟨g, 11, none⟩) (show g < be + 2 by omega)).trans hc11, (h.cell (p := ⟨b0, o0 + k, none⟩) (show b0 < be + 2 by omega)).trans hc⟩ : W.cell? ⟨be + 1, 1, none⟩ = some (.slice (some ⟨be, 0, none⟩) 1 1) ∧ W.cell? ⟨be, 0, none⟩ = some (.slice Ax k cx) ∧ W.cell? ⟨g, 11, none⟩ = some (.slice (some ⟨b0, o0, none⟩) m.list.length c) ∧ W.cell? ⟨b0, o0 + k, none⟩ = some (.int .i64 x)))
                    refine wpAnyX_take (i := 0) (v := .pointer (some ⟨be + 1, 1, none⟩)) rfl (by kernel_rfl) (by kernel_rfl) (by kernel_rfl) (by kernel_rfl) (fun _ _ _ h => h) HS.out (Or.inl ⟨by rfl, fun w hS => by obtain ⟨hS1, hS2, hS3, hS4⟩ := hS; go_simp⟩) ?_
                    go_simp
                    refine wpAnyX_take (i := 1) (v := .slice (some ⟨be, 0, none⟩) 1 1) rfl (by kernel_rfl) (by kernel_rfl) (by kernel_rfl) (by kernel_rfl) (fun _ _ _ h => h) HS.out (Or.inl ⟨by rfl, fun w hS => by obtain ⟨hS1, hS2, hS3, hS4⟩ := hS; go_simp⟩) ?_
                    go_simp
                    refine wpAnyX_take (i := 2) (v := .pointer (some ⟨be + 1, 1, none⟩)) rfl (by kernel_rfl) (by kernel_rfl) (by kernel_rfl) (by kernel_rfl) (fun _ _ _ h => h) HS.out (Or.inl ⟨by rfl, fun w hS => by obtain ⟨hS1, hS2, hS3, hS4⟩ := hS; go_simp⟩) ?_
                    go_simp
                    refine wpAnyX_take (i := 3) (v := .slice (some ⟨be, 0, none⟩) 1 1) rfl (by kernel_rfl) (by kernel_rfl) (by kernel_rfl) (by kernel_rfl) (fun _ _ _ h => h) HS.out (Or.inl ⟨by rfl, fun w hS => by obtain ⟨hS1, hS2, hS3, hS4⟩ := hS; go_simp⟩) ?_
                    go_simp
                    refine wpAnyX_take (i := 4) (v := .pointer (some ⟨be, 0, none⟩)) rfl (by kernel_rfl) (by kernel_rfl) (by kernel_rfl) (by kernel_rfl) (fun _ _ _ h => h) HS.out (Or.inl ⟨by rfl, fun w hS => by obtain ⟨hS1, hS2, hS3, hS4⟩ := hS; go_simp⟩) ?_
                    go_simp
                    refine wpAnyX_take (i := 5) (v := .slice Ax k cx) rfl (by kernel_rfl) (by kernel_rfl) (by kernel_rfl) (by kernel_rfl) (fun _ _ _ h => h) HS.out (Or.inl ⟨by rfl, fun w hS => by obtain ⟨hS1, hS2, hS3, hS4⟩ := hS; go_simp⟩) ?_
                    go_simp
                    refine wpAnyX_take (i := 6) (v := .pointer (some ⟨g, 11, none⟩)) rfl (by kernel_rfl) (by kernel_rfl) (by kernel_rfl) (by kernel_rfl) (fun _ _ _ h => h) HS.out (Or.inl ⟨by rfl, fun w hS => by obtain ⟨hS1, hS2, hS3, hS4⟩ := hS; go_simp⟩) ?_
                    go_simp
                    refine wpAnyX_take (i := 7) (v := .slice (some ⟨b0, o0, none⟩) m.list.length c) rfl (by kernel_rfl) (by kernel_rfl) (by kernel_rfl) (by kernel_rfl) (fun _ _ _ h => h) HS.out (Or.inl ⟨by rfl, fun w hS => by obtain ⟨hS1, hS2, hS3, hS4⟩ := hS; go_simp⟩) ?_
                    go_simp
                    refine wpAnyX_take (i := 8) (v := .int .i64 (k : Int)) rfl (by kernel_rfl) (by kernel_rfl) (by kernel_rfl) (by kernel_rfl) (fun _ _ _ h => h) HS.out (Or.inl ⟨by rfl, fun w hS => by obtain ⟨hS1, hS2, hS3, hS4⟩ := hS; go_simp⟩) ?_
                    go_simp
                    refine wpAnyX_take (i := 9) (v := .pointer (some ⟨b0, o0 + k, none⟩)) rfl (by kernel_rfl) (by kernel_rfl) (by kernel_rfl) (by kernel_rfl) (fun _ _ _ h => h) HS.out (Or.inl ⟨by rfl, fun w hS => by obtain ⟨hS1, hS2, hS3, hS4⟩ := hS; go_simp⟩) ?_
                    go_simp
                    refine wpAnyX_take (i := 10) (v := .int .i64 x) rfl (by kernel_rfl) (by kernel_rfl) (by kernel_rfl) (by kernel_rfl) (fun _ _ _ h => h) HS.out (Or.inl ⟨by rfl, fun w hS => by obtain ⟨hS1, hS2, hS3, hS4⟩ := hS; go_simp⟩) ?_
                    go_simp
                    clear HS
                    refine wpAnyX_one (i := 11) (by kernel_rfl) rfl (fun K hK => ?_)
                    go_simp
                    go_wp2_with (go_at_call 27; refine (HNB.out _).mono ?_; rintro e w4 ⟨rfl, hb4⟩)
                    have hb4 : Below wr.heap.size wr w4 := ⟨hb4.os, hb4.tape, hb4.output, hb4.size, hb4.block⟩
                    have hc4 := hb4.mono hgr
                    refine hK.out _ _ (fun _ => KEEP.out _ hc4) ?_
                    clear hK K
                    refine wpAnyX_one (i := 12) (by kernel_rfl) rfl (fun K hK => ?_)
                    go_simp
                    have hs4 : be + 2 ≤ w4.heap.size := Nat.le_trans hgr hb4.size
                    refine hK.out _ _ (fun _ => KEEP.out _ (hc4.alloc hs4 _)) ?_
                    clear hK K
                    refine wpAnyX_one (i := 13) (by kernel_rfl) rfl (fun K hK => ?_)
                    have hos4 : w4.ownsRow (be + 2) 9 1 (.slice Ax k cx) k (strs es) := by have := ho.below hb4; unfold OwnStr at this; rw [hel] at this; exact this
                    refine step_append_one w4 rfl (.tmp 94) (.tmp 101) 60 rfl (be + 2) 9 i2 _ 1 16 Tryz.underlying60 hi2 hx0 hx1 hx2 rfl (by omega) _ k (strs es) [.string ⟨sx.toArray⟩] rfl (by simp [Value.oneCell']) rfl hos4 rfl (by unfold maxLen; omega) (by omega) hs4 (fun v6 w6 hown6 hb6 hg6 => ?_)
                    obtain ⟨A6, c6, rfl, _, _⟩ := own_shape hown6
                    have hc6 := hc4.trans hb6
                    refine hK.out _ _ (fun _ => KEEP.out _ hc6) ?_
                    clear hK K
                    go_simp
                    refine wpAnyX_one (i := 14) (by kernel_rfl) rfl (fun K hK => ?_)
                    go_simp
                    refine hK.out _ _ (fun _ => KEEP.out _ hc6) ?_
                    clear hK K
                    refine wpAnyX_one (i := 15) (by kernel_rfl) rfl (fun K hK => ?_)
                    have hcell6 := (KEEP.out _ hc6).2.1
                    have hfz6 : w6.frozen? ⟨be, 0, none⟩ = false := (hc6.frozen (p := ⟨be, 0, none⟩) (show be < be + 2 by omega)).trans hfe
                    go_simp
                    refine hK.out _ _ (fun h => absurd rfl h) ?_
                    clear hK K
                    refine wpAnyX_done (by kernel_rfl) ?_
                    have HOWN := Lib.hid hown6
                    have HEL := Lib.hid hel
                    clear hel
                    go_wp2_with fail
                    go_roundg (m.list.length - (k + 1))
                    case measure => have := HK.out; omega
                    case rel =>
                      refine ⟨k + 1, .slice A6 (k + 1) c6, by omega, by go_num, ?_⟩
                      have o := HSS.out
                      rw [HSN.out]
                      have hno : OwnStr w6 (be + 2) (.slice A6 (k + 1) c6) (es ++ [sx]) := by
                        unfold OwnStr
                        rw [List.length_append, HEL.out]
                        simpa [strs, str] using HOWN.out
                      refine ⟨?_, ?_, own_set hno (p := ⟨be, 0, none⟩) (show be < be + 2 by omega) _, ?_, by simp; exact Nat.le_trans hgr hc6.size⟩
                      · rw [heap_setCell_m ((hc6.block be (by omega)).trans o.el)]
                        rfl
                      · rw [Below.heap_setCell w6 ⟨be, 0, none⟩ _ (be + 1) (by simp)]
                        exact (hc6.block (be + 1) (by omega)).trans o.seg
                      · exact (o.below.trans (hc6.mono (by omega))).setCell (p := ⟨be, 0, none⟩) (Nat.le_refl _) _
                  · have hge : m.list.length ≤ k := by omega
                    have hd : m.list.take k = m.list := List.take_of_length_le hge
                    rw [hd] at HSS
                    have hdl : decide (k < m.list.length) = false := by simpa using hge
                    have hu := HSS.out.els (B := g + 1) (by omega)
                    clear hS hd HSS
                    go_wp2_with (at_builtin; refine wpList_append_segO wr rfl (.tmp 104) (.tmp 106) rfl (g + 1) (.slice Av Lb.length cv) Lb rfl hRSr.own tLST (sLST m).els (.slice (some ⟨be, 0, none⟩) 1 1) hu rfl rfl (by omega) hRSr.size ?_; intro v3 w3 hown3 hb3; obtain ⟨A3, c3, rfl, _, _⟩ := hown3.at_)
                    go_meet
                    have this : RS w g m A c (Lb ++ [sLST m]) _ w3 := hRSr.put hb3 hown3
                    rw [HBB.out]
                    simpa [optS] using this
            case rest =>
              obtain ⟨W4, rfl⟩ : ∃ x, x = wc := ⟨_, rfl⟩
              clear HD
              have hlen2 : (Lb ++ optS (lstB m) (sLST m)).length ≤ Lb.length + 1 := by have := optS_len (lstB m) (sLST m); rw [List.length_append]; omega
              generalize hLL : Lb ++ optS (lstB m) (sLST m) = Lc at hcut hlen2
              have HLc := Lib.hid hLL
              clear hLL
              have hllLc : Lc.length ≤ 4 := by omega
              have HD := Lib.hid hcut
              clear hcut hlen2
              obtain ⟨Av, cv, rfl, _, _⟩ := HD.out.own.at_
              have hwz := HD.out.size
              go_upto_region 15 with (fail)
              go_cut [110] (fun s110 wx => s110 = .bool (txtB m) ∧ W4 = wx)
              case first =>
                obtain ⟨d0, d1, d2, d3, d4, d5, d6, d7, d8, d9, d10, d11, d12⟩ := HD.out.blk.all
                by_cases b1 : m.text = []
                · have c1 : (m.text != []) = false := by simp [b1]
                  have f1 : m.text.isEmpty = true := by simp [b1]
                  have HV : Hid (txtB m = false) := by show _ = _; unfold txtB; exact c1
                  clear b1
                  go_wp2_with fail
                  go_meet
                  exact ⟨by rw [HV.out], rfl⟩
                · have c1 : (m.text != []) = true := by simp [b1]
                  have f1 : m.text.isEmpty = false := by simp [b1]
                  have HV : Hid (txtB m = true) := by show _ = _; unfold txtB; exact c1
                  go_wp2_with fail
                  go_meet
                  exact ⟨by rw [HV.out], rfl⟩
              case rest =>
                obtain ⟨rfl, rfl⟩ := hcut
                go_upto_if 110 with (fail)
                go_cut [3, 110] (fun s3 s110 wx => RS w g m A c (Lc ++ optS (txtB m) (sTXT m)) s3 wx)
                case first =>
                  rcases hbb : txtB m with _ | _
                  · have HBB := Lib.hid hbb
                    go_wp2_with fail
                    go_meet
                    have := HD.out
                    rw [HBB.out]
                    simpa [optS] using this
                  · have HBB := Lib.hid hbb
                    clear hbb
                    have hbb := HBB.out
                    obtain ⟨d0, d1, d2, d3, d4, d5, d6, d7, d8, d9, d10, d11, d12⟩ := HD.out.blk.all
                    go_wp2_with fail
                    refine (element_any m.text W4).mono ?_
                    rintro e w5 ⟨A5, c5, rfl, ho5, hb5⟩
                    have hRS5 := HD.out.trans hb5
                    have hEL := els1 (w := w5) (B := g + 1) hRS5.size (ho5.mono (by omega))
                    have q6 := (Below.refl w5.heap.size w5).alloc (Nat.le_refl _) (.cells #[.slice A5 (elT m.text).length c5] 60)
                    have hRS6 := hRS5.trans q6
                    generalize hW6 : w5.alloc (.cells #[.slice A5 (elT m.text).length c5] 60) = w6 at hEL q6 hRS6
                    go_wp2_with (at_builtin; refine wpList_append_segO w6 rfl (.tmp 111) (.tmp 117) rfl (g + 1) (.slice Av Lc.length cv) Lc rfl hRS6.own tTXT (sTXT m).els (.slice (some ⟨w5.heap.size, 0, none⟩) 1 1) hEL rfl rfl (by omega) hRS6.size ?_; intro v3 w3 hown3 hb3; obtain ⟨A3, c3, rfl, _, _⟩ := hown3.at_)
                    go_meet
                    have this : RS w g m A c (Lc ++ [sTXT m]) _ w3 := hRS6.put hb3 hown3
                    rw [HBB.out]
                    simpa [optS] using this
                case rest =>
                  obtain ⟨W5, rfl⟩ : ∃ x, x = wc := ⟨_, rfl⟩
                  clear HD
                  have hlen2 : (Lc ++ optS (txtB m) (sTXT m)).length ≤ Lc.length + 1 := by have := optS_len (txtB m) (sTXT m); rw [List.length_append]; omega
                  generalize hLL : Lc ++ optS (txtB m) (sTXT m) = Ld at hcut hlen2
                  have HLd := Lib.hid hLL
                  clear hLL
                  have hllLd : Ld.length ≤ 5 := by omega
                  have HD := Lib.hid hcut
                  clear hcut hlen2
                  obtain ⟨Av, cv, rfl, _, _⟩ := HD.out.own.at_
                  have hwz := HD.out.size
                  have h1 := HRW.out tEND [((Ld.length : Int) + 1), m.number] W5 (by simp) (by intro x hx; simp only [List.mem_cons, List.not_mem_nil, or_false] at hx; rcases hx with rfl | rfl <;> omega)
                  have H1 : Hid (Calls Tryz.prog 25 #[.string ⟨#[69, 78, 68]⟩, .slice (some ⟨W5.heap.size, 0, none⟩) 2 2] (W5.alloc (.cells #[.int .i64 ((Ld.length : Int) + 1), .int .i64 m.number] 3)) (RowRet (W5.alloc (.cells #[.int .i64 ((Ld.length : Int) + 1), .int .i64 m.number] 3)) tEND [elN ((Ld.length : Int) + 1), elN m.number])) := h1
                  clear h1
                  obtain ⟨d0, d1, d2, d3, d4, d5, d6, d7, d8, d9, d10, d11, d12⟩ := HD.out.blk.all
                  go_wp2_with fail
                  refine H1.out.mono ?_
                  rintro e w2 ⟨A2, c2, rfl, ho2, hb2⟩
                  have qq := ((Below.refl W5.heap.size W5).alloc (Nat.le_refl _) _).trans (hb2.mono (by simp))
                  have hRS2 := HD.out.trans qq
                  have hu2 : ElsOwn w2 (g + 1) (.slice A2 2 c2) (sEND m (Ld.length + 1)).els := ho2.mono (B' := g + 1) (by simp; omega)
                  go_wp2_with (at_builtin; refine wpList_append_segO w2 rfl (.tmp 119) (.tmp 127) rfl (g + 1) (.slice Av Ld.length cv) Ld rfl hRS2.own tEND (sEND m (Ld.length + 1)).els (.slice A2 2 c2) hu2 rfl rfl (by omega) hRS2.size ?_; intro v3 w3 hown3 hb3; obtain ⟨A3, c3, rfl, _, _⟩ := hown3.at_)
                  have hF : RS w g m A c (Ld ++ [sEND m (Ld.length + 1)]) _ w3 := hRS2.put hb3 hown3
                  have hDM : descM m = Ld := by rw [← HLd.out, ← HLc.out, ← HLb.out, ← HLa.out, ← HL0.out]; simp [descM, List.append_assoc]
                  go_ret
                  refine ⟨.slice A3 (Ld.length + 1) c3, rfl, ?_, ?_⟩
                  · unfold segsM
                    rw [hDM]
                    have hFo := hF.own
                    rw [List.length_append] at hFo
                    exact SegsOwn.mono (B := g + 1) (B' := w.heap.size) hFo (by rw [hg]; exact Nat.le_succ _)
                  · first | exact hF.below | (rw [hg]; exact hF.below)
end Go.Proofs.YtmjlnckmhdgoiaaGreatDoor

