/- The law MessageParse: the walk. -/
import Derived.Test.YtmjlnckmhdgoiaaDoorQi
import Derived.Test.YtmjlnckmhdgoiaaDoorQd
import Derived.Test.YtmjlnckmhdgoiaaDoorQh
import Derived.Test.YtmjlnckmhdgoiaaDoorQj
import Derived.Deep.CutBlock
import Derived.Test.YtmjlnckmhdgoiaaDoorRows
import Derived.Test.YtmjlnckmhdgoiaaDoorCards
import Derived.Test.YtmjlnckmhdgoiaaDoorTie
import Derived.Test.YtmjlnckmhdgoiaaDoorFrame
import Derived.WalkKit
import Derived.ProofKit
import Derived.OpenShut
import Derived.Deep.DeepHandedRow
import Derived.SevenTiedAt
namespace Go.Proofs.YtmjlnckmhdgoiaaDoor
open Go.RowKit
set_option linter.unusedVariables false

theorem judge_len (m : Msg) (l y : List Seg) : (judge m l y).1.list.length ≤ 64 := by
  unfold judge
  split
  · rename_i hv
    have := (okM_iff.1 hv).ll
    split
    · exact this
    · split <;> exact Nat.zero_le _
  · exact Nat.zero_le _
theorem tailS_at {w : World} {B : Nat} {A : Option Addr} {l : List Seg} {c k : Nat} (h : SegsAt w B A l) (hc : l.length ≤ c) (hk : k ≤ l.length) :
    ∃ A', (∀ W, (Instr.slice 35 (.slice A l.length c) (some (.int .i64 (k : Int))) none none).run Tryd.prog W = .ok (.slice A' (l.drop k).length (c - k)) W) ∧ SegsAt w B A' (l.drop k) := by
  refine ⟨if c = k then A else A.map (·.add (k * 2)), fun W => ?_, ?_⟩
  · rw [run_cut W 35 49 2 Tryd.underlying35 (by kernel_rfl) (by kernel_rfl) A l.length c k hk, List.length_drop]
  · obtain ⟨cs, h1, h2, h3⟩ := h
    refine ⟨cs.drop (k * 2), by rw [List.length_drop, List.length_drop, h1]; omega, ?_, fun i s hs => ?_⟩
    · by_cases h4 : c = k
      · have : cs.drop (k * 2) = [] := List.drop_eq_nil_of_le (by omega)
        rw [this]
        exact RdB.nil _ _ _
      · rw [if_neg h4]
        exact h2.drop (k * 2)
    · rw [List.getElem?_drop] at hs
      obtain ⟨t, v, a, b, e⟩ := h3 (k + i) s hs
      exact ⟨t, v, by rw [List.getElem?_drop, ← a]; congr 1; omega, by rw [List.getElem?_drop, ← b]; congr 1; omega, e⟩
theorem own_intsP {w : World} {B n : Nat} {A : Option Addr} {c : Nat} {l : List Int} (h : w.ownsRow B 3 1 (.slice A n c) n (ints l)) : Rd w A (ints l) := by
  obtain ⟨A', c', e, hr, _⟩ := own_shape h
  injection e with e1 _ _
  subst e1
  exact hr.rd
theorem first_atW {w : World} {B : Nat} {A : Option Addr} {s : Seg} (h : ElsAt w B A s.els) (hn : 0 < s.els.length) : ∃ b off, A = some ⟨b, off, none⟩ ∧ b < B ∧ ∃ A0 c0, w.cell? ⟨b, off, none⟩ = some (.slice A0 (elAt s 0).length c0) ∧ RdB w B A0 (strs (elAt s 0)) := by
  obtain ⟨b, off, A0, c0, e1, e2, e3, e4⟩ := h.get hn
  have e : elAt s 0 = s.els[0] := by unfold elAt; rw [List.getElem?_eq_getElem hn]; rfl
  rw [e]
  exact ⟨b, off, e1, e2, A0, c0, e3, e4⟩
theorem els_one {w : World} {g : Nat} {cs : List Value} {l : List (List Bs)} (h1 : cs.length = l.length) (h2 : ∀ (i : Nat) (e : List Bs), l[i]? = some e → ∃ A' c', cs[i]? = some (.slice A' e.length c') ∧ RdG w g A' (strs e)) : ∀ u ∈ cs, u.oneCell' = true := by
  intro u hu
  obtain ⟨i, hi, rfl⟩ := List.getElem_of_mem hu
  obtain ⟨A', c', a, _⟩ := h2 i _ (List.getElem?_eq_getElem (by omega))
  rw [List.getElem?_eq_getElem hi] at a
  injection a with a
  rw [a]
  rfl
theorem els_some {w : World} {g : Nat} {A : Option Addr} {cs : List Value} {l : List (List Bs)} (h1 : cs.length = l.length) (h2 : RdG w g A cs) (h3 : 0 < l.length) : ∃ ad, A = some ad := by
  obtain ⟨ad, e, _⟩ := h2 0 _ (List.getElem?_eq_getElem (show 0 < cs.length by omega))
  exact ⟨ad, e⟩
namespace messageParse
/-- behind the switch: some list of segments -/
def PMid (w : World) (s9 : Value) (wx : World) : Prop := ∃ A n c l, s9 = .slice A n c ∧ l.length = n ∧ LOk l ∧ SegsAt wx wx.heap.size A l ∧ Below w.heap.size w wx
set_option maxHeartbeats 40000000 in
set_option maxRecDepth 100000 in
theorem walkMessageParse (Al : Option Addr) (cl : Nat) (l : List Int) (s : Seg) (A1 : Option Addr) (c1 : Nat) (at_ how : Int) (w : World) (hl : SlI w Al cl l) (he : ElsAt w w.heap.size A1 s.els) (hs : SFit s) (hcn : cntF s ≤ 8796093022208) (htg : s.tag.length ≤ 281474976710656) (hx : -9223372036854775808 ≤ at_ ∧ at_ ≤ 9223372036854775807) (hy : -9223372036854775808 ≤ how ∧ how ≤ 9223372036854775807) (hL : laidMetH Tryd.prog Rows.messageParseRow.laid w) :
    Calls Tryd.prog 8 #[.slice Al l.length cl, .agg #[str s.tag, .slice A1 s.els.length c1], .int .i64 at_, .int .i64 how] w fun e w' => e = .returned (.bool true) ∧ Below w.heap.size w w' := by
  have HG := Lib.hid (given_of_laid hL (by kernel_rfl) (by kernel_rfl) (by kernel_rfl) (by kernel_rfl))
  have hlmax := hl.max
  have hll := hl.le
  have q0 := (Below.refl w.heap.size w).alloc (Nat.le_refl _) (.cells #[str s.tag, .slice A1 s.els.length c1] 49)
  have hraw : (w.alloc (.cells #[str s.tag, .slice A1 s.els.length c1] 49)).heap[w.heap.size]? = some (.cells #[str s.tag, .slice A1 s.els.length c1] 49 (0, 0)) := heap_alloc_new w _
  have hz0 : w.heap.size < (w.alloc (.cells #[str s.tag, .slice A1 s.els.length c1] 49)).heap.size := by simp
  have HE0 := Lib.hid (he.below q0)
  have HMA := Lib.hid (mMessage_any Al cl l (w.alloc (.cells #[str s.tag, .slice A1 s.els.length c1] 49)) (hl.rd.below q0) hll (by omega))
  unfold MadeM at HMA
  have HQ0 := Lib.hid q0
  have HRAW := Lib.hid hraw
  have HSF := Lib.hid hs
  have HCN := Lib.hid hcn
  have hsn := hs.n
  clear hL hl q0 hraw hs hcn he
  unfold str at *
  go_enter Tryd.func8, Tryd.ntmps8
  go_wp2_with fail
  refine HMA.out.mono ?_
  rintro e W1 ⟨m, A, c, rfl, ok, ho1, hb1⟩
  have HRS := Lib.hid (refSegments_any m A c W1 (own_intsP ho1) ok)
  have HSK := Lib.hid (sok_made ok)
  have HB1 := Lib.hid (HQ0.out.trans (hb1.mono HQ0.out.size))
  have HRAW1 := Lib.hid ((hb1.block _ hz0).trans HRAW.out)
  have HE1 := Lib.hid (HE0.out.below (hb1.mono (Nat.le_of_lt hz0)))
  clear ok ho1 HMA HQ0 HRAW HE0
  go_wp2_with fail
  refine HRS.out.mono ?_
  rintro e W2 ⟨v2, rfl, ho2, hb2⟩
  have hgz1 : w.heap.size < W1.heap.size := lt_of_block HRAW1.out
  have HB2 := Lib.hid (HB1.out.trans (hb2.mono (Nat.le_of_lt hgz1)))
  have hraw2 := (hb2.block _ hgz1).trans HRAW1.out
  have HRAW2 := Lib.hid hraw2
  have HE2 := Lib.hid (HE1.out.below (hb2.mono (Nat.le_of_lt hgz1)))
  obtain ⟨g, cap, rfl, hgB, hcap, hsg⟩ := SegsG.of_own ho2 HSK.out.p
  have HSG := Lib.hid hsg
  have hgg : g ≠ w.heap.size := by omega
  clear HRS ho2 hsg hb1 hb2 HB1 HRAW1 HE1
  generalize segsM m = L at *
  generalize hns : L.length = ns at *
  have HNS := Lib.hid hns
  have hns0 : 0 < ns := by have := HSK.out.p; have := HNS.out; omega
  have hns6 : ns ≤ 6 := by have := HSK.out.n; have := HNS.out; omega
  clear hns
  have HWA := Lib.hid (fun (W : World) => within_any at_ (ns : Int) W (by omega) (by omega))
  have hx0 : 0 ≤ at_ % (ns : Int) := Int.emod_nonneg _ (by omega)
  have hx1 : at_ % (ns : Int) < (ns : Int) := Int.emod_lt_of_pos _ (by omega)
  generalize at_ % (ns : Int) = kk at HWA hx0 hx1
  obtain ⟨k, hk⟩ : ∃ k : Nat, kk = (k : Int) := ⟨kk.toNat, by omega⟩
  subst hk
  have hkn : k < ns := by omega
  have HWH := Lib.hid (fun (W : World) => within_any how 4 W (by omega) (by omega))
  have hj0 : 0 ≤ how % 4 := by omega
  have hj1 : how % 4 < 4 := by omega
  generalize how % 4 = jj at HWH hj0 hj1
  obtain ⟨j, hj⟩ : ∃ j : Nat, jj = (j : Int) := ⟨jj.toNat, by omega⟩
  subst hj
  have hj4 : j < 4 := by omega
  clear hx0 hx1 hj0 hj1
  have hgs : g < W2.heap.size := (HSG.out.cells (k := k) (by have := HNS.out; omega)).1
  have F1 : True := trivial
  go_upto_block 0 with (go_at_call 15; first | (clear F1; refine (HWA.out _).mono ?_; rintro e w1 ⟨rfl, rfl⟩) | (refine (HWH.out _).mono ?_; rintro e w1 ⟨rfl, rfl⟩))
  go_cut [9, 11, 12, 26, 27, 28, 29, 30, 31, 32, 33, 34, 35, 36, 37, 38, 39, 40, 41, 42, 43, 44, 45, 46, 47, 48, 49, 50, 51, 52, 53, 54, 55, 56, 57, 58, 59, 60, 61, 62, 63, 64, 65, 66, 67, 68, 69, 70, 71, 72, 73, 74, 75, 76, 77, 78, 79, 80, 81, 82, 83, 84, 85, 86, 87, 88, 89, 90, 91, 92, 93, 94, 95, 96] (fun s9 s11 s12 s26 s27 s28 s29 s30 s31 s32 s33 s34 s35 s36 s37 s38 s39 s40 s41 s42 s43 s44 s45 s46 s47 s48 s49 s50 s51 s52 s53 s54 s55 s56 s57 s58 s59 s60 s61 s62 s63 s64 s65 s66 s67 s68 s69 s70 s71 s72 s73 s74 s75 s76 s77 s78 s79 s80 s81 s82 s83 s84 s85 s86 s87 s88 s89 s90 s91 s92 s93 s94 s95 s96 wx => PMid w s9 wx)
  case first =>
    have hkL : k < L.length := by have := HNS.out; omega
    obtain ⟨-, hk0, hk0f, hk1f, Ak, ck, hk1, hkE⟩ := HSG.out.cells hkL
    have HKE := Lib.hid hkE
    have HLL := Lib.hid (List.getElem_mem hkL)
    have HLE : Hid (L[k]? = some L[k]) := List.getElem?_eq_getElem hkL
    have hknn := (HSK.out.f _ HLL.out).n
    have HPUT := Lib.hid (fun (B : Option Addr) (cc : Nat) (h : ElsG W2 g B s.els) => HSG.out.put hkL s h cc)
    have HSET := Lib.hid (fun (W : World) (hb : Below W2.heap.size W2 W) (B : Option Addr) (els : List (List Bs)) (h : ElsG W g B els) (cc : Nat) => (HSG.out.below hb).set1 hkL h cc)
    have hraw0 : W2.cell? ⟨w.heap.size, 0, none⟩ = some (.string ⟨s.tag.toArray⟩) := by rw [cell_of_row _ _ _ _ _ _ HRAW2.out]; rfl
    have hraw1 : W2.cell? ⟨w.heap.size, 1, none⟩ = some (.slice A1 s.els.length c1) := by rw [cell_of_row _ _ _ _ _ _ HRAW2.out]; rfl
    unfold str at hk0 HPUT
    clear hkE
    generalize L[k] = x at *
    clear hkL
    match j, hj4 with
    | 0, _ =>
      have hgw : w.heap.size < g := by omega
      have HEX := Lib.hid HE2.out
      have HLN : Hid ((L.set k s).length = ns) := by show _ = _; rw [List.length_set]; exact HNS.out
      clear HG HWA HWH HNS HE2
      have hEG : ElsG W2 g A1 s.els := ElsG.of_at HEX.out (Nat.le_of_lt hgw)
      have hP := HPUT.out A1 c1 hEG
      have HP := Lib.hid hP.at_
      have HBQ := Lib.hid ((HB2.out.setCell (p := ⟨g, k * 2, none⟩) (Nat.le_of_lt hgw) (.string ⟨s.tag.toArray⟩)).setCell (p := ⟨g, k * 2 + 1, none⟩) (Nat.le_of_lt hgw) (.slice A1 s.els.length c1))
      clear hP hEG
      go_wp2_with fail
      go_meet
      exact ⟨_, _, _, _, rfl, HLN.out, HSK.out.set k HSF.out (by have := HCN.out; omega), HP.out, HBQ.out⟩
    | 1, _ =>
      have hL6 : L.length ≤ 6 := HSK.out.n
      have hat3 := HSG.out.at_
      have hlk : (L.take k).length = k := by rw [List.length_take]; have := HNS.out; omega
      have HSC := Lib.hid (SegsC.of (hat3.take k (by have := HNS.out; omega)))
      have hhd := fun W => headS_run W (some ⟨g, 0, none⟩) ns cap k (by omega)
      have HLKK := Lib.hid hlk
      obtain ⟨TL, htl, hat4⟩ := tailS_at (c := cap) (k := k + 1) hat3 (by have := HNS.out; omega) (by have := HNS.out; omega)
      have hdl : (L.drop (k + 1)).length = ns - (k + 1) := by rw [List.length_drop, HNS.out]
      have HSD := Lib.hid (SegsC.of hat4)
      have HDL := Lib.hid hdl
      rw [HNS.out, hdl, show ((k + 1 : Nat) : Int) = (k : Int) + 1 from by omega] at htl
      have HLC : Hid ((L.take k ++ L.drop (k + 1)).length = ns - 1) := by show _ = _; rw [List.length_append, hlk, hdl]; omega
      clear hat3 hat4 hlk hdl HG HWA HWH HE2 HPUT HSET hk0 hk0f hk1f hk1 hraw0 hraw1
      go_upto_region 12 with (fail)
      refine wp_region_x 99 (by kernel_rfl) (fun W => True) ?_
      have hst : True := trivial
      have HB3 : Hid (Below W2.heap.size W2 W2.drew) := (Below.refl _ _).drew
      have HZ3 : Hid (W2.drew.heap.size = W2.heap.size) := rfl
      generalize hV : W2.drew = V0 at HB3 HZ3 ⊢
      clear hV
      refine wpAnyX_take (i := 1) (v := .slice (some ⟨g, 0, none⟩) ns cap) rfl (by kernel_rfl) (by kernel_rfl) (by kernel_rfl) (by kernel_rfl) (fun _ _ _ h => h) hst (Or.inl ⟨by rfl, fun w hS => by go_simp⟩) ?_
      go_simp
      refine wpAnyX_take (i := 2) (v := .int .i64 (k : Int)) rfl (by kernel_rfl) (by kernel_rfl) (by kernel_rfl) (by kernel_rfl) (fun _ _ _ h => h) hst (Or.inl ⟨by rfl, fun w hS => by go_simp⟩) ?_
      go_simp
      refine wpAnyX_take (i := 3) (v := .slice (some ⟨g, 0, none⟩) k cap) rfl (by kernel_rfl) (by kernel_rfl) (by kernel_rfl) (by kernel_rfl) (fun _ _ _ h => h) hst (Or.inl ⟨by rfl, fun w hS => by go_simp⟩) ?_
      go_simp
      refine wpAnyX_take (i := 5) (v := .slice (some ⟨g, 0, none⟩) ns cap) rfl (by kernel_rfl) (by kernel_rfl) (by kernel_rfl) (by kernel_rfl) (fun _ _ _ h => h) hst (Or.inl ⟨by rfl, fun w hS => by go_simp⟩) ?_
      go_simp
      refine wpAnyX_take (i := 6) (v := .int .i64 (k : Int)) rfl (by kernel_rfl) (by kernel_rfl) (by kernel_rfl) (by kernel_rfl) (fun _ _ _ h => h) hst (Or.inl ⟨by rfl, fun w hS => by go_simp⟩) ?_
      go_simp
      refine wpAnyX_take (i := 7) (v := .int .i64 ((k : Int) + 1)) rfl (by kernel_rfl) (by kernel_rfl) (by kernel_rfl) (by kernel_rfl) (fun _ _ _ h => h) hst (Or.inl ⟨by rfl, fun w hS => by (go_simp; try (exact IntWalk.i64_in _ (by omega)))⟩) ?_
      go_simp
      refine wpAnyX_take (i := 8) (v := .slice TL (ns - (k + 1)) (cap - (k + 1))) rfl (by kernel_rfl) (by kernel_rfl) (by kernel_rfl) (by kernel_rfl) (fun _ _ _ h => h) hst (Or.inl ⟨by rfl, fun w hS => by go_simp⟩) ?_
      go_simp
      have q3 := (Below.refl V0.heap.size V0).alloc (Nat.le_refl _) (.cells #[] 49)
      have HB4 := Lib.hid (HB3.out.trans (q3.mono (Nat.le_of_eq HZ3.out.symm)))
      refine wpAnyX_one (i := 0) (by kernel_rfl) rfl (fun J hJ => ?_)
      go_simp
      refine hJ.out _ _ (fun _ => trivial) ?_
      clear hJ J q3
      generalize V0.heap.size = gv
      generalize hVV : V0.alloc (.cells #[] 49) = V1 at HB4 ⊢
      clear hVV HB3 HZ3
      refine wpAnyX_one (i := 4) (by kernel_rfl) rfl (fun J hJ => ?_)
      refine step_segs (by rfl) (.tmp 70) (.tmp 73) (by rfl) W2.heap.size W2.heap.size _ [] (by rfl) (.inl ⟨_, rfl, rfl⟩) _ k _ (L.take k) HLKK.out.symm (by rfl) (HSC.out.below (Nat.le_refl _) HB4.out) (by rw [HLKK.out]; simp; omega) HB4.out.size (Nat.le_refl _) ?_
      intro v5 V5 hY5 hb5
      have HY5 := Lib.hid hY5
      have HB5 := Lib.hid (HB4.out.trans hb5)
      refine hJ.out _ _ (fun _ => trivial) ?_
      clear hJ J hY5 hb5 HB4
      go_simp
      refine wpAnyX_one (i := 9) (by kernel_rfl) rfl (fun J hJ => ?_)
      refine step_segs (by rfl) (.tmp 74) (.tmp 78) (by rfl) W2.heap.size W2.heap.size _ ([] ++ L.take k) (by rfl) HY5.out _ (ns - (k + 1)) _ (L.drop (k + 1)) HDL.out.symm (by rfl) (HSD.out.below (Nat.le_refl _) HB5.out) (by rw [HDL.out, List.nil_append, HLKK.out]; omega) HB5.out.size (Nat.le_refl _) ?_
      intro v6 V6 hY6 hb6
      have HB6 := Lib.hid (HB5.out.trans hb6)
      obtain ⟨A6, c6, hv6, hat6⟩ := hY6.at_ HB6.out.size
      rw [List.nil_append] at hv6 hat6
      rw [HLC.out] at hv6
      subst hv6
      have HAT := Lib.hid hat6
      refine hJ.out _ _ (fun _ => trivial) ?_
      clear hJ J hY6 hb6 hat6 HY5 HB5
      go_simp
      refine wpAnyX_take (i := 10) (v := .slice A6 (ns - 1) c6) rfl (by kernel_rfl) (by kernel_rfl) (by kernel_rfl) (by kernel_rfl) (fun _ _ _ h => h) hst (Or.inl ⟨by rfl, fun w hS => by go_simp⟩) ?_
      go_simp
      refine wpAnyX_done (by kernel_rfl) ?_
      go_wp2_with fail
      go_meet
      exact ⟨_, _, _, _, rfl, HLC.out, HSK.out.cut k, HAT.out, HB2.out.trans (HB6.out.mono HB2.out.size)⟩
    | 2, _ =>
      have hL6 : L.length ≤ 6 := HSK.out.n
      have hat3 := HSG.out.at_
      have hlk : (L.take k).length = k := by rw [List.length_take]; have := HNS.out; omega
      have HSC := Lib.hid (SegsC.of (hat3.take k (by have := HNS.out; omega)))
      have hhd := fun W => headS_run W (some ⟨g, 0, none⟩) ns cap k (by omega)
      have HLKK := Lib.hid hlk
      obtain ⟨TL, htl, hat4⟩ := tailS_at (c := cap) (k := k) hat3 (by have := HNS.out; omega) (by have := HNS.out; omega)
      have hdl : (L.drop k).length = ns - k := by rw [List.length_drop, HNS.out]
      have HSD := Lib.hid (SegsC.of hat4)
      have HDL := Lib.hid hdl
      rw [HNS.out, hdl] at htl
      have hld : (L.drop k).length ≤ 1000 := by omega
      have HLC : Hid ((L.take k ++ [x] ++ L.drop k).length = ns + 1) := by show _ = _; rw [List.length_append, List.length_append, hlk, hdl, List.length_singleton]; omega
      have HKE2 := Lib.hid HKE.out.els
      clear HKE
      have HKE := HKE2
      clear HKE2 hat3 hat4 hdl HG HWA HWH HE2 HPUT HSET hk0f hk1f hraw0 hraw1
      go_upto_region 14 with (fail)
      go_region_held3 (fun w' => Below W2.heap.size W2 w' ∧ w'.cell? ⟨g, k * 2, none⟩ = some (.string ⟨x.tag.toArray⟩) ∧ w'.cell? ⟨g, k * 2 + 1, none⟩ = some (.slice Ak x.els.length ck))
        ((refine (fun h => ⟨h, (Below.cell (p := ⟨g, k * 2, none⟩) h hgs).trans hk0, (Below.cell (p := ⟨g, k * 2 + 1, none⟩) h hgs).trans hk1⟩ : Below W2.heap.size W2 _ → _) ?_; first | exact (Below.refl _ _).drew | exact ((Below.refl _ _).alloc (Nat.le_refl _) _).drew | exact (((Below.refl _ _).alloc (Nat.le_refl _) _).alloc (by simp) _).drew | exact hB55 | exact hB51 | exact hB48.alloc hB48.size _ | exact hB48))
        (first
          | (refine step_segs (by rfl) (.tmp 82) (.tmp 85) (by rfl) _ W2.heap.size _ [] (by rfl) (.inl ⟨_, rfl, rfl⟩) _ _ _ (L.take k) HLKK.out.symm (by rfl) (HSC.out.below (Nat.le_refl _) (by first | exact ((Below.refl _ _).alloc (Nat.le_refl _) _).drew | exact (((Below.refl _ _).alloc (Nat.le_refl _) _).alloc (by simp) _).drew)) (by simp; omega) (Nat.le_refl _) (by simp <;> omega) ?_; intro v48 w48 hY48' hb48; have hY48 := hY48'.mono (B1 := W2.heap.size) (by simp <;> omega); have hB48 : Below W2.heap.size W2 w48 := Below.trans (by first | exact ((Below.refl _ _).alloc (Nat.le_refl _) _).drew | exact (((Below.refl _ _).alloc (Nat.le_refl _) _).alloc (by simp) _).drew) (hb48.mono (by simp <;> omega)); first | (have hx50 : SegsC w48 W2.heap.size (some ⟨W2.heap.size + 1, 0, none⟩) [x] := by (have q := ((SegsC.one (W2.alloc (.cells #[] 49)) x.tag Ak ck x.els W2.heap.size (HKE.out.below ((Below.refl _ _).alloc (Nat.le_refl _) _)) (by simp)).drew).below (by simp; omega) hb48; simpa using q)) | (have hx50 : SegsC w48 W2.heap.size (some ⟨W2.heap.size, 0, none⟩) [x] := ((((SegsC.one W2 x.tag Ak ck x.els W2.heap.size HKE.out (Nat.le_refl _)).below (by simp) ((Below.refl _ _).alloc (Nat.le_refl _) (.cells #[] 49)))).drew).below (by simp; omega) hb48) | skip)
          | (refine step_segs (by rfl) (.tmp 86) (.tmp 91) (by rfl) W2.heap.size W2.heap.size _ ([] ++ L.take k) (by rfl) (by first | exact hY48 | exact hY48.below hB48.size ((Below.refl _ _).alloc (Nat.le_refl _) _)) _ _ _ [x] rfl (by rfl) (by first | exact hx50 | exact SegsC.one _ _ _ _ _ _ (HKE.out.below hB48) hB48.size) (by simp; omega) (by first | exact hB48.size | exact (hB48.alloc hB48.size _).size) (Nat.le_refl _) ?_; intro v51 w51 hY51 hb51; have hB51 : Below W2.heap.size W2 w51 := Below.trans (by first | exact hB48 | exact hB48.alloc hB48.size _) hb51)
          | (refine step_segs (by rfl) (.tmp 92) (.tmp 95) (by rfl) W2.heap.size W2.heap.size _ (([] ++ L.take k) ++ [x]) (by rfl) hY51 TL (ns - k) _ (L.drop k) HDL.out.symm (by rfl) (HSD.out.below (Nat.le_refl _) hB51) (by simp; omega) hB51.size (Nat.le_refl _) ?_; intro v55 w55 hY55 hb55; have hB55 := hB51.trans hb55))
      all_goals
        obtain ⟨A6, c6, hv6, hat6⟩ := hY55.at_ hB55.size
        rw [List.nil_append] at hv6 hat6
        rw [HLC.out] at hv6
        subst hv6
        have HAT := Lib.hid hat6
        have HB6 := Lib.hid hB55
        clear hat6 hY55 htl hhd hY51 hY48 hb55 hb51 hb48 hB55 hB51 hB48 hk0 hk1
        go_wp2_with fail
        go_meet
        exact ⟨_, _, _, _, rfl, HLC.out, HSK.out.rep (by rw [HLE.out]), HAT.out, HB2.out.trans (HB6.out.mono HB2.out.size)⟩
    | 3, _ =>
      have hgw : w.heap.size < g := by omega
      by_cases hxn0 : 0 < x.els.length
      · by_cases hraw0p : 0 < s.els.length
        · obtain ⟨rb, ro, rfl, hrb, A0, c0, hr0, hrr0⟩ := first_atW HE2.out hraw0p
          obtain ⟨cs, hcl, hcr, hparts⟩ := HKE.out
          have hone : ∀ u ∈ cs, u.oneCell' = true := els_one hcl hparts
          have HRR0 := Lib.hid hrr0
          have HCR := Lib.hid hcr
          have HPT := Lib.hid hparts
          have HCL := Lib.hid hcl
          have HONE := Lib.hid hone
          have hA : ∃ ad, Ak = some ad := els_some hcl hcr hxn0
          obtain ⟨ad, rfl⟩ := hA
          have q5 := (Below.refl W2.heap.size W2).alloc (Nat.le_refl _) (.cells #[] 50)
          have HL5 := Lib.hid (OwnX.lit00 W2 W2.heap.size 50 1 (Nat.le_refl _))
          have HR5 := Lib.hid (hcr.rd.below q5)
          have HQ5 := Lib.hid q5
          obtain ⟨i0, hi0, hy0, hy1, hy2⟩ := info_parts strsInfo
          have HWQ := Lib.hid (fun (W : World) => within_any (how / 4) (x.els.length : Int) W (by omega) (by omega))
          have hq0 : 0 ≤ how / 4 % (x.els.length : Int) := Int.emod_nonneg _ (by omega)
          have hq1 : how / 4 % (x.els.length : Int) < (x.els.length : Int) := Int.emod_lt_of_pos _ (by omega)
          generalize how / 4 % (x.els.length : Int) = qq at HWQ hq0 hq1
          obtain ⟨q, hqe⟩ : ∃ q : Nat, qq = (q : Int) := ⟨qq.toNat, by omega⟩
          subst hqe
          have HFE := Lib.hid (fit_el (HSK.out.f _ HLL.out) HSF.out HCN.out (by have := cntF_le HLL.out; have := HSK.out.c; omega) q)
          have HELA : Hid (elAt s 0 = elAt s 0) := rfl
          clear hcl hcr hparts hone hrr0 q5 HELA
          generalize hxn : x.els.length = xn at *
          have HXN := Lib.hid hxn
          clear hxn
          generalize hrn : s.els.length = rn at *
          clear hrn
          have hl0b := HSF.out.len 0
          generalize hl0 : (elAt s 0).length = l0 at *
          have HL0 := Lib.hid hl0
          clear hl0
          go_upto_region 6 with (fail)
          go_wp2_with (at_builtin; (refine wpList_append_x (W2.alloc (.cells #[] 50)) rfl (.tmp 40) (.tmp 45) 47 rfl W2.heap.size 50 i0 _ 1 24 Tryd.underlying47 hi0 hy0 hy1 hy2 rfl (by omega) _ 0 [] rfl HL5.out (some ad) xn ck cs rfl (by have := HCL.out; have := HXN.out; omega) HR5.out HONE.out (by unfold maxLen; omega) (by omega) (by simp) ?_); intro v6 W6 hown6 hgr6 _)
          have ho6 : OwnX W6 W2.heap.size 50 1 v6 xn cs := by simpa using hown6
          have hb6 : Below W2.heap.size W2 W6 := HQ5.out.trans ((Below.refl _ _).grown hgr6 (by simp) (fun k e => (HL5.out.block_lt e).1))
          obtain ⟨gx, goff, cpx, rfl, hg1, hg2, hcap6, hcell6⟩ := ho6.place (by omega)
          have HO6 := Lib.hid ho6
          have HB6 := Lib.hid hb6
          have hcq := hcell6 (1 * 0 + q) _ (List.getElem?_eq_getElem (show 1 * 0 + q < cs.length by have := HCL.out; have := HXN.out; omega))
          obtain ⟨xq, hxq1, hxq2⟩ : ∃ v, W6.cell? ⟨gx, goff + q, none⟩ = some v ∧ W6.frozen? ⟨gx, goff + q, none⟩ = false := ⟨_, by simpa using hcq.1, by simpa using hcq.2⟩
          have hd1 := (hb6.cell (p := ⟨w.heap.size, 1, none⟩) (Nat.lt_trans hgw hgs)).trans hraw1
          have hd2 := (hb6.cell (p := ⟨rb, ro, none⟩) (Nat.lt_trans hrb (Nat.lt_trans hgw hgs))).trans hr0
          have hs1 := (hb6.cell (p := ⟨g, k * 2 + 1, none⟩) hgs).trans hk1
          have hs1f := (hb6.frozen (p := ⟨g, k * 2 + 1, none⟩) hgs).trans hk1f
          clear hown6 hgr6 ho6 hb6 hcell6 hcq HL5 HR5 HQ5 hi0 hy0 hy1 hy2 hk0 hk0f hk1 hk1f hraw0 hraw1 hr0 HPUT HWA HWH HRAW2
          clear i0
          go_upto_region 7 with (fail)
          refine wp_region_x 10 (by kernel_rfl) (fun W => W.cell? ⟨w.heap.size, 1, none⟩ = some (.slice (some ⟨rb, ro, none⟩) rn c1) ∧ W.cell? ⟨rb, ro, none⟩ = some (.slice A0 l0 c0)) ?_
          have hst : W6.drew.cell? ⟨w.heap.size, 1, none⟩ = some (.slice (some ⟨rb, ro, none⟩) rn c1) ∧ W6.drew.cell? ⟨rb, ro, none⟩ = some (.slice A0 l0 c0) := ⟨hd1, hd2⟩
          have hxq1 : W6.drew.cell? ⟨gx, goff + q, none⟩ = some xq := hxq1
          have hxq2 : W6.drew.frozen? ⟨gx, goff + q, none⟩ = false := hxq2
          have hs1 : W6.drew.cell? ⟨g, k * 2 + 1, none⟩ = some (.slice (some ad) xn ck) := hs1
          have hs1f : W6.drew.frozen? ⟨g, k * 2 + 1, none⟩ = false := hs1f
          replace HO6 : Hid (OwnX W6.drew W2.heap.size 50 1 (.slice (some ⟨gx, goff, none⟩) xn cpx) xn cs) := HO6.out
          replace HB6 := Lib.hid HB6.out.drew
          generalize hV : W6.drew = V0 at hst hxq1 hxq2 hs1 hs1f HO6 HB6 ⊢
          clear hV hd1 hd2
          refine wpAnyX_take (i := 0) (v := .slice (some ⟨gx, goff, none⟩) xn cpx) rfl (by kernel_rfl) (by kernel_rfl) (by kernel_rfl) (by kernel_rfl) (fun _ _ _ h => h) hst (Or.inl ⟨by rfl, fun w hS => by (obtain ⟨q0, q1⟩ := hS; go_simp)⟩) ?_
          go_simp
          refine wpAnyX_take (i := 1) (v := .int .i64 how) rfl (by kernel_rfl) (by kernel_rfl) (by kernel_rfl) (by kernel_rfl) (fun _ _ _ h => h) hst (Or.inl ⟨by rfl, fun w hS => by (obtain ⟨q0, q1⟩ := hS; go_simp)⟩) ?_
          go_simp
          refine wpAnyX_take (i := 2) (v := .int .i64 (how / 4)) rfl (by kernel_rfl) (by kernel_rfl) (by kernel_rfl) (by kernel_rfl) (fun _ _ _ h => h) hst (Or.inl ⟨by rfl, fun w hS => by (obtain ⟨q0, q1⟩ := hS; go_simp)⟩) ?_
          go_simp
          refine wpAnyX_take (i := 3) (v := .int .i64 (xn : Int)) rfl (by kernel_rfl) (by kernel_rfl) (by kernel_rfl) (by kernel_rfl) (fun _ _ _ h => h) hst (Or.inl ⟨by rfl, fun w hS => by (obtain ⟨q0, q1⟩ := hS; go_simp)⟩) ?_
          go_simp
          refine wpAnyX_take (i := 5) (v := .pointer (some ⟨w.heap.size, 1, none⟩)) rfl (by kernel_rfl) (by kernel_rfl) (by kernel_rfl) (by kernel_rfl) (fun _ _ _ h => h) hst (Or.inl ⟨by rfl, fun w hS => by (obtain ⟨q0, q1⟩ := hS; go_simp)⟩) ?_
          go_simp
          refine wpAnyX_take (i := 6) (v := .slice (some ⟨rb, ro, none⟩) rn c1) rfl (by kernel_rfl) (by kernel_rfl) (by kernel_rfl) (by kernel_rfl) (fun _ _ _ h => h) hst (Or.inl ⟨by rfl, fun w hS => by (obtain ⟨q0, q1⟩ := hS; go_simp)⟩) ?_
          go_simp
          refine wpAnyX_take (i := 7) (v := .pointer (some ⟨rb, ro, none⟩)) rfl (by kernel_rfl) (by kernel_rfl) (by kernel_rfl) (by kernel_rfl) (fun _ _ _ h => h) hst (Or.inl ⟨by rfl, fun w hS => by (obtain ⟨q0, q1⟩ := hS; go_simp)⟩) ?_
          go_simp
          refine wpAnyX_take (i := 8) (v := .slice A0 l0 c0) rfl (by kernel_rfl) (by kernel_rfl) (by kernel_rfl) (by kernel_rfl) (fun _ _ _ h => h) hst (Or.inl ⟨by rfl, fun w hS => by (obtain ⟨q0, q1⟩ := hS; go_simp)⟩) ?_
          go_simp
          refine wpAnyX_one (i := 4) (by kernel_rfl) rfl (fun J hJ => ?_)
          go_simp
          go_wp2_with (go_at_call 15; refine (HWQ.out _).mono ?_; rintro e V1 ⟨rfl, rfl⟩)
          refine hJ.out _ _ (fun _ => hst) ?_
          clear hJ J
          refine wpAnyX_take (i := 9) (v := .pointer (some ⟨gx, goff + q, none⟩)) rfl (by kernel_rfl) (by kernel_rfl) (by kernel_rfl) (by kernel_rfl) (fun _ _ _ h => h) hst (Or.inl ⟨by rfl, fun w hS => by (obtain ⟨q0, q1⟩ := hS; go_simp)⟩) ?_
          go_simp
          have hgxg : gx ≠ g := by omega
          have HO7 := Lib.hid (HO6.out.setIn (k := q) (by have := HCL.out; have := HXN.out; omega) (.slice A0 l0 c0))
          have HB7 := Lib.hid (HB6.out.setCell (p := ⟨gx, goff + q, none⟩) hg1 (.slice A0 l0 c0))
          have hs2 : (V0.setCell ⟨gx, goff + q, none⟩ (.slice A0 l0 c0)).cell? ⟨g, k * 2 + 1, none⟩ = some (.slice (some ad) xn ck) := by rw [World.cell?_setCell_other _ _ _ _ (by intro e; injection e with e; exact hgxg e)]; exact hs1
          have hs2f : (V0.setCell ⟨gx, goff + q, none⟩ (.slice A0 l0 c0)).frozen? ⟨g, k * 2 + 1, none⟩ = false := by rw [World.frozen?_setCell]; exact hs1f
          refine wpAnyX_one (i := 10) (by kernel_rfl) rfl (fun J hJ => ?_)
          go_simp
          go_wp2
          refine hJ.out _ _ (fun h => absurd rfl h) ?_
          clear hJ J
          refine wpAnyX_done (by kernel_rfl) ?_
          clear hst hxq1 hxq2 hs1 hs1f
          generalize V0.setCell ⟨gx, goff + q, none⟩ (.slice A0 l0 c0) = W7 at HO7 HB7 hs2 hs2f ⊢
          have hcl := HCL.out
          have hfr : ∃ A c, Value.slice (some ⟨gx, goff, none⟩) xn cpx = .slice A (x.els.set q (elAt s 0)).length c ∧ ElsG W7 g A (x.els.set q (elAt s 0)) := by
            refine ElsG.fresh (cs := cs.set q (.slice A0 l0 c0)) HO7.out (by omega) (by rw [List.length_set]; exact HXN.out.symm) (fun i e he => ?_)
            by_cases hi : i = q
            · subst hi
              have hlt := (List.getElem?_eq_some_iff.1 he).1
              rw [List.length_set] at hlt
              rw [List.getElem?_set_self hlt] at he
              injection he with he
              subst he
              rw [HL0.out]
              exact ⟨A0, c0, List.getElem?_set_self (by omega), (RdG.of_B HRR0.out (Nat.le_of_lt hgw)).below HB7.out⟩
            · rw [List.getElem?_set_ne (fun e => hi e.symm)] at he
              obtain ⟨A', c', a, b⟩ := HPT.out i e he
              exact ⟨A', c', by rw [List.getElem?_set_ne (fun e => hi e.symm)]; exact a, b.below HB7.out⟩
          obtain ⟨Af, cf, ef, hEf⟩ := hfr
          injection ef with ef1 ef2 ef3
          subst ef1
          subst ef3
          have HP := Lib.hid (HSET.out W7 HB7.out (some ⟨gx, goff, none⟩) (x.els.set q (elAt s 0)) hEf cpx)
          have HBF := Lib.hid ((HB2.out.trans (HB7.out.mono HB2.out.size)).setCell (p := ⟨g, k * 2 + 1, none⟩) (Nat.le_of_lt hgw) (.slice (some ⟨gx, goff, none⟩) xn cpx))
          rw [← ef2] at HP
          have HLN2 : Hid ((L.set k ⟨x.tag, x.els.set q (elAt s 0)⟩).length = ns) := by show _ = _; rw [List.length_set]; exact HNS.out
          have HEF2 := Lib.hid ef2
          clear hEf ef2 hcl
          go_wp2_with fail
          go_meet
          exact ⟨_, _, _, _, rfl, HLN2.out, HSK.out.set k HFE.out.1 HFE.out.2, HP.out.at_, HBF.out⟩
        · have hr00 : s.els.length = 0 := by omega
          rw [hr00] at hraw1
          have hx1 : decide ((0 : Int) < (x.els.length : Int)) = true := by simp; omega
          clear HPUT HSET HKE HE2 hr00 hraw0p
          generalize x.els.length = xn at *
          go_wp2_with fail
          go_meet
          exact ⟨_, _, _, _, rfl, HNS.out, HSK.out.same, HSG.out.at_, HB2.out⟩
      · have hx0 : x.els.length = 0 := by omega
        rw [hx0] at hk1
        clear HPUT HSET HKE HE2 hx0 hxn0
        go_wp2_with fail
        go_meet
        exact ⟨_, _, _, _, rfl, HNS.out, HSK.out.same, HSG.out.at_, HB2.out⟩
  case rest =>
    obtain ⟨Ax, n, cx, lx, rfl, hn, hok, hat, hb⟩ := hcut
    obtain ⟨wd, rfl⟩ : ∃ x, x = wc := ⟨_, rfl⟩
    have HPA := parse_any Ax cx lx wd hat hok.n hok.f hok.c (HG.out.tab.below hb) (HG.out.err.below hb)
    have HRP := fun (W : World) (h : Below wd.heap.size wd W) => refParse_any Ax cx lx W ((hat.below h).mono h.size) hok.n hok.f hok.c
    have hpl : (parseP lx).1.list.length ≤ 64 := by unfold parseP; split; exact Nat.zero_le _; exact judge_len _ _ _
    rw [hn] at HPA HRP
    rw [← parse_same] at HRP
    have HPA := Lib.hid HPA
    have HRP := Lib.hid HRP
    unfold PRet at HPA HRP
    have HB := Lib.hid hb
    have hnb : n ≤ 1000000000 := by rw [← hn]; exact hok.n
    clear hok hat hb hn HSG HSK HNS HWA HWH HRAW2 HE2 HSF HCN HB2 hgs
    generalize parseP lx = p at *
    obtain ⟨pm, pe⟩ := p
    simp only at HPA HRP hpl
    have hee : (pe == pe) = true := by simp
    go_wp2_with fail
    refine HPA.out.mono ?_
    rintro e W4 ⟨A4, c4, rfl, ho4, hb4⟩
    have q5 := (Below.refl W4.heap.size W4).alloc (Nat.le_refl _) (.cells (msgC pm A4 c4) 24)
    have hM5 : MBlk (W4.alloc (.cells (msgC pm A4 c4) 24)) W4.heap.size pm A4 c4 := heap_alloc_new W4 _
    have HB5 := Lib.hid (hb4.trans (q5.mono hb4.size))
    have HR5 := Lib.hid ((own_intsP ho4).below q5)
    have HM5 := Lib.hid hM5
    clear ho4 hb4 HPA q5 hM5
    go_upto_region 16 with (fail)
    generalize hW : W4.alloc (.cells (msgC pm A4 c4) 24) = W5 at HB5 HR5 HM5 ⊢
    generalize hg5 : W4.heap.size = g5 at HM5 ⊢
    clear hW hg5
    go_wp2_with fail
    refine (HRP.out _ HB5.out).mono ?_
    rintro e W6 ⟨A6, c6, rfl, ho6, hb6⟩
    have q7 := (Below.refl W6.heap.size W6).alloc (Nat.le_refl _) (.cells (msgC pm A6 c6) 24)
    have hM7 : MBlk (W6.alloc (.cells (msgC pm A6 c6) 24)) W6.heap.size pm A6 c6 := heap_alloc_new W6 _
    have HB7 := Lib.hid ((HB5.out.trans (hb6.mono HB5.out.size)).trans (q7.mono (HB5.out.trans (hb6.mono HB5.out.size)).size))
    have HR7 := Lib.hid ((own_intsP ho6).below q7)
    have HM7 := Lib.hid hM7
    have HM57 := Lib.hid ((HM5.out.below hb6).below q7)
    have HR57 := Lib.hid ((HR5.out.below hb6).below q7)
    have hg56 : g5 < W6.heap.size := (HM5.out.below hb6).lt
    clear ho6 hb6 HRP q7 hM7 HB5 HR5 HM5
    go_upto_region 17 with (fail)
    generalize hW : W6.alloc (.cells (msgC pm A6 c6) 24) = W7 at HB7 HR7 HM7 HM57 HR57 ⊢
    generalize hg7 : W6.heap.size = g7 at HM7 hg56 ⊢
    clear hW hg7
    have HBF := Lib.hid (HB.out.trans (HB7.out.mono HB.out.size))
    obtain ⟨d0, d1, d2, d3, d4, d5, d6, d7, d8, d9, d10, d11, d12⟩ := HM57.out.all
    obtain ⟨e0, e1, e2, e3, e4, e5, e6, e7, e8, e9, e10, e11, e12⟩ := HM7.out.all
    go_wp2_with fail
    refine (sameM_yes pm A4 A6 c4 c6 W7 HR57.out HR7.out (by omega)).mono ?_
    rintro e W8 ⟨rfl, hb8⟩
    have HB8 := Lib.hid (HBF.out.trans (hb8.mono HBF.out.size))
    clear d0 d1 d2 d3 d4 d5 d6 d7 d8 d9 d10 d11 d12 e0 e1 e2 e3 e4 e5 e6 e7 e8 e9 e10 e11 e12
    go_wp2_with fail
    refine (awakeM_any W8 (HG.out.tab.below HB8.out)).mono ?_
    rintro e W9 ⟨rfl, hb9⟩
    have HB9 := Lib.hid (HB8.out.trans (hb9.mono HB8.out.size))
    go_wp2_with fail
    go_ret
    exact ⟨rfl, HB9.out⟩
end messageParse
end Go.Proofs.YtmjlnckmhdgoiaaDoor

/-! The law MessageParse: for every input the call returns true, and each argument reads afterwards as it read before. Condition: the listed package variables hold what the program lays in them (the card ties them to its text). -/
namespace Go.Proofs.YtmjlnckmhdgoiaaDoor.messageParse
open Go.ChangeShapes Go.WideShapes Go.ChangeAt Go.RowKit
set_option linter.unusedVariables false

theorem own : ownKnob Tryd.prog.godebug = none := by kernel_rfl
theorem laidOut : laidOutB Tryd.prog = true := by kernel_rfl

set_option maxRecDepth 100000 in
theorem contract (H : Type) (enc : TypeId × Value → H) (W : World) (base : Nat) (args : Array Value) (ds gs : List (DataW H)) (before : List MemPlace)
    (hval : ∀ (j : Nat) t v, Tryd.f8.params[j]? = some t → args[j]? = some v → Value.okWide Tryd.prog W .any base t v)
    (hW : DataW.Whole enc Tryd.prog Tryd.f8.params.toList Rows.messageParseSpec.vars false W args.toList ds gs before)
    (hsz : (DataW.weightsEach Tryd.prog (Tryd.f8.params.toList ++ (OpenSpec.ofChange Rows.messageParseSpec).bare.plain.varTypes Tryd.prog) (ds ++ gs)).all (· ≤ reachBytes) = true)
    (hL : laidMetH Tryd.prog Rows.messageParseRow.laid W) :
    Calls Tryd.prog 8 args W fun e W' => ∃ v, e = .returned v ∧ Rows.messageParseSpec.post enc Tryd.prog Tryd.f8 false true false false W args v W' := by
  have hW' := hW
  obtain ⟨p, q, hA0, hV, rfl, hfz, hnd⟩ := hW
  have hA : DataW.TrodAll enc Tryd.prog W 0 (fun _ => true) true Tryd.f8.params.toList args.toList ds p := hA0
  rw [Tryd.params8] at hA hval hsz
  obtain ⟨v0, vs0, d0, ds0, p0, q0, hargs, rfl, rfl, h0, r0⟩ := trodAll_cons hA
  obtain ⟨v1, vs1, d1, ds1, p1, q1, rfl, rfl, rfl, h1, r1⟩ := trodAll_cons r0
  obtain ⟨v2, vs2, d2, ds2, p2, q2, rfl, rfl, rfl, h2, r2⟩ := trodAll_cons r1
  obtain ⟨v3, vs3, d3, ds3, p3, q3, rfl, rfl, rfl, h3, r3⟩ := trodAll_cons r2
  obtain ⟨rfl, rfl, rfl⟩ := trodAll_nil r3
  obtain rfl : args = #[v0, v1, v2, v3] := by cases args; simp_all
  obtain ⟨rfl, rfl⟩ := trodVars_none hV
  have hsz2 : (DataW.weightsEach Tryd.prog [22, 49, 3, 3] [d0, d1, d2, d3]).all (· ≤ reachBytes) = true := hsz
  have s0 : (DataW.weights Tryd.prog 22 d0).all (· ≤ reachBytes) = true := by
    have h := hsz2
    simp only [DataW.weightsEach, List.all_append, Bool.and_eq_true] at h
    exact h.1
  obtain ⟨A0, c0, l0, rfl, y0⟩ := open_slI Tryd.underlying22 Tryd.underlying3 (by kernel_rfl) (by kernel_rfl) (hval 0 22 v0 rfl rfl) h0 s0
  have s1 : (DataW.weights Tryd.prog 49 d1).all (· ≤ reachBytes) = true := by
    have h := hsz2
    simp only [DataW.weightsEach, List.all_append, Bool.and_eq_true] at h
    exact h.2.1
  obtain ⟨t1, A1, c1, rfl, y1, z1, x1, u1⟩ := open_segW (hval 1 49 v1 rfl rfl) h1 s1
  obtain ⟨a2, rfl, rfl, rfl, w2⟩ := open_int Tryd.underlying3 (hval 2 3 v2 rfl rfl) h2
  obtain ⟨a3, rfl, rfl, rfl, w3⟩ := open_int Tryd.underlying3 (hval 3 3 v3 rfl rfl) h3
  refine (walkMessageParse A0 c0 l0 t1 A1 c1 a2 a3 W y0 y1 z1 x1 u1 (wf_bd w2) (wf_bd w3) hL).mono fun e W' ⟨he, bel⟩ => ?_
  subst he
  exact ⟨_, rfl, law_post laidOut (by kernel_rfl) rfl 4 rfl Tryd.underlying4 hW' (fun _ h => by subst h; exact ⟨rfl, rfl, rfl⟩) bel⟩

/-- a world for the witness: the settled one, the listed variables holding what their initialisers lay -/
noncomputable def low : Nat := (World.holding Tryd.prog default ⟨#[], #[], []⟩).heap.size
noncomputable def laidWorld (os : Os) : World := { World.holding Tryd.prog os ⟨#[.cells #[.string { data := #[118, 97, 108, 117, 101, 32, 111, 117, 116, 32, 111, 102, 32, 114, 97, 110, 103, 101] }] 140, .cells #[.string { data := #[105, 110, 118, 97, 108, 105, 100, 32, 115, 121, 110, 116, 97, 120] }] 140], #[], []⟩ with heap := ((((((World.holding Tryd.prog os ⟨#[.cells #[.string { data := #[118, 97, 108, 117, 101, 32, 111, 117, 116, 32, 111, 102, 32, 114, 97, 110, 103, 101] }] 140, .cells #[.string { data := #[105, 110, 118, 97, 108, 105, 100, 32, 115, 121, 110, 116, 97, 120] }] 140], #[], []⟩).heap).modify 3 fun | .cells _ t frozen => .cells (litCells Rows.laid_math_bits_deBruijn32tab) t frozen | o => o).modify 4 fun | .cells _ t frozen => .cells (litCells Rows.laid_math_bits_deBruijn64tab) t frozen | o => o).modify 0 fun | .cells _ t frozen => .cells (litCells Rows.laid_internal_strconv_uint64pow10) t frozen | o => o).modify 2 fun | .cells _ t frozen => .cells #[.iface 138 (.pointer (some ⟨low, 0, none⟩))] t frozen | o => o).modify 1 fun | .cells _ t frozen => .cells #[.iface 138 (.pointer (some ⟨low + 1, 0, none⟩))] t frozen | o => o }
theorem laid_met (os : Os) : laidMet Tryd.prog Rows.messageParseRow.laid ((laidWorld os).forCall (fun _ _ => 0) ⟨#[], #[.slice none 0 0, .agg #[.string ⟨#[]⟩, .slice none 0 0], .int .i64 0, .int .i64 0], []⟩).memory :=
  laidMet_of_run' 8 (by kernel_rfl) (by kernel_rfl)
theorem reads (os : Os) {H : Type} (enc : TypeId × Value → H) : ∃ places, DataW.whole enc Tryd.prog ((laidWorld os).forCall (fun _ _ => 0) ⟨#[], #[.slice none 0 0, .agg #[.string ⟨#[]⟩, .slice none 0 0], .int .i64 0, .int .i64 0], []⟩).memory Tryd.f8.params.toList Rows.messageParseSpec.vars false #[.slice none 0 0, .agg #[.string ⟨#[]⟩, .slice none 0 0], .int .i64 0, .int .i64 0].toList 8 = some ([.nil, .agg [.lit (.string []), .nil], .lit (.int .i64 0), .lit (.int .i64 0)], [], places) :=
  ⟨[], by kernel_rfl⟩

set_option maxRecDepth 100000 in
theorem lifted (os : Os) (started : os.Started) (H : Type) (enc : TypeId × Value → H) (F : Stop.Interp) :
    ReturnsInHanded {} Tryd.checked os 8 .any ((OpenSpec.ofChange Rows.messageParseSpec).preRow enc Tryd.prog Tryd.f8 Rows.messageParseRow.domain false Rows.messageParseRow.laid) (((OpenSpec.ofChange Rows.messageParseSpec).at F).post enc Tryd.prog Tryd.f8 false true false false) := by
  obtain ⟨places, hx⟩ := reads os enc
  refine returnsInHanded_of_row (C := Tryd.checked) (s := OpenSpec.ofChange Rows.messageParseSpec) own started (by kernel_rfl) Tryd.func8
    (witness_row_at (enc := enc) (C := Tryd.checked) false (laidWorld os) #[.slice none 0 0, .agg #[.string ⟨#[]⟩, .slice none 0 0], .int .i64 0, .int .i64 0] rfl (by kernel_rfl) (by kernel_rfl) (by kernel_rfl)
      (OpenSpec.preRow_of_cond 8 hx (by kernel_rfl) (fun k hk => by cases hk) (by kernel_rfl) (laid_met os))) ?_
  intro W base args ds gs before hval hW _ _ hsz hL _ _
  exact contract H enc W base args ds gs before hval hW hsz hL

theorem said : Rows.MessageParseSaid :=
  OpenClaim.holds_of_cond 8 Tryd.f8 rfl rfl rfl rfl rfl rfl rfl ⟨rfl, rfl, rfl, rfl, rfl⟩ rfl rfl rfl rfl rfl (by kernel_rfl) Tryd.func8 (by kernel_rfl)
    (of_decide_eq_true (by kernel_rfl)) (by unfold Func.isWrapper; first | (rw [if_pos (by decide +kernel)]; kernel_rfl) | (rw [if_neg (by decide +kernel)]; exact ⟨rfl, rfl⟩))
    (fun os started H enc _ F => by rw [OpenClaim.pre_eq_preRow]; exact lifted os started H enc F)

theorem plain (f : FuncId) (fn : Func) (hf : Tryd.pinned.checked.prog.funcNamed "customs/customslaw07.MessageParse" = some f) (hfn : Tryd.pinned.checked.prog.funcs[f]? = some fn) :
    true = Tryd.pinned.checked.prog.looks [] ∧ ∀ (j : Nat) t, fn.params[j]? = some t → Tryd.pinned.checked.prog.wantsStandIn t = false := by
  obtain rfl : f = 8 := Option.some.inj ((show Tryd.prog.funcNamed "customs/customslaw07.MessageParse" = some 8 by kernel_rfl).symm.trans hf) |>.symm
  obtain rfl : fn = Tryd.f8 := (Option.some.inj (Tryd.func8.symm.trans hfn)).symm
  refine ⟨by kernel_rfl, fun j t ht => ?_⟩
  have hall : Tryd.f8.params.toList.all (fun t => !Tryd.prog.wantsStandIn t) = true := by kernel_rfl
  have := List.all_eq_true.1 hall t (by simpa using Array.mem_of_getElem? ht)
  exact (show Tryd.prog.wantsStandIn t = false by simpa using this)
theorem card : Rows.MessageParseCardSaid :=
  Claim7.holds_tied_plain_at .later [] _ _ _ _ said (fun _ h => by cases h) (by kernel_rfl) (fun _ h => by cases h) messageParse_row_tie rfl ⟨rfl, rfl⟩ (by kernel_rfl) rfl plain (by kernel_rfl)
#print axioms card
end Go.Proofs.YtmjlnckmhdgoiaaDoor.messageParse
