/- The contract of customsmade.Order. -/
import Derived.Test.YtecmpkcjeaiknaaTw
import Derived.Test.YtecmpkcjeaiknaaOrd
namespace Go.Proofs.Ytecmpkcjeaiknaa
open Go.RowKit
set_option linter.unusedVariables false

def InN (n : Nat) (l : List Int) : Prop := ∀ x ∈ l, 0 ≤ x ∧ x < n
def OrRel1 (w : World) (A : Option Addr) (c : Nat) (l : List Int) (n : Nat) (m : Nat) (v i : Value) (wr : World) : Prop := ∃ (k : Nat) (L : List Int), k + m = n ∧ i = .int .i64 (k : Int) ∧ OwnX wr (w.heap.size + 1) 3 1 v L.length (ints L) ∧ InN n L ∧ L.length = k ∧ Src wr w.heap.size A c l 0 ∧ Below w.heap.size w wr
def OrRel2 (w : World) (A : Option Addr) (c : Nat) (l : List Int) (n : Nat) (m : Nat) (vl vo : Value) (wr : World) : Prop := ∃ (L R : List Int) (i : Nat), L.length = m ∧ OwnX wr (w.heap.size + 1) 3 1 vl L.length (ints L) ∧ OwnX wr (w.heap.size + 1) 3 1 vo R.length (ints R) ∧ (vl.ownBlock = none ∨ vo.ownBlock = none ∨ vl.ownBlock ≠ vo.ownBlock) ∧ InN n L ∧ InN n R ∧ L.length + R.length = n ∧ Src wr w.heap.size A c l i ∧ Below w.heap.size w wr
theorem own_len2 {w : World} {B : Nat} {A : Option Addr} {k c : Nat} {L : List Int} (h : OwnX w B 3 1 (.slice A (k + (L.length - (k + 1))) c) (k + (L.length - (k + 1))) (ints (L.take k) ++ ints (L.drop (k + 1)))) (hk : k < L.length) : OwnX w B 3 1 (.slice A (k + (L.length - (k + 1))) c) (L.take k ++ L.drop (k + 1)).length (ints (L.take k ++ L.drop (k + 1))) := by
  have e1 : ints (L.take k ++ L.drop (k + 1)) = ints (L.take k) ++ ints (L.drop (k + 1)) := by simp [ints]
  have e2 : (L.take k ++ L.drop (k + 1)).length = k + (L.length - (k + 1)) := by rw [List.length_append, List.length_take, List.length_drop]; omega
  rw [e1, e2]
  exact h
theorem OwnX.rd_ {w : World} {B : Nat} {e : TypeId} {s n c : Nat} {A : Option Addr} {xs : List Value} (h : OwnX w B e s (.slice A n c) n xs) : Rd w A xs ∧ n ≤ c := by
  obtain ⟨A', c', e, h1, h2, _⟩ := h.shape
  injection e with e1 _ e3
  subst e1; subst e3
  exact ⟨h1, h2⟩
theorem rows_fresh {V w3 : World} {b1 b2 : Nat} {e e' : TypeId} {s s' n n' : Nat} {v u : Value} {xs ys : List Value} (hl : OwnX V b1 e s v n xs) (ho : OwnX w3 b2 e' s' u n' ys) (hb : w3.heap.size ≤ b1) : v.ownBlock = none ∨ u.ownBlock = none ∨ v.ownBlock ≠ u.ownBlock := by
  cases hA : v.ownBlock with
  | none => exact .inl rfl
  | some g =>
    have h1 := (hl.block_lt hA).1
    refine .inr (.inr fun e => ?_)
    have := (ho.block_lt e.symm).2
    omega
def OrdRet (n : Nat) (w : World) (e : Ending) (w' : World) : Prop := ∃ v R, e = .returned v ∧ IntsAt w' v R ∧ InN n R ∧ R.length ≤ n ∧ Below w.heap.size w w'
set_option maxRecDepth 100000 in
set_option maxHeartbeats 4000000 in
theorem order_any (n : Nat) (A : Option Addr) (c : Nat) (l : List Int) (w : World) (h : SlI w A c l) (hn : n ≤ 60) :
    Calls Try.prog 24 #[.int .i64 (n : Int), .slice A l.length c] w (OrdRet n w) := by
  have hll := h.lt
  have q0 := (Below.refl w.heap.size w).alloc (Nat.le_refl _) (.cells #[.slice A l.length c, .int .i64 0] 69)
  have HS00 : Hid (Src (w.alloc (.cells #[.slice A l.length c, .int .i64 0] 69)) w.heap.size A c l 0) := Lib.hid ⟨heap_alloc_new w _, Nat.zero_le _, (RdB.of_rd h.rd).below q0, by omega⟩
  have HQ0 := Lib.hid q0
  obtain ⟨i0, hi0, hz0, hz1, hz2⟩ := info_parts intInfo
  clear h q0 hll
  go_enter Try.func24, Try.ntmps24
  go_wp2
  generalize hW0 : w.alloc (.cells #[.slice A l.length c, .int .i64 0] 69) = W0 at *
  go_loopg [6, 8] n (fun m v i wr => OrRel1 w A c l n m v i wr)
  case atStart => exact ⟨0, [], by omega, rfl, OwnX.nil_ _ _ _ _, fun x hx => (by cases hx), rfl, HS00.out, HQ0.out⟩
  case round =>
    clear HS00 HQ0 hW0
    obtain ⟨k, L, hk, rfl, ho, hw, hll, hS, hb⟩ := hrel
    have HK := Lib.hid hk
    have HO := Lib.hid ho
    have HW := Lib.hid hw
    have HLL := Lib.hid hll
    have HS := Lib.hid hS
    have HB := Lib.hid hb
    have hk2 : k ≤ n := by omega
    obtain ⟨Av, cv, rfl, -, -, -⟩ := ho.shape
    clear hk ho hw hll hS hb
    by_cases hlt : k < n
    · have s1 : (k : Int) < n := by omega
      go_wp2_with (at_builtin; refine wpList_append_one wr rfl (.tmp 18) (.tmp 20) 25 rfl (w.heap.size + 1) 3 i0 _ 1 8 Try.underlying25 hi0 hz0 hz1 hz2 rfl (by omega) _ L.length (ints L) [.int .i64 (k : Int)] rfl (by intro u hu; rw [List.mem_singleton] at hu; subst hu; rfl) rfl HO.out rfl (by have := HLL.out; unfold maxLen; omega) (by have := HLL.out; omega) HS.out.lt ?_; intro v2 w3 hown2 hg2 hbl; have HOn := Lib.hid (own_snoc' hown2); have HSn := Lib.hid (HS.out.grown_ hg2 (fun e => by have := (HO.out.block_lt e).1; omega) (fun q e => (HO.out.block_lt e).1)); have HBn := Lib.hid (HB.out.trans (Below.of_grown hg2 w.heap.size HB.out.size (fun g e => by have := (HO.out.block_lt e).1; omega))); clear hown2 hg2 hbl)
      go_roundg (n - (k + 1))
      case measure => have := HK.out; omega
      case rel => exact ⟨k + 1, L ++ [(k : Int)], by have := HK.out; omega, by go_num, HOn.out, fun x hx => by
        rcases List.mem_append.1 hx with hx | hx
        · exact HW.out x hx
        · rw [List.mem_singleton] at hx; subst hx; omega, by have := HLL.out; simp; omega, HSn.out, HBn.out⟩
    · have s1 : ¬ (k : Int) < n := by omega
      have HLN : Hid (L.length = n) := Lib.hid (by have := HLL.out; omega)
      clear HLL HK hlt
      go_wp2
      generalize wr = wo at *
      go_loopg [6, 7] n (fun m vl vo wr => OrRel2 w A c l n m vl vo wr)
      case atStart => exact ⟨L, [], 0, HLN.out, HO.out, OwnX.nil_ _ _ _ _, .inr (.inl rfl), HW.out, fun x hx => (by cases hx), by have := HLN.out; simp; omega, HS.out, HB.out⟩
      case round =>
        clear HO HW HS HB HLN s1 hk2
        obtain ⟨L, R, i, hm, hl1, ho, hne, hwl, hwr, hlr, hS, hb⟩ := hrel
        have HM := Lib.hid hm
        have HL := Lib.hid hl1
        have HO := Lib.hid ho
        have HN := Lib.hid hne
        have HWL := Lib.hid hwl
        have HWR := Lib.hid hwr
        have HLR := Lib.hid hlr
        have HS := Lib.hid hS
        have HB := Lib.hid hb
        have hLn : L.length ≤ 60 := by omega
        have hRn : R.length ≤ 60 := by omega
        obtain ⟨AL, cL, rfl, -, -, hcm⟩ := hl1.shape
        obtain ⟨AO, cO, rfl, -, -, -⟩ := ho.shape
        have HCM := Lib.hid hcm
        clear hm hl1 ho hne hwl hwr hlr hS hb hcm
        by_cases hlt : 0 < L.length
        · have s1 : (0 : Int) < L.length := by omega
          go_wp2_with fail
          refine (srcNext_any w.heap.size A c l i L.length _ HS.out (by omega) (by omega)).mono ?_
          rintro e w1 ⟨y, i2, rfl, hy0, hy1, hS1, hT, hF⟩
          obtain ⟨k, rfl⟩ : ∃ k : Nat, y = k := ⟨y.toNat, by omega⟩
          have HL1 := Lib.hid (HL.out.kept hT (.inr (fun e => by have := (HL.out.block_lt e).1; omega)))
          have HO1 := Lib.hid (HO.out.kept hT (.inr (fun e => by have := (HO.out.block_lt e).1; omega)))
          have HB1 := Lib.hid (HB.out.trans (hT.below (Nat.le_refl _) HB.out.size))
          have HS1 := Lib.hid hS1
          have hkL : k < L.length := by omega
          obtain ⟨hrd, hlc⟩ := HL1.out.rd_
          obtain ⟨bk, ofk, rfl, hcell⟩ := hrd.int hkL
          have HX := Lib.hid (show 0 ≤ L[k]?.getD 0 ∧ L[k]?.getD 0 < n from HWL.out _ (by rw [List.getElem?_eq_getElem hkL]; exact List.getElem_mem hkL))
          have HLC := Lib.hid hlc
          generalize L[k]?.getD 0 = x at *
          clear hT hS1 hF hrd hlc hy0 hy1
          go_wp2_with (first
            | (at_builtin; refine wpList_append_one w1 rfl (.tmp 29) (.tmp 34) 25 rfl (w.heap.size + 1) 3 i0 _ 1 8 Try.underlying25 hi0 hz0 hz1 hz2 rfl (by omega) _ R.length (ints R) [.int .i64 x] rfl (by intro u hu; rw [List.mem_singleton] at hu; subst hu; rfl) rfl HO1.out rfl (by unfold maxLen; omega) (by omega) HS1.out.lt ?_; intro v3 w3 hown2 hg2 hbl; have HOn := Lib.hid (own_snoc' hown2); have HLn := Lib.hid (HL1.out.kept hg2 (rows_or (rows_sym HN.out))); have HSn := Lib.hid (HS1.out.grown_ hg2 (fun e => by have := (HO1.out.block_lt e).1; omega) (fun q e => (HO1.out.block_lt e).1)); have HBn := Lib.hid (HB1.out.trans (Below.of_grown hg2 w.heap.size HB1.out.size (fun g e => by have := (HO1.out.block_lt e).1; omega))); clear hown2 hg2 hbl hcell))
          have hkc : k < cL := by have := HLC.out; omega
          have hcm := HCM.out
          have hlc := HLC.out
          have s2 : (k : Int) ≤ cL := by omega
          have s3 : k ≤ cL := by omega
          have HT := Lib.hid (fun (W : World) (hb : Below w3.heap.size w3 W) => rd_take (HLn.out.rd_.1.below hb) k)
          have HDR := Lib.hid (fun (W : World) (hb : Below w3.heap.size w3 W) => rd_cut (k := k + 1) (HLn.out.rd_.1.below hb) hlc)
          have hcut : ∀ W : World, (Instr.slice 25 (.slice (some (⟨bk, ofk, none⟩ : Addr)) L.length cL) (some (.int .i64 ((k : Int) + 1))) none none).run Try.prog W = .ok (.slice (if cL = k + 1 then (some (⟨bk, ofk, none⟩ : Addr)) else ((some (⟨bk, ofk, none⟩ : Addr))).map (·.add ((k + 1) * 1))) (L.length - (k + 1)) (cL - (k + 1))) W := fun W => by
            rw [show ((k : Int) + 1) = ((k + 1 : Nat) : Int) by omega]
            exact run_cut (P := Try.prog) W 25 3 1 Try.underlying25 (by kernel_rfl) (by kernel_rfl) (some (⟨bk, ofk, none⟩ : Addr)) L.length cL (k + 1) (by omega)
          generalize (if cL = k + 1 then (some (⟨bk, ofk, none⟩ : Addr)) else ((some (⟨bk, ofk, none⟩ : Addr))).map (·.add ((k + 1) * 1))) = AK at HDR hcut
          have hwr : IntKind.i64.wrap ((k : Int) + 1) = (k : Int) + 1 := IntWalk.i64_in _ (by omega)
          go_wp2
          refine wp_region_x 10 (by kernel_rfl) (fun w' => Below w3.heap.size w3 w') ?_
          have hq : Hid (Below w3.heap.size w3 w3.drew) := (Below.refl _ _).drew
          have hsz : Hid (w3.heap.size ≤ w3.drew.heap.size) := Nat.le_refl _
          generalize hV : w3.drew = V0 at hq hsz ⊢
          clear hV
          refine wpAnyX_take (i := 1) (v := .slice (some (⟨bk, ofk, none⟩ : Addr)) L.length cL) rfl (by kernel_rfl) (by kernel_rfl) (by kernel_rfl) (by kernel_rfl) (fun _ _ _ h => h) hq.out (Or.inl ⟨by rfl, fun w hS => by obtain ⟨rc, rf⟩ := below_cell hS rfl; go_simp⟩) ?_
          go_simp
          refine wpAnyX_take (i := 2) (v := .int .i64 (k : Int)) rfl (by kernel_rfl) (by kernel_rfl) (by kernel_rfl) (by kernel_rfl) (fun _ _ _ h => h) hq.out (Or.inl ⟨by rfl, fun w hS => by obtain ⟨rc, rf⟩ := below_cell hS rfl; go_simp⟩) ?_
          go_simp
          refine wpAnyX_take (i := 3) (v := .slice (some (⟨bk, ofk, none⟩ : Addr)) k cL) rfl (by kernel_rfl) (by kernel_rfl) (by kernel_rfl) (by kernel_rfl) (fun _ _ _ h => h) hq.out (Or.inl ⟨by rfl, fun w hS => by obtain ⟨rc, rf⟩ := below_cell hS rfl; go_simp⟩) ?_
          go_simp
          refine wpAnyX_take (i := 5) (v := .slice (some (⟨bk, ofk, none⟩ : Addr)) L.length cL) rfl (by kernel_rfl) (by kernel_rfl) (by kernel_rfl) (by kernel_rfl) (fun _ _ _ h => h) hq.out (Or.inl ⟨by rfl, fun w hS => by obtain ⟨rc, rf⟩ := below_cell hS rfl; go_simp⟩) ?_
          go_simp
          refine wpAnyX_take (i := 6) (v := .int .i64 (k : Int)) rfl (by kernel_rfl) (by kernel_rfl) (by kernel_rfl) (by kernel_rfl) (fun _ _ _ h => h) hq.out (Or.inl ⟨by rfl, fun w hS => by obtain ⟨rc, rf⟩ := below_cell hS rfl; go_simp⟩) ?_
          go_simp
          refine wpAnyX_take (i := 7) (v := .int .i64 ((k : Int) + 1)) rfl (by kernel_rfl) (by kernel_rfl) (by kernel_rfl) (by kernel_rfl) (fun _ _ _ h => h) hq.out (Or.inl ⟨by rfl, fun w hS => by obtain ⟨rc, rf⟩ := below_cell hS rfl; go_simp⟩) ?_
          go_simp
          refine wpAnyX_take (i := 8) (v := .slice AK (L.length - (k + 1)) (cL - (k + 1))) rfl (by kernel_rfl) (by kernel_rfl) (by kernel_rfl) (by kernel_rfl) (fun _ _ _ h => h) hq.out (Or.inl ⟨by rfl, fun w hS => by obtain ⟨rc, rf⟩ := below_cell hS rfl; go_simp⟩) ?_
          go_simp
          refine wpAnyX_one (i := 0) (by kernel_rfl) rfl (fun K hK => ?_)
          go_simp
          have hsz0 := hsz
          have hb : Below V0.heap.size V0 (V0.alloc (.cells #[] 3)) := (Below.refl _ _).alloc (Nat.le_refl _) _
          have hq := Lib.hid (hq.out.trans (hb.mono hsz.out))
          have hsz := Lib.hid (Nat.le_trans hsz.out hb.size)
          have hO := Lib.hid (OwnX.lit0 V0 _ 3 1 hsz0.out)
          have hOge : Hid (w3.heap.size ≤ V0.heap.size) := hsz0.out
          refine hK.out _ _ (fun _ => hq.out) ?_
          clear hK K hb hsz0
          generalize hV : (V0.alloc (.cells #[] 3)) = V1 at hO hOge hq hsz ⊢
          clear hV
          generalize hV : V0.heap.size = g0 at hO hOge hq hsz ⊢
          clear hV
          refine wpAnyX_one (i := 4) (by kernel_rfl) rfl (fun K hK => ?_)
          refine step_append_zero V1 (by rfl) (.tmp 36) (.tmp 39) 25 (by rfl) _ 3 i0 _ 1 8 Try.underlying25 hi0 hz0 hz1 hz2 rfl (by omega) g0 0 (by rfl) hO.out (some (⟨bk, ofk, none⟩ : Addr)) k cL (ints (L.take k)) (by rfl) (by rw [ints_len, List.length_take]; omega) (HT.out _ hq.out) (ints_one _) (by unfold maxLen; omega) (by omega) hsz.out ?_
          intro v w1 hown hb
          clear hO
          have hq := Lib.hid (hq.out.trans (hb.mono hsz.out))
          have hsz := Lib.hid (Nat.le_trans hsz.out hb.size)
          obtain ⟨A1, c1, rfl, _⟩ := OwnX.shape hown
          have hP := Lib.hid hown
          clear hown
          refine hK.out _ _ (fun _ => hq.out) ?_
          clear hK K hb
          go_simp
          generalize w1 = V2 at *
          refine wpAnyX_one (i := 9) (by kernel_rfl) rfl (fun K hK => ?_)
          refine step_append_x V2 (by rfl) (.tmp 40) (.tmp 44) 25 (by rfl) _ 3 i0 _ 1 8 Try.underlying25 hi0 hz0 hz1 hz2 rfl (by omega) (.slice A1 k c1) k (ints (L.take k)) (by rfl) hP.out AK (L.length - (k + 1)) (cL - (k + 1)) (ints (L.drop (k + 1))) (by rfl) (by rw [ints_len, List.length_drop]; omega) (HDR.out _ hq.out) (ints_one _) (by unfold maxLen; omega) (by omega) hsz.out ?_
          intro v w1 hown hg
          have hq := Lib.hid (hq.out.grown hg hsz.out (fun j e => (hP.out.block_lt e).1))
          have hsz := Lib.hid (Nat.le_trans hsz.out hg.size)
          clear hP
          obtain ⟨A3, c3, rfl, _⟩ := OwnX.shape hown
          have hR := Lib.hid hown
          clear hown hg
          refine hK.out _ _ (fun _ => hq.out) ?_
          clear hK K
          go_simp
          generalize w1 = V3 at *
          refine wpAnyX_one (i := 10) (by kernel_rfl) rfl (fun K hK => ?_)
          go_simp
          refine hK.out _ _ (fun h => absurd rfl h) ?_
          clear hK K
          refine wpAnyX_done (by kernel_rfl) ?_
          go_wp2
          go_roundg (L.length - 1)
          case measure => have := HM.out; omega
          case rel => exact ⟨L.take k ++ L.drop (k + 1), R ++ [x], i2, by rw [List.length_append, List.length_take, List.length_drop]; omega, (own_len2 hR.out hkL).mono HSn.out.lt, HOn.out.below hq.out, rows_fresh hR.out HOn.out (Nat.le_refl _), fun z hz => by
            rcases List.mem_append.1 hz with hz | hz
            · exact HWL.out z (List.mem_of_mem_take hz)
            · exact HWL.out z (List.mem_of_mem_drop hz), fun z hz => by
            rcases List.mem_append.1 hz with hz | hz
            · exact HWR.out z hz
            · rw [List.mem_singleton] at hz; subst hz; exact HX.out, by have := HLR.out; rw [List.length_append, List.length_append, List.length_take, List.length_drop, List.length_singleton]; omega, HSn.out.below hq.out, HBn.out.trans (hq.out.mono HBn.out.size)⟩
        · have s1 : ¬ (0 : Int) < L.length := by omega
          go_wp2
          go_ret
          exact ⟨_, R, rfl, IntsAt.of_own HO.out (by omega), HWR.out, by have := HLR.out; omega, HB.out⟩
end Go.Proofs.Ytecmpkcjeaiknaa
