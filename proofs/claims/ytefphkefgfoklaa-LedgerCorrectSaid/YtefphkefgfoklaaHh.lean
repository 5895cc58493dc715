/- The contract of Correct: up to the goals. -/
import Derived.Test.YtefphkefgfoklaaHc
import Derived.Test.YtefphkefgfoklaaHf
import Derived.Test.YtefphkefgfoklaaHg
import Derived.Test.YtefphkefgfoklaaHi
import Derived.Maps.RangeWalk
namespace Go.Proofs.Ytefphkefgfoklaa
open Go.RowKit Go.Maps
set_option linter.unusedVariables false

theorem corE_led {l : List En} {day cause : Int} {t : List Tg} (h : ledF l ≠ 0) : corE l day cause t = ledF l := by unfold corE; rw [if_pos h]
theorem corE_chk {l : List En} {day cause : Int} {t : List Tg} (h : ledF l = 0) (h2 : chkF day cause t ≠ 0) : corE l day cause t = chkF day cause t := by unfold corE; rw [if_neg (fun h' => h' h), if_pos h2]
theorem corE_big {l : List En} {day cause : Int} {t : List Tg} (h : ledF l = 0) (h2 : chkF day cause t = 0) (h3 : bigB (allF l t (lotsF l t)) = true) : corE l day cause t = 16 := by unfold corE; rw [if_neg (fun h' => h' h), if_neg (fun h' => h' h2), if_pos h3]
theorem corE_rest {l : List En} {day cause : Int} {t : List Tg} (h : ledF l = 0) (h2 : chkF day cause t = 0) (h3 : bigB (allF l t (lotsF l t)) = false) : corE l day cause t = if 2000 < l.length + (allF l t (lotsF l t)).length then 8 else 0 := by
  unfold corE; rw [if_neg (fun h' => h' h), if_neg (fun h' => h' h2), if_neg (by simp [h3])]
theorem chk_zero {day cause : Int} {t : List Tg} (h : chkF day cause t = 0) : (0 ≤ day ∧ day ≤ 36524) ∧ (0 ≤ cause ∧ cause ≤ 1000000000) ∧ t.length ≤ 256 ∧ (∀ g ∈ t, tgB g = true) ∧ Uniq t := by
  unfold chkF at h
  by_cases h1 : (0 ≤ day ∧ day ≤ 36524) ∧ (0 ≤ cause ∧ cause ≤ 1000000000)
  · rw [if_pos h1] at h
    by_cases h2 : 256 < t.length
    · rw [if_pos h2] at h; cases h
    rw [if_neg h2] at h
    by_cases h3 : t.all tgB = true
    · rw [if_pos h3] at h
      by_cases h4 : ascB t = true
      · exact ⟨h1.1, h1.2, by omega, fun g hg => List.all_eq_true.1 h3 g hg, uniq_of_asc (fun i j hij hj => ascUp_lt h4 i j hij hj)⟩
      · rw [if_neg h4] at h; cases h
    · rw [if_neg h3] at h; cases h
  · rw [if_neg h1] at h; cases h
def CorRet (l : List En) (day cause : Int) (t : List Tg) (w : World) (e : Ending) (w' : World) : Prop :=
  ∃ v, e = .returned (.tuple #[v, .int .i64 (corE l day cause t)]) ∧ Below w.heap.size w w' ∧ (corE l day cause t ≠ 0 → v = .slice none 0 0) ∧ (corE l day cause t = 0 → EnsAt 0 w' v (corF l day cause t))
theorem cor_bad {l : List En} {day cause : Int} {t : List Tg} {w w' : World} {m : Int} (hm : corE l day cause t = m) (h0 : m ≠ 0) (hb : Below w.heap.size w w') : CorRet l day cause t w (.returned (.tuple #[.slice none 0 0, .int .i64 m])) w' :=
  ⟨_, by rw [hm], hb, fun _ => rfl, fun h => absurd (hm.symm.trans h) h0⟩
theorem cor_fin {l : List En} {day cause : Int} {t : List Tg} (h : ledF l = 0) (h2 : chkF day cause t = 0) (h3 : bigB (allF l t (lotsF l t)) = false) :
    (2000 < l.length + (allF l t (lotsF l t)).length → corE l day cause t = 8) ∧ (¬ 2000 < l.length + (allF l t (lotsF l t)).length → corE l day cause t = 0) := by
  rw [corE_rest h h2 h3]
  exact ⟨fun h => if_pos h, fun h => if_neg h⟩
theorem gM_ext {l : List En} {p q : Int → Bool} (h : ∀ y, hasLot l y = true → p y = q y) : gM l p = gM l q := by
  funext y
  unfold gM
  by_cases hy : hasLot l y = true
  · rw [h y hy]
  · rw [if_neg (fun h => hy h.1), if_neg (fun h => hy h.1)]
/-- one more lot has come -/
theorem gM_step {l : List En} {left : Lit → Bool} {x : Int} (hx : hasLot l x = true) : (fun y => if y = x then some (baV x .zero) else gM l (fun y => !left (.int .i64 y)) y) = gM l (fun y => !(left (.int .i64 y) && !(Lit.int .i64 y).sameKey (.int .i64 x))) := by
  funext y
  unfold gM
  by_cases hy : y = x
  · subst hy
    rw [if_pos rfl, if_pos ⟨hx, by simp [Lit.sameKey]⟩]
  · rw [if_neg hy]
    have : (Lit.int .i64 y).sameKey (.int .i64 x) = false := by simp [Lit.sameKey, hy]
    simp only [this, Bool.not_false, Bool.and_true]
theorem gM_start {l : List En} {D : DataW Value} (hv : ledF l = 0) (hs : ∀ x, (Lit.int .i64 x).wf = true → Maps.has D (.int .i64 x) = (balM l x).isSome ∧ ∀ z, D.atKey (.int .i64 x) z = ((balM l x).map DataW.held).getD z)
    (hbd : ∀ y, hasLot l y = true → 1 ≤ y ∧ y ≤ 1000000) : gM l (fun y => !Maps.has D (.int .i64 y)) = fun _ => none := by
  funext y
  unfold gM
  by_cases hy : hasLot l y = true
  · have h1 := hbd y hy
    have h2 := (hs y (wf_i64 (by omega) (by omega))).1
    unfold balM at h2
    rw [if_pos hy] at h2
    simp only [Option.isSome_some] at h2
    rw [if_neg (fun h => by have := h.2; simp [h2] at this)]
  · rw [if_neg (fun h => hy h.1)]
theorem hasLot_bd {l : List En} (hv : ledF l = 0) {y : Int} (h : hasLot l y = true) : 1 ≤ y ∧ y ≤ 1000000 := by
  unfold hasLot at h
  obtain ⟨e, he, hy⟩ := List.any_eq_true.1 h
  obtain ⟨k, hk, rfl⟩ := List.mem_iff_getElem.1 he
  have := (range_iff.1 (ledF_mem hv k _ (List.getElem?_eq_getElem hk)).1).2.2.1
  simp only [beq_iff_eq] at hy
  omega
/-- the range over the balances is under way -/
def RgRel (W2 : World) (l : List En) (b1 n1 : Nat) (D : DataW Value) (m : Nat) (wr : World) : Prop :=
  ∃ (left : Lit → Bool) (n3 : Nat), wr.ranges Try.prog 3 tok b1 (W2.heap.size + 1) n1 D left m ∧ MapIs Try.prog 3 wr W2.heap.size n3 (gM l (fun y => !left (.int .i64 y))) ∧ n3 + m ≤ n1 ∧ Below W2.heap.size W2 wr
def GtRel (W2 : World) (l : List En) (n1 : Nat) (t : List Tg) (m : Nat) (i : Value) (wr : World) : Prop :=
  ∃ k n3 : Nat, k + m = t.length ∧ i = .int .i64 (k : Int) ∧ MapIs Try.prog 3 wr W2.heap.size n3 (gT (gM l (fun _ => true)) (t.take k)) ∧ n3 ≤ n1 + k ∧ Below W2.heap.size W2 wr
set_option maxRecDepth 100000 in
set_option maxHeartbeats 8000000 in
theorem correct_main (A : Option Addr) (c : Nat) (l : List En) (day cause : Int) (At : Option Addr) (ct : Nat) (t : List Tg) (w : World) (h : SlE w A l) (ht : Rd w At (tgsCs t)) (htl : t.length ≤ 1000000000) (hv : ledF l = 0) (hc : chkF day cause t = 0) :
    Calls Try.prog 18 #[.slice A l.length c, .int .i64 day, .int .i64 cause, .slice At t.length ct] w (CorRet l day cause t w) := by
  have HRD := Lib.hid (read_any A c l w h.rd h.len)
  have HCK := Lib.hid (fun (W : World) (hb : Below w.heap.size w W) => check_any day cause At ct t W (ht.below hb) htl)
  have HS := Lib.hid h
  have HT := Lib.hid ht
  have HV := Lib.hid hv
  have HC := Lib.hid hc
  have hmm := @run_makeMap Try.prog
  have HCZ := Lib.hid (chk_zero hc)
  have HLEN := Lib.hid (ledF_len hv)
  clear h ht hv hc
  go_enter Try.func18, Try.ntmps18
  go_wp2_with (first
    | (go_at_call 29; refine HRD.out.mono ?_; rintro e w1 ⟨pa, he, hb1, hacc⟩; rw [HV.out] at he; subst he; have HA1 := Lib.hid (hacc HV.out); have HB1 := Lib.hid hb1; clear hb1 hacc)
    | (go_at_call 31; refine (HCK.out _ HB1.out).mono ?_; rintro e w2 ⟨he, hb2⟩; rw [HC.out] at he; subst he; have HA2 := Lib.hid (HA1.out.below hb2); have HB2 := Lib.hid (HB1.out.trans (hb2.mono HB1.out.size)); clear hb2; obtain ⟨pc, b1, b2, n1, n2, v, hA⟩ := HA2.out; have c2 := hA.cell.2.2.1; have hpa := hA.lt.1; have hbl1 := hA.lt.2.2.1; have hM := MapIs.made Try.prog 3 w2; have HN1 := Lib.hid hA.len.1; obtain ⟨D, hown, hspec⟩ := hA.bal.alloc (.map #[] 0); have HOWN := Lib.hid hown; have HSP := Lib.hid hspec; have HM := Lib.hid hM; have HA := Lib.hid hA; clear hA hM hown hspec)
    | (at_range; refine wpList_range_own _ rfl _ 60 rfl 3 37 (int_keyed Try.underlying3) Try.underlying60 _ b1 n1 D rfl HOWN.out ?_; intro w0 hrg0 hg0 hs0; have HRG0 := Lib.hid hrg0; have HG0 := Lib.hid hg0; clear hrg0 hg0 hs0))
  go_frame
  have hsz1 : (w2.alloc (.map #[] 0)).heap.size = w2.heap.size + 1 := by simp
  have HST : Hid (RgRel w2 l b1 n1 D (Maps.size D) w0) := by
    refine ⟨Maps.has D, 0, by rw [← hsz1]; exact HRG0.out, ?_, by have := HOWN.out.size_le; omega, ?_⟩
    · rw [gM_start HV.out HSP.out (fun y hy => hasLot_bd HV.out hy)]
      exact HM.out.kept HG0.out (by simp)
    · exact ((Below.refl _ _).alloc (Nat.le_refl _) _).trans ⟨HG0.out.os, HG0.out.tape, HG0.out.output, HG0.out.size, fun k hk => HG0.out.block k (by rw [hsz1]; omega) (by simp)⟩
  have hb1 : b1 < w2.heap.size := hbl1
  have HBW : Hid (Below w2.heap.size w2 w0) := by obtain ⟨_, _, _, _, _, h⟩ := HST.out; exact h
  have hr : w2.heap.size + 1 = w2.heap.size + 1 := rfl
  clear HRG0 HG0 hsz1 c2 hpa HM hmm
  have HSZ := Lib.hid (show (w2.alloc (.map #[] 0)).heap.size = w2.heap.size + 1 by simp)
  simp only [World.size_alloc]
  go_loopg [14] (Maps.size D) (fun m _ wr => RgRel w2 l b1 n1 D m wr)
  case atStart => exact HST.out
  case round =>
    obtain ⟨left, n3, hrg, hgm, hn3, hb⟩ := hrel
    have HRG := Lib.hid hrg
    have HGM := Lib.hid hgm
    have HB := Lib.hid hb
    have HN3 := Lib.hid hn3
    clear hrg hgm hb HST hn3 hr
    go_wp2_with (at_next; refine wpList_next_ranges _ rfl _ rfl 3 (int_keyed Try.underlying3) tok (Value.int .i64) (fun v : Value => v) (fun key kl hk => by obtain ⟨x, rfl, _⟩ := Maps.keyOf_int_inv Try.underlying3 hk; exact ⟨x, rfl⟩) (fun v y _ => ⟨v, rfl⟩) b1 (w2.heap.size + 1) n1 D left _ rfl HRG.out ?_ ?_)
    · intro hm0 hl0
      have hst : GtRel w2 l n1 t t.length (.int .i64 0) wr := by
        have e : gM l (fun y => !left (.int .i64 y)) = gM l (fun _ => true) := gM_ext (fun y _ => by rw [hl0]; rfl)
        refine ⟨0, n3, by omega, rfl, ?_, by have := HN3.out; omega, HB.out⟩
        rw [e] at HGM
        exact HGM.out
      have HST := Lib.hid hst
      clear hm0 hl0 hst HGM HRG
      go_wp2_with fail
      generalize wr = wo at *
      go_loopg [53] t.length (fun m i wr => GtRel w2 l n1 t m i wr)
      case atStart => exact HST.out
      case round =>
        obtain ⟨k, n4, hk, rfl, hgm, hn4, hb⟩ := hrel
        have HK := Lib.hid hk
        have hk2 : k ≤ t.length := by omega
        have HGM := Lib.hid hgm
        have HN4 := Lib.hid hn4
        have HBX := Lib.hid hb
        have hbs := hb.size
        clear hk hgm hn4 hb HST HB HN3
        by_cases hlt : k < t.length
        · have hx : t[k]? = some (t[k]?.getD default) := by rw [List.getElem?_eq_getElem hlt]; rfl
          have HSN := Lib.hid (show gT (gM l (fun _ => true)) (t.take (k + 1)) = fun y => if y = (t[k]?.getD default).lot then some (baV (t[k]?.getD default).lot (t[k]?.getD default).b) else gT (gM l (fun _ => true)) (t.take k) y by
            rw [List.take_succ_eq_append_getElem hlt, gT_snoc, List.getElem?_eq_getElem hlt]; rfl)
          have hmem : t[k]?.getD default ∈ t := List.mem_of_getElem? hx
          have hrg := tg_iff.1 (HCZ.out.2.2.2.1 _ hmem)
          have HWL := Lib.hid (wf_i64 (x := (t[k]?.getD default).lot) (by omega) (by omega))
          obtain ⟨bt, off, rfl, e0, e1, e2, e3, e4⟩ := (HT.out.below (HB2.out.trans (HBX.out.mono HB2.out.size))).tg hx
          have hbt := block_lt_of_cell e0
          generalize t[k]?.getD default = g at *
          clear hx hmem hrg
          have qa : Below wr.heap.size wr (wr.alloc (.cells #[.int .i64 g.lot, .int .i64 g.b.ow, .int .i64 g.b.se, .int .i64 g.b.pa, .int .i64 g.b.re] 37)) := (Below.refl _ _).alloc (Nat.le_refl _) _
          have HGA := Lib.hid (HGM.out.below qa)
          have QA := Lib.hid qa
          have HNL : Hid (n4 < maxLen) := by have h1 := HN4.out; have h2 := HN1.out; have h3 := HLEN.out; have h4 := HCZ.out.2.2.1; unfold maxLen; exact (by omega : n4 < 9223372036854775807)
          clear qa HGM
          go_wp2_with (refine wpList_store_x _ rfl _ _ _ 60 rfl 3 37 Try.underlying3 Try.underlying60 w2.heap.size n4 _ rfl HGA.out HNL.out g.lot rfl HWL.out _ rfl ?_; intro w5 hm5 hg5; have HM5 := Lib.hid hm5; have HG5 := Lib.hid hg5; clear hm5 hg5)
          go_roundg (t.length - (k + 1))
          case measure => have := HK.out; omega
          case rel => exact ⟨k + 1, n4 + 1, by have := HK.out; omega, by go_num, by rw [HSN.out]; exact HM5.out, by have := HN4.out; omega, ((HBX.out.trans (QA.out.mono HBX.out.size))).grown HG5.out (Nat.le_trans HBX.out.size QA.out.size) (fun k e => by injection e with e; omega)⟩
        · have htk : t.take k = t := List.take_of_length_le (by omega)
          rw [htk] at HGM
          have HGM : Hid (MapIs Try.prog 3 wr w2.heap.size n4 (goalM l t)) := HGM
          have HN5 : Hid (n4 ≤ 3000) := by have h1 := HN4.out; have h2 := HN1.out; have h3 := HLEN.out; have h4 := HCZ.out.2.2.1; exact (by omega : n4 ≤ 3000)
          have HCL := Lib.hid (clone_any A c l wr (HS.out.below (HB2.out.trans (HBX.out.mono HB2.out.size))))
          have HACC : Hid (Acc wr w.heap.size pa l) := ⟨pc, b1, b2, n1, n2, v, HA.out.below HBX.out⟩
          have hge : t.length ≤ k := by omega
          clear htk HN4 HK hlt hk2
          go_wp2_with (first
            | (go_at_call 32; refine HCL.out.mono ?_; rintro e w6 ⟨v6, rfl, hown6, hb6⟩; have HO6 := Lib.hid hown6; have HB6 := Lib.hid hb6; have HG6 := Lib.hid (HGM.out.below hb6); clear hown6 hb6)
            | (go_at_call 34; refine (keys_any _ _).mono ?_; rintro e w' ⟨rfl, rfl⟩)
            | (go_at_call 33; refine (sorted_any w2.heap.size n4 (goalM l t) w6 HG6.out (by have := HN5.out; omega)).mono ?_; rintro e w7 ⟨v7, ks, rfl, h1, h2, h3, h4, h5, h6⟩; obtain ⟨A7, c7, rfl⟩ := own_len h5; have HKS := Lib.hid (And.intro h1 (And.intro h2 (And.intro h3 h4))); have HO7 := Lib.hid h5; have HB7 := Lib.hid h6; clear h1 h2 h3 h4 h5 h6))
          have HBC := Lib.hid (HBX.out)
          generalize wr = wc at *
          have b67 : Below w6.heap.size w6 w7 := ((Below.refl _ _).alloc (Nat.le_refl _) _).trans (HB7.out.mono (Nat.le_succ _))
          have HBC7 := Lib.hid (HB6.out.trans (b67.mono HB6.out.size))
          have HUQ := Lib.hid HCZ.out.2.2.2.2
          have hko : OwnX w7 (w6.heap.size + 1) 3 1 (.slice A7 ks.length c7) ks.length (ints ks) := OwnX.of_row HO7.out
          have HST : Hid (OutRel wc (w6.heap.size + 1) l t day cause ks A7 c7 ks.length v6 (.int .i64 0) w7) := ⟨0, by omega, rfl, HO6.out.below b67, hko, rfl, by have := HLEN.out; show l.length ≤ _; omega, HBC7.out⟩
          have HWC := Lib.hid (show w.heap.size ≤ wc.heap.size from Nat.le_trans HB2.out.size HBC.out.size)
          have HKSN := Lib.hid (show ks.length ≤ 3000 from Nat.le_trans HKS.out.2.2.2 HN5.out)
          obtain ⟨i0, hi0, hz0, hz1, hz2⟩ := info_parts entInfo
          clear b67 hko hbs
          generalize w6.heap.size + 1 = BK at *
          go_loopg [17, 68] ks.length (fun m vo i wr => OutRel wc BK l t day cause ks A7 c7 m vo i wr)
          case atStart => exact HST.out
          case round =>
            obtain ⟨kk, hkk, rfl, ho, hks, hbig, hle, hbw⟩ := hrel
            have HKK := Lib.hid hkk
            have HO := Lib.hid ho
            have HK7 := Lib.hid hks
            have HBIG := Lib.hid hbig
            have HLE := Lib.hid hle
            have HBW := Lib.hid hbw
            have hbws := hbw.size
            have hkn : kk ≤ ks.length := by omega
            have hks9 : ks.length ≤ 3000 := HKSN.out
            clear hkk ho hks hbig hle hbw HST
            by_cases hlt : kk < ks.length
            · have hkget : ks[kk]? = some (ks[kk]?.getD 0) := by rw [List.getElem?_eq_getElem hlt]; rfl
              have hmem : ks[kk]?.getD 0 ∈ ks := List.mem_of_getElem? hkget
              have hwl := HKS.out.2.2.1 _ hmem
              have hsome := (HKS.out.2.1 _ hwl).1 hmem
              rw [goalM_at HUQ.out] at hsome
              have hin : ks[kk]?.getD 0 ∈ lotsF l t := by
                by_cases hh : ks[kk]?.getD 0 ∈ lotsF l t
                · exact hh
                · rw [if_neg hh] at hsome; cases hsome
              have hlk := (HGM.out.below HBW.out).look Try.underlying3 Try.underlying60 (zeroBa_run wr) hwl
              rw [goalM_at HUQ.out, if_pos hin] at hlk
              have hwb := wf_bd hwl
              have HTK := Lib.hid (allF_take (l := l) (t := t) hlt)
              have HPA := Lib.hid (show putsF l day cause (allF l t (ks.take (kk + 1))) = putsF (putsF l day cause (allF l t (ks.take kk))) day cause (stepsF (ks[kk]?.getD 0) (balF l (ks[kk]?.getD 0)) (tgtF t (ks[kk]?.getD 0))) by rw [HTK.out, puts_append])
              have HBH := Lib.hid (fun hb => allF_mem (l := l) (t := t) hin hb)
              have hstc := fun W (hb : Below wr.heap.size wr W) => steps_any w.heap.size pa l (ks[kk]?.getD 0) (ks[kk]?.getD 0) (tgtF t (ks[kk]?.getD 0)) W ((HACC.out.below HBW.out).below hb) (Nat.le_trans HWC.out (Nat.le_trans hbws hb.size)) HV.out hwb.1 hwb.2 (tgt_within HCZ.out.2.2.2.1 _)
              have hs8 := stepsF_len (ks[kk]?.getD 0) (balF l (ks[kk]?.getD 0)) (tgtF t (ks[kk]?.getD 0))
              obtain ⟨A8, c8, e8, hrd8, _⟩ := HK7.out.shape
              injection e8 with e81 _ e83
              clear e83
              subst e81
              obtain ⟨bk, ofk, rfl, hcell⟩ := hrd8.int hlt
              have hbk := block_lt_of_cell hcell
              unfold StepsRet at hstc
              unfold baV at hstc hlk
              generalize putsF l day cause (allF l t (ks.take kk)) = O at *
              generalize hss : stepsF (ks[kk]?.getD 0) (balF l (ks[kk]?.getD 0)) (tgtF t (ks[kk]?.getD 0)) = S at *
              generalize tgtF t (ks[kk]?.getD 0) = tg at *
              generalize ks[kk]?.getD 0 = lot at *
              have HSTC := Lib.hid hstc
              have HLK := Lib.hid hlk
              clear hkget hmem hwl hsome hin hwb hrd8 hstc hss
              have s1 : (kk : Int) < ks.length := by omega
              clear hlk
              have hlk := HLK.out
              go_wp2_with (go_at_call 35; refine (HSTC.out _ (Below.refl _ _)).mono ?_; rintro e wS ⟨vS, rfl, hoS, hbS⟩; have HOS := Lib.hid hoS; have HBS := Lib.hid hbS; clear hbS; obtain ⟨aS, cS, rfl, _⟩ := OwnX.shape hoS; clear hoS)
              have HTW : Hid (TwoX wS wc.heap.size u17 (.slice aS S.length cS) O S) := by
                refine ⟨HO.out.below HBS.out, HOS.out.mono hbws, ?_⟩
                cases hu : u17.ownBlock with
                | none => exact .inl rfl
                | some k1 =>
                  cases hu2 : (Value.slice aS S.length cS).ownBlock with
                  | none => exact .inr (.inl rfl)
                  | some k2 => exact .inr (.inr (fun e => by injection e with e; have h1 := (HO.out.block_lt hu).2; have h2 := (HOS.out.block_lt hu2).1; omega))
              have HIN : Hid (InRel wc BK O S day cause ks (some ⟨bk, ofk, none⟩) c7 (.slice aS S.length cS) S.length u17 (.int .i64 0) wS) := ⟨0, by omega, rfl, HTW.out, HK7.out.below HBS.out, rfl, HBW.out.trans (HBS.out.mono hbws)⟩
              clear HTW hlk
              have hole : O.length ≤ 30000 := by have := HLE.out; have := HKSN.out; omega
              generalize wr = wo at *
              go_loopg [17, 79] S.length (fun m vo i wr => InRel wc BK O S day cause ks (some ⟨bk, ofk, none⟩) c7 (.slice aS S.length cS) m vo i wr)
              case atStart => exact HIN.out
              case round =>
                obtain ⟨j, hj, rfl, htw, hks, hbg, hbw⟩ := hrel
                have HJ := Lib.hid hj
                have HTW := Lib.hid htw
                have HK7 := Lib.hid hks
                have HBG := Lib.hid hbg
                have HBW := Lib.hid hbw
                have hbws2 := hbw.size
                have hjn : j ≤ S.length := by omega
                clear hj htw hks hbg hbw HIN
                by_cases hjl : j < S.length
                · have hx : S[j]? = some (S[j]?.getD default) := by rw [List.getElem?_eq_getElem hjl]; rfl
                  have HPS := Lib.hid (puts_snoc O day cause S hjl)
                  have HBT := Lib.hid (fun h => big_take hjl HBG.out h)
                  have HBI := Lib.hid (fun h => big_hit hjl h)
                  have hpl := puts_len day cause (S.take j) O
                  have htl2 : (S.take j).length ≤ 8 := by rw [List.length_take]; omega
                  obtain ⟨A9, c9, e9, hrd9, _⟩ := (HTW.out.u).shape
                  injection e9 with e91 _ e93
                  clear e93
                  subst e91
                  obtain ⟨bs, ofs, rfl, e0, e1, e2, e3, e4, e5⟩ := hrd9.en hx
                  have hbs2 := block_lt_of_cell e0
                  generalize S[j]?.getD default = x at *
                  generalize putsF O day cause (S.take j) = D at *
                  have hdl : D.length ≤ 40000 := by omega
                  clear hx hrd9 hpl htl2
                  have s3 : (j : Int) < S.length := by omega
                  by_cases hbig : 64000000000000 < x.amt
                  · have HE := Lib.hid (corE_big (cause := cause) HV.out HC.out (HBH.out (HBI.out hbig)))
                    clear HBT HBI
                    go_wp2_with fail
                    go_ret2
                    exact cor_bad HE.out (by decide) ((HB2.out.trans (HBC.out.mono HB2.out.size)).trans ((HBW.out.trans ((Below.refl _ _).alloc hbws2 _)).mono HWC.out))
                  · have HBT2 := Lib.hid (HBT.out hbig)
                    have y1 : decide (64000000000000 < x.amt) = false := by simpa using hbig
                    have HTA := Lib.hid ((HTW.out.alloc (.cells #[.int .i64 ((D.length : Int) + 1), .int .i64 day, .int .i64 x.kind, .int .i64 x.lot, .int .i64 x.amt, .int .i64 cause] 26)).alloc (.cells #[.int .i64 ((D.length : Int) + 1), .int .i64 day, .int .i64 x.kind, .int .i64 x.lot, .int .i64 x.amt, .int .i64 cause] 26))
                    have hrn := Rd.new_ (wr.alloc (.cells #[.int .i64 ((D.length : Int) + 1), .int .i64 day, .int .i64 x.kind, .int .i64 x.lot, .int .i64 x.amt, .int .i64 cause] 26)) [.int .i64 ((D.length : Int) + 1), .int .i64 day, .int .i64 x.kind, .int .i64 x.lot, .int .i64 x.amt, .int .i64 cause] 26
                    simp only [World.size_alloc] at hrn
                    have HRN := Lib.hid hrn
                    have HKA := Lib.hid ((HK7.out.alloc (.cells #[.int .i64 ((D.length : Int) + 1), .int .i64 day, .int .i64 x.kind, .int .i64 x.lot, .int .i64 x.amt, .int .i64 cause] 26)).alloc (.cells #[.int .i64 ((D.length : Int) + 1), .int .i64 day, .int .i64 x.kind, .int .i64 x.lot, .int .i64 x.amt, .int .i64 cause] 26))
                    have HBA := Lib.hid ((HBW.out.alloc hbws2 (.cells #[.int .i64 ((D.length : Int) + 1), .int .i64 day, .int .i64 x.kind, .int .i64 x.lot, .int .i64 x.amt, .int .i64 cause] 26)).alloc (by simp; omega) (.cells #[.int .i64 ((D.length : Int) + 1), .int .i64 day, .int .i64 x.kind, .int .i64 x.lot, .int .i64 x.amt, .int .i64 cause] 26))
                    obtain ⟨aD, cD, hvD, _⟩ := OwnX.shape HTW.out.d
                    subst hvD
                    clear hrn hbig HBT HBI
                    go_wp2_with (at_builtin; refine wpList_append_x _ rfl (.tmp 94) (.tmp 96) 23 rfl wc.heap.size 26 i0 _ 6 48 Try.underlying23 hi0 hz0 hz1 hz2 rfl (by omega) _ D.length (ensCs D) rfl HTA.out.d (some ⟨wr.heap.size + 1, 0, none⟩) 1 1 [.int .i64 ((D.length : Int) + 1), .int .i64 day, .int .i64 x.kind, .int .i64 x.lot, .int .i64 x.amt, .int .i64 cause] rfl rfl HRN.out (by intro u hu; simp at hu; rcases hu with rfl | rfl | rfl | rfl | rfl | rfl <;> rfl) (by unfold maxLen; omega) (by omega) (by have := HBA.out.size; exact this) ?_; intro v9 w9 hown9 hg9 hv9; have HT9 := Lib.hid (HTA.out.down (x := ⟨(D.length : Int) + 1, day, x.kind, x.lot, x.amt, cause⟩) hown9 hg9 hv9); have HK9 := Lib.hid (HKA.out.kept hg9 (HKA.out.ne_ty HTA.out.d (by decide))); have HB9 := Lib.hid (HBA.out.grown hg9 HBA.out.size (fun k e => (HTA.out.d.block_lt e).1)); clear hown9 hg9 hv9)
                    go_roundg (S.length - (j + 1))
                    case measure => have := HJ.out; omega
                    case rel => exact ⟨j + 1, by have := HJ.out; omega, by go_num, by rw [HPS.out]; exact HT9.out, HK9.out, HBT2.out, HB9.out⟩
                · have htk2 : S.take j = S := List.take_of_length_le (by omega)
                  rw [htk2] at HTW HBG
                  have hpl := puts_len day cause S O
                  have HPL := Lib.hid hpl
                  have s4 : S.length ≤ j := by omega
                  clear htk2 hpl
                  go_wp2_with fail
                  go_roundg (ks.length - (kk + 1))
                  case measure => have := HKK.out; omega
                  case rel => exact ⟨kk + 1, by have := HKK.out; omega, by go_num, by rw [HPA.out]; exact HTW.out.d, HK7.out, by rw [HTK.out, big_append, HBIG.out, HBG.out]; rfl, by rw [HPA.out, HPL.out]; have := HLE.out; omega, HBW.out⟩
            · have htk3 : ks.take kk = ks := List.take_of_length_le (by omega)
              have hks2 : ks = lotsF l t := asc_ext HKS.out.1 (lots_asc l t) (fun y => by
                constructor
                · intro hy
                  have h1 := (HKS.out.2.1 y (HKS.out.2.2.1 y hy)).1 hy
                  rw [goalM_at HUQ.out] at h1
                  by_cases hh : y ∈ lotsF l t
                  · exact hh
                  · rw [if_neg hh] at h1; cases h1
                · intro hy
                  have hw : (Lit.int .i64 y).wf = true := by
                    rcases (lots_mem l t y).1 hy with ⟨e, he, hl⟩ | ⟨g, hg, hl⟩
                    · have := hasLot_bd HV.out (y := y) (by unfold hasLot; simp only [List.any_eq_true, beq_iff_eq]; exact ⟨e, he, hl⟩)
                      exact wf_i64 (by omega) (by omega)
                    · have := tg_iff.1 (HCZ.out.2.2.2.1 g hg)
                      exact wf_i64 (by omega) (by omega)
                  refine (HKS.out.2.1 y hw).2 ?_
                  rw [goalM_at HUQ.out, if_pos hy]; rfl)
              rw [htk3, hks2] at HO HBIG HLE
              have hlen2 := puts_len day cause (allF l t (lotsF l t)) l
              have HFN := Lib.hid (cor_fin (cause := cause) HV.out HC.out HBIG.out)
              have HQ := Lib.hid ((HB2.out.trans (HBC.out.mono HB2.out.size)).trans (HBW.out.mono HWC.out))
              obtain ⟨aO, cO, hvO, hrO, hlO, hmO⟩ := OwnX.shape HO.out
              subst hvO
              have HEN := Lib.hid (show EnsAt 0 wr (.slice aO (putsF l day cause (allF l t (lotsF l t))).length cO) (corF l day cause t) from ⟨aO, cO, rfl, hrO, hlO, hmO, fun _ _ => Nat.zero_le _⟩)
              have hle3 := HLE.out
              have hks3 := HKSN.out
              have s5 : ks.length ≤ kk := by omega
              generalize (putsF l day cause (allF l t (lotsF l t))).length = N at *
              have HL2 := Lib.hid hlen2
              clear htk3 hks2 hlen2 hrO hlO hmO
              by_cases hbig : 2000 < N
              · have HE := Lib.hid (HFN.out.1 (by rw [← HL2.out]; exact hbig))
                go_wp2_with fail
                go_ret2
                exact cor_bad HE.out (by decide) HQ.out
              · have HE := Lib.hid (HFN.out.2 (by rw [← HL2.out]; exact hbig))
                have y1 : N ≤ 2000 := by omega
                clear hbig
                go_wp2_with fail
                go_ret2
                exact ⟨_, by rw [HE.out]; rfl, HQ.out, fun h0 => absurd HE.out h0, fun _ => HEN.out⟩
    · intro x cv kl yd yp w4 cnt' hkey hlk hvv hat hrg1 hlt hg1 hs1 hen
      obtain ⟨x', ex, rfl, hwx⟩ := Maps.keyOf_int_inv Try.underlying3 hkey
      cases ex
      have hhas : hasLot l x = true := by
        have h1 := (HSP.out x hwx).1.symm.trans (has_true_of_atKey hat)
        unfold balM at h1
        by_cases hh : hasLot l x = true
        · exact hh
        · rw [if_neg hh] at h1; cases h1
      have hG4 := HGM.out.kept hg1 (by simp)
      have HG4 := Lib.hid hG4
      have HRG1 := Lib.hid hrg1
      have HLT := Lib.hid hlt
      have HB4 : Hid (Below w2.heap.size w2 w4) := HB.out.grown hg1 HB.out.size (fun k e => by injection e with e; omega)
      have HGS := Lib.hid (gM_step (left := left) hhas)
      have HWX := Lib.hid hwx
      have HNL : Hid (n3 < maxLen) := by have h1 := HN3.out; have h2 := HN1.out; have h3 := HLEN.out; unfold maxLen; exact (by omega : n3 < 9223372036854775807)
      clear hkey hlk hvv hat hrg1 hlt hg1 hs1 hG4 hhas HGM HRG hwx
      go_wp2_with (refine wpList_store_x _ rfl _ _ _ 60 rfl 3 37 Try.underlying3 Try.underlying60 w2.heap.size n3 _ rfl HG4.out HNL.out x rfl HWX.out _ rfl ?_; intro w5 hm5 hg5; have HM5 := Lib.hid hm5; have HG5 := Lib.hid hg5; clear hm5 hg5)
      go_roundg cnt'
      case measure => exact HLT.out
      case rel => exact ⟨_, n3 + 1, HRG1.out.kept HG5.out (by simp; omega) (by simp), by rw [← HGS.out]; exact HM5.out, by have h1 := HN3.out; have h2 := HLT.out; omega, HB4.out.grown HG5.out HB4.out.size (fun k e => by injection e with e; omega)⟩
end Go.Proofs.Ytefphkefgfoklaa
