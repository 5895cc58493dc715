/- Contract of message.Parse. -/
import Derived.Test.YtmjlnckmhdgoiaaGreatDoorQa
import Derived.Test.YtmjlnckmhdgoiaaGreatDoorPg
import Derived.Test.YtmjlnckmhdgoiaaGreatDoorBox
import Derived.LaidLaws
namespace Go.Proofs.YtmjlnckmhdgoiaaGreatDoor
open Go.RowKit
set_option linter.unusedVariables false

theorem ret2 {fn : Func} {R : Ending → World → Prop} {a : Act} {W : World} {k j : Tmp} {ty T : TypeId} {g : Nat} {cs : Array Value} {fs : Array Field} (h : fn.results = #[.cell k ty, .tmp j]) (hp : a.tmps.getD k undef = .pointer (some ⟨g, 0, none⟩)) (hg : W.heap[g]? = some (.cells cs T (0, 0)))
    (hu : Tryz.prog.underlying ty = some (.struct fs)) (hi : (Tryz.prog.info? ty).map (·.size) = some cs.size) (hdf : a.defers = []) (hR : R (.returned (.tuple #[.agg cs, a.tmps.getD j undef])) W) : bodyPost Tryz.prog fn R .ret a W := by
  refine ⟨hdf, _, ?_, hR⟩
  have hp' : a.tmps[k]?.getD undef = .pointer (some ⟨g, 0, none⟩) := by simpa using hp
  simp [results, h, hp', asAddr, run_loadVar_row W g T ty cs (0, 0) _ hg hu rfl hi]
theorem countF_ef {l : List Seg} (hf : ∀ s ∈ l, EFit s.els) : ∀ s ∈ countF l, EFit s.els := by
  intro s hs
  unfold countF at hs
  split at hs
  · exact hf s hs
  · rename_i s0 h0
    split at hs
    · have h1 := hf s0 (List.mem_of_getLast? h0)
      rcases List.mem_append.1 hs with h | h
      · exact hf s (List.dropLast_subset l h)
      · simp only [List.mem_singleton] at h
        subst h
        refine ⟨by simp only [List.length_set]; exact h1.1, fun e he => ?_⟩
        rcases List.mem_or_eq_of_mem_set he with h2 | h2
        · exact h1.2 e h2
        · subst h2; simp [elN]
    · exact hf s hs
theorem countF_len (l : List Seg) : (countF l).length = l.length := by
  unfold countF
  split
  · rfl
  · rename_i s0 h0
    split
    · have : l ≠ [] := by rintro rfl; simp at h0
      have := List.length_pos_iff.2 this
      simp
      omega
    · rfl
theorem segsM_fit {m : Msg} (ok : OkM m) : LFit (segsM m) := by
  refine ⟨by have := segsM_len m; omega, fun s hs => ?_⟩
  have h := short_of (validF_zero.1 (segsM_ok ok s hs)).2.1
  exact ⟨by omega, fun e he => by have := (h.2 e he).1; omega⟩
theorem judge_cases {l y : List Seg} {m : Msg} {q : Msg × Int} (hv : validM m = 0) (h : q = judge m l y) : (l = segsM m → q = (m, 0)) ∧ (l ≠ segsM m → (y = segsM m → q = (zeroM, 11)) ∧ (y ≠ segsM m → q = (zeroM, 4))) := by
  unfold judge at h
  rw [if_pos hv] at h
  refine ⟨fun h1 => by rw [h, if_pos h1], fun h1 => ⟨fun h2 => by rw [h, if_neg h1, if_pos h2], fun h2 => by rw [h, if_neg h1, if_neg h2]⟩⟩
theorem own_but {W W' : World} {B g : Nat} {e : TypeId} {size n : Nat} {v : Value} {xs : List Value} (h : W.ownsRow B e size v n xs) (hb : But g W W') (hg : g < B) : W'.ownsRow B e size v n xs := by
  refine ⟨h.1, ?_⟩
  rcases h.2 with h2 | ⟨b, cap, cur, hv, hB, hh, r⟩
  · exact .inl h2
  · exact .inr ⟨b, cap, cur, hv, hB, (hb.block b (by omega)).trans hh, r⟩
def PRet (w : World) (p : Msg × Int) (e : Ending) (w' : World) : Prop := ∃ A c, e = .returned (.tuple #[msgV p.1 A c, .int .i64 p.2]) ∧ w'.ownsRow w.heap.size 3 1 (.slice A p.1.list.length c) p.1.list.length (ints p.1.list) ∧ Below w.heap.size w w'
theorem par_ret {w W : World} {p q : Msg × Int} {e : Ending} (h : q = p) (hp : PRet w p e W) : PRet w q e W := by rw [h]; exact hp
def ParRel (l : List Seg) (w : World) (g : Nat) (i : Value) (wr : World) : Prop :=
  ∃ k : Nat, k + g = l.length ∧ i = .int .i64 (k : Int) ∧ PSt wr (w.heap.size + 1) (w.heap.size + 1) (w.heap.size + 1 + 1) (readL (zeroM, false) (l.take k)).1 (readL (zeroM, false) (l.take k)).2 ∧ MBlk wr w.heap.size zeroM none 0 ∧ Below w.heap.size w wr
theorem par_start (w : World) : ∃ W, W = ((w.alloc (.cells #[.int .i64 0, .int .i64 0, .int .i64 0, .int .i64 0, .int .i64 0, .int .i64 0, .int .i64 0, .string ⟨#[]⟩, .string ⟨#[]⟩, .int .i64 0, .int .i64 0, .slice none 0 0, .string ⟨#[]⟩] 30)).alloc (.cells #[.int .i64 0, .int .i64 0, .int .i64 0, .int .i64 0, .int .i64 0, .int .i64 0, .int .i64 0, .string ⟨#[]⟩, .string ⟨#[]⟩, .int .i64 0, .int .i64 0, .slice none 0 0, .string ⟨#[]⟩] 30)).alloc (.cells #[.bool false] 98) ∧
    PSt W (w.heap.size + 1) (w.heap.size + 1) (w.heap.size + 1 + 1) zeroM false ∧ MBlk W w.heap.size zeroM none 0 ∧ Below w.heap.size w W := by
  refine ⟨_, rfl, ⟨⟨none, 0, ?_, World.ownsRow_nil _ _ _ _⟩, ?_, by omega, by omega, by omega⟩, ?_, ?_⟩
  · have h := heap_alloc_new (w.alloc (.cells #[.int .i64 0, .int .i64 0, .int .i64 0, .int .i64 0, .int .i64 0, .int .i64 0, .int .i64 0, .string ⟨#[]⟩, .string ⟨#[]⟩, .int .i64 0, .int .i64 0, .slice none 0 0, .string ⟨#[]⟩] 30)) (.cells #[.int .i64 0, .int .i64 0, .int .i64 0, .int .i64 0, .int .i64 0, .int .i64 0, .int .i64 0, .string ⟨#[]⟩, .string ⟨#[]⟩, .int .i64 0, .int .i64 0, .slice none 0 0, .string ⟨#[]⟩] 30)
    have e : (w.alloc (.cells #[.int .i64 0, .int .i64 0, .int .i64 0, .int .i64 0, .int .i64 0, .int .i64 0, .int .i64 0, .string ⟨#[]⟩, .string ⟨#[]⟩, .int .i64 0, .int .i64 0, .slice none 0 0, .string ⟨#[]⟩] 30)).heap.size = w.heap.size + 1 := by simp
    rw [e] at h
    have hb := (Below.refl (w.heap.size + 1 + 1) ((w.alloc (.cells #[.int .i64 0, .int .i64 0, .int .i64 0, .int .i64 0, .int .i64 0, .int .i64 0, .int .i64 0, .string ⟨#[]⟩, .string ⟨#[]⟩, .int .i64 0, .int .i64 0, .slice none 0 0, .string ⟨#[]⟩] 30)).alloc (.cells #[.int .i64 0, .int .i64 0, .int .i64 0, .int .i64 0, .int .i64 0, .int .i64 0, .int .i64 0, .string ⟨#[]⟩, .string ⟨#[]⟩, .int .i64 0, .int .i64 0, .slice none 0 0, .string ⟨#[]⟩] 30))).alloc (by simp) (.cells #[.bool false] 98)
    exact (hb.block _ (by omega)).trans h
  · have h := heap_alloc_new ((w.alloc (.cells #[.int .i64 0, .int .i64 0, .int .i64 0, .int .i64 0, .int .i64 0, .int .i64 0, .int .i64 0, .string ⟨#[]⟩, .string ⟨#[]⟩, .int .i64 0, .int .i64 0, .slice none 0 0, .string ⟨#[]⟩] 30)).alloc (.cells #[.int .i64 0, .int .i64 0, .int .i64 0, .int .i64 0, .int .i64 0, .int .i64 0, .int .i64 0, .string ⟨#[]⟩, .string ⟨#[]⟩, .int .i64 0, .int .i64 0, .slice none 0 0, .string ⟨#[]⟩] 30)) (.cells #[.bool false] 98)
    have e : ((w.alloc (.cells #[.int .i64 0, .int .i64 0, .int .i64 0, .int .i64 0, .int .i64 0, .int .i64 0, .int .i64 0, .string ⟨#[]⟩, .string ⟨#[]⟩, .int .i64 0, .int .i64 0, .slice none 0 0, .string ⟨#[]⟩] 30)).alloc (.cells #[.int .i64 0, .int .i64 0, .int .i64 0, .int .i64 0, .int .i64 0, .int .i64 0, .int .i64 0, .string ⟨#[]⟩, .string ⟨#[]⟩, .int .i64 0, .int .i64 0, .slice none 0 0, .string ⟨#[]⟩] 30)).heap.size = w.heap.size + 1 + 1 := by simp
    rw [e] at h
    exact h
  · have h := heap_alloc_new w (.cells #[.int .i64 0, .int .i64 0, .int .i64 0, .int .i64 0, .int .i64 0, .int .i64 0, .int .i64 0, .string ⟨#[]⟩, .string ⟨#[]⟩, .int .i64 0, .int .i64 0, .slice none 0 0, .string ⟨#[]⟩] 30)
    have hb := ((Below.refl (w.heap.size + 1) (w.alloc (.cells #[.int .i64 0, .int .i64 0, .int .i64 0, .int .i64 0, .int .i64 0, .int .i64 0, .int .i64 0, .string ⟨#[]⟩, .string ⟨#[]⟩, .int .i64 0, .int .i64 0, .slice none 0 0, .string ⟨#[]⟩] 30))).alloc (by simp) (.cells #[.int .i64 0, .int .i64 0, .int .i64 0, .int .i64 0, .int .i64 0, .int .i64 0, .int .i64 0, .string ⟨#[]⟩, .string ⟨#[]⟩, .int .i64 0, .int .i64 0, .slice none 0 0, .string ⟨#[]⟩] 30)).alloc (by simp) (.cells #[.bool false] 98)
    exact (hb.block _ (by omega)).trans h
  · exact (((Below.refl w.heap.size w).alloc (Nat.le_refl _) _).alloc (by simp) _).alloc (by simp; omega) _
set_option maxRecDepth 100000 in
set_option maxHeartbeats 8000000 in
theorem parse_any (A : Option Addr) (c : Nat) (l : List Seg) (w : World) (h : SegsAt w w.heap.size A l) (hl : l.length ≤ 1000000000) (hf : ∀ s ∈ l, SFit s) (hc : cntL l ≤ 10000000000000) (ht : Tab w) (he : ErrV w) :
    Calls Tryz.prog 34 #[.slice A l.length c] w (PRet w (parseP l)) := by
  obtain ⟨W0, hW0, hp0, hm0, hb0⟩ := par_start w
  have HP0 := Lib.hid hp0
  have HM0 := Lib.hid hm0
  have HB0 := Lib.hid hb0
  have HH := Lib.hid h
  have HF := Lib.hid hf
  have HCN := Lib.hid hc
  have HT := Lib.hid ht
  have HE := Lib.hid he
  have HG := Lib.hid he.lt
  have HJ : Hid (parseP l = if (readL (zeroM, false) l).2 = true then (zeroM, 4) else judge (readL (zeroM, false) l).1 l (countF l)) := rfl
  have HLL := Lib.hid hl
  clear hp0 hm0 hb0 h hf hc ht he
  generalize hnn : l.length = n at *
  have HNN := Lib.hid hnn
  clear hnn
  go_enter Tryz.func34, Tryz.ntmps34
  go_wp2
  generalize ((w.alloc (.cells #[.int .i64 0, .int .i64 0, .int .i64 0, .int .i64 0, .int .i64 0, .int .i64 0, .int .i64 0, .string ⟨#[]⟩, .string ⟨#[]⟩, .int .i64 0, .int .i64 0, .slice none 0 0, .string ⟨#[]⟩] 30)).alloc (.cells #[.int .i64 0, .int .i64 0, .int .i64 0, .int .i64 0, .int .i64 0, .int .i64 0, .int .i64 0, .string ⟨#[]⟩, .string ⟨#[]⟩, .int .i64 0, .int .i64 0, .slice none 0 0, .string ⟨#[]⟩] 30)).alloc (.cells #[.bool false] 98) = W1 at *
  subst hW0
  go_loopg [14] n (fun g i wr => ParRel l w g i wr)
  case atStart =>
    refine ⟨0, by have := HNN.out; omega, rfl, ?_, HM0.out, HB0.out⟩
    exact HP0.out
  case round =>
    obtain ⟨k, hk, rfl, hst, hres, hb⟩ := hrel
    have HK := Lib.hid hk
    have HST := Lib.hid hst
    have HRES := Lib.hid hres
    have HB := Lib.hid hb
    have hkn : k ≤ n := by have := HNN.out; omega
    clear hk hst hres hb HP0 HM0 HB0
    by_cases hlt : k < n
    · have hlt2 : k < l.length := by have := HNN.out; omega
      obtain ⟨b, off, Ae, ce, rfl, hbl, hc0, hc1, hE⟩ := (HH.out.below HB.out).get hlt2
      have hc1 : wr.cell? ⟨b, off + k * 2 + 1, none⟩ = some (.slice Ae l[k].els.length ce) := hc1
      have HNX := Lib.hid (readL_take hlt2 (zeroM, false))
      have hmb := (read_bd HF.out false k (by omega)).list
      have hct := cntL_take hlt2
      have hcl := cntL_le l (k + 1)
      have hcn := HCN.out
      have hml : (readL (zeroM, false) (l.take k)).1.list.length + cntF l[k] ≤ 17592186044000 := by omega
      have hsf := HF.out l[k] (List.getElem_mem _)
      have hsz := HB.out.size
      have q1 := (Below.refl wr.heap.size wr).alloc (Nat.le_refl _) (.cells #[str l[k].tag, .slice Ae l[k].els.length ce] 57)
      have hbw : w.heap.size + 1 ≤ wr.heap.size := by have := HST.out.lt.1; omega
      have HQ1 := Lib.hid (HB.out.trans (q1.mono hsz))
      have HM1 := Lib.hid (HRES.out.below q1)
      have HRD := Lib.hid (read_any (w.heap.size + 1) (w.heap.size + 1) (w.heap.size + 1 + 1) _ _ Ae ce l[k] _ (HST.out.below q1) ((hE.below (q1.mono hsz)).mono (Nat.le_succ _)) hsf ⟨HE.out.below HQ1.out, by have := HG.out.1; omega, by have := HG.out.2; omega⟩ hml)
      unfold ReadRet at HRD
      clear hE hmb hct hcl hcn hml hsf q1 HST HRES
      generalize readL (zeroM, false) (l.take k) = p at *
      generalize l[k] = s at *
      obtain ⟨tg, els⟩ := s
      simp only at hc0 hc1 HQ1 HM1 HRD
      unfold str at hc0 HQ1 HM1 HRD
      generalize els.length = ne at *
      clear hlt2
      go_wp2_with fail
      refine HRD.out.mono ?_
      rintro e W2 ⟨rfl, hst2, hb2⟩
      have HST2 := Lib.hid hst2
      have HB2 := Lib.hid (HQ1.out.trans (hb2.mono (Nat.le_succ _)))
      have HM2 := Lib.hid (HM1.out.belowB hb2 (Nat.lt_succ_self _))
      clear hst2 hb2 hc0 hc1 HQ1 HM1 HRD
      go_wp2
      go_roundg (n - (k + 1))
      case measure => have := HK.out; have := HNN.out; omega
      case rel =>
        refine ⟨k + 1, by have := HNN.out; have := HK.out; omega, by go_num, ?_, HM2.out, HB2.out⟩
        rw [HNX.out]
        exact HST2.out
    · have hge : n ≤ k := by omega
      rw [List.take_of_length_le (show l.length ≤ k by have := HNN.out; omega)] at HST
      have hmb := read_bd HF.out false l.length (Nat.le_refl _)
      rw [List.take_of_length_le (Nat.le_refl _)] at hmb
      have hbd := hmb.bd HCN.out
      have HBD := Lib.hid hbd
      clear hmb hbd hlt
      generalize readL (zeroM, false) l = p at *
      obtain ⟨m, bad⟩ := p
      simp only at HST HBD HJ
      have hrc := HST.out.rd.cell0
      cases bad
      · have HJB : Hid (parseP l = judge m l (countF l)) := HJ.out.trans (if_neg (by simp))
        clear HJ
        obtain ⟨Am, cm, hmb, hown⟩ := HST.out.blk
        obtain ⟨Ax, cx, ex, hrx, _⟩ := own_shape hown
        injection ex with ex1 _ ex3
        subst ex1; subst ex3
        have HRD := Lib.hid hrx.rd
        have HMB := Lib.hid hmb
        have HOW := Lib.hid hown
        have HSG := Lib.hid (segments_any m Am cm wr hrx.rd HBD.out (HT.out.below HB.out))
        obtain ⟨d0, d1, d2, d3, d4, d5, d6, d7, d8, d9, d10, d11, d12⟩ := hmb.all
        clear hmb hown hrx
        go_wp2_with fail
        refine HSG.out.mono ?_
        rintro e W2 ⟨hb2, hcase⟩
        have HB2 := Lib.hid (HB.out.trans (hb2.mono HB.out.size))
        have HMB2 := Lib.hid (HMB.out.below hb2)
        have HRES2 := Lib.hid (HRES.out.below hb2)
        have HRD2 := Lib.hid (HRD.out.below hb2)
        have HOW2 := Lib.hid (own_below HOW.out hb2)
        clear hb2 HSG HMB HOW HRES HRD HB HST d0 d1 d2 d3 d4 d5 d6 d7 d8 d9 d10 d11 d12
        rcases hcase with ⟨hv, v, rfl, ho⟩ | ⟨hv, rfl⟩
        · have HJC := Lib.hid (judge_cases hv HJB.out)
          have ok := okM_iff.1 hv
          have hfit2 := segsM_fit ok
          obtain ⟨Av, cv, rfl, _, hat⟩ := ho.at_
          have hfl : LFit l := ⟨by have := HNN.out; have := HLL.out; omega, fun s hs => (HF.out s hs).ef⟩
          have heq := equalL_any A Av c cv l (segsM m) W2 ((HH.out.below HB2.out).mono HB2.out.size) hat hfl hfit2
          rw [HNN.out] at heq
          have HEQ := Lib.hid heq
          have HAT := Lib.hid hat
          have HFIT2 := Lib.hid hfit2
          have HFL := Lib.hid hfl
          unfold EqRet at HEQ
          clear hv ok ho hat hfit2 hfl heq HJB
          generalize segsM m = sg at *
          go_wp2_with fail
          refine HEQ.out.mono ?_
          rintro e W3 ⟨r, rfl, hr, hb3⟩
          have HB3 := Lib.hid (HB2.out.trans (hb3.mono HB2.out.size))
          have HMB3 := Lib.hid (HMB2.out.below hb3)
          have HRES3 := Lib.hid (HRES2.out.below hb3)
          have HRD3 := Lib.hid (HRD2.out.below hb3)
          have HOW3 := Lib.hid (own_below HOW2.out hb3)
          have HAT3 := Lib.hid ((HAT.out.below hb3).mono hb3.size)
          cases r
          · have HJD := Lib.hid (HJC.out.2 (fun h => by have := hr.2 h; cases this))
            clear hr hb3 HB2 HMB2 HRES2 HRD2 HAT HEQ HJC
            have hcn := counted_any A c l W3 ((HH.out.below HB3.out).mono HB3.out.size) HFL.out.1 HF.out (HT.out.below HB3.out)
            rw [HNN.out] at hcn
            unfold CntRet at hcn
            have HCT := Lib.hid hcn
            clear hcn
            go_wp2_with fail
            refine HCT.out.mono ?_
            rintro e W4 ⟨A4, c4, rfl, hat4, hb4⟩
            have HB4 := Lib.hid (HB3.out.trans (hb4.mono HB3.out.size))
            have HRES4 := Lib.hid (HRES3.out.below hb4)
            have heq := equalL_any A4 Av c4 cv (countF l) sg W4 hat4 ((HAT3.out.below hb4).mono hb4.size) ⟨by rw [countF_len]; exact HFL.out.1, countF_ef HFL.out.2⟩ HFIT2.out
            have HEQ := Lib.hid heq
            unfold EqRet at HEQ
            clear heq hat4 hb4 HCT HB3 HMB3 HRES3 HRD3 HAT3
            generalize hcl4 : (countF l).length = n4 at *
            clear hcl4
            go_wp2_with fail
            refine HEQ.out.mono ?_
            rintro e W5 ⟨r2, rfl, hr2, hb5⟩
            have HB5 := Lib.hid (HB4.out.trans (hb5.mono HB4.out.size))
            have HRES5 := Lib.hid (HRES4.out.below hb5)
            cases r2
            · have HJE : Hid (parseP l = (zeroM, 4)) := HJD.out.2 (fun h => by have := hr2.2 h; cases this)
              clear hr2 hb5 HEQ HJD HB4 HRES4
              go_wp2_with (refine at_store 30 (.tmp 2) (.tmp 47) rfl ?_; refine wpList_store_box rfl 30 (.tmp 2) (.tmp 47) rfl w.heap.size 0 (.agg #[.int .i64 0, .int .i64 0, .int .i64 0, .int .i64 0, .int .i64 0, .int .i64 0, .int .i64 0, .string ⟨#[]⟩, .string ⟨#[]⟩, .int .i64 0, .int .i64 0, .slice none 0 0, .string ⟨#[]⟩]) #[.int .i64 0, .int .i64 0, .int .i64 0, .int .i64 0, .int .i64 0, .int .i64 0, .int .i64 0, .string ⟨#[]⟩, .string ⟨#[]⟩, .int .i64 0, .int .i64 0, .slice none 0 0, .string ⟨#[]⟩] rfl rfl rfl [.int .i64 0, .int .i64 0, .int .i64 0, .int .i64 0, .int .i64 0, .int .i64 0, .int .i64 0, .string ⟨#[]⟩, .string ⟨#[]⟩, .int .i64 0, .int .i64 0, .slice none 0 0, .string ⟨#[]⟩] [.int .i64 0, .int .i64 0, .int .i64 0, .int .i64 0, .int .i64 0, .int .i64 0, .int .i64 0, .string ⟨#[]⟩, .string ⟨#[]⟩, .int .i64 0, .int .i64 0, .slice none 0 0, .string ⟨#[]⟩] _ HRES5.out (Nat.le_of_ble_eq_true rfl) rfl (by kernel_rfl) rfl ?_; intro W9 hb9 hP9; have HR9 := Lib.hid hb9; have HP9 := Lib.hid hP9; clear hb9 hP9)
              exact ret2 (k := 2) (j := 3) (g := w.heap.size) (T := 30) (cs := msgC zeroM none 0) Tryz.results34 rfl HR9.out Tryz.underlying30 (by kernel_rfl) rfl (par_ret (p := (zeroM, 4)) HJE.out ⟨none, 0, rfl, World.ownsRow_nil _ _ _ _, Below.but HB5.out HP9.out (Nat.le_refl _)⟩)
            · have HJE : Hid (parseP l = (zeroM, 11)) := HJD.out.1 (hr2.1 rfl)
              clear hr2 hb5 HEQ HJD HB4 HRES4
              go_wp2_with (refine at_store 30 (.tmp 2) (.tmp 46) rfl ?_; refine wpList_store_box rfl 30 (.tmp 2) (.tmp 46) rfl w.heap.size 0 (.agg #[.int .i64 0, .int .i64 0, .int .i64 0, .int .i64 0, .int .i64 0, .int .i64 0, .int .i64 0, .string ⟨#[]⟩, .string ⟨#[]⟩, .int .i64 0, .int .i64 0, .slice none 0 0, .string ⟨#[]⟩]) #[.int .i64 0, .int .i64 0, .int .i64 0, .int .i64 0, .int .i64 0, .int .i64 0, .int .i64 0, .string ⟨#[]⟩, .string ⟨#[]⟩, .int .i64 0, .int .i64 0, .slice none 0 0, .string ⟨#[]⟩] rfl rfl rfl [.int .i64 0, .int .i64 0, .int .i64 0, .int .i64 0, .int .i64 0, .int .i64 0, .int .i64 0, .string ⟨#[]⟩, .string ⟨#[]⟩, .int .i64 0, .int .i64 0, .slice none 0 0, .string ⟨#[]⟩] [.int .i64 0, .int .i64 0, .int .i64 0, .int .i64 0, .int .i64 0, .int .i64 0, .int .i64 0, .string ⟨#[]⟩, .string ⟨#[]⟩, .int .i64 0, .int .i64 0, .slice none 0 0, .string ⟨#[]⟩] _ HRES5.out (Nat.le_of_ble_eq_true rfl) rfl (by kernel_rfl) rfl ?_; intro W9 hb9 hP9; have HR9 := Lib.hid hb9; have HP9 := Lib.hid hP9; clear hb9 hP9)
              exact ret2 (k := 2) (j := 3) (g := w.heap.size) (T := 30) (cs := msgC zeroM none 0) Tryz.results34 rfl HR9.out Tryz.underlying30 (by kernel_rfl) rfl (par_ret (p := (zeroM, 11)) HJE.out ⟨none, 0, rfl, World.ownsRow_nil _ _ _ _, Below.but HB5.out HP9.out (Nat.le_refl _)⟩)
          · have HJD : Hid (parseP l = (m, 0)) := HJC.out.1 (hr.1 rfl)
            clear hr hb3 HB2 HMB2 HRES2 HRD2 HAT HEQ HJC
            obtain ⟨d0, d1, d2, d3, d4, d5, d6, d7, d8, d9, d10, d11, d12⟩ := HMB3.out.all
            go_wp2_with (refine at_store 30 (.tmp 2) (.tmp 40) rfl ?_; refine wpList_store_box rfl 30 (.tmp 2) (.tmp 40) rfl w.heap.size 0 (msgV m Am cm) (msgC m Am cm) rfl rfl rfl [.int .i64 0, .int .i64 0, .int .i64 0, .int .i64 0, .int .i64 0, .int .i64 0, .int .i64 0, .string ⟨#[]⟩, .string ⟨#[]⟩, .int .i64 0, .int .i64 0, .slice none 0 0, .string ⟨#[]⟩] [.int .i64 m.kind, .int .i64 m.src, .int .i64 m.dst, .int .i64 m.number, .int .i64 m.day, .int .i64 m.lot, .int .i64 m.other, .string ⟨m.code.toArray⟩, .string ⟨m.country.toArray⟩, .int .i64 m.quantity, .int .i64 m.amount, .slice Am m.list.length cm, .string ⟨m.text.toArray⟩] _ HRES3.out (Nat.le_of_ble_eq_true rfl) rfl (by kernel_rfl) rfl ?_; intro W9 hb9 hP9; have HR9 := Lib.hid hb9; have HP9 := Lib.hid hP9; clear hb9 hP9)
            exact ret2 (k := 2) (j := 3) (g := w.heap.size) (T := 30) (cs := msgC m Am cm) Tryz.results34 rfl HR9.out Tryz.underlying30 (by kernel_rfl) rfl (par_ret (p := (m, 0)) HJD.out ⟨Am, cm, rfl, World.ownsRow.mono (own_but HOW3.out HP9.out (Nat.lt_succ_self _)) (Nat.le_succ _), Below.but HB3.out HP9.out (Nat.le_refl _)⟩)
        · have HJC : Hid (parseP l = (zeroM, 4)) := HJB.out.trans (if_neg hv)
          have hne : (validM m != 0) = true := by simpa using hv
          clear hv HJB
          go_wp2_with (refine at_store 30 (.tmp 2) (.tmp 35) rfl ?_; refine wpList_store_box rfl 30 (.tmp 2) (.tmp 35) rfl w.heap.size 0 (.agg #[.int .i64 0, .int .i64 0, .int .i64 0, .int .i64 0, .int .i64 0, .int .i64 0, .int .i64 0, .string ⟨#[]⟩, .string ⟨#[]⟩, .int .i64 0, .int .i64 0, .slice none 0 0, .string ⟨#[]⟩]) #[.int .i64 0, .int .i64 0, .int .i64 0, .int .i64 0, .int .i64 0, .int .i64 0, .int .i64 0, .string ⟨#[]⟩, .string ⟨#[]⟩, .int .i64 0, .int .i64 0, .slice none 0 0, .string ⟨#[]⟩] rfl rfl rfl [.int .i64 0, .int .i64 0, .int .i64 0, .int .i64 0, .int .i64 0, .int .i64 0, .int .i64 0, .string ⟨#[]⟩, .string ⟨#[]⟩, .int .i64 0, .int .i64 0, .slice none 0 0, .string ⟨#[]⟩] [.int .i64 0, .int .i64 0, .int .i64 0, .int .i64 0, .int .i64 0, .int .i64 0, .int .i64 0, .string ⟨#[]⟩, .string ⟨#[]⟩, .int .i64 0, .int .i64 0, .slice none 0 0, .string ⟨#[]⟩] _ HRES2.out (Nat.le_of_ble_eq_true rfl) rfl (by kernel_rfl) rfl ?_; intro W9 hb9 hP9; have HR9 := Lib.hid hb9; have HP9 := Lib.hid hP9; clear hb9 hP9)
          exact ret2 (k := 2) (j := 3) (g := w.heap.size) (T := 30) (cs := msgC zeroM none 0) Tryz.results34 rfl HR9.out Tryz.underlying30 (by kernel_rfl) rfl (par_ret (p := (zeroM, 4)) HJC.out ⟨none, 0, rfl, World.ownsRow_nil _ _ _ _, Below.but HB2.out HP9.out (Nat.le_refl _)⟩)
      · have HJB : Hid (parseP l = (zeroM, 4)) := HJ.out.trans (if_pos rfl)
        clear HJ
        go_wp2_with (refine at_store 30 (.tmp 2) (.tmp 26) rfl ?_; refine wpList_store_box rfl 30 (.tmp 2) (.tmp 26) rfl w.heap.size 0 (.agg #[.int .i64 0, .int .i64 0, .int .i64 0, .int .i64 0, .int .i64 0, .int .i64 0, .int .i64 0, .string ⟨#[]⟩, .string ⟨#[]⟩, .int .i64 0, .int .i64 0, .slice none 0 0, .string ⟨#[]⟩]) #[.int .i64 0, .int .i64 0, .int .i64 0, .int .i64 0, .int .i64 0, .int .i64 0, .int .i64 0, .string ⟨#[]⟩, .string ⟨#[]⟩, .int .i64 0, .int .i64 0, .slice none 0 0, .string ⟨#[]⟩] rfl rfl rfl [.int .i64 0, .int .i64 0, .int .i64 0, .int .i64 0, .int .i64 0, .int .i64 0, .int .i64 0, .string ⟨#[]⟩, .string ⟨#[]⟩, .int .i64 0, .int .i64 0, .slice none 0 0, .string ⟨#[]⟩] [.int .i64 0, .int .i64 0, .int .i64 0, .int .i64 0, .int .i64 0, .int .i64 0, .int .i64 0, .string ⟨#[]⟩, .string ⟨#[]⟩, .int .i64 0, .int .i64 0, .slice none 0 0, .string ⟨#[]⟩] _ HRES.out (Nat.le_of_ble_eq_true rfl) rfl (by kernel_rfl) rfl ?_; intro W9 hb9 hP9; have HR9 := Lib.hid hb9; have HP9 := Lib.hid hP9; clear hb9 hP9)
        exact ret2 (k := 2) (j := 3) (g := w.heap.size) (T := 30) (cs := msgC zeroM none 0) Tryz.results34 rfl HR9.out Tryz.underlying30 (by kernel_rfl) rfl (par_ret (p := (zeroM, 4)) HJB.out ⟨none, 0, rfl, World.ownsRow_nil _ _ _ _, Below.but HB.out HP9.out (Nat.le_refl _)⟩)
end Go.Proofs.YtmjlnckmhdgoiaaGreatDoor

/-! Contract of message.Decode; what the rows list. -/
namespace Go.Proofs.YtmjlnckmhdgoiaaGreatDoor
open Go.ChangeShapes Go.WideShapes Go.RowKit
set_option linter.unusedVariables false

theorem err_of_laid {l : List (String × DataW Unit)} {W : World} (name : String) (g : Nat) (nm : String) (d : DataW Unit) (h : laidMetH Tryz.prog l W) (h0 : (l.all fun x => x.2.handleName?.isNone) = true)
    (hf : l.filter (fun x => x.1 == name) = [(name, .iface nm d)]) (hg : Tryz.prog.globalNamed name = some g) (hty : (Tryz.prog.globals[g]?).map (·.type) = some 122) : ∃ te pe, W.cell? ⟨g, 0, none⟩ = some (.iface te pe) := by
  rw [Go.MakeChecks.laidMetH_plain _ _ _ h0] at h
  have h2 := h.filter (fun x => x.1 == name)
  rw [hf] at h2
  obtain ⟨ps, ⟨g', t', cs, fuel, p, q, hg', ht', hvar, hd, _, _⟩, _⟩ := h2
  obtain rfl := Option.some.inj (hg.symm.trans hg')
  obtain rfl := Option.some.inj (hty.symm.trans ht')
  obtain ⟨l0⟩ := cs
  obtain ⟨f1, u, v, hcs, _, _⟩ := iface_of_trod Tryz.underlying122 hd
  have hcs' : l0 = [.iface u v] := hcs
  subst hcs'
  exact ⟨u, v, by simpa using World.var?_cell hg hvar 0⟩
/-- all that the laws ask of the listed variables -/
structure Given (W : World) : Prop where
  tab : Tab W
  err : ErrV W
theorem given_of_laid {l : List (String × DataW Unit)} {W : World} (h : laidMetH Tryz.prog l W) (h0 : (l.all fun x => x.2.handleName?.isNone) = true)
    (hf : l.filter (fun x => x.1 == "internal/strconv.uint64pow10") = [("internal/strconv.uint64pow10", Rows.laid_internal_strconv_uint64pow10)])
    (hr : l.filter (fun x => x.1 == "strconv.ErrRange") = [("strconv.ErrRange", Rows.laid_strconv_ErrRange)])
    (hs : l.filter (fun x => x.1 == "strconv.ErrSyntax") = [("strconv.ErrSyntax", Rows.laid_strconv_ErrSyntax)]) : Given W := by
  refine ⟨tab_of_laid h h0 hf, ?_, ?_⟩
  · obtain ⟨te, pe, hc⟩ := err_of_laid "strconv.ErrSyntax" 2 _ _ h h0 hs (by kernel_rfl) (by kernel_rfl)
    exact ⟨_, hc, .inr ⟨te, pe, rfl⟩⟩
  · obtain ⟨te, pe, hc⟩ := err_of_laid "strconv.ErrRange" 3 _ _ h h0 hr (by kernel_rfl) (by kernel_rfl)
    exact ⟨_, hc, .inr ⟨te, pe, rfl⟩⟩
theorem Given.below {w w' : World} (h : Given w) (hb : Below w.heap.size w w') : Given w' := ⟨h.tab.below hb, h.err.below hb⟩


noncomputable def decM (b : Bs) : Msg × Int := if (decodeF b).2.2 = 0 then parseP (decodeF b).1 else (zeroM, (decodeF b).2.2)
theorem cnt_bd : ∀ {l : List Seg} {n : Nat}, (∀ s ∈ l, cntF s ≤ n) → cntL l ≤ n * l.length
  | [], _, _ => by simp [cntL]
  | s :: r, n, h => by
    have h1 := h s (by simp)
    have h2 := cnt_bd (l := r) (n := n) (fun x hx => h x (by simp [hx]))
    unfold cntL at *
    rw [List.map_cons, List.sum_cons, List.length_cons, Nat.mul_succ]
    omega
theorem valid_sfit {s : Seg} (h : validF s = 0) : SFit s ∧ cntF s ≤ 100 := by
  have h1 := short_of (validF_zero.1 h).2.1
  refine ⟨⟨by omega, fun x hx => by have := (h1.2 x hx).1; omega, fun x hx c hc => by have := (h1.2 x hx).2 c hc; omega⟩, ?_⟩
  unfold cntF
  rcases el_mem s 0 with h2 | h2
  · rw [h2]; simp
  · exact (h1.2 _ h2).1
theorem encAll_ge : ∀ (l : List Seg), l.length ≤ (encAll l).length
  | [] => by simp [encAll]
  | s :: r => by
    have h1 := encAll_ge r
    have h2 := encS_pos s
    have e : encAll (s :: r) = encS s ++ encAll r := rfl
    rw [e, List.length_append, List.length_cons]
    omega
theorem decoded_fit {b : Bs} (h : (decodeF b).2.2 = 0) (hl : b.length ≤ 1000000000) : (decodeF b).1.length ≤ 1000000000 ∧ (∀ s ∈ (decodeF b).1, SFit s) ∧ cntL (decodeF b).1 ≤ 10000000000000 := by
  obtain ⟨l, n, e⟩ : ∃ l n e, decodeF b = (l, n, e) := ⟨_, _, _, rfl⟩
  obtain ⟨e, he⟩ := e
  rw [he] at h ⊢
  simp only at h
  subst h
  have hd := decode_ok he
  have h1 := encAll_ge l
  rw [← hd.1] at h1
  have h2 := cnt_bd (l := l) (n := 100) (fun s hs => (valid_sfit (hd.2.2 s hs)).2)
  exact ⟨by show l.length ≤ _; omega, fun s hs => (valid_sfit (hd.2.2 s hs)).1, by show cntL l ≤ _; have : 100 * l.length ≤ 100 * 1000000000 := Nat.mul_le_mul_left _ (by omega); omega⟩
set_option maxRecDepth 100000 in
set_option maxHeartbeats 8000000 in
theorem decodeM_any (A : Option Addr) (c : Nat) (b : Bs) (w : World) (hr : RdB w w.heap.size A (u8s b)) (hc : b.length ≤ c) (hl : b.length ≤ 1000000000) (hg : Given w) :
    Calls Tryz.prog 11 #[.slice A b.length c] w (PRet w (decM b)) := by
  have q0 := (Below.refl w.heap.size w).alloc (Nat.le_refl _) (.cells #[.int .i64 0, .int .i64 0, .int .i64 0, .int .i64 0, .int .i64 0, .int .i64 0, .int .i64 0, .string ⟨#[]⟩, .string ⟨#[]⟩, .int .i64 0, .int .i64 0, .slice none 0 0, .string ⟨#[]⟩] 30)
  have hres : MBlk (w.alloc (.cells #[.int .i64 0, .int .i64 0, .int .i64 0, .int .i64 0, .int .i64 0, .int .i64 0, .int .i64 0, .string ⟨#[]⟩, .string ⟨#[]⟩, .int .i64 0, .int .i64 0, .slice none 0 0, .string ⟨#[]⟩] 30)) w.heap.size zeroM none 0 := heap_alloc_new w _
  have HDE := Lib.hid (decode_any A c b (w.alloc (.cells #[.int .i64 0, .int .i64 0, .int .i64 0, .int .i64 0, .int .i64 0, .int .i64 0, .int .i64 0, .string ⟨#[]⟩, .string ⟨#[]⟩, .int .i64 0, .int .i64 0, .slice none 0 0, .string ⟨#[]⟩] 30)) ((hr.below q0).mono q0.size) hc hl)
  have HQ0 := Lib.hid q0
  have HRES := Lib.hid hres
  have HG := Lib.hid hg
  have HJ : Hid (decM b = if (decodeF b).2.2 = 0 then parseP (decodeF b).1 else (zeroM, (decodeF b).2.2)) := rfl
  have HDF := Lib.hid (fun h => decoded_fit (b := b) h hl)
  generalize decodeF b = r at *
  generalize decM b = q at *
  unfold DecRet at HDE
  clear hr q0 hres hg
  generalize b.length = nb at *
  go_enter Tryz.func11, Tryz.ntmps11
  go_wp2_with fail
  refine HDE.out.mono ?_
  rintro e W1 ⟨v, rfl, ho, hb1⟩
  have HB1 := Lib.hid (HQ0.out.trans (hb1.mono HQ0.out.size))
  have HRES1 := Lib.hid (HRES.out.below hb1)
  obtain ⟨A1, c1, rfl, _, hat⟩ := ho.at_
  have HAT := Lib.hid hat
  obtain ⟨l, n, er⟩ := r
  simp only at HJ HDF HAT ho
  by_cases h0 : er = 0
  · subst h0
    have hdf := HDF.out rfl
    have HPA := Lib.hid (parse_any A1 c1 l W1 HAT.out hdf.1 hdf.2.1 hdf.2.2 (HG.out.tab.below HB1.out) (HG.out.err.below HB1.out))
    have HJA : Hid (q = parseP l) := HJ.out.trans (if_pos rfl)
    unfold PRet at HPA
    clear hb1 ho hat HDE HQ0 HRES HJ HDF hdf HAT
    generalize parseP l = p at *
    generalize l.length = nl at *
    go_wp2_with fail
    refine HPA.out.mono ?_
    rintro e W2 ⟨Am, cm, rfl, ho2, hb2⟩
    have HO2 := Lib.hid (World.ownsRow.mono ho2 (Nat.lt_of_lt_of_le HRES1.out.lt (Nat.le_refl _) : w.heap.size + 1 ≤ W1.heap.size))
    have HB2 := Lib.hid (HB1.out.trans (hb2.mono HB1.out.size))
    have HRES2 := Lib.hid (HRES1.out.below hb2)
    clear ho2 hb2 HPA HRES1 HB1
    go_wp2_with (refine at_store 30 (.tmp 2) (.tmp 19) rfl ?_; refine wpList_store_box rfl 30 (.tmp 2) (.tmp 19) rfl w.heap.size 0 (msgV p.1 Am cm) (msgC p.1 Am cm) rfl rfl rfl [.int .i64 0, .int .i64 0, .int .i64 0, .int .i64 0, .int .i64 0, .int .i64 0, .int .i64 0, .string ⟨#[]⟩, .string ⟨#[]⟩, .int .i64 0, .int .i64 0, .slice none 0 0, .string ⟨#[]⟩] [.int .i64 p.1.kind, .int .i64 p.1.src, .int .i64 p.1.dst, .int .i64 p.1.number, .int .i64 p.1.day, .int .i64 p.1.lot, .int .i64 p.1.other, .string ⟨p.1.code.toArray⟩, .string ⟨p.1.country.toArray⟩, .int .i64 p.1.quantity, .int .i64 p.1.amount, .slice Am p.1.list.length cm, .string ⟨p.1.text.toArray⟩] _ HRES2.out (Nat.le_of_ble_eq_true rfl) rfl (by kernel_rfl) rfl ?_; intro W9 hb9 hP9; have HR9 := Lib.hid hb9; have HP9 := Lib.hid hP9; clear hb9 hP9)
    exact ret2 (k := 2) (j := 3) (g := w.heap.size) (T := 30) (cs := msgC p.1 Am cm) Tryz.results11 rfl HR9.out Tryz.underlying30 (by kernel_rfl) rfl (par_ret (p := p) HJA.out ⟨Am, cm, rfl, World.ownsRow.mono (own_but HO2.out HP9.out (Nat.lt_succ_self _)) (Nat.le_succ _), Below.but HB2.out HP9.out (Nat.le_refl _)⟩)
  · have HJA : Hid (q = (zeroM, er)) := HJ.out.trans (if_neg h0)
    have hne : (er != 0) = true := by simpa using h0
    clear hb1 ho hat HDE HQ0 HRES HJ HDF h0
    go_wp2_with (refine at_store 30 (.tmp 2) (.tmp 15) rfl ?_; refine wpList_store_box rfl 30 (.tmp 2) (.tmp 15) rfl w.heap.size 0 (.agg #[.int .i64 0, .int .i64 0, .int .i64 0, .int .i64 0, .int .i64 0, .int .i64 0, .int .i64 0, .string ⟨#[]⟩, .string ⟨#[]⟩, .int .i64 0, .int .i64 0, .slice none 0 0, .string ⟨#[]⟩]) #[.int .i64 0, .int .i64 0, .int .i64 0, .int .i64 0, .int .i64 0, .int .i64 0, .int .i64 0, .string ⟨#[]⟩, .string ⟨#[]⟩, .int .i64 0, .int .i64 0, .slice none 0 0, .string ⟨#[]⟩] rfl rfl rfl [.int .i64 0, .int .i64 0, .int .i64 0, .int .i64 0, .int .i64 0, .int .i64 0, .int .i64 0, .string ⟨#[]⟩, .string ⟨#[]⟩, .int .i64 0, .int .i64 0, .slice none 0 0, .string ⟨#[]⟩] [.int .i64 0, .int .i64 0, .int .i64 0, .int .i64 0, .int .i64 0, .int .i64 0, .int .i64 0, .string ⟨#[]⟩, .string ⟨#[]⟩, .int .i64 0, .int .i64 0, .slice none 0 0, .string ⟨#[]⟩] _ HRES1.out (Nat.le_of_ble_eq_true rfl) rfl (by kernel_rfl) rfl ?_; intro W9 hb9 hP9; have HR9 := Lib.hid hb9; have HP9 := Lib.hid hP9; clear hb9 hP9)
    exact ret2 (k := 2) (j := 3) (g := w.heap.size) (T := 30) (cs := msgC zeroM none 0) Tryz.results11 rfl HR9.out Tryz.underlying30 (by kernel_rfl) rfl (par_ret (p := (zeroM, er)) HJA.out ⟨none, 0, rfl, World.ownsRow_nil _ _ _ _, Below.but HB1.out HP9.out (Nat.le_refl _)⟩)
/-- a valid message is parsed back -/
theorem parse_segs {m : Msg} (ok : OkM m) : parseP (segsM m) = (m, 0) := by
  unfold parseP judge
  rw [read_segs ok]
  simp only [Bool.false_eq_true, if_false, if_true]
  rw [if_pos (okM_iff.2 ok)]
theorem decM_enc {m : Msg} (ok : OkM m) : decM (encAll (segsM m)) = (m, 0) := by
  unfold decM
  rw [decode_enc (segsM_ok ok)]
  simp only [if_true]
  exact parse_segs ok
end Go.Proofs.YtmjlnckmhdgoiaaGreatDoor

/-! Plain: the lists of segments that MessageParse makes are of a size that both readers take. -/
namespace Go.Proofs.YtmjlnckmhdgoiaaGreatDoor
set_option linter.unusedVariables false

structure LOk (l : List Seg) : Prop where
  n : l.length ≤ 1000000000
  f : ∀ s ∈ l, SFit s
  c : cntL l ≤ 10000000000000
theorem cntL_append (a b : List Seg) : cntL (a ++ b) = cntL a + cntL b := by unfold cntL; rw [List.map_append, List.sum_append]
theorem cntL_drop_le (l : List Seg) (k : Nat) : cntL (l.drop k) ≤ cntL l := by
  have h := cntL_append (l.take k) (l.drop k)
  rw [List.take_append_drop] at h
  omega
theorem cntL_one (s : Seg) : cntL [s] = cntF s := by simp [cntL]
theorem cntL_cons (s : Seg) (l : List Seg) : cntL (s :: l) = cntF s + cntL l := by simp [cntL]
theorem cntL_set_le : ∀ (l : List Seg) (k : Nat) (s : Seg), cntL (l.set k s) ≤ cntL l + cntF s
  | [], k, s => by simp [cntL]
  | x :: r, 0, s => by rw [List.set_cons_zero, cntL_cons, cntL_cons]; omega
  | x :: r, k + 1, s => by rw [List.set_cons_succ, cntL_cons, cntL_cons]; have := cntL_set_le r k s; omega
theorem cntF_le {l : List Seg} {s : Seg} (h : s ∈ l) : cntF s ≤ cntL l := by
  induction l with
  | nil => cases h
  | cons x r ih =>
    rw [cntL_cons]
    rcases List.mem_cons.1 h with rfl | h
    · omega
    · have := ih h; omega
/-- the segments of a made message -/
structure SOk (l : List Seg) : Prop where
  p : 0 < l.length
  n : l.length ≤ 6
  f : ∀ s ∈ l, SFit s
  c : cntL l ≤ 600
theorem sok_made {m : Msg} (ok : OkM m) : SOk (segsM m) := by
  have h1 := segsM_len m
  have h2 := cnt_bd (l := segsM m) (n := 100) (fun s hs => (valid_sfit (segsM_ok ok s hs)).2)
  refine ⟨by unfold segsM; simp, h1, fun s hs => (valid_sfit (segsM_ok ok s hs)).1, ?_⟩
  have : 100 * (segsM m).length ≤ 100 * 6 := Nat.mul_le_mul_left _ h1
  omega
theorem SOk.same {l : List Seg} (h : SOk l) : LOk l := ⟨by have := h.n; omega, h.f, by have := h.c; omega⟩
theorem SOk.set {l : List Seg} (h : SOk l) (k : Nat) {s : Seg} (hs : SFit s) (hc : cntF s ≤ 8796093023208) : LOk (l.set k s) :=
  ⟨by rw [List.length_set]; have := h.n; omega, fun x hx => by rcases List.mem_or_eq_of_mem_set hx with h1 | h1; exact h.f x h1; rw [h1]; exact hs, by have := cntL_set_le l k s; have := h.c; omega⟩
theorem SOk.cut {l : List Seg} (h : SOk l) (k : Nat) : LOk (l.take k ++ l.drop (k + 1)) := by
  refine ⟨by rw [List.length_append, List.length_take, List.length_drop]; have := h.n; omega, fun x hx => ?_, by rw [cntL_append]; have := cntL_le l k; have := cntL_drop_le l (k + 1); have := h.c; omega⟩
  rcases List.mem_append.1 hx with h1 | h1
  · exact h.f x (List.mem_of_mem_take h1)
  · exact h.f x (List.mem_of_mem_drop h1)
theorem SOk.rep {l : List Seg} (h : SOk l) {k : Nat} {s : Seg} (hs : l[k]? = some s) : LOk (l.take k ++ [s] ++ l.drop k) := by
  have hm := List.mem_of_getElem? hs
  refine ⟨by simp only [List.length_append, List.length_take, List.length_drop, List.length_singleton]; have := h.n; omega, fun x hx => ?_, by rw [cntL_append, cntL_append, cntL_one]; have := cntF_le hm; have := cntL_le l k; have := cntL_drop_le l k; have := h.c; omega⟩
  rcases List.mem_append.1 hx with h1 | h1
  · rcases List.mem_append.1 h1 with h2 | h2
    · exact h.f x (List.mem_of_mem_take h2)
    · rw [List.mem_singleton] at h2; rw [h2]; exact h.f s hm
  · exact h.f x (List.mem_of_mem_drop h1)
theorem elAt_set (t : Bs) (els : List (List Bs)) (j : Nat) (e : List Bs) : (elAt ⟨t, els.set j e⟩ 0).length ≤ (elAt ⟨t, els⟩ 0).length + e.length := by
  unfold elAt
  simp only [List.getElem?_set]
  split
  · split <;> simp
  · omega
/-- an element of the raw segment put into a segment -/
theorem fit_el {s r : Seg} (hs : SFit s) (hr : SFit r) (hc : cntF r ≤ 8796093022208) (hc2 : cntF s ≤ 600) (j : Nat) : SFit ⟨s.tag, s.els.set j (elAt r 0)⟩ ∧ cntF ⟨s.tag, s.els.set j (elAt r 0)⟩ ≤ 8796093023208 := by
  refine ⟨⟨by simp only [List.length_set]; exact hs.n, fun x hx => ?_, fun x hx c h => ?_⟩, ?_⟩
  · rcases List.mem_or_eq_of_mem_set hx with h1 | h1
    · exact hs.e x h1
    · rw [h1]; exact hr.len 0
  · rcases List.mem_or_eq_of_mem_set hx with h1 | h1
    · exact hs.w x h1 c h
    · rw [h1] at h
      rcases el_mem r 0 with h2 | h2
      · rw [h2] at h; cases h
      · exact hr.w _ h2 c h
  · have := elAt_set s.tag s.els j (elAt r 0)
    unfold cntF at *
    have e : (elAt (⟨s.tag, s.els⟩ : Seg) 0).length = (elAt s 0).length := rfl
    omega
end Go.Proofs.YtmjlnckmhdgoiaaGreatDoor
