/- Contract of message.Parse. -/
import Derived.Test.YtmjlnckmhdgoiaaDoorQb
import Derived.Test.YtmjlnckmhdgoiaaDoorQc
import Derived.Test.YtmjlnckmhdgoiaaDoorPg
import Derived.Test.YtmjlnckmhdgoiaaDoorBox
namespace Go.Proofs.YtmjlnckmhdgoiaaDoor
open Go.RowKit
set_option linter.unusedVariables false

theorem ret2 {fn : Func} {R : Ending → World → Prop} {a : Act} {W : World} {k j : Tmp} {ty T : TypeId} {g : Nat} {cs : Array Value} {fs : Array Field} (h : fn.results = #[.cell k ty, .tmp j]) (hp : a.tmps.getD k undef = .pointer (some ⟨g, 0, none⟩)) (hg : W.heap[g]? = some (.cells cs T (0, 0)))
    (hu : Tryd.prog.underlying ty = some (.struct fs)) (hi : (Tryd.prog.info? ty).map (·.size) = some cs.size) (hdf : a.defers = []) (hR : R (.returned (.tuple #[.agg cs, a.tmps.getD j undef])) W) : bodyPost Tryd.prog fn R .ret a W := by
  refine ⟨hdf, _, ?_, hR⟩
  have hp' : a.tmps[k]?.getD undef = .pointer (some ⟨g, 0, none⟩) := by simpa using hp
  simp [results, h, hp', asAddr, run_loadVar_row W g T ty cs (0, 0) _ hg hu rfl hi]
theorem countF_ef {l : List Seg} (hf : ∀ s ∈ l, EFit s.els) : ∀ s ∈ countF l, EFit s.els := by
  intro s hs
  unfold countF at hs
  split at hs
  · exact hf s hs
  · rename_i s0 h0
    split at hs
    · have h1 := hf s0 (List.mem_of_getLast? h0)
      rcases List.mem_append.1 hs with h | h
      · exact hf s (List.dropLast_subset l h)
      · simp only [List.mem_singleton] at h
        subst h
        refine ⟨by simp only [List.length_set]; exact h1.1, fun e he => ?_⟩
        rcases List.mem_or_eq_of_mem_set he with h2 | h2
        · exact h1.2 e h2
        · subst h2; simp [elN]
    · exact hf s hs
theorem countF_len (l : List Seg) : (countF l).length = l.length := by
  unfold countF
  split
  · rfl
  · rename_i s0 h0
    split
    · have : l ≠ [] := by rintro rfl; simp at h0
      have := List.length_pos_iff.2 this
      simp
      omega
    · rfl
theorem segsM_fit {m : Msg} (ok : OkM m) : LFit (segsM m) := by
  refine ⟨by have := segsM_len m; omega, fun s hs => ?_⟩
  have h := short_of (validF_zero.1 (segsM_ok ok s hs)).2.1
  exact ⟨by omega, fun e he => by have := (h.2 e he).1; omega⟩
theorem judge_cases {l y : List Seg} {m : Msg} {q : Msg × Int} (hv : validM m = 0) (h : q = judge m l y) : (l = segsM m → q = (m, 0)) ∧ (l ≠ segsM m → (y = segsM m → q = (zeroM, 11)) ∧ (y ≠ segsM m → q = (zeroM, 4))) := by
  unfold judge at h
  rw [if_pos hv] at h
  refine ⟨fun h1 => by rw [h, if_pos h1], fun h1 => ⟨fun h2 => by rw [h, if_neg h1, if_pos h2], fun h2 => by rw [h, if_neg h1, if_neg h2]⟩⟩
theorem own_but {W W' : World} {B g : Nat} {e : TypeId} {size n : Nat} {v : Value} {xs : List Value} (h : W.ownsRow B e size v n xs) (hb : But g W W') (hg : g < B) : W'.ownsRow B e size v n xs := by
  refine ⟨h.1, ?_⟩
  rcases h.2 with h2 | ⟨b, cap, cur, hv, hB, hh, r⟩
  · exact .inl h2
  · exact .inr ⟨b, cap, cur, hv, hB, (hb.block b (by omega)).trans hh, r⟩
def PRet (w : World) (p : Msg × Int) (e : Ending) (w' : World) : Prop := ∃ A c, e = .returned (.tuple #[msgV p.1 A c, .int .i64 p.2]) ∧ w'.ownsRow w.heap.size 3 1 (.slice A p.1.list.length c) p.1.list.length (ints p.1.list) ∧ Below w.heap.size w w'
theorem par_ret {w W : World} {p q : Msg × Int} {e : Ending} (h : q = p) (hp : PRet w p e W) : PRet w q e W := by rw [h]; exact hp
def ParRel (l : List Seg) (w : World) (g : Nat) (i : Value) (wr : World) : Prop :=
  ∃ k : Nat, k + g = l.length ∧ i = .int .i64 (k : Int) ∧ PSt wr (w.heap.size + 1) (w.heap.size + 1) (w.heap.size + 1 + 1) (readL (zeroM, false) (l.take k)).1 (readL (zeroM, false) (l.take k)).2 ∧ MBlk wr w.heap.size zeroM none 0 ∧ Below w.heap.size w wr
theorem par_start (w : World) : ∃ W, W = ((w.alloc (.cells #[.int .i64 0, .int .i64 0, .int .i64 0, .int .i64 0, .int .i64 0, .int .i64 0, .int .i64 0, .string ⟨#[]⟩, .string ⟨#[]⟩, .int .i64 0, .int .i64 0, .slice none 0 0, .string ⟨#[]⟩] 24)).alloc (.cells #[.int .i64 0, .int .i64 0, .int .i64 0, .int .i64 0, .int .i64 0, .int .i64 0, .int .i64 0, .string ⟨#[]⟩, .string ⟨#[]⟩, .int .i64 0, .int .i64 0, .slice none 0 0, .string ⟨#[]⟩] 24)).alloc (.cells #[.bool false] 79) ∧
    PSt W (w.heap.size + 1) (w.heap.size + 1) (w.heap.size + 1 + 1) zeroM false ∧ MBlk W w.heap.size zeroM none 0 ∧ Below w.heap.size w W := by
  refine ⟨_, rfl, ⟨⟨none, 0, ?_, World.ownsRow_nil _ _ _ _⟩, ?_, by omega, by omega, by omega⟩, ?_, ?_⟩
  · have h := heap_alloc_new (w.alloc (.cells #[.int .i64 0, .int .i64 0, .int .i64 0, .int .i64 0, .int .i64 0, .int .i64 0, .int .i64 0, .string ⟨#[]⟩, .string ⟨#[]⟩, .int .i64 0, .int .i64 0, .slice none 0 0, .string ⟨#[]⟩] 24)) (.cells #[.int .i64 0, .int .i64 0, .int .i64 0, .int .i64 0, .int .i64 0, .int .i64 0, .int .i64 0, .string ⟨#[]⟩, .string ⟨#[]⟩, .int .i64 0, .int .i64 0, .slice none 0 0, .string ⟨#[]⟩] 24)
    have e : (w.alloc (.cells #[.int .i64 0, .int .i64 0, .int .i64 0, .int .i64 0, .int .i64 0, .int .i64 0, .int .i64 0, .string ⟨#[]⟩, .string ⟨#[]⟩, .int .i64 0, .int .i64 0, .slice none 0 0, .string ⟨#[]⟩] 24)).heap.size = w.heap.size + 1 := by simp
    rw [e] at h
    have hb := (Below.refl (w.heap.size + 1 + 1) ((w.alloc (.cells #[.int .i64 0, .int .i64 0, .int .i64 0, .int .i64 0, .int .i64 0, .int .i64 0, .int .i64 0, .string ⟨#[]⟩, .string ⟨#[]⟩, .int .i64 0, .int .i64 0, .slice none 0 0, .string ⟨#[]⟩] 24)).alloc (.cells #[.int .i64 0, .int .i64 0, .int .i64 0, .int .i64 0, .int .i64 0, .int .i64 0, .int .i64 0, .string ⟨#[]⟩, .string ⟨#[]⟩, .int .i64 0, .int .i64 0, .slice none 0 0, .string ⟨#[]⟩] 24))).alloc (by simp) (.cells #[.bool false] 79)
    exact (hb.block _ (by omega)).trans h
  · have h := heap_alloc_new ((w.alloc (.cells #[.int .i64 0, .int .i64 0, .int .i64 0, .int .i64 0, .int .i64 0, .int .i64 0, .int .i64 0, .string ⟨#[]⟩, .string ⟨#[]⟩, .int .i64 0, .int .i64 0, .slice none 0 0, .string ⟨#[]⟩] 24)).alloc (.cells #[.int .i64 0, .int .i64 0, .int .i64 0, .int .i64 0, .int .i64 0, .int .i64 0, .int .i64 0, .string ⟨#[]⟩, .string ⟨#[]⟩, .int .i64 0, .int .i64 0, .slice none 0 0, .string ⟨#[]⟩] 24)) (.cells #[.bool false] 79)
    have e : ((w.alloc (.cells #[.int .i64 0, .int .i64 0, .int .i64 0, .int .i64 0, .int .i64 0, .int .i64 0, .int .i64 0, .string ⟨#[]⟩, .string ⟨#[]⟩, .int .i64 0, .int .i64 0, .slice none 0 0, .string ⟨#[]⟩] 24)).alloc (.cells #[.int .i64 0, .int .i64 0, .int .i64 0, .int .i64 0, .int .i64 0, .int .i64 0, .int .i64 0, .string ⟨#[]⟩, .string ⟨#[]⟩, .int .i64 0, .int .i64 0, .slice none 0 0, .string ⟨#[]⟩] 24)).heap.size = w.heap.size + 1 + 1 := by simp
    rw [e] at h
    exact h
  · have h := heap_alloc_new w (.cells #[.int .i64 0, .int .i64 0, .int .i64 0, .int .i64 0, .int .i64 0, .int .i64 0, .int .i64 0, .string ⟨#[]⟩, .string ⟨#[]⟩, .int .i64 0, .int .i64 0, .slice none 0 0, .string ⟨#[]⟩] 24)
    have hb := ((Below.refl (w.heap.size + 1) (w.alloc (.cells #[.int .i64 0, .int .i64 0, .int .i64 0, .int .i64 0, .int .i64 0, .int .i64 0, .int .i64 0, .string ⟨#[]⟩, .string ⟨#[]⟩, .int .i64 0, .int .i64 0, .slice none 0 0, .string ⟨#[]⟩] 24))).alloc (by simp) (.cells #[.int .i64 0, .int .i64 0, .int .i64 0, .int .i64 0, .int .i64 0, .int .i64 0, .int .i64 0, .string ⟨#[]⟩, .string ⟨#[]⟩, .int .i64 0, .int .i64 0, .slice none 0 0, .string ⟨#[]⟩] 24)).alloc (by simp) (.cells #[.bool false] 79)
    exact (hb.block _ (by omega)).trans h
  · exact (((Below.refl w.heap.size w).alloc (Nat.le_refl _) _).alloc (by simp) _).alloc (by simp; omega) _
set_option maxRecDepth 100000 in
set_option maxHeartbeats 8000000 in
theorem parse_any (A : Option Addr) (c : Nat) (l : List Seg) (w : World) (h : SegsAt w w.heap.size A l) (hl : l.length ≤ 1000000000) (hf : ∀ s ∈ l, SFit s) (hc : cntL l ≤ 10000000000000) (ht : Tab w) (he : ErrV w) :
    Calls Tryd.prog 24 #[.slice A l.length c] w (PRet w (parseP l)) := by
  obtain ⟨W0, hW0, hp0, hm0, hb0⟩ := par_start w
  have HP0 := Lib.hid hp0
  have HM0 := Lib.hid hm0
  have HB0 := Lib.hid hb0
  have HH := Lib.hid h
  have HF := Lib.hid hf
  have HCN := Lib.hid hc
  have HT := Lib.hid ht
  have HE := Lib.hid he
  have HG := Lib.hid he.lt
  have HJ : Hid (parseP l = if (readL (zeroM, false) l).2 = true then (zeroM, 4) else judge (readL (zeroM, false) l).1 l (countF l)) := rfl
  have HLL := Lib.hid hl
  clear hp0 hm0 hb0 h hf hc ht he
  generalize hnn : l.length = n at *
  have HNN := Lib.hid hnn
  clear hnn
  go_enter Tryd.func24, Tryd.ntmps24
  go_wp2
  generalize ((w.alloc (.cells #[.int .i64 0, .int .i64 0, .int .i64 0, .int .i64 0, .int .i64 0, .int .i64 0, .int .i64 0, .string ⟨#[]⟩, .string ⟨#[]⟩, .int .i64 0, .int .i64 0, .slice none 0 0, .string ⟨#[]⟩] 24)).alloc (.cells #[.int .i64 0, .int .i64 0, .int .i64 0, .int .i64 0, .int .i64 0, .int .i64 0, .int .i64 0, .string ⟨#[]⟩, .string ⟨#[]⟩, .int .i64 0, .int .i64 0, .slice none 0 0, .string ⟨#[]⟩] 24)).alloc (.cells #[.bool false] 79) = W1 at *
  subst hW0
  go_loopg [14] n (fun g i wr => ParRel l w g i wr)
  case atStart =>
    refine ⟨0, by have := HNN.out; omega, rfl, ?_, HM0.out, HB0.out⟩
    exact HP0.out
  case round =>
    obtain ⟨k, hk, rfl, hst, hres, hb⟩ := hrel
    have HK := Lib.hid hk
    have HST := Lib.hid hst
    have HRES := Lib.hid hres
    have HB := Lib.hid hb
    have hkn : k ≤ n := by have := HNN.out; omega
    clear hk hst hres hb HP0 HM0 HB0
    by_cases hlt : k < n
    · have hlt2 : k < l.length := by have := HNN.out; omega
      obtain ⟨b, off, Ae, ce, rfl, hbl, hc0, hc1, hE⟩ := (HH.out.below HB.out).get hlt2
      have hc1 : wr.cell? ⟨b, off + k * 2 + 1, none⟩ = some (.slice Ae l[k].els.length ce) := hc1
      have HNX := Lib.hid (readL_take hlt2 (zeroM, false))
      have hmb := (read_bd HF.out false k (by omega)).list
      have hct := cntL_take hlt2
      have hcl := cntL_le l (k + 1)
      have hcn := HCN.out
      have hml : (readL (zeroM, false) (l.take k)).1.list.length + cntF l[k] ≤ 17592186044000 := by omega
      have hsf := HF.out l[k] (List.getElem_mem _)
      have hsz := HB.out.size
      have q1 := (Below.refl wr.heap.size wr).alloc (Nat.le_refl _) (.cells #[str l[k].tag, .slice Ae l[k].els.length ce] 49)
      have hbw : w.heap.size + 1 ≤ wr.heap.size := by have := HST.out.lt.1; omega
      have HQ1 := Lib.hid (HB.out.trans (q1.mono hsz))
      have HM1 := Lib.hid (HRES.out.below q1)
      have HRD := Lib.hid (read_any (w.heap.size + 1) (w.heap.size + 1) (w.heap.size + 1 + 1) _ _ Ae ce l[k] _ (HST.out.below q1) ((hE.below (q1.mono hsz)).mono (Nat.le_succ _)) hsf ⟨HE.out.below HQ1.out, by have := HG.out.1; omega, by have := HG.out.2; omega⟩ hml)
      unfold ReadRet at HRD
      clear hE hmb hct hcl hcn hml hsf q1 HST HRES
      generalize readL (zeroM, false) (l.take k) = p at *
      generalize l[k] = s at *
      obtain ⟨tg, els⟩ := s
      simp only at hc0 hc1 HQ1 HM1 HRD
      unfold str at hc0 HQ1 HM1 HRD
      generalize els.length = ne at *
      clear hlt2
      go_wp2_with fail
      refine HRD.out.mono ?_
      rintro e W2 ⟨rfl, hst2, hb2⟩
      have HST2 := Lib.hid hst2
      have HB2 := Lib.hid (HQ1.out.trans (hb2.mono (Nat.le_succ _)))
      have HM2 := Lib.hid (HM1.out.belowB hb2 (Nat.lt_succ_self _))
      clear hst2 hb2 hc0 hc1 HQ1 HM1 HRD
      go_wp2
      go_roundg (n - (k + 1))
      case measure => have := HK.out; have := HNN.out; omega
      case rel =>
        refine ⟨k + 1, by have := HNN.out; have := HK.out; omega, by go_num, ?_, HM2.out, HB2.out⟩
        rw [HNX.out]
        exact HST2.out
    · have hge : n ≤ k := by omega
      rw [List.take_of_length_le (show l.length ≤ k by have := HNN.out; omega)] at HST
      have hmb := read_bd HF.out false l.length (Nat.le_refl _)
      rw [List.take_of_length_le (Nat.le_refl _)] at hmb
      have hbd := hmb.bd HCN.out
      have HBD := Lib.hid hbd
      clear hmb hbd hlt
      generalize readL (zeroM, false) l = p at *
      obtain ⟨m, bad⟩ := p
      simp only at HST HBD HJ
      have hrc := HST.out.rd.cell0
      cases bad
      · have HJB : Hid (parseP l = judge m l (countF l)) := HJ.out.trans (if_neg (by simp))
        clear HJ
        obtain ⟨Am, cm, hmb, hown⟩ := HST.out.blk
        obtain ⟨Ax, cx, ex, hrx, _⟩ := own_shape hown
        injection ex with ex1 _ ex3
        subst ex1; subst ex3
        have HRD := Lib.hid hrx.rd
        have HMB := Lib.hid hmb
        have HOW := Lib.hid hown
        have HSG := Lib.hid (segments_any m Am cm wr hrx.rd HBD.out (HT.out.below HB.out))
        obtain ⟨d0, d1, d2, d3, d4, d5, d6, d7, d8, d9, d10, d11, d12⟩ := hmb.all
        clear hmb hown hrx
        go_wp2_with fail
        refine HSG.out.mono ?_
        rintro e W2 ⟨hb2, hcase⟩
        have HB2 := Lib.hid (HB.out.trans (hb2.mono HB.out.size))
        have HMB2 := Lib.hid (HMB.out.below hb2)
        have HRES2 := Lib.hid (HRES.out.below hb2)
        have HRD2 := Lib.hid (HRD.out.below hb2)
        have HOW2 := Lib.hid (own_below HOW.out hb2)
        clear hb2 HSG HMB HOW HRES HRD HB HST d0 d1 d2 d3 d4 d5 d6 d7 d8 d9 d10 d11 d12
        rcases hcase with ⟨hv, v, rfl, ho⟩ | ⟨hv, rfl⟩
        · have HJC := Lib.hid (judge_cases hv HJB.out)
          have ok := okM_iff.1 hv
          have hfit2 := segsM_fit ok
          obtain ⟨Av, cv, rfl, _, hat⟩ := ho.at_
          have hfl : LFit l := ⟨by have := HNN.out; have := HLL.out; omega, fun s hs => (HF.out s hs).ef⟩
          have heq := equalL_any A Av c cv l (segsM m) W2 ((HH.out.below HB2.out).mono HB2.out.size) hat hfl hfit2
          rw [HNN.out] at heq
          have HEQ := Lib.hid heq
          have HAT := Lib.hid hat
          have HFIT2 := Lib.hid hfit2
          have HFL := Lib.hid hfl
          unfold EqRet at HEQ
          clear hv ok ho hat hfit2 hfl heq HJB
          generalize segsM m = sg at *
          go_wp2_with fail
          refine HEQ.out.mono ?_
          rintro e W3 ⟨r, rfl, hr, hb3⟩
          have HB3 := Lib.hid (HB2.out.trans (hb3.mono HB2.out.size))
          have HMB3 := Lib.hid (HMB2.out.below hb3)
          have HRES3 := Lib.hid (HRES2.out.below hb3)
          have HRD3 := Lib.hid (HRD2.out.below hb3)
          have HOW3 := Lib.hid (own_below HOW2.out hb3)
          have HAT3 := Lib.hid ((HAT.out.below hb3).mono hb3.size)
          cases r
          · have HJD := Lib.hid (HJC.out.2 (fun h => by have := hr.2 h; cases this))
            clear hr hb3 HB2 HMB2 HRES2 HRD2 HAT HEQ HJC
            have hcn := counted_any A c l W3 ((HH.out.below HB3.out).mono HB3.out.size) HFL.out.1 HF.out (HT.out.below HB3.out)
            rw [HNN.out] at hcn
            unfold CntRet at hcn
            have HCT := Lib.hid hcn
            clear hcn
            go_wp2_with fail
            refine HCT.out.mono ?_
            rintro e W4 ⟨A4, c4, rfl, hat4, hb4⟩
            have HB4 := Lib.hid (HB3.out.trans (hb4.mono HB3.out.size))
            have HRES4 := Lib.hid (HRES3.out.below hb4)
            have heq := equalL_any A4 Av c4 cv (countF l) sg W4 hat4 ((HAT3.out.below hb4).mono hb4.size) ⟨by rw [countF_len]; exact HFL.out.1, countF_ef HFL.out.2⟩ HFIT2.out
            have HEQ := Lib.hid heq
            unfold EqRet at HEQ
            clear heq hat4 hb4 HCT HB3 HMB3 HRES3 HRD3 HAT3
            generalize hcl4 : (countF l).length = n4 at *
            clear hcl4
            go_wp2_with fail
            refine HEQ.out.mono ?_
            rintro e W5 ⟨r2, rfl, hr2, hb5⟩
            have HB5 := Lib.hid (HB4.out.trans (hb5.mono HB4.out.size))
            have HRES5 := Lib.hid (HRES4.out.below hb5)
            cases r2
            · have HJE : Hid (parseP l = (zeroM, 4)) := HJD.out.2 (fun h => by have := hr2.2 h; cases this)
              clear hr2 hb5 HEQ HJD HB4 HRES4
              go_wp2_with (refine at_store 24 (.tmp 2) (.tmp 47) rfl ?_; refine wpList_store_box rfl 24 (.tmp 2) (.tmp 47) rfl w.heap.size 0 (.agg #[.int .i64 0, .int .i64 0, .int .i64 0, .int .i64 0, .int .i64 0, .int .i64 0, .int .i64 0, .string ⟨#[]⟩, .string ⟨#[]⟩, .int .i64 0, .int .i64 0, .slice none 0 0, .string ⟨#[]⟩]) #[.int .i64 0, .int .i64 0, .int .i64 0, .int .i64 0, .int .i64 0, .int .i64 0, .int .i64 0, .string ⟨#[]⟩, .string ⟨#[]⟩, .int .i64 0, .int .i64 0, .slice none 0 0, .string ⟨#[]⟩] rfl rfl rfl [.int .i64 0, .int .i64 0, .int .i64 0, .int .i64 0, .int .i64 0, .int .i64 0, .int .i64 0, .string ⟨#[]⟩, .string ⟨#[]⟩, .int .i64 0, .int .i64 0, .slice none 0 0, .string ⟨#[]⟩] [.int .i64 0, .int .i64 0, .int .i64 0, .int .i64 0, .int .i64 0, .int .i64 0, .int .i64 0, .string ⟨#[]⟩, .string ⟨#[]⟩, .int .i64 0, .int .i64 0, .slice none 0 0, .string ⟨#[]⟩] _ HRES5.out (Nat.le_of_ble_eq_true rfl) rfl (by kernel_rfl) rfl ?_; intro W9 hb9 hP9; have HR9 := Lib.hid hb9; have HP9 := Lib.hid hP9; clear hb9 hP9)
              exact ret2 (k := 2) (j := 3) (g := w.heap.size) (T := 24) (cs := msgC zeroM none 0) Tryd.results24 rfl HR9.out Tryd.underlying24 (by kernel_rfl) rfl (par_ret (p := (zeroM, 4)) HJE.out ⟨none, 0, rfl, World.ownsRow_nil _ _ _ _, Below.but HB5.out HP9.out (Nat.le_refl _)⟩)
            · have HJE : Hid (parseP l = (zeroM, 11)) := HJD.out.1 (hr2.1 rfl)
              clear hr2 hb5 HEQ HJD HB4 HRES4
              go_wp2_with (refine at_store 24 (.tmp 2) (.tmp 46) rfl ?_; refine wpList_store_box rfl 24 (.tmp 2) (.tmp 46) rfl w.heap.size 0 (.agg #[.int .i64 0, .int .i64 0, .int .i64 0, .int .i64 0, .int .i64 0, .int .i64 0, .int .i64 0, .string ⟨#[]⟩, .string ⟨#[]⟩, .int .i64 0, .int .i64 0, .slice none 0 0, .string ⟨#[]⟩]) #[.int .i64 0, .int .i64 0, .int .i64 0, .int .i64 0, .int .i64 0, .int .i64 0, .int .i64 0, .string ⟨#[]⟩, .string ⟨#[]⟩, .int .i64 0, .int .i64 0, .slice none 0 0, .string ⟨#[]⟩] rfl rfl rfl [.int .i64 0, .int .i64 0, .int .i64 0, .int .i64 0, .int .i64 0, .int .i64 0, .int .i64 0, .string ⟨#[]⟩, .string ⟨#[]⟩, .int .i64 0, .int .i64 0, .slice none 0 0, .string ⟨#[]⟩] [.int .i64 0, .int .i64 0, .int .i64 0, .int .i64 0, .int .i64 0, .int .i64 0, .int .i64 0, .string ⟨#[]⟩, .string ⟨#[]⟩, .int .i64 0, .int .i64 0, .slice none 0 0, .string ⟨#[]⟩] _ HRES5.out (Nat.le_of_ble_eq_true rfl) rfl (by kernel_rfl) rfl ?_; intro W9 hb9 hP9; have HR9 := Lib.hid hb9; have HP9 := Lib.hid hP9; clear hb9 hP9)
              exact ret2 (k := 2) (j := 3) (g := w.heap.size) (T := 24) (cs := msgC zeroM none 0) Tryd.results24 rfl HR9.out Tryd.underlying24 (by kernel_rfl) rfl (par_ret (p := (zeroM, 11)) HJE.out ⟨none, 0, rfl, World.ownsRow_nil _ _ _ _, Below.but HB5.out HP9.out (Nat.le_refl _)⟩)
          · have HJD : Hid (parseP l = (m, 0)) := HJC.out.1 (hr.1 rfl)
            clear hr hb3 HB2 HMB2 HRES2 HRD2 HAT HEQ HJC
            obtain ⟨d0, d1, d2, d3, d4, d5, d6, d7, d8, d9, d10, d11, d12⟩ := HMB3.out.all
            go_wp2_with (refine at_store 24 (.tmp 2) (.tmp 40) rfl ?_; refine wpList_store_box rfl 24 (.tmp 2) (.tmp 40) rfl w.heap.size 0 (msgV m Am cm) (msgC m Am cm) rfl rfl rfl [.int .i64 0, .int .i64 0, .int .i64 0, .int .i64 0, .int .i64 0, .int .i64 0, .int .i64 0, .string ⟨#[]⟩, .string ⟨#[]⟩, .int .i64 0, .int .i64 0, .slice none 0 0, .string ⟨#[]⟩] [.int .i64 m.kind, .int .i64 m.src, .int .i64 m.dst, .int .i64 m.number, .int .i64 m.day, .int .i64 m.lot, .int .i64 m.other, .string ⟨m.code.toArray⟩, .string ⟨m.country.toArray⟩, .int .i64 m.quantity, .int .i64 m.amount, .slice Am m.list.length cm, .string ⟨m.text.toArray⟩] _ HRES3.out (Nat.le_of_ble_eq_true rfl) rfl (by kernel_rfl) rfl ?_; intro W9 hb9 hP9; have HR9 := Lib.hid hb9; have HP9 := Lib.hid hP9; clear hb9 hP9)
            exact ret2 (k := 2) (j := 3) (g := w.heap.size) (T := 24) (cs := msgC m Am cm) Tryd.results24 rfl HR9.out Tryd.underlying24 (by kernel_rfl) rfl (par_ret (p := (m, 0)) HJD.out ⟨Am, cm, rfl, World.ownsRow.mono (own_but HOW3.out HP9.out (Nat.lt_succ_self _)) (Nat.le_succ _), Below.but HB3.out HP9.out (Nat.le_refl _)⟩)
        · have HJC : Hid (parseP l = (zeroM, 4)) := HJB.out.trans (if_neg hv)
          have hne : (validM m != 0) = true := by simpa using hv
          clear hv HJB
          go_wp2_with (refine at_store 24 (.tmp 2) (.tmp 35) rfl ?_; refine wpList_store_box rfl 24 (.tmp 2) (.tmp 35) rfl w.heap.size 0 (.agg #[.int .i64 0, .int .i64 0, .int .i64 0, .int .i64 0, .int .i64 0, .int .i64 0, .int .i64 0, .string ⟨#[]⟩, .string ⟨#[]⟩, .int .i64 0, .int .i64 0, .slice none 0 0, .string ⟨#[]⟩]) #[.int .i64 0, .int .i64 0, .int .i64 0, .int .i64 0, .int .i64 0, .int .i64 0, .int .i64 0, .string ⟨#[]⟩, .string ⟨#[]⟩, .int .i64 0, .int .i64 0, .slice none 0 0, .string ⟨#[]⟩] rfl rfl rfl [.int .i64 0, .int .i64 0, .int .i64 0, .int .i64 0, .int .i64 0, .int .i64 0, .int .i64 0, .string ⟨#[]⟩, .string ⟨#[]⟩, .int .i64 0, .int .i64 0, .slice none 0 0, .string ⟨#[]⟩] [.int .i64 0, .int .i64 0, .int .i64 0, .int .i64 0, .int .i64 0, .int .i64 0, .int .i64 0, .string ⟨#[]⟩, .string ⟨#[]⟩, .int .i64 0, .int .i64 0, .slice none 0 0, .string ⟨#[]⟩] _ HRES2.out (Nat.le_of_ble_eq_true rfl) rfl (by kernel_rfl) rfl ?_; intro W9 hb9 hP9; have HR9 := Lib.hid hb9; have HP9 := Lib.hid hP9; clear hb9 hP9)
          exact ret2 (k := 2) (j := 3) (g := w.heap.size) (T := 24) (cs := msgC zeroM none 0) Tryd.results24 rfl HR9.out Tryd.underlying24 (by kernel_rfl) rfl (par_ret (p := (zeroM, 4)) HJC.out ⟨none, 0, rfl, World.ownsRow_nil _ _ _ _, Below.but HB2.out HP9.out (Nat.le_refl _)⟩)
      · have HJB : Hid (parseP l = (zeroM, 4)) := HJ.out.trans (if_pos rfl)
        clear HJ
        go_wp2_with (refine at_store 24 (.tmp 2) (.tmp 26) rfl ?_; refine wpList_store_box rfl 24 (.tmp 2) (.tmp 26) rfl w.heap.size 0 (.agg #[.int .i64 0, .int .i64 0, .int .i64 0, .int .i64 0, .int .i64 0, .int .i64 0, .int .i64 0, .string ⟨#[]⟩, .string ⟨#[]⟩, .int .i64 0, .int .i64 0, .slice none 0 0, .string ⟨#[]⟩]) #[.int .i64 0, .int .i64 0, .int .i64 0, .int .i64 0, .int .i64 0, .int .i64 0, .int .i64 0, .string ⟨#[]⟩, .string ⟨#[]⟩, .int .i64 0, .int .i64 0, .slice none 0 0, .string ⟨#[]⟩] rfl rfl rfl [.int .i64 0, .int .i64 0, .int .i64 0, .int .i64 0, .int .i64 0, .int .i64 0, .int .i64 0, .string ⟨#[]⟩, .string ⟨#[]⟩, .int .i64 0, .int .i64 0, .slice none 0 0, .string ⟨#[]⟩] [.int .i64 0, .int .i64 0, .int .i64 0, .int .i64 0, .int .i64 0, .int .i64 0, .int .i64 0, .string ⟨#[]⟩, .string ⟨#[]⟩, .int .i64 0, .int .i64 0, .slice none 0 0, .string ⟨#[]⟩] _ HRES.out (Nat.le_of_ble_eq_true rfl) rfl (by kernel_rfl) rfl ?_; intro W9 hb9 hP9; have HR9 := Lib.hid hb9; have HP9 := Lib.hid hP9; clear hb9 hP9)
        exact ret2 (k := 2) (j := 3) (g := w.heap.size) (T := 24) (cs := msgC zeroM none 0) Tryd.results24 rfl HR9.out Tryd.underlying24 (by kernel_rfl) rfl (par_ret (p := (zeroM, 4)) HJB.out ⟨none, 0, rfl, World.ownsRow_nil _ _ _ _, Below.but HB.out HP9.out (Nat.le_refl _)⟩)
end Go.Proofs.YtmjlnckmhdgoiaaDoor
