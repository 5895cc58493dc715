/- Contract of message.Pack. -/
import Derived.Test.YtmjlnckmhdgoiaaGreatDoorQm
import Derived.Test.YtmjlnckmhdgoiaaGreatDoorShelf
import Derived.Test.YtmjlnckmhdgoiaaGreatDoorQf
import Derived.Test.YtmjlnckmhdgoiaaGreatDoorQj
import Derived.Deep.CutBlock
namespace Go.Proofs.YtmjlnckmhdgoiaaGreatDoor
open Go.RowKit
set_option linter.unusedVariables false

def PkRet (w : World) (r : Bs × Int) (e : Ending) (w' : World) : Prop :=
  ∃ A c, e = .returned (.tuple #[.slice A r.1.length c, .int .i64 r.2]) ∧ r.1.length ≤ c ∧ c ≤ maxLen ∧ RdB w' w'.heap.size A (u8s r.1) ∧ Below w.heap.size w w'
theorem pk_bad {w w' : World} {x : Ich} {E : Int} (h : packF x = ([], E)) {e : Ending} (he : e = .returned (.tuple #[.slice none 0 0, .int .i64 E])) (hb : Below w.heap.size w w') : PkRet w (packF x) e w' := by
  rw [h]
  exact ⟨none, 0, he, Nat.le_refl _, Nat.zero_le _, RdB.nil _ _ _, hb⟩
theorem holds_of {w : World} {A : Option Addr} {c : Nat} {l : Bs} (h : Rd w A (u8s l)) : Lib.HoldsBytes w (.slice A l.length c) l := by
  refine ⟨A, c, rfl, fun e => ?_, fun a ha i x hx => ?_⟩
  · cases l with
    | nil => rfl
    | cons y r =>
      obtain ⟨ad, h1, _⟩ := h 0 _ rfl
      rw [e] at h1
      cases h1
  · obtain ⟨ad, h1, h2⟩ := h i (u8 x) (by rw [u8s, List.getElem?_map, hx]; rfl)
    rw [ha] at h1
    injection h1 with h1
    rw [h1]
    exact h2
theorem fresh_rd {B : Nat} {w : World} {v : Value} {l : Bs} (h : Lib.FreshBytes B w v l) : ∃ A c, v = .slice A l.length c ∧ l.length ≤ c ∧ c ≤ maxLen ∧ RdB w w.heap.size A (u8s l) := by
  obtain ⟨g, cap, zs, rfl, _, h1, h2, h3, h4, h5, h6, _⟩ := h
  refine ⟨_, _, rfl, h1, h2, RdB.of_rd fun j u hu => ⟨_, rfl, ?_⟩⟩
  have hj : j < l.length := by have := (List.getElem?_eq_some_iff.1 hu).1; rwa [u8s_len] at this
  rw [u8s_get hj] at hu
  injection hu with hu
  rw [Addr.add_lit, Nat.zero_add, h6 j (by omega), ← hu]
  have hz : j < zs.length := by omega
  have h7 : (Lib.bytesOf (zs.take l.length))[j]? = some l[j] := by rw [h5]; exact List.getElem?_eq_getElem hj
  have h8 := h4 zs[j] (List.getElem_mem hz)
  unfold Lib.bytesOf at h7
  rw [List.getElem?_map, List.getElem?_take_of_lt hj, List.getElem?_eq_getElem hz] at h7
  simp only [Option.map_some, Option.some.injEq] at h7
  rw [List.getD, List.getElem?_eq_getElem hz, ← h7]
  unfold u8
  congr 2
  simp only [Option.getD_some]
  rw [UInt8.toNat_ofNat']
  omega
/-- the bytes of the messages so far, in slot 4 -/
def PkRel (x : Ich) (w : World) (g1 : Nat) (A : Option Addr) (c : Nat) (g : Nat) (v i : Value) (wr : World) : Prop :=
  ∃ (k : Nat) (Ab : Option Addr) (n cb : Nat), k + g = x.msgs.length ∧ i = .int .i64 (k : Int) ∧ v = .slice Ab n cb ∧ (bodyL (x.msgs.take k)).length = n ∧ OwnXB wr (w.heap.size + 1) (.slice Ab n cb) (bodyL (x.msgs.take k)) ∧ IBlk wr g1 x A c ∧ Below w.heap.size w wr ∧ errL x.msgs = errL (x.msgs.drop k) ∧ ∀ m ∈ x.msgs.take k, OkM m
theorem bodyL_take {l : List Msg} {k : Nat} (h : k < l.length) : bodyL (l.take (k + 1)) = bodyL (l.take k) ++ encAll (segsM l[k]) := by
  rw [List.take_succ_eq_append_getElem h, bodyL_snoc]
theorem errL_step {l : List Msg} {k : Nat} (h : k < l.length) : errL (l.drop k) = if validM l[k] = 0 then errL (l.drop (k + 1)) else validM l[k] := by
  rw [List.drop_eq_getElem_cons h]
  rfl
theorem take_okM {l : List Msg} {k : Nat} (h : k < l.length) (h1 : ∀ m ∈ l.take k, OkM m) (h2 : OkM l[k]) : ∀ m ∈ l.take (k + 1), OkM m := by
  intro m hm
  rw [List.take_succ_eq_append_getElem h] at hm
  rcases List.mem_append.1 hm with h3 | h3
  · exact h1 m h3
  · simp only [List.mem_singleton] at h3
    rw [h3]
    exact h2
theorem packF_2 {x : Ich} (h : ichB x = true) : packF x = ([], 2) := by
  have : packE x = 2 := by unfold packE; rw [if_pos h]
  unfold packF
  rw [if_neg (by omega), this]
theorem packF_8 {x : Ich} (h : ichB x = false) (h2 : 1000 < x.msgs.length) : packF x = ([], 8) := by
  have : packE x = 8 := by unfold packE; rw [if_neg (by simp [h]), if_pos h2]
  unfold packF
  rw [if_neg (by omega), this]
theorem packF_e {x : Ich} (h : ichB x = false) (h2 : ¬ 1000 < x.msgs.length) (h3 : errL x.msgs ≠ 0) : packF x = ([], errL x.msgs) := by
  have : packE x = errL x.msgs := by unfold packE; rw [if_neg (by simp [h]), if_neg h2]
  unfold packF
  rw [if_neg (by omega), this]
theorem okI_of {x : Ich} (h : ichB x = false) (h2 : ¬ 1000 < x.msgs.length) (h3 : ∀ m ∈ x.msgs, OkM m) : OkI x := by
  refine packE_zero.1 ?_
  unfold packE
  rw [if_neg (by simp [h]), if_neg h2]
  exact errL_zero.2 h3
theorem parts3 {w : World} {g : Nat} {v0 v1 v2 : Value} {t : TypeId} {l0 l1 l2 : Bs} (h : w.heap[g]? = some (.cells #[v0, v1, v2] t (0, 0))) (h0 : Lib.HoldsBytes w v0 l0) (h1 : Lib.HoldsBytes w v1 l1) (h2 : Lib.HoldsBytes w v2 l2) : Lib.PartsAt w ⟨g, 0, none⟩ [v0, v1, v2] [l0, l1, l2] := by
  refine ⟨rfl, fun i v hv => ?_, fun i v l hv hl => ?_⟩
  · rw [Addr.add_lit, cell_of_row _ _ _ _ _ _ h, Nat.zero_add]
    simpa using hv
  · match i, hv, hl with
    | 0, hv, hl => injection hv with hv; injection hl with hl; rw [← hv, ← hl]; exact h0
    | 1, hv, hl => injection hv with hv; injection hl with hl; rw [← hv, ← hl]; exact h1
    | 2, hv, hl => injection hv with hv; injection hl with hl; rw [← hv, ← hl]; exact h2
    | i + 3, hv, hl => simp at hv
theorem OwnXB_nil (w : World) (B : Nat) : OwnXB w B (.slice none 0 0) [] := OwnX.nil_ _ _ _ _
theorem encE_one {s : Seg} (h : validF s = 0) : encE? [s] = 0 := encE?_zero.2 (fun t ht => by simp only [List.mem_singleton] at ht; rw [ht]; exact h)
set_option maxRecDepth 100000 in
set_option maxHeartbeats 80000000 in
theorem pack_any (x : Ich) (A : Option Addr) (c : Nat) (w : World) (hm : MsgsAt w w.heap.size A x.msgs) (hbd : ∀ m ∈ x.msgs, MBd m) (ht : Tab w) :
    Calls Tryz.prog 18 #[ichV x A c] w (PkRet w (packF x)) := by
  have q0 := (Below.refl w.heap.size w).alloc (Nat.le_refl _) (.cells (ichC x A c) 45)
  have hI0 : IBlk (w.alloc (.cells (ichC x A c) 45)) w.heap.size x A c := heap_alloc_new w _
  have HO := Lib.hid (fun (n lo hi : Int) (w : World) => outside_any n lo hi w)
  have HI : Hid (ichB x = (outB x.sender 0 999 || (outB x.receiver 0 999 || outB x.number 0 1000000000))) := rfl
  have HM := Lib.hid hm
  have HBD := Lib.hid hbd
  have HT := Lib.hid ht
  clear hm hbd ht
  rcases b0 : outB x.sender 0 999 with _ | _
  · rcases b1 : outB x.receiver 0 999 with _ | _
    · rcases b2 : outB x.number 0 1000000000 with _ | _
      · have hi0 : ichB x = false := by rw [HI.out, b0, b1, b2]; rfl
        have HI0 := Lib.hid hi0
        have HS := Lib.hid (outB_false.1 b0)
        have HR := Lib.hid (outB_false.1 b1)
        have HN := Lib.hid (outB_false.1 b2)
        clear hi0 HI
        by_cases hlen : 1000 < x.msgs.length
        · have HJ := Lib.hid (packF_8 HI0.out hlen)
          have hl1 : decide ((1000 : Int) < (x.msgs.length : Int)) = true := by simp; omega
          clear hlen
          go_enter Tryz.func18, Tryz.ntmps18
          go_wp2_with (go_at_call 44; refine (HO.out _ _ _ _).mono ?_; rintro e w' ⟨rfl, rfl⟩)
          go_ret2
          exact pk_bad HJ.out rfl q0
        · have hl1 : decide ((1000 : Int) < (x.msgs.length : Int)) = false := by simp; omega
          have HLN := Lib.hid hlen
          have HI1 := Lib.hid hI0
          have HQ0 := Lib.hid q0
          have hl2 : x.msgs.length ≤ 1000 := by omega
          clear hlen hI0 q0
          go_enter Tryz.func18, Tryz.ntmps18
          go_upto_region 7 with (go_at_call 44; refine (HO.out _ _ _ _).mono ?_; rintro e w' ⟨rfl, rfl⟩)
          clear b0 b1 b2 hl1 HO
          generalize hW0 : w.alloc (.cells (ichC x A c) 45) = W0 at HI1 HQ0 ⊢
          clear hW0
          obtain ⟨g1, hg1⟩ : ∃ g1, w.heap.size = g1 := ⟨_, rfl⟩
          have HGE := Lib.hid hg1
          rw [hg1] at HI1 ⊢
          clear hg1
          go_loopg [4, 33] x.msgs.length (fun g v i wr => PkRel x w g1 A c g v i wr)
          case atStart => exact ⟨0, none, 0, 0, by omega, rfl, rfl, rfl, OwnXB_nil _ _, HI1.out, HQ0.out, rfl, fun m hm => (by cases hm)⟩
          case round =>
            obtain ⟨k, Ab, nb, cb, hk, rfl, rfl, hnb, ho, hI, hb, herr, hok⟩ := hrel
            have HK := Lib.hid hk
            have HNB := Lib.hid hnb
            have HO := Lib.hid ho
            have HI2 := Lib.hid hI
            have HB := Lib.hid hb
            have HER := Lib.hid herr
            have HOK := Lib.hid hok
            have hkn : k ≤ x.msgs.length := by omega
            clear hk hnb ho hI hb herr hok HI1 HQ0
            by_cases hlt : k < x.msgs.length
            · obtain ⟨b, off, Am, cm, rfl, hbl, hrm, f0, f1, f2, f3, f4, f5, f6, f7, f8, f9, f10, f11, f12⟩ := (HM.out.below HB.out).cells hlt
              have hmb := HBD.out _ (List.getElem_mem hlt)
              have HST := Lib.hid (errL_step hlt)
              have HBT := Lib.hid (bodyL_take hlt)
              have HTK := Lib.hid (fun h => take_okM hlt HOK.out h)
              have hbn := fun h => body_len (take_okM hlt HOK.out h) (by rw [List.length_take]; omega)
              have HBN := Lib.hid hbn
              have q1 := (Below.refl wr.heap.size wr).alloc (Nat.le_refl _) (.cells (msgC x.msgs[k] Am cm) 30)
              have hM1 : MBlk (wr.alloc (.cells (msgC x.msgs[k] Am cm) 30)) wr.heap.size x.msgs[k] Am cm := heap_alloc_new wr _
              have hr1 := (hrm.below (q1.mono HB.out.size)).rd
              have HB1 := Lib.hid (HB.out.trans (q1.mono HB.out.size))
              have HO1 := Lib.hid (HO.out.below q1)
              have HI3 := Lib.hid (HI2.out.below q1)
              clear hrm q1 hbn
              generalize x.msgs[k] = m at *
              go_upto_region 9 with (fail)
              generalize hW1 : wr.alloc (.cells (msgC m Am cm) 30) = W1 at hM1 hr1 HB1 HO1 HI3 ⊢
              obtain ⟨d0, d1, d2, d3, d4, d5, d6, d7, d8, d9, d10, d11, d12⟩ := hM1.all
              generalize hgm : wr.heap.size = gm at hM1 d0 d1 d2 d3 d4 d5 d6 d7 d8 d9 d10 d11 d12 ⊢
              clear hW1 hM1 f0 f1 f2 f3 f4 f5 f6 f7 f8 f9 f10 f11 f12 hgm HO HI2
              have HEN := Lib.hid (encodeM_any m Am cm W1 hr1 hmb (HT.out.below HB1.out))
              clear hr1 hmb
              go_wp2_with fail
              refine HEN.out.mono ?_
              rintro e W2 ⟨hb2, hcase⟩
              have HB2 := Lib.hid (HB1.out.trans (hb2.mono HB1.out.size))
              have HO2 := Lib.hid (HO1.out.below hb2)
              have HI4 := Lib.hid (HI3.out.below hb2)
              clear hb2 HEN HO1 HI3 d0 d1 d2 d3 d4 d5 d6 d7 d8 d9 d10 d11 d12
              rcases hcase with ⟨hv, v, rfl, hob⟩ | ⟨hv, rfl⟩
              · obtain ⟨A5, c5, rfl, hr5, _, _⟩ := hob.shape
                have HR5 := Lib.hid hr5
                have HV := Lib.hid hv
                have hzz : ((0 : Int) != 0) = false := rfl
                have hlen2 := HBN.out (okM_iff.1 hv)
                rw [HBT.out, List.length_append] at hlen2
                have HL2 := Lib.hid hlen2
                clear hob hr5 hv hlen2
                generalize hel : (encAll (segsM m)).length = n5 at *
                have HEL := Lib.hid hel
                clear hel
                go_wp2_with (refine wpList_append_bytes _ rfl _ _ rfl (w.heap.size + 1) _ _ (by rfl) HO2.out _ _ _ _ HEL.out.symm (by rfl) HR5.out (by have := HL2.out; have := HEL.out; omega) (by have := HI4.out.lt; have := HGE.out; omega) ?_; intro v3 W3 ho3 hb3; have HIW := Lib.hid (HI4.out.belowB hb3 (by have := HGE.out; omega)); replace hb3 := hb3.mono (Nat.le_succ _); obtain ⟨A3, c3, rfl, _, _, _⟩ := ho3.shape; have HO3 := Lib.hid ho3; have HB3 := Lib.hid (HB2.out.trans hb3); clear ho3 hb3)
                go_roundg (x.msgs.length - (k + 1))
                case measure => have := HK.out; omega
                case rel =>
                  refine ⟨k + 1, A3, _, c3, by have := HK.out; omega, by go_num, rfl, by rw [HBT.out, List.length_append], ?_, HIW.out, HB3.out, by rw [HER.out, HST.out, if_pos HV.out], HTK.out (okM_iff.1 HV.out)⟩
                  rw [HBT.out]
                  have h9 := HO3.out
                  rw [List.length_append] at h9
                  exact h9
              · have hne : (validM m != 0) = true := by simpa using hv
                have HJ : Hid (packF x = ([], validM m)) := by
                  have e1 : errL x.msgs = validM m := by rw [HER.out, HST.out, if_neg hv]
                  show _ = _
                  rw [packF_e HI0.out HLN.out (by rw [e1]; exact hv), e1]
                clear hv
                go_wp2_with fail
                go_ret2
                exact pk_bad HJ.out rfl HB2.out
            · have hge : x.msgs.length ≤ k := by omega
              have hok := HOK.out
              have hnb := HNB.out
              have ho := HO.out
              rw [List.take_of_length_le hge] at hok hnb ho
              have HOKI := Lib.hid (okI_of HI0.out HLN.out hok)
              have HJ := Lib.hid (packF_ok HOKI.out)
              have HBL := Lib.hid (body_len hok hl2)
              have hrb := ho.shape
              obtain ⟨Ab', cb', e1, hrb, -, -⟩ := hrb
              injection e1 with e1 e2 e3
              subst e1; subst e3
              clear e2
              have HRB := Lib.hid (RdB.of_rd hrb)
              have HNC := Lib.hid hnb
              have HEB := Lib.hid (ich_text x)
              have q1 := (Below.refl wr.heap.size wr).alloc (Nat.le_refl _) (.cells #[.slice none 0 0] 81)
              have hWS : WS (wr.alloc (.cells #[.slice none 0 0] 81)) wr.heap.size (wr.heap.size + 1) [] := ⟨_, heap_alloc_new wr _, SegsOwn.nil_ _ _, Nat.lt_succ_self _, by simp⟩
              have hz1 : wr.heap.size + 1 ≤ (wr.alloc (.cells #[.slice none 0 0] 81)).heap.size := by simp
              have hI1 := HI2.out.below q1
              have hgg : g1 < wr.heap.size := HI2.out.lt
              have HB1 := Lib.hid (HB.out.trans (q1.mono HB.out.size))
              have HRB1 := Lib.hid (HRB.out.below q1)
              have hsB := HB.out.size
              clear hok hnb ho HOK HNB HO HER HB HI2 HRB hlt q1 hrb
              go_upto_region 15 with (fail)
              generalize hW1 : wr.alloc (.cells #[.slice none 0 0] 81) = W1 at hWS hz1 hI1 HB1 HRB1 ⊢
              generalize hgw : wr.heap.size = gw at *
              clear hW1 hgw
              obtain ⟨i0, i1, i2, i3⟩ := hI1.all
              have HN1 := Lib.hid (number_any (x.msgs.length : Int) (by omega) (by omega) W1 (HT.out.below HB1.out))
              have hgw1 : gw < W1.heap.size := by omega
              unfold ElRet at HN1
              go_wp2_with fail
              refine HN1.out.mono ?_
              rintro e W2 ⟨A2, c2, rfl, ho2, hb2⟩
              have HB2 := Lib.hid (HB1.out.trans (hb2.mono HB1.out.size))
              have HO2 := Lib.hid ho2
              have HB12 := Lib.hid hb2
              have hck := checksum_any Ab cb (bodyL x.msgs) W2 (HRB1.out.below (hb2.mono (Nat.le_of_lt hgw1))).rd (by have := HBL.out; omega)
              rw [HNC.out] at hck
              have HCK := Lib.hid hck
              have ha := adl_bd (bodyL x.msgs)
              have HN3 := Lib.hid (number_any (adlF (bodyL x.msgs)) (by omega) (by omega) W2 (HT.out.below HB2.out))
              unfold ElRet at HN3
              clear ho2 hb2 HN1 i0 i1 i2 i3 hck ha
              go_wp2_with fail
              refine HCK.out.mono ?_
              rintro e w' ⟨rfl, rfl⟩
              go_wp2_with fail
              refine HN3.out.mono ?_
              rintro e W3 ⟨A3, c3, rfl, ho3, hb3⟩
              have hb13 := HB12.out.trans (hb3.mono HB12.out.size)
              have hz3 : gw + 1 ≤ W3.heap.size := Nat.le_trans hz1 hb13.size
              have ho2' : OwnStr W3 (gw + 1) (.slice A2 (elN (x.msgs.length : Int)).length c2) (elN (x.msgs.length : Int)) := (HO2.out.mono (B' := gw + 1) hz1).below hb3
              have ho3' : OwnStr W3 (gw + 1) (.slice A3 (elN (adlF (bodyL x.msgs))).length c3) (elN (adlF (bodyL x.msgs))) := ho3.mono (B' := gw + 1) (Nat.le_trans hz1 HB12.out.size)
              have hEL := els2 (w := W3) hz3 ho2' ho3'
              have qe := (Below.refl W3.heap.size W3).alloc (Nat.le_refl _) (.cells #[.slice A2 (elN (x.msgs.length : Int)).length c2, .slice A3 (elN (adlF (bodyL x.msgs))).length c3] 60)
              have hb14 := hb13.trans (qe.mono hb13.size)
              have hWSe := hWS.below hb14
              have hIe := hI1.below hb14
              have HBe := Lib.hid (HB1.out.trans (hb14.mono HB1.out.size))
              have HRBe := Lib.hid (HRB1.out.below (hb14.mono (Nat.le_of_lt hgw1)))
              have hqz : gw ≤ (W3.alloc (.cells #[.slice A2 (elN (x.msgs.length : Int)).length c2, .slice A3 (elN (adlF (bodyL x.msgs))).length c3] 60)).heap.size := by have := qe.size; omega
              have HPU := Lib.hid (put_any gw (gw + 1) [] tUNZ _ 2 _ _ hWSe hEL (by simp))
              have HIE := Lib.hid hIe
              have HRB1s : Hid (W1.heap.size ≤ W1.heap.size) := Nat.le_refl _
              clear hb13 ho2' ho3' hEL qe hb14 hWSe hIe HN3 HCK HO2 HB12 HB2 hb3 ho3 hWS hI1
              go_wp2_with fail
              refine HPU.out.mono ?_
              rintro e W4 ⟨rfl, hws, hput⟩
              have hbp := hput.below (by omega) hqz
              have HB4 := Lib.hid (HBe.out.trans (hbp.mono hsB))
              have hI4 := hput.ich HIE.out (Nat.ne_of_lt hgg)
              have HRB4 : Hid (RdB W4 gw Ab (u8s (bodyL x.msgs))) := HRBe.out.below hbp
              obtain ⟨i0, i1, i2, i3⟩ := hI4.all
              have HWS : Hid (WS W4 gw (gw + 1) [sUNZ x.msgs]) := hws
              have HHD := Lib.hid (header_any x A c W4 ⟨⟨by have := HS.out; omega, by have := HS.out; omega⟩, ⟨by have := HR.out; omega, by have := HR.out; omega⟩, ⟨by have := HN.out; omega, by have := HN.out; omega⟩⟩ (HT.out.below HB4.out))
              unfold HdRet at HHD
              clear hws hput hbp hI4 HBe HIE HRBe HPU hqz hz3
              go_wp2_with fail
              refine HHD.out.mono ?_
              rintro e W5 ⟨vh, rfl, hoh, hb5⟩
              obtain ⟨Ah, ch, hvh, _, hath⟩ := hoh.at_
              have hvh : vh = .slice Ah 1 ch := hvh
              subst hvh
              have HB5 := Lib.hid (HB4.out.trans (hb5.mono HB4.out.size))
              have hgw4 : gw < W4.heap.size := by obtain ⟨_, _, _, h1, h2⟩ := HWS.out; omega
              have HRB5 := Lib.hid (HRB4.out.below (hb5.mono (Nat.le_of_lt hgw4)))
              have HWS5 := Lib.hid (HWS.out.below hb5)
              have HE5 := Lib.hid (encode_any Ah ch [sUNB x] W5 hath (by simp) (fits_few (by simp)))
              unfold EncRet at HE5
              have HV5 := Lib.hid (encE_one (sUNB_ok HOKI.out))
              clear hoh hath hb5 HHD HB4 HRB4 HWS i0 i1 i2 i3
              go_wp2_with fail
              refine HE5.out.mono ?_
              rintro e W6 ⟨hb6, hcase⟩
              rcases hcase.resolve_right (fun h => absurd HV5.out h.1) with ⟨_, v6, rfl, ho6⟩
              obtain ⟨A6, c6, rfl, hr6, _, _⟩ := ho6.shape
              have HR6 := Lib.hid (RdB.of_rd hr6)
              have HB6 := Lib.hid (HB5.out.trans (hb6.mono HB5.out.size))
              have hgw5 : gw < W5.heap.size := by obtain ⟨_, _, _, h1, h2⟩ := HWS5.out; omega
              have HRB6 := Lib.hid (HRB5.out.below (hb6.mono (Nat.le_of_lt hgw5)))
              obtain ⟨v7, hcw, hso7, _, hle7⟩ := HWS5.out.below hb6
              obtain ⟨A7, c7, hv7, _, hat7⟩ := hso7.at_
              have hv7 : v7 = .slice A7 1 c7 := hv7
              subst hv7
              have hcw0 : W6.cell? ⟨gw, 0, none⟩ = some (.slice A7 1 c7) := by rw [cell_of_row _ _ _ _ _ _ hcw]; rfl
              have HE7 := Lib.hid (encode_any A7 c7 [sUNZ x.msgs] W6 hat7 (by simp) (fits_few (by simp)))
              unfold EncRet at HE7
              have HV7 := Lib.hid (encE_one (sUNZ_ok (l := x.msgs) hl2))
              clear ho6 hr6 hb6 hcw hso7 hat7 HE5 HV5 HB5 HRB5 HWS5
              go_wp2_with fail
              refine HE7.out.mono ?_
              rintro e W8 ⟨hb8, hcase⟩
              rcases hcase.resolve_right (fun h => absurd HV7.out h.1) with ⟨_, v8, rfl, ho8⟩
              obtain ⟨A8, c8, rfl, hr8, _, _⟩ := ho8.shape
              have HB8 := Lib.hid (HB6.out.trans (hb8.mono HB6.out.size))
              have HR8 := Lib.hid (RdB.of_rd hr8)
              have HR68 := Lib.hid ((HR6.out.below hb8).mono hb8.size)
              have HRB8 := Lib.hid ((HRB6.out.below (hb8.mono (Nat.le_of_lt (Nat.lt_of_lt_of_le (Nat.lt_succ_self _) hle7)))).mono (Nat.le_trans (Nat.le_of_lt (Nat.lt_of_lt_of_le (Nat.lt_succ_self _) hle7)) hb8.size))
              have q9 := (Below.refl W8.heap.size W8).alloc (Nat.le_refl _) (.cells #[.slice A6 (encAll [sUNB x]).length c6, .slice Ab nb cb, .slice A8 (encAll [sUNZ x.msgs]).length c8] 23)
              have hnew := heap_alloc_new W8 (.cells #[.slice A6 (encAll [sUNB x]).length c6, .slice Ab nb cb, .slice A8 (encAll [sUNZ x.msgs]).length c8] 23)
              have HB9 := Lib.hid (HB8.out.trans (q9.mono HB8.out.size))
              have hl6 : (encAll [sUNB x]).length ≤ 128330 := by have := encAll_sml [sUNB x] (fun s hs => by simp only [List.mem_singleton] at hs; rw [hs]; exact sUNB_sml HOKI.out); simpa using this
              have hl8 : (encAll [sUNZ x.msgs]).length ≤ 128330 := by have := encAll_sml [sUNZ x.msgs] (fun s hs => by simp only [List.mem_singleton] at hs; rw [hs]; exact sUNZ_sml hl2); simpa using this
              have HJO := Lib.hid (Tryz.bytes_Join_many W8.heap.size 0 3 3 [.slice A6 (encAll [sUNB x]).length c6, .slice Ab nb cb, .slice A8 (encAll [sUNZ x.msgs]).length c8] [encAll [sUNB x], bodyL x.msgs, encAll [sUNZ x.msgs]] (.slice none 0 0) [] _ rfl (by omega)
                (parts3 hnew (holds_of ((HR68.out.below q9).rd)) (by have := holds_of (c := cb) ((HRB8.out.below q9).rd); rw [HNC.out] at this; exact this) (holds_of ((HR8.out.below q9).rd))) (Nat.le_refl _) ⟨none, 0, rfl, fun _ => rfl, fun a ha => (by cases ha)⟩ (by omega)
                (by simp only [Lib.lens, List.map_cons, List.map_nil, List.sum_cons, List.sum_nil, List.length_nil]; have := HBL.out; omega))
              have HOUT : Hid (Lib.join [encAll [sUNB x], bodyL x.msgs, encAll [sUNZ x.msgs]] [] = encAll (ichSegs x)) := by show _ = _; rw [HEB.out, encAll_one, encAll_one]; simp [Lib.join, List.intercalate]
              rw [HOUT.out] at HJO
              clear ho8 hr8 hb8 HE7 HV7 HB6 HRB6 HR6 HB8 HR8 HR68 HRB8 q9 hnew hl6 hl8 hcw0
              go_wp2_with fail
              refine HJO.out.mono ?_
              rintro e Wa ⟨va, rfl, hfr, hba⟩
              obtain ⟨Aa, ca, rfl, h1, h2, h3⟩ := fresh_rd hfr
              go_wp2_with fail
              go_ret2
              rw [HJ.out]
              exact ⟨Aa, ca, rfl, h1, h2, h3, HB9.out.trans (hba.mono HB9.out.size)⟩
      · have HJ := Lib.hid (packF_2 (x := x) (by rw [HI.out, b0, b1, b2]; rfl))
        clear HI
        go_enter Tryz.func18, Tryz.ntmps18
        go_wp2_with (go_at_call 44; refine (HO.out _ _ _ _).mono ?_; rintro e w' ⟨rfl, rfl⟩)
        go_ret2
        exact pk_bad HJ.out rfl q0
    · have HJ := Lib.hid (packF_2 (x := x) (by rw [HI.out, b0, b1]; rfl))
      clear HI
      go_enter Tryz.func18, Tryz.ntmps18
      go_wp2_with (go_at_call 44; refine (HO.out _ _ _ _).mono ?_; rintro e w' ⟨rfl, rfl⟩)
      go_ret2
      exact pk_bad HJ.out rfl q0
  · have HJ := Lib.hid (packF_2 (x := x) (by rw [HI.out, b0]; rfl))
    clear HI
    go_enter Tryz.func18, Tryz.ntmps18
    go_wp2_with (go_at_call 44; refine (HO.out _ _ _ _).mono ?_; rintro e w' ⟨rfl, rfl⟩)
    go_ret2
    exact pk_bad HJ.out rfl q0
end Go.Proofs.YtmjlnckmhdgoiaaGreatDoor

/-! Contract of message.messages. -/
namespace Go.Proofs.YtmjlnckmhdgoiaaGreatDoor
open Go.RowKit
set_option linter.unusedVariables false

def MsRet (w : World) (o : Option (List Msg)) (e : Ending) (w' : World) : Prop :=
  Below w.heap.size w w' ∧ ((∃ (ms : List Msg) (A : Option Addr) (n c : Nat), o = some ms ∧ ms.length = n ∧ e = .returned (.tuple #[.slice A n c, .bool true]) ∧ MsgsOwn w' w.heap.size (.slice A n c) ms ∧ ∀ m ∈ ms, OkM m) ∨
    (∃ (A : Option Addr) (n c : Nat), o = none ∧ e = .returned (.tuple #[.slice A n c, .bool false])))
/-- between two rounds: the messages so far in slot 4, the place behind the last END in slot 5 -/
structure MsSt (l : List Seg) (k st : Nat) (ms : List Msg) (n : Nat) : Prop where
  hs : st ≤ k
  hn : ms.length = n
  nk : n ≤ k
  ok : ∀ m ∈ ms, OkM m
  eq : msgsP [] l = (msgsP ((l.take k).drop st) (l.drop k)).map (ms ++ ·)
def MsRel (l : List Seg) (w : World) (g : Nat) (v4 v5 v12 : Value) (wr : World) : Prop :=
  ∃ (k st : Nat) (ms : List Msg) (A : Option Addr) (n c : Nat), k + g = l.length ∧ v12 = .int .i64 (k : Int) ∧ v5 = .int .i64 (st : Int) ∧ v4 = .slice A n c ∧ MsgsOwn wr w.heap.size (.slice A n c) ms ∧ Below w.heap.size w wr ∧ MsSt l k st ms n
theorem MsSt.start (l : List Seg) : MsSt l 0 0 [] 0 := ⟨Nat.le_refl _, rfl, Nat.le_refl _, fun m hm => (by cases hm), by
  show msgsP [] l = (msgsP [] l).map ([] ++ ·)
  cases msgsP [] l <;> rfl⟩
theorem cur_snoc {l : List Seg} {k st : Nat} (h : k < l.length) (hs : st ≤ k) : (l.take (k + 1)).drop st = (l.take k).drop st ++ [l[k]] := by
  rw [List.take_succ_eq_append_getElem h, List.drop_append_of_le_length (by rw [List.length_take]; omega)]
theorem MsSt.pass {l : List Seg} {k st n : Nat} {ms : List Msg} (h : MsSt l k st ms n) (hk : k < l.length) (ht : ¬ l[k].tag = tEND) : MsSt l (k + 1) st ms n :=
  ⟨by have := h.hs; omega, h.hn, by have := h.nk; omega, h.ok, by rw [h.eq, List.drop_eq_getElem_cons hk, msgsP_not ht, cur_snoc hk h.hs]⟩
theorem MsSt.next {l : List Seg} {k st n : Nat} {ms : List Msg} (h : MsSt l k st ms n) (hk : k < l.length) (ht : l[k].tag = tEND) {m : Msg} (hp : parseP (countF ((l.take (k + 1)).drop st)) = (m, 0)) : MsSt l (k + 1) (k + 1) (ms ++ [m]) (n + 1) := by
  refine ⟨Nat.le_refl _, by rw [List.length_append, h.hn]; rfl, by have := h.nk; omega, fun x hx => ?_, ?_⟩
  · rcases List.mem_append.1 hx with h1 | h1
    · exact h.ok x h1
    · simp only [List.mem_singleton] at h1
      rw [h1]
      exact parseP_okM hp rfl
  · rw [h.eq, List.drop_eq_getElem_cons hk, msgsP_end ht, ← cur_snoc hk h.hs, hp, if_pos rfl]
    have : (l.take (k + 1)).drop (k + 1) = [] := List.drop_eq_nil_of_le (by rw [List.length_take]; omega)
    rw [this]
    cases msgsP [] (l.drop (k + 1)) with
    | none => rfl
    | some r => simp
theorem MsSt.bad {l : List Seg} {k st n : Nat} {ms : List Msg} (h : MsSt l k st ms n) (hk : k < l.length) (ht : l[k].tag = tEND) (hp : ¬ (parseP (countF ((l.take (k + 1)).drop st))).2 = 0) : msgsP [] l = none := by
  rw [h.eq, List.drop_eq_getElem_cons hk, msgsP_end ht, ← cur_snoc hk h.hs, if_neg hp]
  rfl
theorem MsSt.done {l : List Seg} {k st n : Nat} {ms : List Msg} (h : MsSt l k st ms n) (hk : k = l.length) : (st = l.length → msgsP [] l = some ms) ∧ (st ≠ l.length → msgsP [] l = none) := by
  have h0 := h.hs
  have e := h.eq
  subst hk
  rw [List.drop_length, List.take_length] at e
  constructor
  · intro hs
    rw [e, hs, List.drop_length]
    show ((if ([] : List Seg).length = 0 then some [] else none) : Option (List Msg)).map _ = _
    simp
  · intro hs
    rw [e]
    show ((if (l.drop st).length = 0 then some [] else none) : Option (List Msg)).map _ = _
    rw [if_neg (by rw [List.length_drop]; omega)]
    rfl
/-- a part of a row of segments -/
theorem SegsAt.part {w : World} {B : Nat} {b off : Nat} {l : List Seg} (h : SegsAt w B (some ⟨b, off, none⟩) l) (i j : Nat) : SegsAt w B (some ⟨b, off + i * 2, none⟩) ((l.take j).drop i) := by
  obtain ⟨cs, h1, h2, h3⟩ := h
  refine ⟨(cs.take (j * 2)).drop (i * 2), ?_, ?_, fun k s hs => ?_⟩
  · rw [List.length_drop, List.length_take, List.length_drop, List.length_take, h1]
    omega
  · have := (h2.take (j * 2)).drop (i * 2)
    simpa [Addr.add_lit] using this
  · have hk : k < ((l.take j).drop i).length := (List.getElem?_eq_some_iff.1 hs).1
    rw [List.length_drop, List.length_take] at hk
    rw [List.getElem?_drop, List.getElem?_take_of_lt (by omega)] at hs
    obtain ⟨t, v, a, e, c⟩ := h3 _ s hs
    refine ⟨t, v, ?_, ?_, c⟩
    · rw [List.getElem?_drop, List.getElem?_take_of_lt (by omega), ← a]
      congr 1
      omega
    · rw [List.getElem?_drop, List.getElem?_take_of_lt (by omega), ← e]
      congr 1
      omega
set_option maxRecDepth 100000 in
set_option maxHeartbeats 40000000 in
theorem messages_any (A : Option Addr) (c : Nat) (l : List Seg) (w : World) (h : SegsAt w w.heap.size A l) (hd : Dcd l) (hc : l.length ≤ c) (hg : Given w) :
    Calls Tryz.prog 74 #[.slice A l.length c] w (MsRet w (msgsP [] l)) := by
  have HH := Lib.hid h
  have HD := Lib.hid hd
  have HG := Lib.hid hg
  have hlb := hd.n
  clear h hd hg
  generalize hnn : l.length = n at *
  have HNN := Lib.hid hnn
  clear hnn
  go_enter Tryz.func74, Tryz.ntmps74
  go_wp2
  go_loopg [4, 5, 12] n (fun g v4 v5 v12 wr => MsRel l w g v4 v5 v12 wr)
  case atStart => exact ⟨0, 0, [], none, 0, 0, by have := HNN.out; omega, rfl, rfl, rfl, MsgsOwn.nil_ _ _, Below.refl _ _, MsSt.start l⟩
  case round =>
    obtain ⟨k, st, ms, A4, n4, c4, hk, rfl, rfl, rfl, ho, hb, hst⟩ := hrel
    have HK := Lib.hid hk
    have HO := Lib.hid ho
    have HB := Lib.hid hb
    have HST := Lib.hid hst
    have hkn : k ≤ n := by have := HNN.out; omega
    have hst0 := hst.hs
    clear hk ho hb hst
    by_cases hlt : k < n
    · have hlt2 : k < l.length := by have := HNN.out; omega
      obtain ⟨b, off, Ae, ce, rfl, hbl, hc0, hc1, hE⟩ := (HH.out.below HB.out).get hlt2
      have hc1 : wr.cell? ⟨b, off + k * 2 + 1, none⟩ = some (.slice Ae l[k].els.length ce) := hc1
      have q1 := (Below.refl wr.heap.size wr).alloc (Nat.le_refl _) (.cells #[str l[k].tag, .slice Ae l[k].els.length ce] 57)
      have HB1 := Lib.hid (HB.out.trans (q1.mono HB.out.size))
      have HO1 := Lib.hid (HO.out.below q1)
      have HTG : Hid (l[k].tag = tEND → ([69, 78, 68] : Bs) = l[k].tag) := fun h => h.symm
      have HPS := Lib.hid (fun h => HST.out.pass hlt2 h)
      have HNX := Lib.hid (fun h m hp => HST.out.next hlt2 h (m := m) hp)
      have HBA := Lib.hid (fun h hp => HST.out.bad hlt2 h hp)
      have hpt := (HH.out.below HB1.out).part st (k + 1)
      have hpl : ((l.take (k + 1)).drop st).length = k + 1 - st := by rw [List.length_drop, List.length_take]; omega
      have hpd : Dcd ((l.take (k + 1)).drop st) := HD.out.sub (fun s hs => List.mem_of_mem_take (List.mem_of_mem_drop hs)) (by rw [hpl]; omega)
      have HPT := Lib.hid hpt
      have HPL := Lib.hid hpl
      have HPD := Lib.hid hpd
      clear hE q1 HST hpt hpl hpd HO HB
      generalize (l.take (k + 1)).drop st = lp at *
      generalize l[k] = s at *
      obtain ⟨tg, els⟩ := s
      simp only at hc0 hc1 HB1 HO1 HTG HPS HNX HBA HPT
      unfold str at hc0 HB1 HO1 HPT
      generalize els.length = ne at *
      by_cases ht : tg = tEND
      · have hT2 : (tg == [69, 78, 68]) = true := by rw [ht]; rfl
        have hT3 : (tg != [69, 78, 68]) = false := by rw [ht]; rfl
        have HT := Lib.hid ht
        clear ht hlt2
        have hcn := counted_any (some ⟨b, off + st * 2, none⟩) (c - st) lp _ (HPT.out.mono HB1.out.size) HPD.out.n HPD.out.fit (HG.out.tab.below HB1.out)
        rw [HPL.out] at hcn
        have HCN := Lib.hid hcn
        unfold CntRet at HCN
        clear hcn
        go_wp2_with fail
        generalize hW1 : wr.alloc (.cells #[.string ⟨tg.toArray⟩, .slice Ae ne ce] 57) = W1 at HB1 HO1 HPT HCN ⊢
        clear hW1 hc0 hc1
        refine HCN.out.mono ?_
        rintro e W2 ⟨A2, c2, rfl, hat2, hb2⟩
        have HB2 := Lib.hid (HB1.out.trans (hb2.mono HB1.out.size))
        have HO2 := Lib.hid (HO1.out.below hb2)
        have hpc := HPD.out.count
        have HPA := Lib.hid (parse_any A2 c2 (countF lp) W2 hat2 hpc.n hpc.fit hpc.cnt (HG.out.tab.below HB2.out) (HG.out.err.below HB2.out))
        unfold PRet at HPA
        clear hpc hat2 hb2 HCN HO1 HB1 HPT HPL HPD
        generalize (countF lp).length = nl at *
        generalize parseP (countF lp) = p at *
        obtain ⟨pm, pe⟩ := p
        simp only at HPA
        go_wp2_with fail
        refine HPA.out.mono ?_
        rintro e W3 ⟨Am, cm, rfl, ho3, hb3⟩
        have q4 := (Below.refl W3.heap.size W3).alloc (Nat.le_refl _) (.cells (msgC pm Am cm) 30)
        have hM4 : MBlk (W3.alloc (.cells (msgC pm Am cm) 30)) W3.heap.size pm Am cm := heap_alloc_new W3 _
        have hb34 := hb3.trans (q4.mono hb3.size)
        have HB4 := Lib.hid (HB2.out.trans (hb34.mono HB2.out.size))
        have HO4 := Lib.hid (HO2.out.below hb34)
        have HU4 := Lib.hid (own_below (World.ownsRow.mono ho3 HB2.out.size) q4)
        try simp only at HU4
        clear ho3 hb3 q4 hb34 HPA HO2 HB2
        by_cases hpe : pe = 0
        · subst hpe
          have hzz : ((0 : Int) != 0) = false := rfl
          have HST2 := Lib.hid (HNX.out HT.out pm rfl)
          clear HNX HBA HPS
          go_upto_region 10 with (fail)
          generalize hW4 : W3.alloc (.cells (msgC pm Am cm) 30) = W4 at hM4 HB4 HO4 HU4 ⊢
          obtain ⟨d0, d1, d2, d3, d4, d5, d6, d7, d8, d9, d10, d11, d12⟩ := hM4.all
          generalize hgm : W3.heap.size = gm at hM4 d0 d1 d2 d3 d4 d5 d6 d7 d8 d9 d10 d11 d12 ⊢
          clear hW4 hM4 hgm
          go_wp2_with (refine wpList_append_msg _ rfl _ _ rfl w.heap.size _ _ (by rfl) HO4.out pm Am cm HU4.out (by rfl) (by have := HST2.out.nk; have := HST2.out.hn; have h9 : (ms ++ [pm]).length = ms.length + 1 := (by simp); omega) HB4.out.size ?_; intro v5 W5 ho5 hb5; obtain ⟨A5, c5, hv5, _, _⟩ := ho5.at_; rw [HST2.out.hn] at hv5; subst hv5; have HO5 := Lib.hid ho5; have HB5 := Lib.hid (HB4.out.trans hb5); clear ho5 hb5)
          go_roundg (n - (k + 1))
          case measure => have := HK.out; have := HNN.out; omega
          case rel => exact ⟨k + 1, k + 1, ms ++ [pm], A5, n4 + 1, c5, by have := HNN.out; have := HK.out; omega, by go_num, by go_num, rfl, HO5.out, HB5.out, HST2.out⟩
        · have hzz : (pe != 0) = true := by simpa using hpe
          have HMS := Lib.hid (HBA.out HT.out hpe)
          clear HNX HBA HPS hpe
          go_wp2
          go_ret2
          exact ⟨HB4.out, .inr ⟨none, 0, 0, HMS.out, rfl⟩⟩
      · have hT2 : (tg == [69, 78, 68]) = false := by simpa [tEND] using ht
        have hT3 : (tg != [69, 78, 68]) = true := by simp [hT2, bne]
        have HT := Lib.hid ht
        clear ht hlt2
        go_wp2
        go_roundg (n - (k + 1))
        case measure => have := HK.out; have := HNN.out; omega
        case rel => exact ⟨k + 1, st, ms, A4, n4, c4, by have := HNN.out; have := HK.out; omega, by go_num, rfl, rfl, HO1.out, HB1.out, HPS.out HT.out⟩
    · have hge : n ≤ k := by omega
      have hke : k = l.length := by have := HNN.out; omega
      have HDN := Lib.hid (HST.out.done hke)
      have HOK := Lib.hid HST.out.ok
      have HN4 := Lib.hid HST.out.hn
      by_cases hs : st = n
      · have hs2 : ((st : Int) == (n : Int)) = true := by simp [hs]
        have HMS := Lib.hid (HDN.out.1 (by rw [HNN.out]; exact hs))
        clear HDN hs HST
        go_wp2
        go_ret2
        exact ⟨HB.out, .inl ⟨ms, A4, n4, c4, HMS.out, HN4.out, rfl, HO.out, HOK.out⟩⟩
      · have hs2 : ((st : Int) == (n : Int)) = false := by rw [beq_eq_false_iff_ne]; omega
        have HMS := Lib.hid (HDN.out.2 (by rw [HNN.out]; exact hs))
        clear HDN hs HST
        go_wp2
        go_ret2
        exact ⟨HB.out, .inr ⟨A4, n4, c4, HMS.out, rfl⟩⟩
end Go.Proofs.YtmjlnckmhdgoiaaGreatDoor
