/- The law InterchangeUnpack: the walk. -/
import Derived.Test.YtmjlnckmhdgoiaaGreatDoorQp
import Derived.Test.YtmjlnckmhdgoiaaGreatDoorQr
import Derived.Test.YtmjlnckmhdgoiaaGreatDoorQj
import Derived.Test.YtmjlnckmhdgoiaaGreatDoorMo
import Derived.Deep.CutBlock
import Derived.Test.YtmjlnckmhdgoiaaGreatDoorRows
import Derived.Test.YtmjlnckmhdgoiaaGreatDoorCards
import Derived.Test.YtmjlnckmhdgoiaaGreatDoorTie
import Derived.Test.YtmjlnckmhdgoiaaGreatDoorFrame
import Derived.WalkKit
import Derived.ProofKit
import Derived.OpenShut
import Derived.Deep.DeepHandedRow
import Derived.SevenTiedAt
namespace Go.Proofs.YtmjlnckmhdgoiaaGreatDoor
open Go.RowKit
set_option linter.unusedVariables false

theorem pack_posU (x : Ich) : 0 < (encAll (ichSegs x)).length := by
  have h1 := encAll_ge (ichSegs x)
  have : 0 < (ichSegs x).length := by unfold ichSegs; simp
  omega
theorem unpack_bd (b : Bs) : (∀ m ∈ (unpackP b).1.msgs, m.list.length ≤ 9223372036854775807) ∧ (unpackP b).1.msgs.length ≤ 1000000000 := by
  by_cases h : (unpackP b).2 = 0
  · have ok := (unpack_ok h).1
    exact ⟨fun m hm => by have := (ok.m m hm).ll; omega, by have := ok.l; omega⟩
  · rw [unpack_bad h]
    exact ⟨fun m hm => (by cases hm), by simp [zeroI]⟩
def LuRel (w : World) (B g3 nx c2 : Nat) (g : Nat) (v : Value) (wr : World) : Prop :=
  ∃ (k : Nat) (bs : Bs), k + g = 2 ∧ v = .int .i64 (k : Int) ∧ bs.length = nx ∧ OwnB wr B (.slice (some ⟨g3, 0, none⟩) nx c2) bs ∧ Below w.heap.size w wr
namespace interchangeUnpack
set_option maxHeartbeats 80000000 in
set_option maxRecDepth 100000 in
theorem walkInterchangeUnpack (Al : Option Addr) (cl : Nat) (L : List (List Int)) (Aa : Option Addr) (ca : Nat) (la : List Int) (Ab : Option Addr) (cb : Nat) (lb : Bs) (Ar : Option Addr) (cr : Nat) (raw : Bs) (w : World) (hl : RowsAt w Al cl L) (hat : SlI w Aa ca la) (hby : SlB w Ab cb lb) (hr : SlB w Ar cr raw) (hL : laidMetH Tryz.prog Rows.interchangeUnpackRow.laid w) :
    Calls Tryz.prog 5 #[.slice Al L.length cl, .slice Aa la.length ca, .slice Ab lb.length cb, .slice Ar raw.length cr] w fun e w' => e = .returned (.bool true) ∧ Below w.heap.size w w' := by
  have HG := Lib.hid (given_of_laid hL (by kernel_rfl) (by kernel_rfl) (by kernel_rfl) (by kernel_rfl))
  have HMA := Lib.hid (madeI_any Al cl L 1 2 3 1 2 3 rfl rfl rfl w hl)
  unfold MadeI at HMA
  obtain ⟨hrr, hrc, hrm⟩ := hr
  have HRW := Lib.hid hrr
  unfold maxLen at hrm
  have HAT := Lib.hid hat
  have HBY := Lib.hid hby.rd
  have hac := hat.le
  have ham := hat.max
  have hbc := hby.le
  have hbm := hby.max
  clear hL hl hrr hat hby
  generalize hnr : raw.length = nr at *
  have HNR := Lib.hid hnr
  clear hnr
  go_enter Tryz.func5, Tryz.ntmps5
  go_upto_if 22 with (fail)
  go_cut [3, 23, 24] (fun s3 s23 s24 wx => (∃ (n3 : Nat) (r3 : Bs), s3 = .slice Ar n3 cr ∧ r3.length = n3 ∧ n3 ≤ cr ∧ n3 ≤ 500 ∧ Rd w Ar (u8s r3)) ∧ w = wx)
  case first =>
    by_cases h5 : nr ≤ 500
    · have h5b : decide ((500 : Int) < (nr : Int)) = false := by simp; omega
      go_wp2_with fail
      go_meet
      exact ⟨⟨nr, raw, rfl, HNR.out, hrc, h5, HRW.out⟩, rfl⟩
    · have h5b : decide ((500 : Int) < (nr : Int)) = true := by simp; omega
      have hc5 : 500 ≤ cr := by omega
      go_wp2_with fail
      go_meet
      refine ⟨⟨500, raw.take 500, rfl, by rw [List.length_take, HNR.out]; omega, hc5, Nat.le_refl _, ?_⟩, rfl⟩
      have := HRW.out.take 500
      rwa [u8s, ← List.map_take] at this
  case rest =>
    obtain ⟨⟨n3, r3, rfl, hn3, hc3, hn5, hr3⟩, rfl⟩ := hcut
    have HR3 := Lib.hid (RdB.of_rd hr3)
    have HN3 := Lib.hid hn3
    have HC3 := Lib.hid hc3
    have HN5 := Lib.hid hn5
    clear hn3 hc3 hr3 HRW HNR hn5 hrc hrm
    go_wp2_with fail
    refine HMA.out.mono ?_
    rintro e W1 ⟨x, A, c, rfl, okx, -, -, ho1, hb1⟩
    obtain ⟨A1, c1, e1, _, hm1⟩ := ho1.at_
    injection e1 with e1 e2 e3
    subst e1; subst e3
    clear e2
    have HB1 := Lib.hid hb1
    have HPK := Lib.hid (refPack_any x A c W1 hm1 (fun m hm => (okx.m m hm).bd))
    unfold RpkRet at HPK
    have hpl := pack_len x
    have hp0 : 0 < (packF x).1.length := by rw [packF_ok okx]; exact pack_posU x
    have HPL := Lib.hid hpl
    clear hb1 hm1 ho1 HMA okx hpl
    generalize packF x = pk at *
    obtain ⟨xs, pe⟩ := pk
    simp only at hp0 HPK HPL
    go_wp2_with fail
    refine HPK.out.mono ?_
    rintro e W2 ⟨v2, rfl, ho2, hb2⟩
    obtain ⟨A2, c2, rfl, -, hc2b, hc2m⟩ := ho2.shape
    obtain ⟨g3, rfl, hg3, hgs3, -⟩ := ho2.open_ hp0
    have HO2 := Lib.hid ho2
    have HB2 := Lib.hid (HB1.out.trans (hb2.mono HB1.out.size))
    have hg3w : w.heap.size ≤ g3 := Nat.le_trans HB1.out.size hg3
    clear ho2 hb2 HPK HB1 hc2m hgs3
    generalize hnx : xs.length = nx at *
    have HNX := Lib.hid hnx
    clear hnx
    have HC2 := Lib.hid hc2b
    clear hc2b
    have hlm : la.length ≤ 17592186044000 := by omega
    have hlb := hbm
    unfold maxLen at hlb
    go_upto_region 5 with (fail)
    go_loopg [11] 2 (fun g v11 wr => LuRel w W1.heap.size g3 nx c2 g v11 wr)
    case atStart => exact ⟨0, xs, by omega, rfl, HNX.out, HO2.out, HB2.out⟩
    case round =>
      obtain ⟨k, bs, hk, rfl, hbs, hob, hb⟩ := hrel
      have HK := Lib.hid hk
      have HBS := Lib.hid hbs
      have HOB := Lib.hid hob
      have HB := Lib.hid hb
      have hk2 : k ≤ 2 := by omega
      clear hk hbs hob hb HO2 HB2 HNX
      have hz1 : decide ((0 : Int) < (nx : Int)) = true := by simp; omega
      have hz2 : decide (0 < nx) = true := by simpa using hp0
      have HRB : Hid (RdB wr wr.heap.size (some ⟨g3, 0, none⟩) (u8s bs)) := by
        obtain ⟨A', c', e, hrd, -, -⟩ := HOB.out.shape
        injection e with e _ _
        show RdB _ _ _ _
        rw [e]
        exact RdB.of_rd hrd
      have HR3w := Lib.hid ((HR3.out.below HB.out).mono HB.out.size)
      have HU1 := Lib.hid (fun (W : World) (h : Below wr.heap.size wr W) => by
        have h1 := unpack_any (some ⟨g3, 0, none⟩) c2 bs W ((HRB.out.below h).mono h.size) (by rw [HBS.out]; exact HC2.out) (by rw [HBS.out]; have := HPL.out; omega) (HG.out.below (HB.out.trans (h.mono HB.out.size)))
        rw [HBS.out] at h1
        exact h1)
      have HU2 := Lib.hid (fun (W : World) (h : Below wr.heap.size wr W) => by
        have h1 := refUnpack_any (some ⟨g3, 0, none⟩) c2 bs W ((HRB.out.below h).mono h.size) (by rw [HBS.out]; exact HC2.out) (by rw [HBS.out]; have := HPL.out; omega)
        rw [HBS.out, ← unpack_same] at h1
        exact h1)
      have HU3 := Lib.hid (fun (W : World) (h : Below wr.heap.size wr W) => by
        have h1 := unpack_any Ar cr r3 W ((HR3w.out.below h).mono h.size) (by rw [HN3.out]; exact HC3.out) (by rw [HN3.out]; have := HN5.out; omega) (HG.out.below (HB.out.trans (h.mono HB.out.size)))
        rw [HN3.out] at h1
        exact h1)
      have HU4 := Lib.hid (fun (W : World) (h : Below wr.heap.size wr W) => by
        have h1 := refUnpack_any Ar cr r3 W ((HR3w.out.below h).mono h.size) (by rw [HN3.out]; exact HC3.out) (by rw [HN3.out]; have := HN5.out; omega)
        rw [HN3.out, ← unpack_same] at h1
        exact h1)
      unfold URet at HU1 HU2 HU3 HU4
      have hd1 := unpack_bd bs
      have hd2 := unpack_bd r3
      have HD1 := Lib.hid hd1
      have HD2 := Lib.hid hd2
      clear hd1 hd2
      generalize unpackP bs = p1 at *
      generalize unpackP r3 = p2 at *
      obtain ⟨x1, e1⟩ := p1
      obtain ⟨x2, e2⟩ := p2
      simp only at HU1 HU2 HU3 HU4 HD1 HD2
      clear HRB HR3w
      by_cases hka : k < la.length
      · have ha1 : decide (k < la.length) = true := by simpa using hka
        by_cases hkb : k < lb.length
        · have hb1 : decide (k < lb.length) = true := by simpa using hkb
          by_cases hk3 : k < 2
          · clear HU1 HU2 HU3 HU4 HD1 HD2
            have hk4 : decide ((k : Int) < 2) = true := by simp; omega
            have hk5 : decide (k < 2) = true := by simpa using hk3
            obtain ⟨ba, oa, rfl, hca⟩ := HAT.out.rd.int hka
            rw [List.getElem?_eq_getElem hka] at hca
            simp only [Option.getD_some] at hca
            obtain ⟨bb, ob, rfl, hcb⟩ := HBY.out.at_lit (u8s_get hkb)
            have hba := cell_lt hca
            have hbb := cell_lt hcb
            have hwa := HAT.out.wf la[k] (List.getElem_mem hka)
            replace hca := (HB.out.cell (p := ⟨ba, oa + k, none⟩) hba).trans hca
            replace hcb := (HB.out.cell (p := ⟨bb, ob + k, none⟩) hbb).trans hcb
            unfold u8 at hcb
            generalize la[k] = av at *
            generalize lb[k] = bv at *
            have HWI := Lib.hid (fun (W : World) => within_any av (nx : Int) W (by omega) (by have := HPL.out; omega))
            have hq0 : 0 ≤ av % (nx : Int) := Int.emod_nonneg _ (by omega)
            have hq1 : av % (nx : Int) < (nx : Int) := Int.emod_lt_of_pos _ (by omega)
            generalize av % (nx : Int) = qq at HWI hq0 hq1
            obtain ⟨q, hqe⟩ : ∃ q : Nat, qq = (q : Int) := ⟨qq.toNat, by omega⟩
            subst hqe
            have hqn : q < nx := by omega
            clear hwa
            go_wp2_with fail
            refine wp_region_x 13 (by kernel_rfl) (fun w' => w'.cell? ⟨ba, oa + k, none⟩ = some (.int .i64 av) ∧ w'.cell? ⟨bb, ob + k, none⟩ = some (.int .u8 (bv.toNat : Int))) ?_
            have HS : Hid (wr.drew.cell? ⟨ba, oa + k, none⟩ = some (.int .i64 av) ∧ wr.drew.cell? ⟨bb, ob + k, none⟩ = some (.int .u8 (bv.toNat : Int))) := ⟨hca, hcb⟩
            have hob2 : OwnB wr.drew W1.heap.size (.slice (some ⟨g3, 0, none⟩) bs.length c2) bs := by rw [HBS.out]; exact HOB.out
            obtain ⟨gq, hgq, -, hgl, hcell⟩ := hob2.open_ (by rw [HBS.out]; exact hp0)
            injection hgq with hgq
            injection hgq with hgq _
            subst hgq
            obtain ⟨⟨u, hcu⟩, hcf⟩ := hcell q (by rw [HBS.out]; exact hqn)
            have HPU := Lib.hid (hob2.put q bv)
            have HBW : Hid (Below w.heap.size w (wr.drew.setCell ⟨g3, q, none⟩ (.int .u8 (bv.toNat : Int)))) := HB.out.drew.setCell (p := ⟨g3, q, none⟩) hg3w _
            clear hcell hob2 hgl
            generalize hV : wr.drew = V0 at HS hcu hcf HPU HBW ⊢
            clear hV hca hcb
            refine wpAnyX_take1 (i := 0) (v := .slice (some ⟨g3, 0, none⟩) nx c2) rfl (by kernel_rfl) (fun _ _ _ h => h) HS.out (Or.inl ⟨by rfl, fun w hS => by (obtain ⟨q0, q1⟩ := hS; go_simp)⟩) ?_
            go_simp
            refine wpAnyX_take1 (i := 1) (v := .slice (some ⟨ba, oa, none⟩) la.length ca) rfl (by kernel_rfl) (fun _ _ _ h => h) HS.out (Or.inl ⟨by rfl, fun w hS => by (obtain ⟨q0, q1⟩ := hS; go_simp)⟩) ?_
            go_simp
            refine wpAnyX_take1 (i := 2) (v := .int .i64 (k : Int)) rfl (by kernel_rfl) (fun _ _ _ h => h) HS.out (Or.inl ⟨by rfl, fun w hS => by (obtain ⟨q0, q1⟩ := hS; go_simp)⟩) ?_
            go_simp
            refine wpAnyX_take1 (i := 3) (v := .pointer (some ⟨ba, oa + k, none⟩)) rfl (by kernel_rfl) (fun _ _ _ h => h) HS.out (Or.inl ⟨by rfl, fun w hS => by (obtain ⟨q0, q1⟩ := hS; go_simp)⟩) ?_
            go_simp
            refine wpAnyX_take1 (i := 4) (v := .int .i64 av) rfl (by kernel_rfl) (fun _ _ _ h => h) HS.out (Or.inl ⟨by rfl, fun w hS => by (obtain ⟨q0, q1⟩ := hS; go_simp)⟩) ?_
            go_simp
            refine wpAnyX_take1 (i := 5) (v := .slice (some ⟨g3, 0, none⟩) nx c2) rfl (by kernel_rfl) (fun _ _ _ h => h) HS.out (Or.inl ⟨by rfl, fun w hS => by (obtain ⟨q0, q1⟩ := hS; go_simp)⟩) ?_
            go_simp
            refine wpAnyX_take1 (i := 6) (v := .int .i64 (nx : Int)) rfl (by kernel_rfl) (fun _ _ _ h => h) HS.out (Or.inl ⟨by rfl, fun w hS => by (obtain ⟨q0, q1⟩ := hS; go_simp)⟩) ?_
            go_simp
            refine wpAnyX_take1 (i := 8) (v := .slice (some ⟨bb, ob, none⟩) lb.length cb) rfl (by kernel_rfl) (fun _ _ _ h => h) HS.out (Or.inl ⟨by rfl, fun w hS => by (obtain ⟨q0, q1⟩ := hS; go_simp)⟩) ?_
            go_simp
            refine wpAnyX_take1 (i := 9) (v := .int .i64 (k : Int)) rfl (by kernel_rfl) (fun _ _ _ h => h) HS.out (Or.inl ⟨by rfl, fun w hS => by (obtain ⟨q0, q1⟩ := hS; go_simp)⟩) ?_
            go_simp
            refine wpAnyX_take1 (i := 10) (v := .pointer (some ⟨bb, ob + k, none⟩)) rfl (by kernel_rfl) (fun _ _ _ h => h) HS.out (Or.inl ⟨by rfl, fun w hS => by (obtain ⟨q0, q1⟩ := hS; go_simp)⟩) ?_
            go_simp
            refine wpAnyX_take1 (i := 11) (v := .int .u8 (bv.toNat : Int)) rfl (by kernel_rfl) (fun _ _ _ h => h) HS.out (Or.inl ⟨by rfl, fun w hS => by (obtain ⟨q0, q1⟩ := hS; go_simp)⟩) ?_
            go_simp
            refine wpAnyX_one (i := 7) (by kernel_rfl) rfl (fun J hJ => ?_)
            go_simp
            go_wp2_with (go_at_call 10; refine (HWI.out _).mono ?_; rintro e w1 ⟨rfl, rfl⟩)
            refine hJ.out _ _ (fun _ => HS.out) ?_
            clear hJ J HWI
            refine wpAnyX_take1 (i := 12) (v := .pointer (some ⟨g3, q, none⟩)) rfl (by kernel_rfl) (fun _ _ _ h => h) HS.out (Or.inl ⟨by rfl, fun w hS => by (obtain ⟨q0, q1⟩ := hS; go_simp)⟩) ?_
            go_simp
            refine wpAnyX_one (i := 13) (by kernel_rfl) rfl (fun J hJ => ?_)
            go_simp
            go_wp2
            refine hJ.out _ _ (fun h => absurd rfl h) ?_
            clear hJ J HS hcu hcf
            refine wpAnyX_done (by kernel_rfl) ?_
            generalize V0.setCell ⟨g3, q, none⟩ (.int .u8 (bv.toNat : Int)) = W4 at HPU HBW ⊢
            go_wp2
            go_roundg (2 - (k + 1))
            case measure => have := HK.out; omega
            case rel => exact ⟨k + 1, bs.set q bv, by have := HK.out; omega, by go_num, by rw [List.length_set]; exact HBS.out, by have h := HPU.out; rw [HBS.out] at h; exact h, HBW.out⟩
          · have hk4 : decide ((k : Int) < 2) = false := by simp; omega
            have hk5 : decide (k < 2) = false := by simp; omega
            clear HOB HBS HK
            have HQ := Lib.hid (Below.refl wr.heap.size wr)
            go_wp2_with fail
            refine (HU1.out _ HQ.out).mono ?_
            rintro e X0 ⟨A4, k4, rfl, ho, hb⟩
            have q := (Below.refl X0.heap.size X0).alloc (Nat.le_refl _) (.cells (ichC x1 A4 k4) 45)
            have hI : IBlk (X0.alloc (.cells (ichC x1 A4 k4) 45)) X0.heap.size x1 A4 k4 := heap_alloc_new X0 _
            have hbq := hb.trans (q.mono hb.size)
            obtain ⟨A9, k9, e9, -, hm9⟩ := (ho.below q).at_
            injection e9 with e9 e10 e11
            subst e9; subst e11
            clear e10
            have HM12 := Lib.hid hm9
            replace HQ := Lib.hid (HQ.out.trans (hbq.mono HQ.out.size))
            clear ho hb q hbq hm9 HU1
            go_upto_region 9 with (fail)
            generalize hW : X0.alloc (.cells (ichC x1 A4 k4) 45) = Y0 at hI HQ HM12  ⊢
            generalize hgg : X0.heap.size = g12 at hI ⊢
            clear hW hgg
            have HI12 := Lib.hid hI
            clear hI
            go_wp2_with fail
            refine (HU2.out _ HQ.out).mono ?_
            rintro e X1 ⟨A5, k5, rfl, ho, hb⟩
            have q := (Below.refl X1.heap.size X1).alloc (Nat.le_refl _) (.cells (ichC x1 A5 k5) 45)
            have hI : IBlk (X1.alloc (.cells (ichC x1 A5 k5) 45)) X1.heap.size x1 A5 k5 := heap_alloc_new X1 _
            have hbq := hb.trans (q.mono hb.size)
            replace HI12 := Lib.hid (HI12.out.below hbq)
            replace HM12 := Lib.hid ((HM12.out.below hbq).mono hbq.size)
            obtain ⟨A9, k9, e9, -, hm9⟩ := (ho.below q).at_
            injection e9 with e9 e10 e11
            subst e9; subst e11
            clear e10
            have HM14 := Lib.hid hm9
            replace HQ := Lib.hid (HQ.out.trans (hbq.mono HQ.out.size))
            clear ho hb q hbq hm9 HU2
            go_upto_region 10 with (fail)
            generalize hW : X1.alloc (.cells (ichC x1 A5 k5) 45) = Y1 at hI HQ HM14 HI12 HM12 ⊢
            generalize hgg : X1.heap.size = g14 at hI ⊢
            clear hW hgg
            have HI14 := Lib.hid hI
            clear hI
            go_wp2_with fail
            refine (HU3.out _ HQ.out).mono ?_
            rintro e X2 ⟨A6, k6, rfl, ho, hb⟩
            have q := (Below.refl X2.heap.size X2).alloc (Nat.le_refl _) (.cells (ichC x2 A6 k6) 45)
            have hI : IBlk (X2.alloc (.cells (ichC x2 A6 k6) 45)) X2.heap.size x2 A6 k6 := heap_alloc_new X2 _
            have hbq := hb.trans (q.mono hb.size)
            replace HI12 := Lib.hid (HI12.out.below hbq)
            replace HM12 := Lib.hid ((HM12.out.below hbq).mono hbq.size)
            replace HI14 := Lib.hid (HI14.out.below hbq)
            replace HM14 := Lib.hid ((HM14.out.below hbq).mono hbq.size)
            obtain ⟨A9, k9, e9, -, hm9⟩ := (ho.below q).at_
            injection e9 with e9 e10 e11
            subst e9; subst e11
            clear e10
            have HM16 := Lib.hid hm9
            replace HQ := Lib.hid (HQ.out.trans (hbq.mono HQ.out.size))
            clear ho hb q hbq hm9 HU3
            go_upto_region 11 with (fail)
            generalize hW : X2.alloc (.cells (ichC x2 A6 k6) 45) = Y2 at hI HQ HM16 HI12 HM12 HI14 HM14 ⊢
            generalize hgg : X2.heap.size = g16 at hI ⊢
            clear hW hgg
            have HI16 := Lib.hid hI
            clear hI
            go_wp2_with fail
            refine (HU4.out _ HQ.out).mono ?_
            rintro e X3 ⟨A7, k7, rfl, ho, hb⟩
            have q := (Below.refl X3.heap.size X3).alloc (Nat.le_refl _) (.cells (ichC x2 A7 k7) 45)
            have hI : IBlk (X3.alloc (.cells (ichC x2 A7 k7) 45)) X3.heap.size x2 A7 k7 := heap_alloc_new X3 _
            have hbq := hb.trans (q.mono hb.size)
            replace HI12 := Lib.hid (HI12.out.below hbq)
            replace HM12 := Lib.hid ((HM12.out.below hbq).mono hbq.size)
            replace HI14 := Lib.hid (HI14.out.below hbq)
            replace HM14 := Lib.hid ((HM14.out.below hbq).mono hbq.size)
            replace HI16 := Lib.hid (HI16.out.below hbq)
            replace HM16 := Lib.hid ((HM16.out.below hbq).mono hbq.size)
            obtain ⟨A9, k9, e9, -, hm9⟩ := (ho.below q).at_
            injection e9 with e9 e10 e11
            subst e9; subst e11
            clear e10
            have HM18 := Lib.hid hm9
            replace HQ := Lib.hid (HQ.out.trans (hbq.mono HQ.out.size))
            clear ho hb q hbq hm9 HU4
            go_upto_region 12 with (fail)
            generalize hW : X3.alloc (.cells (ichC x2 A7 k7) 45) = Y3 at hI HQ HM18 HI12 HM12 HI14 HM14 HI16 HM16 ⊢
            generalize hgg : X3.heap.size = g18 at hI ⊢
            clear hW hgg
            have HI18 := Lib.hid hI
            clear hI
            have HBY3 := Lib.hid (HB.out.trans (HQ.out.mono HB.out.size))
            obtain ⟨i0, i1, i2, i3⟩ := HI12.out.all
            obtain ⟨j0, j1, j2, j3⟩ := HI14.out.all
            obtain ⟨m0, m1, m2, m3⟩ := HI16.out.all
            obtain ⟨n0, n1, n2, n3⟩ := HI18.out.all
            have HS1 := Lib.hid (sameI_any x1 A4 A5 k4 k5 Y3 HM12.out HM14.out HD1.out.1 HD1.out.2)
            have HS2 := Lib.hid (fun (W : World) (h : Below Y3.heap.size Y3 W) => sameI_any x2 A6 A7 k6 k7 W ((HM16.out.below h).mono h.size) ((HM18.out.below h).mono h.size) HD2.out.1 HD2.out.2)
            have HAW := Lib.hid (fun (W : World) (h : Below w.heap.size w W) => awakeM_any W (HG.out.tab.below h))
            have hee1 : (e1 == e1) = true := by simp
            have hee2 : (e2 == e2) = true := by simp
            have F1 : True := trivial
            go_wp2_with (first | (clear F1; go_at_call 21; refine HS1.out.mono ?_; rintro e Z1 ⟨rfl, hz⟩; have HZ1 := Lib.hid hz; have HJ16 := Lib.hid (HI16.out.below hz); have HJ18 := Lib.hid (HI18.out.below hz); obtain ⟨r0, r1, r2, r3⟩ := HJ16.out.all; obtain ⟨s0, s1, s2, s3⟩ := HJ18.out.all; clear hz i0 i1 i2 i3 j0 j1 j2 j3 m0 m1 m2 m3 n0 n1 n2 n3) | (go_at_call 21; refine (HS2.out _ HZ1.out).mono ?_; rintro e Z2 ⟨rfl, hz⟩; have HZ2 := Lib.hid (HBY3.out.trans ((HZ1.out.trans (hz.mono HZ1.out.size)).mono HBY3.out.size))) | (go_at_call 16; refine (HAW.out _ HZ2.out).mono ?_; rintro e Z3 ⟨rfl, hz3⟩))
            go_ret
            exact ⟨rfl, HZ2.out.trans (hz3.mono HZ2.out.size)⟩
        · have hb1 : decide (k < lb.length) = false := by simp; omega
          clear HOB HBS HK
          have HQ := Lib.hid (Below.refl wr.heap.size wr)
          go_wp2_with fail
          refine (HU1.out _ HQ.out).mono ?_
          rintro e X0 ⟨A4, k4, rfl, ho, hb⟩
          have q := (Below.refl X0.heap.size X0).alloc (Nat.le_refl _) (.cells (ichC x1 A4 k4) 45)
          have hI : IBlk (X0.alloc (.cells (ichC x1 A4 k4) 45)) X0.heap.size x1 A4 k4 := heap_alloc_new X0 _
          have hbq := hb.trans (q.mono hb.size)
          obtain ⟨A9, k9, e9, -, hm9⟩ := (ho.below q).at_
          injection e9 with e9 e10 e11
          subst e9; subst e11
          clear e10
          have HM12 := Lib.hid hm9
          replace HQ := Lib.hid (HQ.out.trans (hbq.mono HQ.out.size))
          clear ho hb q hbq hm9 HU1
          go_upto_region 9 with (fail)
          generalize hW : X0.alloc (.cells (ichC x1 A4 k4) 45) = Y0 at hI HQ HM12  ⊢
          generalize hgg : X0.heap.size = g12 at hI ⊢
          clear hW hgg
          have HI12 := Lib.hid hI
          clear hI
          go_wp2_with fail
          refine (HU2.out _ HQ.out).mono ?_
          rintro e X1 ⟨A5, k5, rfl, ho, hb⟩
          have q := (Below.refl X1.heap.size X1).alloc (Nat.le_refl _) (.cells (ichC x1 A5 k5) 45)
          have hI : IBlk (X1.alloc (.cells (ichC x1 A5 k5) 45)) X1.heap.size x1 A5 k5 := heap_alloc_new X1 _
          have hbq := hb.trans (q.mono hb.size)
          replace HI12 := Lib.hid (HI12.out.below hbq)
          replace HM12 := Lib.hid ((HM12.out.below hbq).mono hbq.size)
          obtain ⟨A9, k9, e9, -, hm9⟩ := (ho.below q).at_
          injection e9 with e9 e10 e11
          subst e9; subst e11
          clear e10
          have HM14 := Lib.hid hm9
          replace HQ := Lib.hid (HQ.out.trans (hbq.mono HQ.out.size))
          clear ho hb q hbq hm9 HU2
          go_upto_region 10 with (fail)
          generalize hW : X1.alloc (.cells (ichC x1 A5 k5) 45) = Y1 at hI HQ HM14 HI12 HM12 ⊢
          generalize hgg : X1.heap.size = g14 at hI ⊢
          clear hW hgg
          have HI14 := Lib.hid hI
          clear hI
          go_wp2_with fail
          refine (HU3.out _ HQ.out).mono ?_
          rintro e X2 ⟨A6, k6, rfl, ho, hb⟩
          have q := (Below.refl X2.heap.size X2).alloc (Nat.le_refl _) (.cells (ichC x2 A6 k6) 45)
          have hI : IBlk (X2.alloc (.cells (ichC x2 A6 k6) 45)) X2.heap.size x2 A6 k6 := heap_alloc_new X2 _
          have hbq := hb.trans (q.mono hb.size)
          replace HI12 := Lib.hid (HI12.out.below hbq)
          replace HM12 := Lib.hid ((HM12.out.below hbq).mono hbq.size)
          replace HI14 := Lib.hid (HI14.out.below hbq)
          replace HM14 := Lib.hid ((HM14.out.below hbq).mono hbq.size)
          obtain ⟨A9, k9, e9, -, hm9⟩ := (ho.below q).at_
          injection e9 with e9 e10 e11
          subst e9; subst e11
          clear e10
          have HM16 := Lib.hid hm9
          replace HQ := Lib.hid (HQ.out.trans (hbq.mono HQ.out.size))
          clear ho hb q hbq hm9 HU3
          go_upto_region 11 with (fail)
          generalize hW : X2.alloc (.cells (ichC x2 A6 k6) 45) = Y2 at hI HQ HM16 HI12 HM12 HI14 HM14 ⊢
          generalize hgg : X2.heap.size = g16 at hI ⊢
          clear hW hgg
          have HI16 := Lib.hid hI
          clear hI
          go_wp2_with fail
          refine (HU4.out _ HQ.out).mono ?_
          rintro e X3 ⟨A7, k7, rfl, ho, hb⟩
          have q := (Below.refl X3.heap.size X3).alloc (Nat.le_refl _) (.cells (ichC x2 A7 k7) 45)
          have hI : IBlk (X3.alloc (.cells (ichC x2 A7 k7) 45)) X3.heap.size x2 A7 k7 := heap_alloc_new X3 _
          have hbq := hb.trans (q.mono hb.size)
          replace HI12 := Lib.hid (HI12.out.below hbq)
          replace HM12 := Lib.hid ((HM12.out.below hbq).mono hbq.size)
          replace HI14 := Lib.hid (HI14.out.below hbq)
          replace HM14 := Lib.hid ((HM14.out.below hbq).mono hbq.size)
          replace HI16 := Lib.hid (HI16.out.below hbq)
          replace HM16 := Lib.hid ((HM16.out.below hbq).mono hbq.size)
          obtain ⟨A9, k9, e9, -, hm9⟩ := (ho.below q).at_
          injection e9 with e9 e10 e11
          subst e9; subst e11
          clear e10
          have HM18 := Lib.hid hm9
          replace HQ := Lib.hid (HQ.out.trans (hbq.mono HQ.out.size))
          clear ho hb q hbq hm9 HU4
          go_upto_region 12 with (fail)
          generalize hW : X3.alloc (.cells (ichC x2 A7 k7) 45) = Y3 at hI HQ HM18 HI12 HM12 HI14 HM14 HI16 HM16 ⊢
          generalize hgg : X3.heap.size = g18 at hI ⊢
          clear hW hgg
          have HI18 := Lib.hid hI
          clear hI
          have HBY3 := Lib.hid (HB.out.trans (HQ.out.mono HB.out.size))
          obtain ⟨i0, i1, i2, i3⟩ := HI12.out.all
          obtain ⟨j0, j1, j2, j3⟩ := HI14.out.all
          obtain ⟨m0, m1, m2, m3⟩ := HI16.out.all
          obtain ⟨n0, n1, n2, n3⟩ := HI18.out.all
          have HS1 := Lib.hid (sameI_any x1 A4 A5 k4 k5 Y3 HM12.out HM14.out HD1.out.1 HD1.out.2)
          have HS2 := Lib.hid (fun (W : World) (h : Below Y3.heap.size Y3 W) => sameI_any x2 A6 A7 k6 k7 W ((HM16.out.below h).mono h.size) ((HM18.out.below h).mono h.size) HD2.out.1 HD2.out.2)
          have HAW := Lib.hid (fun (W : World) (h : Below w.heap.size w W) => awakeM_any W (HG.out.tab.below h))
          have hee1 : (e1 == e1) = true := by simp
          have hee2 : (e2 == e2) = true := by simp
          have F1 : True := trivial
          go_wp2_with (first | (clear F1; go_at_call 21; refine HS1.out.mono ?_; rintro e Z1 ⟨rfl, hz⟩; have HZ1 := Lib.hid hz; have HJ16 := Lib.hid (HI16.out.below hz); have HJ18 := Lib.hid (HI18.out.below hz); obtain ⟨r0, r1, r2, r3⟩ := HJ16.out.all; obtain ⟨s0, s1, s2, s3⟩ := HJ18.out.all; clear hz i0 i1 i2 i3 j0 j1 j2 j3 m0 m1 m2 m3 n0 n1 n2 n3) | (go_at_call 21; refine (HS2.out _ HZ1.out).mono ?_; rintro e Z2 ⟨rfl, hz⟩; have HZ2 := Lib.hid (HBY3.out.trans ((HZ1.out.trans (hz.mono HZ1.out.size)).mono HBY3.out.size))) | (go_at_call 16; refine (HAW.out _ HZ2.out).mono ?_; rintro e Z3 ⟨rfl, hz3⟩))
          go_ret
          exact ⟨rfl, HZ2.out.trans (hz3.mono HZ2.out.size)⟩
      · have ha1 : decide (k < la.length) = false := by simp; omega
        clear HOB HBS HK
        have HQ := Lib.hid (Below.refl wr.heap.size wr)
        go_wp2_with fail
        refine (HU1.out _ HQ.out).mono ?_
        rintro e X0 ⟨A4, k4, rfl, ho, hb⟩
        have q := (Below.refl X0.heap.size X0).alloc (Nat.le_refl _) (.cells (ichC x1 A4 k4) 45)
        have hI : IBlk (X0.alloc (.cells (ichC x1 A4 k4) 45)) X0.heap.size x1 A4 k4 := heap_alloc_new X0 _
        have hbq := hb.trans (q.mono hb.size)
        obtain ⟨A9, k9, e9, -, hm9⟩ := (ho.below q).at_
        injection e9 with e9 e10 e11
        subst e9; subst e11
        clear e10
        have HM12 := Lib.hid hm9
        replace HQ := Lib.hid (HQ.out.trans (hbq.mono HQ.out.size))
        clear ho hb q hbq hm9 HU1
        go_upto_region 9 with (fail)
        generalize hW : X0.alloc (.cells (ichC x1 A4 k4) 45) = Y0 at hI HQ HM12  ⊢
        generalize hgg : X0.heap.size = g12 at hI ⊢
        clear hW hgg
        have HI12 := Lib.hid hI
        clear hI
        go_wp2_with fail
        refine (HU2.out _ HQ.out).mono ?_
        rintro e X1 ⟨A5, k5, rfl, ho, hb⟩
        have q := (Below.refl X1.heap.size X1).alloc (Nat.le_refl _) (.cells (ichC x1 A5 k5) 45)
        have hI : IBlk (X1.alloc (.cells (ichC x1 A5 k5) 45)) X1.heap.size x1 A5 k5 := heap_alloc_new X1 _
        have hbq := hb.trans (q.mono hb.size)
        replace HI12 := Lib.hid (HI12.out.below hbq)
        replace HM12 := Lib.hid ((HM12.out.below hbq).mono hbq.size)
        obtain ⟨A9, k9, e9, -, hm9⟩ := (ho.below q).at_
        injection e9 with e9 e10 e11
        subst e9; subst e11
        clear e10
        have HM14 := Lib.hid hm9
        replace HQ := Lib.hid (HQ.out.trans (hbq.mono HQ.out.size))
        clear ho hb q hbq hm9 HU2
        go_upto_region 10 with (fail)
        generalize hW : X1.alloc (.cells (ichC x1 A5 k5) 45) = Y1 at hI HQ HM14 HI12 HM12 ⊢
        generalize hgg : X1.heap.size = g14 at hI ⊢
        clear hW hgg
        have HI14 := Lib.hid hI
        clear hI
        go_wp2_with fail
        refine (HU3.out _ HQ.out).mono ?_
        rintro e X2 ⟨A6, k6, rfl, ho, hb⟩
        have q := (Below.refl X2.heap.size X2).alloc (Nat.le_refl _) (.cells (ichC x2 A6 k6) 45)
        have hI : IBlk (X2.alloc (.cells (ichC x2 A6 k6) 45)) X2.heap.size x2 A6 k6 := heap_alloc_new X2 _
        have hbq := hb.trans (q.mono hb.size)
        replace HI12 := Lib.hid (HI12.out.below hbq)
        replace HM12 := Lib.hid ((HM12.out.below hbq).mono hbq.size)
        replace HI14 := Lib.hid (HI14.out.below hbq)
        replace HM14 := Lib.hid ((HM14.out.below hbq).mono hbq.size)
        obtain ⟨A9, k9, e9, -, hm9⟩ := (ho.below q).at_
        injection e9 with e9 e10 e11
        subst e9; subst e11
        clear e10
        have HM16 := Lib.hid hm9
        replace HQ := Lib.hid (HQ.out.trans (hbq.mono HQ.out.size))
        clear ho hb q hbq hm9 HU3
        go_upto_region 11 with (fail)
        generalize hW : X2.alloc (.cells (ichC x2 A6 k6) 45) = Y2 at hI HQ HM16 HI12 HM12 HI14 HM14 ⊢
        generalize hgg : X2.heap.size = g16 at hI ⊢
        clear hW hgg
        have HI16 := Lib.hid hI
        clear hI
        go_wp2_with fail
        refine (HU4.out _ HQ.out).mono ?_
        rintro e X3 ⟨A7, k7, rfl, ho, hb⟩
        have q := (Below.refl X3.heap.size X3).alloc (Nat.le_refl _) (.cells (ichC x2 A7 k7) 45)
        have hI : IBlk (X3.alloc (.cells (ichC x2 A7 k7) 45)) X3.heap.size x2 A7 k7 := heap_alloc_new X3 _
        have hbq := hb.trans (q.mono hb.size)
        replace HI12 := Lib.hid (HI12.out.below hbq)
        replace HM12 := Lib.hid ((HM12.out.below hbq).mono hbq.size)
        replace HI14 := Lib.hid (HI14.out.below hbq)
        replace HM14 := Lib.hid ((HM14.out.below hbq).mono hbq.size)
        replace HI16 := Lib.hid (HI16.out.below hbq)
        replace HM16 := Lib.hid ((HM16.out.below hbq).mono hbq.size)
        obtain ⟨A9, k9, e9, -, hm9⟩ := (ho.below q).at_
        injection e9 with e9 e10 e11
        subst e9; subst e11
        clear e10
        have HM18 := Lib.hid hm9
        replace HQ := Lib.hid (HQ.out.trans (hbq.mono HQ.out.size))
        clear ho hb q hbq hm9 HU4
        go_upto_region 12 with (fail)
        generalize hW : X3.alloc (.cells (ichC x2 A7 k7) 45) = Y3 at hI HQ HM18 HI12 HM12 HI14 HM14 HI16 HM16 ⊢
        generalize hgg : X3.heap.size = g18 at hI ⊢
        clear hW hgg
        have HI18 := Lib.hid hI
        clear hI
        have HBY3 := Lib.hid (HB.out.trans (HQ.out.mono HB.out.size))
        obtain ⟨i0, i1, i2, i3⟩ := HI12.out.all
        obtain ⟨j0, j1, j2, j3⟩ := HI14.out.all
        obtain ⟨m0, m1, m2, m3⟩ := HI16.out.all
        obtain ⟨n0, n1, n2, n3⟩ := HI18.out.all
        have HS1 := Lib.hid (sameI_any x1 A4 A5 k4 k5 Y3 HM12.out HM14.out HD1.out.1 HD1.out.2)
        have HS2 := Lib.hid (fun (W : World) (h : Below Y3.heap.size Y3 W) => sameI_any x2 A6 A7 k6 k7 W ((HM16.out.below h).mono h.size) ((HM18.out.below h).mono h.size) HD2.out.1 HD2.out.2)
        have HAW := Lib.hid (fun (W : World) (h : Below w.heap.size w W) => awakeM_any W (HG.out.tab.below h))
        have hee1 : (e1 == e1) = true := by simp
        have hee2 : (e2 == e2) = true := by simp
        have F1 : True := trivial
        go_wp2_with (first | (clear F1; go_at_call 21; refine HS1.out.mono ?_; rintro e Z1 ⟨rfl, hz⟩; have HZ1 := Lib.hid hz; have HJ16 := Lib.hid (HI16.out.below hz); have HJ18 := Lib.hid (HI18.out.below hz); obtain ⟨r0, r1, r2, r3⟩ := HJ16.out.all; obtain ⟨s0, s1, s2, s3⟩ := HJ18.out.all; clear hz i0 i1 i2 i3 j0 j1 j2 j3 m0 m1 m2 m3 n0 n1 n2 n3) | (go_at_call 21; refine (HS2.out _ HZ1.out).mono ?_; rintro e Z2 ⟨rfl, hz⟩; have HZ2 := Lib.hid (HBY3.out.trans ((HZ1.out.trans (hz.mono HZ1.out.size)).mono HBY3.out.size))) | (go_at_call 16; refine (HAW.out _ HZ2.out).mono ?_; rintro e Z3 ⟨rfl, hz3⟩))
        go_ret
        exact ⟨rfl, HZ2.out.trans (hz3.mono HZ2.out.size)⟩
end interchangeUnpack
end Go.Proofs.YtmjlnckmhdgoiaaGreatDoor

/-! The law InterchangeUnpack: for every input the call returns true, and each argument reads afterwards as it read before. Condition: the listed package variables hold what the program lays in them (the card ties them to its text). -/
namespace Go.Proofs.YtmjlnckmhdgoiaaGreatDoor.interchangeUnpack
open Go.ChangeShapes Go.WideShapes Go.ChangeAt Go.RowKit
set_option linter.unusedVariables false

theorem own : ownKnob Tryz.prog.godebug = none := by kernel_rfl
theorem laidOut : laidOutB Tryz.prog = true := by kernel_rfl

set_option maxRecDepth 100000 in
theorem contract (H : Type) (enc : TypeId × Value → H) (W : World) (base : Nat) (args : Array Value) (ds gs : List (DataW H)) (before : List MemPlace)
    (hval : ∀ (j : Nat) t v, Tryz.f5.params[j]? = some t → args[j]? = some v → Value.okWide Tryz.prog W .any base t v)
    (hW : DataW.Whole enc Tryz.prog Tryz.f5.params.toList Rows.interchangeUnpackSpec.vars false W args.toList ds gs before)
    (hsz : (DataW.weightsEach Tryz.prog (Tryz.f5.params.toList ++ (OpenSpec.ofChange Rows.interchangeUnpackSpec).bare.plain.varTypes Tryz.prog) (ds ++ gs)).all (· ≤ reachBytes) = true)
    (hL : laidMetH Tryz.prog Rows.interchangeUnpackRow.laid W) :
    Calls Tryz.prog 5 args W fun e W' => ∃ v, e = .returned v ∧ Rows.interchangeUnpackSpec.post enc Tryz.prog Tryz.f5 false true false false W args v W' := by
  have hW' := hW
  obtain ⟨p, q, hA0, hV, rfl, hfz, hnd⟩ := hW
  have hA : DataW.TrodAll enc Tryz.prog W 0 (fun _ => true) true Tryz.f5.params.toList args.toList ds p := hA0
  rw [Tryz.params5] at hA hval hsz
  obtain ⟨v0, vs0, d0, ds0, p0, q0, hargs, rfl, rfl, h0, r0⟩ := trodAll_cons hA
  obtain ⟨v1, vs1, d1, ds1, p1, q1, rfl, rfl, rfl, h1, r1⟩ := trodAll_cons r0
  obtain ⟨v2, vs2, d2, ds2, p2, q2, rfl, rfl, rfl, h2, r2⟩ := trodAll_cons r1
  obtain ⟨v3, vs3, d3, ds3, p3, q3, rfl, rfl, rfl, h3, r3⟩ := trodAll_cons r2
  obtain ⟨rfl, rfl, rfl⟩ := trodAll_nil r3
  obtain rfl : args = #[v0, v1, v2, v3] := by cases args; simp_all
  obtain ⟨rfl, rfl⟩ := trodVars_none hV
  have hsz2 : (DataW.weightsEach Tryz.prog [42, 22, 23, 23] [d0, d1, d2, d3]).all (· ≤ reachBytes) = true := hsz
  obtain ⟨A0, c0, l0, rfl, y0⟩ := open_rows (hval 0 42 v0 rfl rfl) h0
  have s1 : (DataW.weights Tryz.prog 22 d1).all (· ≤ reachBytes) = true := by
    have h := hsz2
    simp only [DataW.weightsEach, List.all_append, Bool.and_eq_true] at h
    exact h.2.1
  obtain ⟨A1, c1, l1, rfl, y1⟩ := open_slI Tryz.underlying22 Tryz.underlying3 (by kernel_rfl) (by kernel_rfl) (hval 1 22 v1 rfl rfl) h1 s1
  obtain ⟨A2, c2, l2, rfl, y2⟩ := open_slB (hval 2 23 v2 rfl rfl) h2
  obtain ⟨A3, c3, l3, rfl, y3⟩ := open_slB (hval 3 23 v3 rfl rfl) h3
  refine (walkInterchangeUnpack A0 c0 l0 A1 c1 l1 A2 c2 l2 A3 c3 l3 W y0 y1 y2 y3 hL).mono fun e W' ⟨he, bel⟩ => ?_
  subst he
  exact ⟨_, rfl, law_post laidOut (by kernel_rfl) rfl 4 rfl Tryz.underlying4 hW' (fun _ h => by subst h; exact ⟨rfl, rfl, rfl⟩) bel⟩

/-- a world for the witness: the settled one, the listed variables holding what their initialisers lay -/
noncomputable def low : Nat := (World.holding Tryz.prog default ⟨#[], #[], []⟩).heap.size
noncomputable def laidWorld (os : Os) : World := { World.holding Tryz.prog os ⟨#[.cells #[.string { data := #[118, 97, 108, 117, 101, 32, 111, 117, 116, 32, 111, 102, 32, 114, 97, 110, 103, 101] }] 157, .cells #[.string { data := #[105, 110, 118, 97, 108, 105, 100, 32, 115, 121, 110, 116, 97, 120] }] 157], #[], []⟩ with heap := ((((((World.holding Tryz.prog os ⟨#[.cells #[.string { data := #[118, 97, 108, 117, 101, 32, 111, 117, 116, 32, 111, 102, 32, 114, 97, 110, 103, 101] }] 157, .cells #[.string { data := #[105, 110, 118, 97, 108, 105, 100, 32, 115, 121, 110, 116, 97, 120] }] 157], #[], []⟩).heap).modify 4 fun | .cells _ t frozen => .cells (litCells Rows.laid_math_bits_deBruijn32tab) t frozen | o => o).modify 5 fun | .cells _ t frozen => .cells (litCells Rows.laid_math_bits_deBruijn64tab) t frozen | o => o).modify 1 fun | .cells _ t frozen => .cells (litCells Rows.laid_internal_strconv_uint64pow10) t frozen | o => o).modify 3 fun | .cells _ t frozen => .cells #[.iface 155 (.pointer (some ⟨low, 0, none⟩))] t frozen | o => o).modify 2 fun | .cells _ t frozen => .cells #[.iface 155 (.pointer (some ⟨low + 1, 0, none⟩))] t frozen | o => o }
theorem laid_met (os : Os) : laidMet Tryz.prog Rows.interchangeUnpackRow.laid ((laidWorld os).forCall (fun _ _ => 0) ⟨#[], #[.slice none 0 0, .slice none 0 0, .slice none 0 0, .slice none 0 0], []⟩).memory :=
  laidMet_of_run' 8 (by kernel_rfl) (by kernel_rfl)
theorem reads (os : Os) {H : Type} (enc : TypeId × Value → H) : ∃ places, DataW.whole enc Tryz.prog ((laidWorld os).forCall (fun _ _ => 0) ⟨#[], #[.slice none 0 0, .slice none 0 0, .slice none 0 0, .slice none 0 0], []⟩).memory Tryz.f5.params.toList Rows.interchangeUnpackSpec.vars false #[.slice none 0 0, .slice none 0 0, .slice none 0 0, .slice none 0 0].toList 8 = some ([.nil, .nil, .nil, .nil], [], places) :=
  ⟨[], by kernel_rfl⟩

set_option maxRecDepth 100000 in
theorem lifted (os : Os) (started : os.Started) (H : Type) (enc : TypeId × Value → H) (F : Stop.Interp) :
    ReturnsInHanded {} Tryz.checked os 5 .any ((OpenSpec.ofChange Rows.interchangeUnpackSpec).preRow enc Tryz.prog Tryz.f5 Rows.interchangeUnpackRow.domain false Rows.interchangeUnpackRow.laid) (((OpenSpec.ofChange Rows.interchangeUnpackSpec).at F).post enc Tryz.prog Tryz.f5 false true false false) := by
  obtain ⟨places, hx⟩ := reads os enc
  refine returnsInHanded_of_row (C := Tryz.checked) (s := OpenSpec.ofChange Rows.interchangeUnpackSpec) own started (by kernel_rfl) Tryz.func5
    (witness_row_at (enc := enc) (C := Tryz.checked) false (laidWorld os) #[.slice none 0 0, .slice none 0 0, .slice none 0 0, .slice none 0 0] rfl (by kernel_rfl) (by kernel_rfl) (by kernel_rfl)
      (OpenSpec.preRow_of_cond 8 hx (by kernel_rfl) (fun k hk => by cases hk) (by kernel_rfl) (laid_met os))) ?_
  intro W base args ds gs before hval hW _ _ hsz hL _ _
  exact contract H enc W base args ds gs before hval hW hsz hL

theorem said : Rows.InterchangeUnpackSaid :=
  OpenClaim.holds_of_cond 5 Tryz.f5 rfl rfl rfl rfl rfl rfl rfl ⟨rfl, rfl, rfl, rfl, rfl⟩ rfl rfl rfl rfl rfl (by kernel_rfl) Tryz.func5 (by kernel_rfl)
    (of_decide_eq_true (by kernel_rfl)) (by unfold Func.isWrapper; first | (rw [if_pos (by decide +kernel)]; kernel_rfl) | (rw [if_neg (by decide +kernel)]; exact ⟨rfl, rfl⟩))
    (fun os started H enc _ F => by rw [OpenClaim.pre_eq_preRow]; exact lifted os started H enc F)

theorem plain (f : FuncId) (fn : Func) (hf : Tryz.pinned.checked.prog.funcNamed "customs/customslaw07.InterchangeUnpack" = some f) (hfn : Tryz.pinned.checked.prog.funcs[f]? = some fn) :
    true = Tryz.pinned.checked.prog.looks [] ∧ ∀ (j : Nat) t, fn.params[j]? = some t → Tryz.pinned.checked.prog.wantsStandIn t = false := by
  obtain rfl : f = 5 := Option.some.inj ((show Tryz.prog.funcNamed "customs/customslaw07.InterchangeUnpack" = some 5 by kernel_rfl).symm.trans hf) |>.symm
  obtain rfl : fn = Tryz.f5 := (Option.some.inj (Tryz.func5.symm.trans hfn)).symm
  refine ⟨by kernel_rfl, fun j t ht => ?_⟩
  have hall : Tryz.f5.params.toList.all (fun t => !Tryz.prog.wantsStandIn t) = true := by kernel_rfl
  have := List.all_eq_true.1 hall t (by simpa using Array.mem_of_getElem? ht)
  exact (show Tryz.prog.wantsStandIn t = false by simpa using this)
theorem card : Rows.InterchangeUnpackCardSaid :=
  Claim7.holds_tied_plain_at .later [] _ _ _ _ said (fun _ h => by cases h) (by kernel_rfl) (fun _ h => by cases h) interchangeUnpack_row_tie rfl ⟨rfl, rfl⟩ (by kernel_rfl) rfl plain (by kernel_rfl)
#print axioms card
end Go.Proofs.YtmjlnckmhdgoiaaGreatDoor.interchangeUnpack
