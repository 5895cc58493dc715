/- A byte stored into a row of the call's own. -/
import Derived.Test.YtmjlnckmhdgoiaaGreatDoorSg
import Derived.Test.YtmjlnckmhdgoiaaGreatDoorQi
import Derived.Test.YtmjlnckmhdgoiaaGreatDoorQj
import Derived.Test.YtmjlnckmhdgoiaaGreatDoorQk
import Derived.Deep.CutBlock
import Derived.Test.YtmjlnckmhdgoiaaGreatDoorRows
import Derived.Test.YtmjlnckmhdgoiaaGreatDoorCards
import Derived.Test.YtmjlnckmhdgoiaaGreatDoorTie
import Derived.Test.YtmjlnckmhdgoiaaGreatDoorFrame
import Derived.WalkKit
import Derived.ProofKit
import Derived.OpenShut
import Derived.Deep.DeepHandedRow
import Derived.SevenTiedAt
namespace Go.Proofs.YtmjlnckmhdgoiaaGreatDoor
open Go.RowKit
set_option linter.unusedVariables false

theorem OwnB.put {w : World} {B g cap : Nat} {bs : Bs} (h : OwnB w B (.slice (some ⟨g, 0, none⟩) bs.length cap) bs) (j : Nat) (c : UInt8) : OwnB (w.setCell ⟨g, j, none⟩ (.int .u8 (c.toNat : Int))) B (.slice (some ⟨g, 0, none⟩) bs.length cap) (bs.set j c) := by
  have := (World.ownsRow.stored h j (.int .u8 (c.toNat : Int))).1
  unfold OwnB
  rw [List.length_set]
  have e : u8s (bs.set j c) = (u8s bs).set j (.int .u8 (c.toNat : Int)) := by unfold u8s; rw [List.map_set]; rfl
  rw [e]
  exact this
theorem OwnB.open_ {w : World} {B : Nat} {A : Option Addr} {cap : Nat} {bs : Bs} (h : OwnB w B (.slice A bs.length cap) bs) (hl : 0 < bs.length) : ∃ g, A = some ⟨g, 0, none⟩ ∧ B ≤ g ∧ g < w.heap.size ∧ ∀ j, j < bs.length → (∃ u, w.cell? ⟨g, j, none⟩ = some u) ∧ w.frozen? ⟨g, j, none⟩ = false := by
  rcases h.2 with ⟨_, h0⟩ | ⟨g, cap', cur, hv, hg, hh, _⟩
  · omega
  · injection hv with e1 e2 e3
    subst e1; subst e3
    refine ⟨g, rfl, hg, lt_of_block hh, fun j hj => ⟨?_, World.ownsRow.frozenAt h j⟩⟩
    rw [World.ownsRow.cellAt h j (by omega)]
    exact ⟨_, u8s_get hj⟩
end Go.Proofs.YtmjlnckmhdgoiaaGreatDoor

/-! The law MessageDecode: the walk. -/
namespace Go.Proofs.YtmjlnckmhdgoiaaGreatDoor
open Go.RowKit
set_option linter.unusedVariables false

theorem own_intsP {w : World} {B n : Nat} {A : Option Addr} {c : Nat} {l : List Int} (h : w.ownsRow B 3 1 (.slice A n c) n (ints l)) : Rd w A (ints l) := by
  obtain ⟨A', c', e, hr, _⟩ := own_shape h
  injection e with e1 _ _
  subst e1
  exact hr.rd
theorem judge_ok {m : Msg} {l y : List Seg} (h : (judge m l y).2 = 0) : OkM (judge m l y).1 ∧ l = segsM (judge m l y).1 := by
  unfold judge at h ⊢
  by_cases hv : validM m = 0
  · rw [if_pos hv] at h ⊢
    by_cases h1 : l = segsM m
    · rw [if_pos h1] at h ⊢
      exact ⟨okM_iff.1 hv, h1⟩
    · rw [if_neg h1] at h
      exfalso
      split at h <;> revert h <;> decide
  · rw [if_neg hv] at h
    exact absurd h (by decide)
theorem judge_bad {m : Msg} {l y : List Seg} (h : (judge m l y).2 ≠ 0) : (judge m l y).1 = zeroM := by
  unfold judge at h ⊢
  by_cases hv : validM m = 0
  · rw [if_pos hv] at h ⊢
    by_cases h1 : l = segsM m
    · rw [if_pos h1] at h
      exact absurd rfl h
    · rw [if_neg h1]
      split <;> rfl
  · rw [if_neg hv]
theorem parseP_ok {l : List Seg} (h : (parseP l).2 = 0) : OkM (parseP l).1 ∧ l = segsM (parseP l).1 := by
  unfold parseP at h ⊢
  split at h
  · exact absurd h (by decide)
  · rename_i h0
    rw [if_neg h0]
    exact judge_ok h
theorem parseP_bad {l : List Seg} (h : (parseP l).2 ≠ 0) : (parseP l).1 = zeroM := by
  unfold parseP at h ⊢
  split at h
  · rename_i h0
    rw [if_pos h0]
  · rename_i h0
    rw [if_neg h0]
    exact judge_bad h
theorem decM_ok {b : Bs} (h : (decM b).2 = 0) : OkM (decM b).1 ∧ b = encAll (segsM (decM b).1) := by
  unfold decM at h ⊢
  split at h
  · rename_i h0
    rw [if_pos h0]
    have h1 := parseP_ok h
    obtain ⟨l, n, e⟩ : ∃ l n e, decodeF b = (l, n, e) := ⟨_, _, _, rfl⟩
    obtain ⟨e, he⟩ := e
    rw [he] at h0 h1 ⊢
    simp only at h0 h1 ⊢
    subst h0
    exact ⟨h1.1, by rw [← h1.2]; exact (decode_ok he).1⟩
  · rename_i h0
    exact absurd h h0
theorem decM_bad {b : Bs} (h : (decM b).2 ≠ 0) : (decM b).1 = zeroM := by
  unfold decM at h ⊢
  split at h
  · rename_i h0
    rw [if_pos h0]
    exact parseP_bad h
  · rename_i h0
    rw [if_neg h0]
theorem decM_bd (b : Bs) : MBd (decM b).1 ∧ (decM b).1.list.length ≤ 64 := by
  by_cases h : (decM b).2 = 0
  · have h1 := (decM_ok h).1
    exact ⟨h1.bd, h1.ll⟩
  · rw [decM_bad h]
    exact ⟨⟨by simp [zeroM], by simp [zeroM], by simp [zeroM], by simp [zeroM]⟩, by simp [zeroM]⟩
theorem enc_small {m : Msg} (ok : OkM m) : (encAll (segsM m)).length ≤ 1000000000 := by
  have h := fits_few (l := segsM m) (by have := segsM_len m; omega) (segsM m).length
  rw [List.take_of_length_le (Nat.le_refl _)] at h
  exact h (segsM_ok ok)
theorem enc_some (m : Msg) : 0 < (encAll (segsM m)).length := by
  have h1 := encAll_ge (segsM m)
  have : 0 < (segsM m).length := by unfold segsM; simp
  omega
theorem refEnc_ok {m : Msg} (ok : OkM m) (A : Option Addr) (c : Nat) (w : World) (h : SegsAt w w.heap.size A (segsM m)) : Calls Tryz.prog 7 #[.slice A (segsM m).length c] w fun e w' => Below w.heap.size w w' ∧ ∃ v, e = .returned (.tuple #[v, .int .i64 0]) ∧ OwnB w' w.heap.size v (encAll (segsM m)) :=
  (refEncode_any A c (segsM m) w h (by have := segsM_len m; omega) (fits_few (by have := segsM_len m; omega)) (fun s hs => sized_valid (segsM_ok ok s hs))).mono fun e w' ⟨hb, hh⟩ => by
    rcases hh with ⟨_, h2⟩ | ⟨h1, _⟩
    · exact ⟨hb, h2⟩
    · exact absurd (encE?_zero.2 (segsM_ok ok)) h1
namespace messageDecode
/-- between two rounds: the bytes bb to be read, in slot 9 -/
def DRel (w : World) (g : Nat) (v9 v11 : Value) (wr : World) : Prop :=
  ∃ (k : Nat) (A : Option Addr) (bb : Bs) (n c : Nat), k + g = 2 ∧ v11 = .int .i64 (k : Int) ∧ v9 = .slice A n c ∧ bb.length = n ∧ n ≤ c ∧ n ≤ 1000000000 ∧ Rd wr A (u8s bb) ∧ Below w.heap.size w wr
set_option maxHeartbeats 40000000 in
set_option maxRecDepth 100000 in
theorem walkMessageDecode (Al : Option Addr) (cl : Nat) (l : List Int) (at_ : Int) (by_ : UInt8) (Ar : Option Addr) (cr : Nat) (raw : Bs) (w : World) (hl : SlI w Al cl l) (hx : -9223372036854775808 ≤ at_ ∧ at_ ≤ 9223372036854775807) (hr : SlB w Ar cr raw) (hL : laidMetH Tryz.prog Rows.messageDecodeRow.laid w) :
    Calls Tryz.prog 3 #[.slice Al l.length cl, .int .i64 at_, .int .u8 (by_.toNat : Int), .slice Ar raw.length cr] w fun e w' => e = .returned (.bool true) ∧ Below w.heap.size w w' := by
  have HG := Lib.hid (given_of_laid hL (by kernel_rfl) (by kernel_rfl) (by kernel_rfl) (by kernel_rfl))
  have hlmax := hl.max
  have hll := hl.le
  have HMA := Lib.hid (mMessage_any Al cl l w hl.rd hll (by omega))
  unfold MadeM at HMA
  obtain ⟨hrr, hrc, hrm⟩ := hr
  have HRW := Lib.hid hrr
  unfold maxLen at hrm
  clear hL hl hrr
  generalize hnr : raw.length = nr at *
  have HNR := Lib.hid hnr
  clear hnr
  go_enter Tryz.func3, Tryz.ntmps3
  go_upto_if 22 with (fail)
  go_cut [3, 23, 24] (fun s3 s23 s24 wx => (∃ (n3 : Nat) (r3 : Bs), s3 = .slice Ar n3 cr ∧ r3.length = n3 ∧ n3 ≤ cr ∧ n3 ≤ 500 ∧ Rd w Ar (u8s r3)) ∧ w = wx)
  case first =>
    by_cases h5 : nr ≤ 500
    · have h5b : decide ((500 : Int) < (nr : Int)) = false := by simp; omega
      go_wp2_with fail
      go_meet
      exact ⟨⟨nr, raw, rfl, HNR.out, hrc, h5, HRW.out⟩, rfl⟩
    · have h5b : decide ((500 : Int) < (nr : Int)) = true := by simp; omega
      have hc5 : 500 ≤ cr := by omega
      go_wp2_with fail
      go_meet
      refine ⟨⟨500, raw.take 500, rfl, by rw [List.length_take, HNR.out]; omega, hc5, Nat.le_refl _, ?_⟩, rfl⟩
      have := HRW.out.take 500
      rwa [u8s, ← List.map_take] at this
  case rest =>
    obtain ⟨⟨n3, r3, rfl, hn3, hc3, hn5, hr3⟩, rfl⟩ := hcut
    have HR3 := Lib.hid (RdB.of_rd hr3)
    have HN3 := Lib.hid hn3
    have HC3 := Lib.hid hc3
    clear hn3 hc3 hr3 HRW HNR
    go_wp2_with fail
    refine HMA.out.mono ?_
    rintro e W1 ⟨m, A, c, rfl, ok, ho1, hb1⟩
    have HRS := Lib.hid (refSegments_any m A c W1 (own_intsP ho1) ok)
    have HOK0 := Lib.hid ok
    have HB1 := Lib.hid hb1
    clear ok ho1 hb1 HMA
    go_wp2_with fail
    refine HRS.out.mono ?_
    rintro e W2 ⟨v2, rfl, ho2, hb2⟩
    obtain ⟨A2, c2, rfl, _, hat2⟩ := ho2.at_
    have HRE := Lib.hid (refEnc_ok HOK0.out A2 c2 W2 hat2)
    have HB2 := Lib.hid (HB1.out.trans (hb2.mono HB1.out.size))
    have hxl := enc_small HOK0.out
    have hx0 := enc_some m
    clear HRS ho2 hat2 hb2 HB1
    generalize encAll (segsM m) = xs at *
    generalize (segsM m).length = ns at *
    go_wp2_with fail
    refine HRE.out.mono ?_
    rintro e W3 ⟨hb3, v3, rfl, ho3⟩
    obtain ⟨A3, c3, rfl, _, hc3b, hc3m⟩ := ho3.shape
    obtain ⟨g3, rfl, hg3, hgs3, hcell⟩ := ho3.open_ hx0
    have HO3 := Lib.hid ho3
    have HB3 := Lib.hid (HB2.out.trans (hb3.mono HB2.out.size))
    have hg3w : w.heap.size ≤ g3 := Nat.le_trans HB2.out.size hg3
    clear ho3 hb3 HRE HB2 HOK0
    generalize hnx : xs.length = nx at *
    have HNX := Lib.hid hnx
    clear hnx
    have HWI := Lib.hid (fun (W : World) => within_any at_ (nx : Int) W (by omega) (by omega))
    have hq0 : 0 ≤ at_ % (nx : Int) := Int.emod_nonneg _ (by omega)
    have hq1 : at_ % (nx : Int) < (nx : Int) := Int.emod_lt_of_pos _ (by omega)
    generalize at_ % (nx : Int) = qq at HWI hq0 hq1
    obtain ⟨q, hqe⟩ : ∃ q : Nat, qq = (q : Int) := ⟨qq.toNat, by omega⟩
    subst hqe
    have hqn : q < nx := by omega
    obtain ⟨⟨u, hcu⟩, hcf⟩ := hcell q hqn
    have HBy := Lib.hid (fun h => OwnB.put (w := W3) (B := W2.heap.size) (g := g3) (cap := c3) (bs := xs) h q by_)
    have HBS := Lib.hid (HB3.out.setCell (p := ⟨g3, q, none⟩) hg3w (.int .u8 (by_.toNat : Int)))
    clear hcell
    go_wp2_with (go_at_call 10; refine (HWI.out _).mono ?_; rintro e w1 ⟨rfl, rfl⟩)
    have hP : OwnB (W3.setCell ⟨g3, q, none⟩ (.int .u8 (by_.toNat : Int))) W2.heap.size (.slice (some ⟨g3, 0, none⟩) xs.length c3) (xs.set q by_) := HBy.out (by have := HO3.out; rwa [← HNX.out] at this)
    have HP : Hid (Rd (W3.setCell ⟨g3, q, none⟩ (.int .u8 (by_.toNat : Int))) (some ⟨g3, 0, none⟩) (u8s (xs.set q by_))) := by
      obtain ⟨A', c', e, hrd, _, _⟩ := hP.shape
      injection e with e1 _ _
      subst e1
      exact hrd
    have HNQ : Hid ((xs.set q by_).length = nx) := by show _ = _; rw [List.length_set]; exact HNX.out
    generalize W3.setCell ⟨g3, q, none⟩ (.int .u8 (by_.toNat : Int)) = W4 at *
    generalize xs.set q by_ = xq at *
    clear hP HBy HO3 HB3 hcu hcf HWI HNX
    go_loopg [9, 11] 2 (fun g v9 v11 wr => DRel w g v9 v11 wr)
    case atStart => exact ⟨0, _, xq, nx, c3, by omega, rfl, rfl, HNQ.out, hc3b, hxl, HP.out, HBS.out⟩
    case round =>
      obtain ⟨k, A, bb, n, c, hk, rfl, rfl, hnb, hnc, hn9, hrb, hb⟩ := hrel
      have HRB := Lib.hid (RdB.of_rd hrb)
      have HB := Lib.hid hb
      have HNB := Lib.hid hnb
      have hk2 : k ≤ 2 := by omega
      have HK := Lib.hid hk
      clear hrb hb HP HBS HNQ hk
      by_cases hlt : k < 2
      · have hk2d : decide ((k : Int) < 2) = true := by simp; omega
        have hk2e : decide (k < 2) = true := by simp; omega
        have HDE := decodeM_any A c bb wr HRB.out (by omega) (by omega) (HG.out.below HB.out)
        have HDR := fun (W : World) (h : Below wr.heap.size wr W) => refDecode_any A c bb W ((HRB.out.below h).mono h.size) (by omega) (by omega)
        rw [hnb] at HDE HDR
        have HDM : Hid (decM bb = if (decodeF bb).2.2 = 0 then parseP (decodeF bb).1 else (zeroM, (decodeF bb).2.2)) := rfl
        have HOK := Lib.hid (fun h => decM_ok (b := bb) h)
        have hbd := decM_bd bb
        have HBD := Lib.hid hbd.1
        have hml := hbd.2
        have HDF := Lib.hid (fun h => decoded_fit (b := bb) h (by omega))
        have HDE := Lib.hid HDE
        have HDR := Lib.hid HDR
        unfold PRet at HDE
        unfold DecRet at HDR
        clear hbd hnb
        generalize decM bb = p at *
        generalize decodeF bb = rr at *
        obtain ⟨pm, pe⟩ := p
        obtain ⟨ls, ln, er⟩ := rr
        simp only at HDE HDR HDM HOK HBD hml HDF
        go_wp2_with fail
        refine HDE.out.mono ?_
        rintro e W5 ⟨A4, c4, rfl, ho5, hb5⟩
        have q6 := (Below.refl W5.heap.size W5).alloc (Nat.le_refl _) (.cells (msgC pm A4 c4) 30)
        have hM6 : MBlk (W5.alloc (.cells (msgC pm A4 c4) 30)) W5.heap.size pm A4 c4 := heap_alloc_new W5 _
        have HB6 := Lib.hid (hb5.trans (q6.mono hb5.size))
        have HR6 := Lib.hid (RdB.of_rd ((own_intsP ho5).below q6))
        have hpp : (pe != pe) = false := by simp
        have HM6 := Lib.hid hM6
        clear ho5 hb5 HDE q6 hM6
        go_upto_region 9 with (fail)
        generalize hW : W5.alloc (.cells (msgC pm A4 c4) 30) = W6 at HB6 HR6 HM6 ⊢
        generalize hg12 : W5.heap.size = g12 at HM6 ⊢
        clear hW hg12
        go_wp2_with fail
        refine (HDR.out _ HB6.out).mono ?_
        rintro e W7 ⟨v7, rfl, ho7, hb7⟩
        try simp only at ho7
        have q8 := (Below.refl W7.heap.size W7).alloc (Nat.le_refl _) (.cells #[.int .i64 0, .int .i64 0, .int .i64 0, .int .i64 0, .int .i64 0, .int .i64 0, .int .i64 0, .string ⟨#[]⟩, .string ⟨#[]⟩, .int .i64 0, .int .i64 0, .slice none 0 0, .string ⟨#[]⟩] 30)
        have hM8 : MBlk (W7.alloc (.cells #[.int .i64 0, .int .i64 0, .int .i64 0, .int .i64 0, .int .i64 0, .int .i64 0, .int .i64 0, .string ⟨#[]⟩, .string ⟨#[]⟩, .int .i64 0, .int .i64 0, .slice none 0 0, .string ⟨#[]⟩] 30)) W7.heap.size zeroM none 0 := heap_alloc_new W7 _
        have hb68 := hb7.trans (q8.mono hb7.size)
        have HB8 := Lib.hid (HB6.out.trans (hb68.mono HB6.out.size))
        have HM8 := Lib.hid (HM6.out.below hb68)
        have HR8 := Lib.hid (HR6.out.below hb68)
        have hs6 : W6.heap.size ≤ W7.heap.size := hb7.size
        have HS8 := Lib.hid hb68.size
        have HBW : Hid (wr.heap.size ≤ W7.heap.size) := Nat.le_trans HB6.out.size hb7.size
        have HZ8 := Lib.hid hM8
        have ho8 := ho7.below q8
        have hg12l : g12 < W7.heap.size := Nat.lt_of_lt_of_le HM6.out.lt hb7.size
        obtain ⟨As, cs, rfl, _, hat8⟩ := ho8.at_
        have HAT8 := Lib.hid hat8
        clear ho7 ho8 hat8 hb7 HDR q8 hM8 hb68 HB6 HR6 HM6
        go_upto_region 11 with (fail)
        generalize hW : W7.alloc (.cells #[.int .i64 0, .int .i64 0, .int .i64 0, .int .i64 0, .int .i64 0, .int .i64 0, .int .i64 0, .string ⟨#[]⟩, .string ⟨#[]⟩, .int .i64 0, .int .i64 0, .slice none 0 0, .string ⟨#[]⟩] 30) = W8 at HB8 HR8 HM8 HZ8 HAT8 HS8 ⊢
        generalize hg17 : W7.heap.size = g17 at HZ8 hg12l hs6 HBW ⊢
        clear hW hg17
        generalize W6.heap.size = s6 at *
        by_cases her : er = 0
        · subst her
          have HQ : Hid ((pm, pe) = parseP ls) := HDM.out.trans (if_pos rfl)
          have hfit := HDF.out rfl
          have hrp := refParse_any As cs ls W8 HAT8.out hfit.1 hfit.2.1 hfit.2.2
          rw [← parse_same, ← HQ.out] at hrp
          have HRP := Lib.hid hrp
          unfold PRet at HRP
          simp only at HRP
          clear hfit hrp HQ HDM HDF HAT8
          generalize ls.length = nl at *
          go_wp2_with fail
          refine HRP.out.mono ?_
          rintro e W9 ⟨A17, c17, rfl, ho9, hb9⟩
          have HMP := Lib.hid (HM8.out.below hb9)
          have HRP9 := Lib.hid (HR8.out.below (hb9.mono HS8.out))
          have HZ9 := Lib.hid (HZ8.out.below hb9)
          have HBP := Lib.hid (HB8.out.trans (hb9.mono HB8.out.size))
          have HO9 := Lib.hid ho9
          have HG17 := Lib.hid HZ8.out.lt
          clear ho9 hb9 HRP HM8 HR8 HZ8 HB8
          go_upto_region 13 with (refine at_store 30 (.tmp 17) (.tmp 60) rfl ?_; refine wpList_store_box rfl 30 (.tmp 17) (.tmp 60) rfl g17 0 (msgV pm A17 c17) (msgC pm A17 c17) rfl rfl rfl [.int .i64 0, .int .i64 0, .int .i64 0, .int .i64 0, .int .i64 0, .int .i64 0, .int .i64 0, .string ⟨#[]⟩, .string ⟨#[]⟩, .int .i64 0, .int .i64 0, .slice none 0 0, .string ⟨#[]⟩] [.int .i64 pm.kind, .int .i64 pm.src, .int .i64 pm.dst, .int .i64 pm.number, .int .i64 pm.day, .int .i64 pm.lot, .int .i64 pm.other, .string ⟨pm.code.toArray⟩, .string ⟨pm.country.toArray⟩, .int .i64 pm.quantity, .int .i64 pm.amount, .slice A17 pm.list.length c17, .string ⟨pm.text.toArray⟩] _ HZ9.out (Nat.le_of_ble_eq_true rfl) rfl (by kernel_rfl) rfl ?_; intro Wc hbc hPc; have HRc := Lib.hid hbc; have HPc := Lib.hid hPc; clear hbc hPc)
          have HM12 : Hid (MBlk Wc g12 pm A4 c4) := (HPc.out.block g12 (by omega)).trans HMP.out
          have HM17 : Hid (MBlk Wc g17 pm A17 c17) := HRc.out
          have HR12 := Lib.hid (HRP9.out.below (Below.but (Below.refl s6 _) HPc.out hs6)).rd
          have HR17 := Lib.hid (own_intsP (own_but HO9.out HPc.out HG17.out))
          have HB9 := Lib.hid (Below.but HBP.out HPc.out (by have := HBW.out; omega))
          clear HMP HRP9 HZ9 HBP HO9 HRc HPc
          generalize Wc = W9 at *
          obtain ⟨d0, d1, d2, d3, d4, d5, d6, d7, d8, d9, d10, d11, d12⟩ := HM12.out.all
          obtain ⟨e0, e1, e2, e3, e4, e5, e6, e7, e8, e9, e10, e11, e12⟩ := HM17.out.all
          go_wp2_with fail
          refine (sameM_yes pm A4 A17 c4 c17 W9 HR12.out HR17.out (by omega)).mono ?_
          rintro e Wa ⟨rfl, hba⟩
          clear d0 d1 d2 d3 d4 d5 d6 d7 d8 d9 d10 d11 d12 e0 e1 e2 e3 e4 e5 e6 e7 e8 e9 e10 e11 e12
          have HBA := Lib.hid (HB9.out.trans (hba.mono HB9.out.size))
          have HMA12 := Lib.hid (HM12.out.below hba)
          have HRA12 := Lib.hid (HR12.out.below hba)
          have HRAB := Lib.hid ((HRB.out.below HBA.out).mono HBA.out.size)
          clear hba HM12 HM17 HR12 HR17 HB9
          obtain ⟨d0, d1, d2, d3, d4, d5, d6, d7, d8, d9, d10, d11, d12⟩ := HMA12.out.all
          have HEN := Lib.hid (encodeM_any pm A4 c4 Wa HRA12.out HBD.out (HG.out.tab.below (HB.out.trans (HBA.out.mono HB.out.size))))
          unfold EncmRet at HEN
          go_wp2_with fail
          refine HEN.out.mono ?_
          rintro e Wb ⟨hbb, hcase⟩
          clear d0 d1 d2 d3 d4 d5 d6 d7 d8 d9 d10 d11 d12 HEN
          have HBB := Lib.hid (HB.out.trans ((HBA.out.trans (hbb.mono HBA.out.size)).mono HB.out.size))
          have hcv2 := conv_back Wb A c bb (HRAB.out.below hbb).rd
          rw [HNB.out] at hcv2
          have hnn : (bb != bb) = false := by simp
          rcases hcase with ⟨hv, v, rfl, ho⟩ | ⟨hv, rfl⟩
          · obtain ⟨A7, c7, rfl, hr7, _, _⟩ := ho.shape
            have hcv1 := conv_back Wb A7 c7 _ hr7
            clear ho hr7
            by_cases hpe : pe = 0
            · obtain ⟨_, he⟩ := HOK.out hpe
              rw [← he] at hcv1 ⊢
              rw [HNB.out] at hcv1 ⊢
              subst hpe
              clear he hv
              have hz : ((0 : Int) == 0) = true := rfl
              go_wp2
              go_roundg (2 - (k + 1))
              case measure => have := HK.out; omega
              case rel => exact ⟨k + 1, Ar, r3, n3, cr, by have := HK.out; omega, by go_num, rfl, HN3.out, HC3.out, by omega, ((HR3.out.below HBB.out).rd), HBB.out⟩
            · have hz : (pe == 0) = false := by simpa using hpe
              generalize encAll (segsM pm) = en at *
              generalize en.length = nen at *
              clear hcv1 hpe hv
              go_wp2
              go_roundg (2 - (k + 1))
              case measure => have := HK.out; omega
              case rel => exact ⟨k + 1, Ar, r3, n3, cr, by have := HK.out; omega, by go_num, rfl, HN3.out, HC3.out, by omega, ((HR3.out.below HBB.out).rd), HBB.out⟩
          · have hpe : pe ≠ 0 := fun h => hv (okM_iff.2 (HOK.out h).1)
            have hz : (pe == 0) = false := by simpa using hpe
            generalize validM pm = vm at *
            clear hpe hv
            go_wp2
            go_roundg (2 - (k + 1))
            case measure => have := HK.out; omega
            case rel => exact ⟨k + 1, Ar, r3, n3, cr, by have := HK.out; omega, by go_num, rfl, HN3.out, HC3.out, by omega, ((HR3.out.below HBB.out).rd), HBB.out⟩
        · have HQ : Hid ((pm, pe) = (zeroM, er)) := HDM.out.trans (if_neg her)
          have hpm : pm = zeroM := congrArg Prod.fst HQ.out
          have hpe : pe = er := congrArg Prod.snd HQ.out
          have her2 : (er == 0) = false := by simpa using her
          subst hpe
          clear HDM HDF HAT8 HQ her
          have HM12 := Lib.hid HM8.out
          have HM17 : Hid (MBlk W8 g17 pm none 0) := by rw [hpm]; exact HZ8.out
          have HR12 := Lib.hid HR8.out.rd
          have HR17 : Hid (Rd W8 none (ints pm.list)) := by rw [hpm]; exact Rd.nil _ _
          have HB9 := Lib.hid HB8.out
          clear HM8 HZ8 HR8 HB8 hpm
          generalize W8 = W9 at *
          obtain ⟨d0, d1, d2, d3, d4, d5, d6, d7, d8, d9, d10, d11, d12⟩ := HM12.out.all
          obtain ⟨e0, e1, e2, e3, e4, e5, e6, e7, e8, e9, e10, e11, e12⟩ := HM17.out.all
          go_wp2_with fail
          refine (sameM_yes pm A4 none c4 0 W9 HR12.out HR17.out (by omega)).mono ?_
          rintro e Wa ⟨rfl, hba⟩
          clear d0 d1 d2 d3 d4 d5 d6 d7 d8 d9 d10 d11 d12 e0 e1 e2 e3 e4 e5 e6 e7 e8 e9 e10 e11 e12
          have HBA := Lib.hid (HB9.out.trans (hba.mono HB9.out.size))
          have HMA12 := Lib.hid (HM12.out.below hba)
          have HRA12 := Lib.hid (HR12.out.below hba)
          have HRAB := Lib.hid ((HRB.out.below HBA.out).mono HBA.out.size)
          clear hba HM12 HM17 HR12 HR17 HB9
          obtain ⟨d0, d1, d2, d3, d4, d5, d6, d7, d8, d9, d10, d11, d12⟩ := HMA12.out.all
          have HEN := Lib.hid (encodeM_any pm A4 c4 Wa HRA12.out HBD.out (HG.out.tab.below (HB.out.trans (HBA.out.mono HB.out.size))))
          unfold EncmRet at HEN
          go_wp2_with fail
          refine HEN.out.mono ?_
          rintro e Wb ⟨hbb, hcase⟩
          clear d0 d1 d2 d3 d4 d5 d6 d7 d8 d9 d10 d11 d12 HEN
          have HBB := Lib.hid (HB.out.trans ((HBA.out.trans (hbb.mono HBA.out.size)).mono HB.out.size))
          have hcv2 := conv_back Wb A c bb (HRAB.out.below hbb).rd
          rw [HNB.out] at hcv2
          have hnn : (bb != bb) = false := by simp
          rcases hcase with ⟨hv, v, rfl, ho⟩ | ⟨hv, rfl⟩
          · obtain ⟨A7, c7, rfl, hr7, _, _⟩ := ho.shape
            have hcv1 := conv_back Wb A7 c7 _ hr7
            clear ho hr7
            by_cases hpe : pe = 0
            · obtain ⟨_, he⟩ := HOK.out hpe
              rw [← he] at hcv1 ⊢
              rw [HNB.out] at hcv1 ⊢
              subst hpe
              clear he hv
              have hz : ((0 : Int) == 0) = true := rfl
              go_wp2
              go_roundg (2 - (k + 1))
              case measure => have := HK.out; omega
              case rel => exact ⟨k + 1, Ar, r3, n3, cr, by have := HK.out; omega, by go_num, rfl, HN3.out, HC3.out, by omega, ((HR3.out.below HBB.out).rd), HBB.out⟩
            · have hz : (pe == 0) = false := by simpa using hpe
              generalize encAll (segsM pm) = en at *
              generalize en.length = nen at *
              clear hcv1 hpe hv
              go_wp2
              go_roundg (2 - (k + 1))
              case measure => have := HK.out; omega
              case rel => exact ⟨k + 1, Ar, r3, n3, cr, by have := HK.out; omega, by go_num, rfl, HN3.out, HC3.out, by omega, ((HR3.out.below HBB.out).rd), HBB.out⟩
          · have hpe : pe ≠ 0 := fun h => hv (okM_iff.2 (HOK.out h).1)
            have hz : (pe == 0) = false := by simpa using hpe
            generalize validM pm = vm at *
            clear hpe hv
            go_wp2
            go_roundg (2 - (k + 1))
            case measure => have := HK.out; omega
            case rel => exact ⟨k + 1, Ar, r3, n3, cr, by have := HK.out; omega, by go_num, rfl, HN3.out, HC3.out, by omega, ((HR3.out.below HBB.out).rd), HBB.out⟩
      · have hge : k = 2 := by omega
        subst hge
        clear hlt
        go_wp2_with fail
        refine (awakeM_any wr (HG.out.tab.below HB.out)).mono ?_
        rintro e W5 ⟨rfl, hb5⟩
        have HB5 := Lib.hid (HB.out.trans (hb5.mono HB.out.size))
        go_wp2_with fail
        go_ret
        exact ⟨rfl, HB5.out⟩
end messageDecode
end Go.Proofs.YtmjlnckmhdgoiaaGreatDoor

/-! The law MessageDecode: for every input the call returns true, and each argument reads afterwards as it read before. Condition: the listed package variables hold what the program lays in them (the card ties them to its text). -/
namespace Go.Proofs.YtmjlnckmhdgoiaaGreatDoor.messageDecode
open Go.ChangeShapes Go.WideShapes Go.ChangeAt Go.RowKit
set_option linter.unusedVariables false

theorem own : ownKnob Tryz.prog.godebug = none := by kernel_rfl
theorem laidOut : laidOutB Tryz.prog = true := by kernel_rfl

set_option maxRecDepth 100000 in
theorem contract (H : Type) (enc : TypeId × Value → H) (W : World) (base : Nat) (args : Array Value) (ds gs : List (DataW H)) (before : List MemPlace)
    (hval : ∀ (j : Nat) t v, Tryz.f3.params[j]? = some t → args[j]? = some v → Value.okWide Tryz.prog W .any base t v)
    (hW : DataW.Whole enc Tryz.prog Tryz.f3.params.toList Rows.messageDecodeSpec.vars false W args.toList ds gs before)
    (hsz : (DataW.weightsEach Tryz.prog (Tryz.f3.params.toList ++ (OpenSpec.ofChange Rows.messageDecodeSpec).bare.plain.varTypes Tryz.prog) (ds ++ gs)).all (· ≤ reachBytes) = true)
    (hL : laidMetH Tryz.prog Rows.messageDecodeRow.laid W) :
    Calls Tryz.prog 3 args W fun e W' => ∃ v, e = .returned v ∧ Rows.messageDecodeSpec.post enc Tryz.prog Tryz.f3 false true false false W args v W' := by
  have hW' := hW
  obtain ⟨p, q, hA0, hV, rfl, hfz, hnd⟩ := hW
  have hA : DataW.TrodAll enc Tryz.prog W 0 (fun _ => true) true Tryz.f3.params.toList args.toList ds p := hA0
  rw [Tryz.params3] at hA hval hsz
  obtain ⟨v0, vs0, d0, ds0, p0, q0, hargs, rfl, rfl, h0, r0⟩ := trodAll_cons hA
  obtain ⟨v1, vs1, d1, ds1, p1, q1, rfl, rfl, rfl, h1, r1⟩ := trodAll_cons r0
  obtain ⟨v2, vs2, d2, ds2, p2, q2, rfl, rfl, rfl, h2, r2⟩ := trodAll_cons r1
  obtain ⟨v3, vs3, d3, ds3, p3, q3, rfl, rfl, rfl, h3, r3⟩ := trodAll_cons r2
  obtain ⟨rfl, rfl, rfl⟩ := trodAll_nil r3
  obtain rfl : args = #[v0, v1, v2, v3] := by cases args; simp_all
  obtain ⟨rfl, rfl⟩ := trodVars_none hV
  have hsz2 : (DataW.weightsEach Tryz.prog [22, 3, 5, 23] [d0, d1, d2, d3]).all (· ≤ reachBytes) = true := hsz
  have s0 : (DataW.weights Tryz.prog 22 d0).all (· ≤ reachBytes) = true := by
    have h := hsz2
    simp only [DataW.weightsEach, List.all_append, Bool.and_eq_true] at h
    exact h.1
  obtain ⟨A0, c0, l0, rfl, y0⟩ := open_slI Tryz.underlying22 Tryz.underlying3 (by kernel_rfl) (by kernel_rfl) (hval 0 22 v0 rfl rfl) h0 s0
  obtain ⟨a1, rfl, rfl, rfl, w1⟩ := open_int Tryz.underlying3 (hval 1 3 v1 rfl rfl) h1
  obtain ⟨a2, rfl⟩ := open_u8 (hval 2 5 v2 rfl rfl) h2
  obtain ⟨A3, c3, l3, rfl, y3⟩ := open_slB (hval 3 23 v3 rfl rfl) h3
  refine (walkMessageDecode A0 c0 l0 a1 a2 A3 c3 l3 W y0 (wf_bd w1) y3 hL).mono fun e W' ⟨he, bel⟩ => ?_
  subst he
  exact ⟨_, rfl, law_post laidOut (by kernel_rfl) rfl 4 rfl Tryz.underlying4 hW' (fun _ h => by subst h; exact ⟨rfl, rfl, rfl⟩) bel⟩

/-- a world for the witness: the settled one, the listed variables holding what their initialisers lay -/
noncomputable def low : Nat := (World.holding Tryz.prog default ⟨#[], #[], []⟩).heap.size
noncomputable def laidWorld (os : Os) : World := { World.holding Tryz.prog os ⟨#[.cells #[.string { data := #[118, 97, 108, 117, 101, 32, 111, 117, 116, 32, 111, 102, 32, 114, 97, 110, 103, 101] }] 157, .cells #[.string { data := #[105, 110, 118, 97, 108, 105, 100, 32, 115, 121, 110, 116, 97, 120] }] 157], #[], []⟩ with heap := ((((((World.holding Tryz.prog os ⟨#[.cells #[.string { data := #[118, 97, 108, 117, 101, 32, 111, 117, 116, 32, 111, 102, 32, 114, 97, 110, 103, 101] }] 157, .cells #[.string { data := #[105, 110, 118, 97, 108, 105, 100, 32, 115, 121, 110, 116, 97, 120] }] 157], #[], []⟩).heap).modify 4 fun | .cells _ t frozen => .cells (litCells Rows.laid_math_bits_deBruijn32tab) t frozen | o => o).modify 5 fun | .cells _ t frozen => .cells (litCells Rows.laid_math_bits_deBruijn64tab) t frozen | o => o).modify 1 fun | .cells _ t frozen => .cells (litCells Rows.laid_internal_strconv_uint64pow10) t frozen | o => o).modify 3 fun | .cells _ t frozen => .cells #[.iface 155 (.pointer (some ⟨low, 0, none⟩))] t frozen | o => o).modify 2 fun | .cells _ t frozen => .cells #[.iface 155 (.pointer (some ⟨low + 1, 0, none⟩))] t frozen | o => o }
theorem laid_met (os : Os) : laidMet Tryz.prog Rows.messageDecodeRow.laid ((laidWorld os).forCall (fun _ _ => 0) ⟨#[], #[.slice none 0 0, .int .i64 0, .int .u8 0, .slice none 0 0], []⟩).memory :=
  laidMet_of_run' 8 (by kernel_rfl) (by kernel_rfl)
theorem reads (os : Os) {H : Type} (enc : TypeId × Value → H) : ∃ places, DataW.whole enc Tryz.prog ((laidWorld os).forCall (fun _ _ => 0) ⟨#[], #[.slice none 0 0, .int .i64 0, .int .u8 0, .slice none 0 0], []⟩).memory Tryz.f3.params.toList Rows.messageDecodeSpec.vars false #[.slice none 0 0, .int .i64 0, .int .u8 0, .slice none 0 0].toList 8 = some ([.nil, .lit (.int .i64 0), .lit (.int .u8 0), .nil], [], places) :=
  ⟨[], by kernel_rfl⟩

set_option maxRecDepth 100000 in
theorem lifted (os : Os) (started : os.Started) (H : Type) (enc : TypeId × Value → H) (F : Stop.Interp) :
    ReturnsInHanded {} Tryz.checked os 3 .any ((OpenSpec.ofChange Rows.messageDecodeSpec).preRow enc Tryz.prog Tryz.f3 Rows.messageDecodeRow.domain false Rows.messageDecodeRow.laid) (((OpenSpec.ofChange Rows.messageDecodeSpec).at F).post enc Tryz.prog Tryz.f3 false true false false) := by
  obtain ⟨places, hx⟩ := reads os enc
  refine returnsInHanded_of_row (C := Tryz.checked) (s := OpenSpec.ofChange Rows.messageDecodeSpec) own started (by kernel_rfl) Tryz.func3
    (witness_row_at (enc := enc) (C := Tryz.checked) false (laidWorld os) #[.slice none 0 0, .int .i64 0, .int .u8 0, .slice none 0 0] rfl (by kernel_rfl) (by kernel_rfl) (by kernel_rfl)
      (OpenSpec.preRow_of_cond 8 hx (by kernel_rfl) (fun k hk => by cases hk) (by kernel_rfl) (laid_met os))) ?_
  intro W base args ds gs before hval hW _ _ hsz hL _ _
  exact contract H enc W base args ds gs before hval hW hsz hL

theorem said : Rows.MessageDecodeSaid :=
  OpenClaim.holds_of_cond 3 Tryz.f3 rfl rfl rfl rfl rfl rfl rfl ⟨rfl, rfl, rfl, rfl, rfl⟩ rfl rfl rfl rfl rfl (by kernel_rfl) Tryz.func3 (by kernel_rfl)
    (of_decide_eq_true (by kernel_rfl)) (by unfold Func.isWrapper; first | (rw [if_pos (by decide +kernel)]; kernel_rfl) | (rw [if_neg (by decide +kernel)]; exact ⟨rfl, rfl⟩))
    (fun os started H enc _ F => by rw [OpenClaim.pre_eq_preRow]; exact lifted os started H enc F)

theorem plain (f : FuncId) (fn : Func) (hf : Tryz.pinned.checked.prog.funcNamed "customs/customslaw07.MessageDecode" = some f) (hfn : Tryz.pinned.checked.prog.funcs[f]? = some fn) :
    true = Tryz.pinned.checked.prog.looks [] ∧ ∀ (j : Nat) t, fn.params[j]? = some t → Tryz.pinned.checked.prog.wantsStandIn t = false := by
  obtain rfl : f = 3 := Option.some.inj ((show Tryz.prog.funcNamed "customs/customslaw07.MessageDecode" = some 3 by kernel_rfl).symm.trans hf) |>.symm
  obtain rfl : fn = Tryz.f3 := (Option.some.inj (Tryz.func3.symm.trans hfn)).symm
  refine ⟨by kernel_rfl, fun j t ht => ?_⟩
  have hall : Tryz.f3.params.toList.all (fun t => !Tryz.prog.wantsStandIn t) = true := by kernel_rfl
  have := List.all_eq_true.1 hall t (by simpa using Array.mem_of_getElem? ht)
  exact (show Tryz.prog.wantsStandIn t = false by simpa using this)
theorem card : Rows.MessageDecodeCardSaid :=
  Claim7.holds_tied_plain_at .later [] _ _ _ _ said (fun _ h => by cases h) (by kernel_rfl) (fun _ h => by cases h) messageDecode_row_tie rfl ⟨rfl, rfl⟩ (by kernel_rfl) rfl plain (by kernel_rfl)
#print axioms card
end Go.Proofs.YtmjlnckmhdgoiaaGreatDoor.messageDecode
