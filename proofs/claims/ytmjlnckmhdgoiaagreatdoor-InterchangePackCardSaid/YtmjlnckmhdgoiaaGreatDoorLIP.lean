/- The law InterchangePack: the walk. -/
import Derived.Test.YtmjlnckmhdgoiaaGreatDoorQp
import Derived.Test.YtmjlnckmhdgoiaaGreatDoorQj
import Derived.Test.YtmjlnckmhdgoiaaGreatDoorMo
import Derived.Deep.CutBlock
import Derived.Test.YtmjlnckmhdgoiaaGreatDoorRows
import Derived.Test.YtmjlnckmhdgoiaaGreatDoorCards
import Derived.Test.YtmjlnckmhdgoiaaGreatDoorTie
import Derived.Test.YtmjlnckmhdgoiaaGreatDoorFrame
import Derived.WalkKit
import Derived.ProofKit
import Derived.OpenShut
import Derived.Deep.DeepHandedRow
import Derived.SevenTiedAt
namespace Go.Proofs.YtmjlnckmhdgoiaaGreatDoor
open Go.RowKit
set_option linter.unusedVariables false

theorem set3 {W : World} {g : Nat} {x : Ich} {A : Option Addr} {c : Nat} (h : IBlk W g x A c) (s r n : Int) : IBlk (((W.setCell ⟨g, 0, none⟩ (.int .i64 s)).setCell ⟨g, 1, none⟩ (.int .i64 r)).setCell ⟨g, 2, none⟩ (.int .i64 n)) g ⟨s, r, n, x.msgs⟩ A c := by
  unfold IBlk at *
  have h1 := heap_setCell_m h (i := 0) (.int .i64 s)
  have h2 := heap_setCell_m h1 (i := 1) (.int .i64 r)
  have h3 := heap_setCell_m h2 (i := 2) (.int .i64 n)
  exact h3
theorem but3 (W : World) (g : Nat) (a b c : Value) : But g W (((W.setCell ⟨g, 0, none⟩ a).setCell ⟨g, 1, none⟩ b).setCell ⟨g, 2, none⟩ c) := ((But.set W g 0 a).trans (But.set _ g 1 b)).trans (But.set _ g 2 c)
/-- messages in rows of their own do not lie in the block of an interchange -/
theorem at_but {W W' : World} {B g n c c2 : Nat} {A : Option Addr} {l : List Msg} {x : Ich} {A2 : Option Addr} (h : MsgsOwn W B (.slice A n c) l) (hb : But g W W') (hI : IBlk W g x A2 c2) : MsgsAt W' W'.heap.size A l := by
  have hk : ∀ {e : TypeId} {size m : Nat} {v : Value} {xs : List Value}, W.ownsRow B e size v m xs → 45 ≠ e → W'.ownsRow B e size v m xs := fun {e size m v xs} ho hne => by
    refine ⟨ho.1, ?_⟩
    rcases ho.2 with h2 | ⟨b, cap, cur, hv, hB, hh, r⟩
    · exact .inl h2
    · refine .inr ⟨b, cap, cur, hv, hB, (hb.block b ?_).trans hh, r⟩
      intro e1
      subst e1
      unfold IBlk at hI
      rw [hI] at hh
      injection hh with hh
      injection hh with _ ht _
      exact hne ht
  obtain ⟨cs, h1, h2⟩ := h
  have h3 : MsgsOwn W' B (.slice A n c) l := ⟨cs, hk h1 (by decide), fun i m hm => by obtain ⟨a, k, e, f⟩ := h2 i m hm; exact ⟨a, k, e, hk f (by decide)⟩⟩
  obtain ⟨A', c', e, _, h4⟩ := h3.at_
  injection e with e _ _
  rw [e]
  exact h4
namespace interchangePack
set_option maxHeartbeats 40000000 in
set_option maxRecDepth 100000 in
theorem walkInterchangePack (Al : Option Addr) (cl : Nat) (L : List (List Int)) (s r n : Int) (raw : Bool) (w : World) (hl : RowsAt w Al cl L) (hs : -9223372036854775808 ≤ s ∧ s ≤ 9223372036854775807) (hr : -9223372036854775808 ≤ r ∧ r ≤ 9223372036854775807) (hn : -9223372036854775808 ≤ n ∧ n ≤ 9223372036854775807) (hL : laidMetH Tryz.prog Rows.interchangePackRow.laid w) :
    Calls Tryz.prog 4 #[.slice Al L.length cl, .int .i64 s, .int .i64 r, .int .i64 n, .bool raw] w fun e w' => e = .returned (.bool true) ∧ Below w.heap.size w w' := by
  have HG := Lib.hid (given_of_laid hL (by kernel_rfl) (by kernel_rfl) (by kernel_rfl) (by kernel_rfl))
  have HMA := Lib.hid (madeI_any Al cl L s r n _ _ _ rfl rfl rfl w hl)
  unfold MadeI at HMA
  clear hL hl hs hr hn
  go_enter Tryz.func4, Tryz.ntmps4
  go_wp2_with fail
  refine HMA.out.mono ?_
  rintro e W1 ⟨x, A, c, rfl, okx, hx6, -, ho1, hb1⟩
  have HOK0 := Lib.hid okx
  have q2 := (Below.refl W1.heap.size W1).alloc (Nat.le_refl _) (.cells (ichC x A c) 45)
  have hI2 : IBlk (W1.alloc (.cells (ichC x A c) 45)) W1.heap.size x A c := heap_alloc_new W1 _
  have HO2 := Lib.hid (ho1.below q2)
  have HB2 := Lib.hid (hb1.trans (q2.mono hb1.size))
  have hbs := hb1.size
  have HL6 := Lib.hid hx6
  have HMK := Lib.hid okx.m
  clear ho1 hb1 q2 okx hx6 HMA
  go_upto_if 23 with (fail)
  generalize hW : W1.alloc (.cells (ichC x A c) 45) = W2 at hI2 HO2 HB2 ⊢
  clear hW
  obtain ⟨i0, i1, i2, i3⟩ := hI2.all
  generalize hg11 : W1.heap.size = g11 at hI2 hbs i0 i1 i2 i3 ⊢
  clear hg11
  have HI2 := Lib.hid hI2
  clear hI2
  go_cut [24, 25, 26, 27, 28, 29] (fun s24 s25 s26 s27 s28 s29 wx => ∃ y : Ich, y.msgs = x.msgs ∧ IBlk wx g11 y A c ∧ (raw = false → OkI y) ∧ But g11 W2 wx)
  case first =>
    have hf0 := HI2.out.frozen 0
    have hf1 := HI2.out.frozen 1
    have hf2 := HI2.out.frozen 2
    cases raw
    · go_wp2_with fail
      go_meet
      exact ⟨x, rfl, HI2.out, fun _ => HOK0.out, ⟨rfl, rfl, rfl, rfl, fun _ _ => rfl⟩⟩
    · go_wp2_with fail
      go_meet
      exact ⟨⟨s, r, n, x.msgs⟩, rfl, set3 HI2.out s r n, fun h => (by cases h), but3 W2 g11 _ _ _⟩
  case rest =>
    obtain ⟨y, hyx, hI3, hok3, hbut⟩ := hcut
    have HI3 := Lib.hid hI3
    have HOK3 := Lib.hid hok3
    have HB3 := Lib.hid (HB2.out.but hbut hbs)
    have HG1 := Lib.hid HI2.out.lt
    have HO3 : Hid (MsgsAt wc wc.heap.size A x.msgs) := at_but HO2.out hbut HI2.out
    have HYM := Lib.hid hyx
    clear hI3 hok3 hbut hyx HB2 HO2 HI2 i0 i1 i2 i3
    obtain ⟨i0, i1, i2, i3⟩ := HI3.out.all
    rw [HYM.out] at i3
    have hpk := pack_any y A c wc (by rw [HYM.out]; exact HO3.out) (fun m hm => (HMK.out m (by rw [← HYM.out]; exact hm)).bd) (HG.out.tab.below HB3.out)
    have hyv : ichV y A c = .agg #[.int .i64 y.sender, .int .i64 y.receiver, .int .i64 y.number, .slice A x.msgs.length c] := by show Value.agg #[_, _, _, _] = _; rw [HYM.out]
    rw [hyv] at hpk
    have HPK := Lib.hid hpk
    unfold PkRet at HPK
    have hpl := pack_len y
    have HPE := Lib.hid (fun h => unpack_pack (x := y) h)
    have HPZ := Lib.hid (pack_snd y)
    have hpo := fun h => packE_zero (x := y).1 h
    have hpz := fun h => packE_zero (x := y).2 h
    have HPX := Lib.hid hpo
    have HPY := Lib.hid hpz
    have HRP := Lib.hid (fun (W : World) (h : MsgsAt W W.heap.size A x.msgs) => by
      have h2 := refPack_any y A c W (by rw [HYM.out]; exact h) (fun m hm => (HMK.out m (by rw [← HYM.out]; exact hm)).bd)
      rw [hyv] at h2
      exact h2)
    unfold RpkRet at HRP
    have HYV := Lib.hid hyv
    clear hpk hpo hpz hyv
    rw [← HPZ.out] at HPX HPY
    generalize hpp : packF y = pk at *
    have HPP := Lib.hid hpp
    clear hpp
    obtain ⟨pb, pe⟩ := pk
    simp only at hpl HPK HPE HPX HPY HRP HPZ
    generalize hnb : pb.length = nb at *
    have HNB := Lib.hid hnb
    have HPL := Lib.hid hpl
    clear hnb hpl
    go_wp2_with fail
    refine HPK.out.mono ?_
    rintro e W4 ⟨A4, c4, rfl, hc4, hc4m, hr4, hb4⟩
    have HB4 := Lib.hid (HB3.out.trans (hb4.mono HB3.out.size))
    have HI4 := Lib.hid (HI3.out.below hb4)
    have HO4 := Lib.hid ((HO3.out.below hb4).mono hb4.size)
    have HR4 := Lib.hid hr4
    clear hb4 hr4 HPK HB3 HI3 HO3 i0 i1 i2 i3
    obtain ⟨i0, i1, i2, i3⟩ := HI4.out.all
    rw [HYM.out] at i3
    have HRQ := Lib.hid (HRP.out W4 HO4.out)
    clear HRP
    go_wp2_with fail
    refine HRQ.out.mono ?_
    rintro e W5 ⟨v5, rfl, ho5, hb5⟩
    obtain ⟨A5, c5, e5, hr5, -, -⟩ := ho5.shape
    rw [HNB.out] at e5
    subst e5
    have HB5 := Lib.hid (HB4.out.trans (hb5.mono HB4.out.size))
    have HI5 := Lib.hid (HI4.out.below hb5)
    have HO5 := Lib.hid ((HO4.out.below hb5).mono hb5.size)
    have HR5 := Lib.hid ((HR4.out.below hb5).mono hb5.size)
    have hcv1 := conv_back W5 A4 c4 pb HR5.out.rd
    have hcv2 := conv_back W5 A5 c5 pb hr5
    rw [HNB.out] at hcv1 hcv2
    have hnn : (pb != pb) = false := by simp
    have hee : (pe != pe) = false := by simp
    clear ho5 hb5 hr5 HRQ HB4 HI4 HO4 HR4 i0 i1 i2 i3
    have HAW := Lib.hid (fun (W : World) (h : Below w.heap.size w W) => awakeM_any W (HG.out.tab.below h))
    by_cases hpe : pe = 0
    · subst hpe
      have hne : ((0 : Int) != 0) = false := rfl
      have hup := HPE.out (HPX.out rfl)
      have hun := unpack_any A4 c4 pb W5 HR5.out (by rw [HNB.out]; exact hc4) (by rw [HNB.out]; have := HPL.out; omega) (HG.out.below HB5.out)
      rw [HNB.out, hup] at hun
      have HUN := Lib.hid hun
      unfold URet at HUN
      simp only at HUN
      have HOKY := Lib.hid (HPX.out rfl)
      clear hup hun HPX HPY hc4 hc4m hbs HPE
      go_upto_region 10 with (fail)
      clear hcv1 hcv2
      go_wp2_with fail
      refine HUN.out.mono ?_
      rintro e W6 ⟨A6, c6, rfl, ho6, hb6⟩
      have q7 := (Below.refl W6.heap.size W6).alloc (Nat.le_refl _) (.cells (ichC y A6 c6) 45)
      have hI7 : IBlk (W6.alloc (.cells (ichC y A6 c6) 45)) W6.heap.size y A6 c6 := heap_alloc_new W6 _
      have hb67 := hb6.trans (q7.mono hb6.size)
      have HB7 := Lib.hid (HB5.out.trans (hb67.mono HB5.out.size))
      have HI7 := Lib.hid (HI5.out.below hb67)
      have HO7 := Lib.hid ((HO5.out.below hb67).mono hb67.size)
      have HP7 := Lib.hid (ho6.below q7)
      clear ho6 hb6 q7 hb67 HUN HB5 HI5 HO5 HR5
      go_upto_region 11 with (fail)
      generalize hW : W6.alloc (.cells (ichC y A6 c6) 45) = W7 at hI7 HB7 HI7 HO7 HP7 ⊢
      obtain ⟨i0, i1, i2, i3⟩ := HI7.out.all
      obtain ⟨j0, j1, j2, j3⟩ := hI7.all
      generalize hg16 : W6.heap.size = g16 at hI7 j0 j1 j2 j3 ⊢
      clear hW hg16
      obtain ⟨A8, c8, e8, _, hat8⟩ := HP7.out.at_
      injection e8 with e8 e9 e10
      subst e8; subst e10
      clear e9
      have hsm := sameI_any y A A6 c c6 W7 (by rw [HYM.out]; exact HO7.out) hat8 (fun m hm => by have := (HMK.out m (by rw [← HYM.out]; exact hm)).ll; omega) (by rw [HYM.out]; have := HL6.out; omega)
      have HSM := Lib.hid hsm
      clear hsm hat8 HP7
      have hz0 : ((0 : Int) == 0) = true := rfl
      go_wp2_with (first | (go_at_call 21; refine HSM.out.mono ?_; rintro e W8 ⟨rfl, hb8⟩; have HB8 := Lib.hid (HB7.out.trans (hb8.mono HB7.out.size))) | (go_at_call 16; refine (HAW.out _ HB8.out).mono ?_; rintro e W9 ⟨rfl, hb9⟩))
      go_ret
      exact ⟨rfl, HB8.out.trans (hb9.mono HB8.out.size)⟩
    · have hne : (pe != 0) = true := by rw [bne_iff_ne]; exact hpe
      have hraw : raw = true := by
        cases raw
        · exact absurd (HPY.out (HOK3.out rfl)) hpe
        · rfl
      subst hraw
      clear hpe HPX HPY hc4 hc4m hbs
      go_wp2_with (go_at_call 16; refine (HAW.out _ HB5.out).mono ?_; rintro e W9 ⟨rfl, hb9⟩)
      go_ret
      exact ⟨rfl, HB5.out.trans (hb9.mono HB5.out.size)⟩
end interchangePack
end Go.Proofs.YtmjlnckmhdgoiaaGreatDoor

/-! The law InterchangePack: for every input the call returns true, and each argument reads afterwards as it read before. Condition: the listed package variables hold what the program lays in them (the card ties them to its text). -/
namespace Go.Proofs.YtmjlnckmhdgoiaaGreatDoor.interchangePack
open Go.ChangeShapes Go.WideShapes Go.ChangeAt Go.RowKit
set_option linter.unusedVariables false

theorem own : ownKnob Tryz.prog.godebug = none := by kernel_rfl
theorem laidOut : laidOutB Tryz.prog = true := by kernel_rfl

set_option maxRecDepth 100000 in
theorem contract (H : Type) (enc : TypeId × Value → H) (W : World) (base : Nat) (args : Array Value) (ds gs : List (DataW H)) (before : List MemPlace)
    (hval : ∀ (j : Nat) t v, Tryz.f4.params[j]? = some t → args[j]? = some v → Value.okWide Tryz.prog W .any base t v)
    (hW : DataW.Whole enc Tryz.prog Tryz.f4.params.toList Rows.interchangePackSpec.vars false W args.toList ds gs before)
    (hsz : (DataW.weightsEach Tryz.prog (Tryz.f4.params.toList ++ (OpenSpec.ofChange Rows.interchangePackSpec).bare.plain.varTypes Tryz.prog) (ds ++ gs)).all (· ≤ reachBytes) = true)
    (hL : laidMetH Tryz.prog Rows.interchangePackRow.laid W) :
    Calls Tryz.prog 4 args W fun e W' => ∃ v, e = .returned v ∧ Rows.interchangePackSpec.post enc Tryz.prog Tryz.f4 false true false false W args v W' := by
  have hW' := hW
  obtain ⟨p, q, hA0, hV, rfl, hfz, hnd⟩ := hW
  have hA : DataW.TrodAll enc Tryz.prog W 0 (fun _ => true) true Tryz.f4.params.toList args.toList ds p := hA0
  rw [Tryz.params4] at hA hval hsz
  obtain ⟨v0, vs0, d0, ds0, p0, q0, hargs, rfl, rfl, h0, r0⟩ := trodAll_cons hA
  obtain ⟨v1, vs1, d1, ds1, p1, q1, rfl, rfl, rfl, h1, r1⟩ := trodAll_cons r0
  obtain ⟨v2, vs2, d2, ds2, p2, q2, rfl, rfl, rfl, h2, r2⟩ := trodAll_cons r1
  obtain ⟨v3, vs3, d3, ds3, p3, q3, rfl, rfl, rfl, h3, r3⟩ := trodAll_cons r2
  obtain ⟨v4, vs4, d4, ds4, p4, q4, rfl, rfl, rfl, h4, r4⟩ := trodAll_cons r3
  obtain ⟨rfl, rfl, rfl⟩ := trodAll_nil r4
  obtain rfl : args = #[v0, v1, v2, v3, v4] := by cases args; simp_all
  obtain ⟨rfl, rfl⟩ := trodVars_none hV
  have hsz2 : (DataW.weightsEach Tryz.prog [42, 3, 3, 3, 4] [d0, d1, d2, d3, d4]).all (· ≤ reachBytes) = true := hsz
  obtain ⟨A0, c0, l0, rfl, y0⟩ := open_rows (hval 0 42 v0 rfl rfl) h0
  obtain ⟨a1, rfl, rfl, rfl, w1⟩ := open_int Tryz.underlying3 (hval 1 3 v1 rfl rfl) h1
  obtain ⟨a2, rfl, rfl, rfl, w2⟩ := open_int Tryz.underlying3 (hval 2 3 v2 rfl rfl) h2
  obtain ⟨a3, rfl, rfl, rfl, w3⟩ := open_int Tryz.underlying3 (hval 3 3 v3 rfl rfl) h3
  obtain ⟨a4, rfl, rfl, rfl⟩ := open_bool Tryz.underlying4 (hval 4 4 v4 rfl rfl) h4
  refine (walkInterchangePack A0 c0 l0 a1 a2 a3 a4 W y0 (wf_bd w1) (wf_bd w2) (wf_bd w3) hL).mono fun e W' ⟨he, bel⟩ => ?_
  subst he
  exact ⟨_, rfl, law_post laidOut (by kernel_rfl) rfl 4 rfl Tryz.underlying4 hW' (fun _ h => by subst h; exact ⟨rfl, rfl, rfl⟩) bel⟩

/-- a world for the witness: the settled one, the listed variables holding what their initialisers lay -/
noncomputable def low : Nat := (World.holding Tryz.prog default ⟨#[], #[], []⟩).heap.size
noncomputable def laidWorld (os : Os) : World := { World.holding Tryz.prog os ⟨#[.cells #[.string { data := #[118, 97, 108, 117, 101, 32, 111, 117, 116, 32, 111, 102, 32, 114, 97, 110, 103, 101] }] 157, .cells #[.string { data := #[105, 110, 118, 97, 108, 105, 100, 32, 115, 121, 110, 116, 97, 120] }] 157], #[], []⟩ with heap := ((((((World.holding Tryz.prog os ⟨#[.cells #[.string { data := #[118, 97, 108, 117, 101, 32, 111, 117, 116, 32, 111, 102, 32, 114, 97, 110, 103, 101] }] 157, .cells #[.string { data := #[105, 110, 118, 97, 108, 105, 100, 32, 115, 121, 110, 116, 97, 120] }] 157], #[], []⟩).heap).modify 4 fun | .cells _ t frozen => .cells (litCells Rows.laid_math_bits_deBruijn32tab) t frozen | o => o).modify 5 fun | .cells _ t frozen => .cells (litCells Rows.laid_math_bits_deBruijn64tab) t frozen | o => o).modify 1 fun | .cells _ t frozen => .cells (litCells Rows.laid_internal_strconv_uint64pow10) t frozen | o => o).modify 3 fun | .cells _ t frozen => .cells #[.iface 155 (.pointer (some ⟨low, 0, none⟩))] t frozen | o => o).modify 2 fun | .cells _ t frozen => .cells #[.iface 155 (.pointer (some ⟨low + 1, 0, none⟩))] t frozen | o => o }
theorem laid_met (os : Os) : laidMet Tryz.prog Rows.interchangePackRow.laid ((laidWorld os).forCall (fun _ _ => 0) ⟨#[], #[.slice none 0 0, .int .i64 0, .int .i64 0, .int .i64 0, .bool false], []⟩).memory :=
  laidMet_of_run' 8 (by kernel_rfl) (by kernel_rfl)
theorem reads (os : Os) {H : Type} (enc : TypeId × Value → H) : ∃ places, DataW.whole enc Tryz.prog ((laidWorld os).forCall (fun _ _ => 0) ⟨#[], #[.slice none 0 0, .int .i64 0, .int .i64 0, .int .i64 0, .bool false], []⟩).memory Tryz.f4.params.toList Rows.interchangePackSpec.vars false #[.slice none 0 0, .int .i64 0, .int .i64 0, .int .i64 0, .bool false].toList 8 = some ([.nil, .lit (.int .i64 0), .lit (.int .i64 0), .lit (.int .i64 0), .lit (.bool false)], [], places) :=
  ⟨[], by kernel_rfl⟩

set_option maxRecDepth 100000 in
theorem lifted (os : Os) (started : os.Started) (H : Type) (enc : TypeId × Value → H) (F : Stop.Interp) :
    ReturnsInHanded {} Tryz.checked os 4 .any ((OpenSpec.ofChange Rows.interchangePackSpec).preRow enc Tryz.prog Tryz.f4 Rows.interchangePackRow.domain false Rows.interchangePackRow.laid) (((OpenSpec.ofChange Rows.interchangePackSpec).at F).post enc Tryz.prog Tryz.f4 false true false false) := by
  obtain ⟨places, hx⟩ := reads os enc
  refine returnsInHanded_of_row (C := Tryz.checked) (s := OpenSpec.ofChange Rows.interchangePackSpec) own started (by kernel_rfl) Tryz.func4
    (witness_row_at (enc := enc) (C := Tryz.checked) false (laidWorld os) #[.slice none 0 0, .int .i64 0, .int .i64 0, .int .i64 0, .bool false] rfl (by kernel_rfl) (by kernel_rfl) (by kernel_rfl)
      (OpenSpec.preRow_of_cond 8 hx (by kernel_rfl) (fun k hk => by cases hk) (by kernel_rfl) (laid_met os))) ?_
  intro W base args ds gs before hval hW _ _ hsz hL _ _
  exact contract H enc W base args ds gs before hval hW hsz hL

theorem said : Rows.InterchangePackSaid :=
  OpenClaim.holds_of_cond 4 Tryz.f4 rfl rfl rfl rfl rfl rfl rfl ⟨rfl, rfl, rfl, rfl, rfl⟩ rfl rfl rfl rfl rfl (by kernel_rfl) Tryz.func4 (by kernel_rfl)
    (of_decide_eq_true (by kernel_rfl)) (by unfold Func.isWrapper; first | (rw [if_pos (by decide +kernel)]; kernel_rfl) | (rw [if_neg (by decide +kernel)]; exact ⟨rfl, rfl⟩))
    (fun os started H enc _ F => by rw [OpenClaim.pre_eq_preRow]; exact lifted os started H enc F)

theorem plain (f : FuncId) (fn : Func) (hf : Tryz.pinned.checked.prog.funcNamed "customs/customslaw07.InterchangePack" = some f) (hfn : Tryz.pinned.checked.prog.funcs[f]? = some fn) :
    true = Tryz.pinned.checked.prog.looks [] ∧ ∀ (j : Nat) t, fn.params[j]? = some t → Tryz.pinned.checked.prog.wantsStandIn t = false := by
  obtain rfl : f = 4 := Option.some.inj ((show Tryz.prog.funcNamed "customs/customslaw07.InterchangePack" = some 4 by kernel_rfl).symm.trans hf) |>.symm
  obtain rfl : fn = Tryz.f4 := (Option.some.inj (Tryz.func4.symm.trans hfn)).symm
  refine ⟨by kernel_rfl, fun j t ht => ?_⟩
  have hall : Tryz.f4.params.toList.all (fun t => !Tryz.prog.wantsStandIn t) = true := by kernel_rfl
  have := List.all_eq_true.1 hall t (by simpa using Array.mem_of_getElem? ht)
  exact (show Tryz.prog.wantsStandIn t = false by simpa using this)
theorem card : Rows.InterchangePackCardSaid :=
  Claim7.holds_tied_plain_at .later [] _ _ _ _ said (fun _ h => by cases h) (by kernel_rfl) (fun _ h => by cases h) interchangePack_row_tie rfl ⟨rfl, rfl⟩ (by kernel_rfl) rfl plain (by kernel_rfl)
#print axioms card
end Go.Proofs.YtmjlnckmhdgoiaaGreatDoor.interchangePack
