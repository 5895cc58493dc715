/- The law InterchangeSingleByte: the walk. -/
import Derived.Test.YtmjlnckmhdgoiaaGreatDoorQp
import Derived.Test.YtmjlnckmhdgoiaaGreatDoorQj
import Derived.Test.YtmjlnckmhdgoiaaGreatDoorMo
import Derived.Deep.CutBlock
import Derived.Test.YtmjlnckmhdgoiaaGreatDoorRows
import Derived.Test.YtmjlnckmhdgoiaaGreatDoorCards
import Derived.Test.YtmjlnckmhdgoiaaGreatDoorTie
import Derived.Test.YtmjlnckmhdgoiaaGreatDoorFrame
import Derived.WalkKit
import Derived.ProofKit
import Derived.OpenShut
import Derived.Deep.DeepHandedRow
import Derived.SevenTiedAt
namespace Go.Proofs.YtmjlnckmhdgoiaaGreatDoor
open Go.RowKit
set_option linter.unusedVariables false

theorem pack_pos (x : Ich) : 0 < (encAll (ichSegs x)).length := by
  have h1 := encAll_ge (ichSegs x)
  have : 0 < (ichSegs x).length := by unfold ichSegs; simp
  omega
namespace interchangeSingleByte
set_option maxHeartbeats 40000000 in
set_option maxRecDepth 100000 in
theorem walkInterchangeSingleByte (Al : Option Addr) (cl : Nat) (L : List (List Int)) (at_ : Int) (by_ : UInt8) (w : World) (hl : RowsAt w Al cl L) (hx : -9223372036854775808 ≤ at_ ∧ at_ ≤ 9223372036854775807) (hL : laidMetH Tryz.prog Rows.interchangeSingleByteRow.laid w) :
    Calls Tryz.prog 6 #[.slice Al L.length cl, .int .i64 at_, .int .u8 (by_.toNat : Int)] w fun e w' => e = .returned (.bool true) ∧ Below w.heap.size w w' := by
  have HG := Lib.hid (given_of_laid hL (by kernel_rfl) (by kernel_rfl) (by kernel_rfl) (by kernel_rfl))
  have HMA := Lib.hid (madeI_any Al cl L 1 2 3 1 2 3 rfl rfl rfl w hl)
  unfold MadeI at HMA
  clear hL hl
  go_enter Tryz.func6, Tryz.ntmps6
  go_wp2_with fail
  refine HMA.out.mono ?_
  rintro e W1 ⟨x, A, c, rfl, okx, hx6, ⟨hx1, hx2, hx3⟩, ho1, hb1⟩
  obtain ⟨A1, c1, e1, _, hm1⟩ := ho1.at_
  injection e1 with e1 e2 e3
  subst e1; subst e3
  clear e2
  have HB1 := Lib.hid hb1
  have HPK := Lib.hid (refPack_any x A c W1 hm1 (fun m hm => (okx.m m hm).bd))
  unfold RpkRet at HPK
  have HPO := Lib.hid (packF_ok okx)
  have HSG := Lib.hid (fun (y : Ich) (hy : OkI y) (k : Nat) (v : UInt8) => single okx hy (k := k) (v := v))
  have hpl := pack_len x
  have hp0 : 0 < (packF x).1.length := by rw [packF_ok okx]; exact pack_pos x
  have HX1 : Hid (x.sender = 1 ∧ x.receiver = 2 ∧ x.number = 3) := ⟨hx1, hx2, hx3⟩
  have hps : (packF x).2 = 0 := by rw [packF_ok okx]
  clear hb1 hm1 ho1 HMA hx1 hx2 hx3 hx6 okx HPO
  generalize packF x = pk at *
  obtain ⟨xs, pe⟩ := pk
  simp only at hps hpl hp0 HPK HSG
  subst hps
  go_wp2_with fail
  refine HPK.out.mono ?_
  rintro e W2 ⟨v2, rfl, ho2, hb2⟩
  obtain ⟨A2, c2, rfl, hr2, hc2b, hc2m⟩ := ho2.shape
  obtain ⟨g3, rfl, hg3, hgs3, hcell⟩ := ho2.open_ hp0
  have HO2 := Lib.hid ho2
  have HB2 := Lib.hid (HB1.out.trans (hb2.mono HB1.out.size))
  have hg3w : w.heap.size ≤ g3 := Nat.le_trans HB1.out.size hg3
  have HRD := Lib.hid hr2
  clear ho2 hb2 HPK HB1 hr2
  generalize hnx : xs.length = nx at *
  have HNX := Lib.hid hnx
  clear hnx
  have HWI := Lib.hid (fun (W : World) => within_any at_ (nx : Int) W (by omega) (by omega))
  have hq0 : 0 ≤ at_ % (nx : Int) := Int.emod_nonneg _ (by omega)
  have hq1 : at_ % (nx : Int) < (nx : Int) := Int.emod_lt_of_pos _ (by omega)
  generalize at_ % (nx : Int) = qq at HWI hq0 hq1
  obtain ⟨q, hqe⟩ : ∃ q : Nat, qq = (q : Int) := ⟨qq.toNat, by omega⟩
  subst hqe
  have hqn : q < nx := by omega
  have hqx : q < xs.length := by have := HNX.out; omega
  have hcu : W2.cell? ⟨g3, q, none⟩ = some (.int .u8 (xs[q].toNat : Int)) := by
    obtain ⟨ad, e1, e2⟩ := HRD.out q _ (u8s_get hqx)
    injection e1 with e1
    rw [← e1, Addr.add_lit, Nat.zero_add] at e2
    exact e2
  have hcf := (hcell q hqn).2
  have HBy := Lib.hid (OwnB.put (w := W2) (B := W1.heap.size) (g := g3) (cap := c2) (bs := xs) (by have := HO2.out; rwa [← HNX.out] at this) q by_)
  have HBS := Lib.hid (HB2.out.setCell (p := ⟨g3, q, none⟩) hg3w (.int .u8 (by_.toNat : Int)))
  have HGV : Hid (xs[q]? = some xs[q]) := List.getElem?_eq_getElem hqx
  have HSL : Hid ((xs.set q by_).length = nx) := by show _ = _; rw [List.length_set]; exact HNX.out
  clear hcell HRD
  generalize xs[q] = xq at *
  by_cases heq : xq = by_
  · have ht1 : ((xq.toNat : Int) == (by_.toNat : Int)) = true := by simp [heq]
    clear heq
    have HAW := Lib.hid (awakeM_any W2 (HG.out.tab.below HB2.out))
    go_wp2_with (first | (go_at_call 10; refine (HWI.out _).mono ?_; rintro e w1 ⟨rfl, rfl⟩) | (go_at_call 16; refine HAW.out.mono ?_; rintro e W9 ⟨rfl, hb9⟩))
    go_ret
    exact ⟨rfl, HB2.out.trans (hb9.mono HB2.out.size)⟩
  · have ht1 : ((xq.toNat : Int) == (by_.toNat : Int)) = false := by rw [beq_eq_false_iff_ne]; intro h; exact heq (UInt8.toNat_inj.1 (by omega))
    have HNE := Lib.hid heq
    clear heq
    go_upto_region 6 with (go_at_call 10; refine (HWI.out _).mono ?_; rintro e w1 ⟨rfl, rfl⟩)
    generalize W2.setCell ⟨g3, q, none⟩ (.int .u8 (by_.toNat : Int)) = W3 at HBy HBS ⊢
    obtain ⟨A3, c3, e3, hr3, -, -⟩ := HBy.out.shape
    injection e3 with e3 e4 e5
    subst e3
    clear e4 e5
    have HR3 := Lib.hid (RdB.of_rd hr3)
    have hun := unpack_any (some ⟨g3, 0, none⟩) c2 (xs.set q by_) W3 HR3.out (by rw [HSL.out]; exact hc2b) (by rw [HSL.out]; omega) (HG.out.below HBS.out)
    rw [HSL.out] at hun
    have HUN := Lib.hid hun
    unfold URet at HUN
    have HUO := Lib.hid (fun h => unpack_ok (b := xs.set q by_) h)
    have HQX : Hid (q < nx) := hqn
    clear hun hr3 HR3 HBy hcu hcf ht1 HO2 HB2 HWI hpl hp0 hq0 hq1 hqn hqx hc2b hc2m hg3 hgs3 hg3w
    generalize unpackP (xs.set q by_) = p at *
    obtain ⟨y, ye⟩ := p
    simp only at HUN HUO
    go_wp2_with fail
    refine HUN.out.mono ?_
    rintro e W4 ⟨A4, c4, rfl, ho4, hb4⟩
    have q5 := (Below.refl W4.heap.size W4).alloc (Nat.le_refl _) (.cells (ichC y A4 c4) 45)
    have hI5 : IBlk (W4.alloc (.cells (ichC y A4 c4) 45)) W4.heap.size y A4 c4 := heap_alloc_new W4 _
    have HB5 := Lib.hid (HBS.out.trans ((hb4.trans (q5.mono hb4.size)).mono HBS.out.size))
    clear ho4 hb4 q5 HUN HBS
    go_upto_region 7 with (fail)
    generalize hW : W4.alloc (.cells (ichC y A4 c4) 45) = W5 at hI5 HB5 ⊢
    obtain ⟨i0, i1, i2, i3⟩ := hI5.all
    generalize hg10 : W4.heap.size = g10 at hI5 i0 i1 i2 i3 ⊢
    clear hW hg10
    have HAW := Lib.hid (awakeM_any W5 (HG.out.tab.below HB5.out))
    by_cases hye : ye = 0
    · subst hye
      have hy0 : ((0 : Int) != 0) = false := rfl
      obtain ⟨oky, hyx⟩ := HUO.out rfl
      have hns := HSG.out y oky q by_ HQX.out (by rw [HGV.out]; intro h; injection h with h; exact HNE.out h) hyx.symm
      rw [HX1.out.1, HX1.out.2.1, HX1.out.2.2] at hns
      clear oky hyx HUO
      by_cases h1 : y.sender = 1
      · have ht1 : (y.sender != 1) = false := by rw [h1]; rfl
        by_cases h2 : y.receiver = 2
        · have ht2 : (y.receiver != 2) = false := by rw [h2]; rfl
          have h3 : y.number ≠ 3 := fun h3 => hns ⟨h1, h2, h3⟩
          have ht3 : (y.number != 3) = true := by rw [bne_iff_ne]; exact h3
          clear hns h1 h2 h3
          go_wp2_with (go_at_call 16; refine HAW.out.mono ?_; rintro e W9 ⟨rfl, hb9⟩)
          go_ret
          exact ⟨rfl, HB5.out.trans (hb9.mono HB5.out.size)⟩
        · have ht2 : (y.receiver != 2) = true := by rw [bne_iff_ne]; exact h2
          clear hns h1 h2
          go_wp2_with (go_at_call 16; refine HAW.out.mono ?_; rintro e W9 ⟨rfl, hb9⟩)
          go_ret
          exact ⟨rfl, HB5.out.trans (hb9.mono HB5.out.size)⟩
      · have ht1 : (y.sender != 1) = true := by rw [bne_iff_ne]; exact h1
        clear hns h1
        go_wp2_with (go_at_call 16; refine HAW.out.mono ?_; rintro e W9 ⟨rfl, hb9⟩)
        go_ret
        exact ⟨rfl, HB5.out.trans (hb9.mono HB5.out.size)⟩
    · have hy0 : (ye != 0) = true := by rw [bne_iff_ne]; exact hye
      clear hye HUO
      go_wp2_with (go_at_call 16; refine HAW.out.mono ?_; rintro e W9 ⟨rfl, hb9⟩)
      go_ret
      exact ⟨rfl, HB5.out.trans (hb9.mono HB5.out.size)⟩
end interchangeSingleByte
end Go.Proofs.YtmjlnckmhdgoiaaGreatDoor

/-! The law InterchangeSingleByte: for every input the call returns true, and each argument reads afterwards as it read before. Condition: the listed package variables hold what the program lays in them (the card ties them to its text). -/
namespace Go.Proofs.YtmjlnckmhdgoiaaGreatDoor.interchangeSingleByte
open Go.ChangeShapes Go.WideShapes Go.ChangeAt Go.RowKit
set_option linter.unusedVariables false

theorem own : ownKnob Tryz.prog.godebug = none := by kernel_rfl
theorem laidOut : laidOutB Tryz.prog = true := by kernel_rfl

set_option maxRecDepth 100000 in
theorem contract (H : Type) (enc : TypeId × Value → H) (W : World) (base : Nat) (args : Array Value) (ds gs : List (DataW H)) (before : List MemPlace)
    (hval : ∀ (j : Nat) t v, Tryz.f6.params[j]? = some t → args[j]? = some v → Value.okWide Tryz.prog W .any base t v)
    (hW : DataW.Whole enc Tryz.prog Tryz.f6.params.toList Rows.interchangeSingleByteSpec.vars false W args.toList ds gs before)
    (hsz : (DataW.weightsEach Tryz.prog (Tryz.f6.params.toList ++ (OpenSpec.ofChange Rows.interchangeSingleByteSpec).bare.plain.varTypes Tryz.prog) (ds ++ gs)).all (· ≤ reachBytes) = true)
    (hL : laidMetH Tryz.prog Rows.interchangeSingleByteRow.laid W) :
    Calls Tryz.prog 6 args W fun e W' => ∃ v, e = .returned v ∧ Rows.interchangeSingleByteSpec.post enc Tryz.prog Tryz.f6 false true false false W args v W' := by
  have hW' := hW
  obtain ⟨p, q, hA0, hV, rfl, hfz, hnd⟩ := hW
  have hA : DataW.TrodAll enc Tryz.prog W 0 (fun _ => true) true Tryz.f6.params.toList args.toList ds p := hA0
  rw [Tryz.params6] at hA hval hsz
  obtain ⟨v0, vs0, d0, ds0, p0, q0, hargs, rfl, rfl, h0, r0⟩ := trodAll_cons hA
  obtain ⟨v1, vs1, d1, ds1, p1, q1, rfl, rfl, rfl, h1, r1⟩ := trodAll_cons r0
  obtain ⟨v2, vs2, d2, ds2, p2, q2, rfl, rfl, rfl, h2, r2⟩ := trodAll_cons r1
  obtain ⟨rfl, rfl, rfl⟩ := trodAll_nil r2
  obtain rfl : args = #[v0, v1, v2] := by cases args; simp_all
  obtain ⟨rfl, rfl⟩ := trodVars_none hV
  have hsz2 : (DataW.weightsEach Tryz.prog [42, 3, 5] [d0, d1, d2]).all (· ≤ reachBytes) = true := hsz
  obtain ⟨A0, c0, l0, rfl, y0⟩ := open_rows (hval 0 42 v0 rfl rfl) h0
  obtain ⟨a1, rfl, rfl, rfl, w1⟩ := open_int Tryz.underlying3 (hval 1 3 v1 rfl rfl) h1
  obtain ⟨a2, rfl⟩ := open_u8 (hval 2 5 v2 rfl rfl) h2
  refine (walkInterchangeSingleByte A0 c0 l0 a1 a2 W y0 (wf_bd w1) hL).mono fun e W' ⟨he, bel⟩ => ?_
  subst he
  exact ⟨_, rfl, law_post laidOut (by kernel_rfl) rfl 4 rfl Tryz.underlying4 hW' (fun _ h => by subst h; exact ⟨rfl, rfl, rfl⟩) bel⟩

/-- a world for the witness: the settled one, the listed variables holding what their initialisers lay -/
noncomputable def low : Nat := (World.holding Tryz.prog default ⟨#[], #[], []⟩).heap.size
noncomputable def laidWorld (os : Os) : World := { World.holding Tryz.prog os ⟨#[.cells #[.string { data := #[118, 97, 108, 117, 101, 32, 111, 117, 116, 32, 111, 102, 32, 114, 97, 110, 103, 101] }] 157, .cells #[.string { data := #[105, 110, 118, 97, 108, 105, 100, 32, 115, 121, 110, 116, 97, 120] }] 157], #[], []⟩ with heap := ((((((World.holding Tryz.prog os ⟨#[.cells #[.string { data := #[118, 97, 108, 117, 101, 32, 111, 117, 116, 32, 111, 102, 32, 114, 97, 110, 103, 101] }] 157, .cells #[.string { data := #[105, 110, 118, 97, 108, 105, 100, 32, 115, 121, 110, 116, 97, 120] }] 157], #[], []⟩).heap).modify 4 fun | .cells _ t frozen => .cells (litCells Rows.laid_math_bits_deBruijn32tab) t frozen | o => o).modify 5 fun | .cells _ t frozen => .cells (litCells Rows.laid_math_bits_deBruijn64tab) t frozen | o => o).modify 1 fun | .cells _ t frozen => .cells (litCells Rows.laid_internal_strconv_uint64pow10) t frozen | o => o).modify 3 fun | .cells _ t frozen => .cells #[.iface 155 (.pointer (some ⟨low, 0, none⟩))] t frozen | o => o).modify 2 fun | .cells _ t frozen => .cells #[.iface 155 (.pointer (some ⟨low + 1, 0, none⟩))] t frozen | o => o }
theorem laid_met (os : Os) : laidMet Tryz.prog Rows.interchangeSingleByteRow.laid ((laidWorld os).forCall (fun _ _ => 0) ⟨#[], #[.slice none 0 0, .int .i64 0, .int .u8 0], []⟩).memory :=
  laidMet_of_run' 8 (by kernel_rfl) (by kernel_rfl)
theorem reads (os : Os) {H : Type} (enc : TypeId × Value → H) : ∃ places, DataW.whole enc Tryz.prog ((laidWorld os).forCall (fun _ _ => 0) ⟨#[], #[.slice none 0 0, .int .i64 0, .int .u8 0], []⟩).memory Tryz.f6.params.toList Rows.interchangeSingleByteSpec.vars false #[.slice none 0 0, .int .i64 0, .int .u8 0].toList 8 = some ([.nil, .lit (.int .i64 0), .lit (.int .u8 0)], [], places) :=
  ⟨[], by kernel_rfl⟩

set_option maxRecDepth 100000 in
theorem lifted (os : Os) (started : os.Started) (H : Type) (enc : TypeId × Value → H) (F : Stop.Interp) :
    ReturnsInHanded {} Tryz.checked os 6 .any ((OpenSpec.ofChange Rows.interchangeSingleByteSpec).preRow enc Tryz.prog Tryz.f6 Rows.interchangeSingleByteRow.domain false Rows.interchangeSingleByteRow.laid) (((OpenSpec.ofChange Rows.interchangeSingleByteSpec).at F).post enc Tryz.prog Tryz.f6 false true false false) := by
  obtain ⟨places, hx⟩ := reads os enc
  refine returnsInHanded_of_row (C := Tryz.checked) (s := OpenSpec.ofChange Rows.interchangeSingleByteSpec) own started (by kernel_rfl) Tryz.func6
    (witness_row_at (enc := enc) (C := Tryz.checked) false (laidWorld os) #[.slice none 0 0, .int .i64 0, .int .u8 0] rfl (by kernel_rfl) (by kernel_rfl) (by kernel_rfl)
      (OpenSpec.preRow_of_cond 8 hx (by kernel_rfl) (fun k hk => by cases hk) (by kernel_rfl) (laid_met os))) ?_
  intro W base args ds gs before hval hW _ _ hsz hL _ _
  exact contract H enc W base args ds gs before hval hW hsz hL

theorem said : Rows.InterchangeSingleByteSaid :=
  OpenClaim.holds_of_cond 6 Tryz.f6 rfl rfl rfl rfl rfl rfl rfl ⟨rfl, rfl, rfl, rfl, rfl⟩ rfl rfl rfl rfl rfl (by kernel_rfl) Tryz.func6 (by kernel_rfl)
    (of_decide_eq_true (by kernel_rfl)) (by unfold Func.isWrapper; first | (rw [if_pos (by decide +kernel)]; kernel_rfl) | (rw [if_neg (by decide +kernel)]; exact ⟨rfl, rfl⟩))
    (fun os started H enc _ F => by rw [OpenClaim.pre_eq_preRow]; exact lifted os started H enc F)

theorem plain (f : FuncId) (fn : Func) (hf : Tryz.pinned.checked.prog.funcNamed "customs/customslaw07.InterchangeSingleByte" = some f) (hfn : Tryz.pinned.checked.prog.funcs[f]? = some fn) :
    true = Tryz.pinned.checked.prog.looks [] ∧ ∀ (j : Nat) t, fn.params[j]? = some t → Tryz.pinned.checked.prog.wantsStandIn t = false := by
  obtain rfl : f = 6 := Option.some.inj ((show Tryz.prog.funcNamed "customs/customslaw07.InterchangeSingleByte" = some 6 by kernel_rfl).symm.trans hf) |>.symm
  obtain rfl : fn = Tryz.f6 := (Option.some.inj (Tryz.func6.symm.trans hfn)).symm
  refine ⟨by kernel_rfl, fun j t ht => ?_⟩
  have hall : Tryz.f6.params.toList.all (fun t => !Tryz.prog.wantsStandIn t) = true := by kernel_rfl
  have := List.all_eq_true.1 hall t (by simpa using Array.mem_of_getElem? ht)
  exact (show Tryz.prog.wantsStandIn t = false by simpa using this)
theorem card : Rows.InterchangeSingleByteCardSaid :=
  Claim7.holds_tied_plain_at .later [] _ _ _ _ said (fun _ h => by cases h) (by kernel_rfl) (fun _ h => by cases h) interchangeSingleByte_row_tie rfl ⟨rfl, rfl⟩ (by kernel_rfl) rfl plain (by kernel_rfl)
#print axioms card
end Go.Proofs.YtmjlnckmhdgoiaaGreatDoor.interchangeSingleByte
