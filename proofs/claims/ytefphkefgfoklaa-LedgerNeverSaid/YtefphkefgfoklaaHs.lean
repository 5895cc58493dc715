/- The contract of Balances of the program, at a valid ledger: no balance is negative. -/
import Derived.Test.YtefphkefgfoklaaHr
namespace Go.Proofs.Ytefphkefgfoklaa
open Go.RowKit
set_option linter.unusedVariables false

theorem baInfo : (Try.prog.info? 37).map (fun i => (i.zero, i.size, i.bytes)) = some (some (.agg #[.int .i64 0, .int .i64 0, .int .i64 0, .int .i64 0, .int .i64 0]), 5, 40) := by kernel_rfl
def BalsRet (w : World) (e : Ending) (w' : World) : Prop := ∃ (A : Option Addr) (c : Nat) (bs : List Tg), e = .returned (.slice A bs.length c) ∧ Rd w' A (tgsCs bs) ∧ (∀ g ∈ bs, g.b.okB = true) ∧ bs.length ≤ 3000 ∧ Below w.heap.size w w'
def BsRel (w7 : World) (n : Nat) (m : Nat) (v i : Value) (wr : World) : Prop := ∃ (k : Nat) (bs : List Tg), k + m = n ∧ i = .int .i64 (k : Int) ∧ wr.ownsRow w7.heap.size 37 5 v bs.length (tgsCs bs) ∧ bs.length = k ∧ (∀ g ∈ bs, g.b.okB = true) ∧ Below w7.heap.size w7 wr
theorem bs_nil (w : World) (B : Nat) : w.ownsRow B 37 5 (.slice none 0 0) 0 (tgsCs []) := ⟨by simp [tgsCs], .inl ⟨rfl, rfl⟩⟩
theorem tgsCs_snoc (t : List Tg) (x : Tg) : tgsCs (t ++ [x]) = tgsCs t ++ tgCs x := by simp [tgsCs]
set_option maxRecDepth 100000 in
set_option maxHeartbeats 2000000 in
theorem balances_any (A : Option Addr) (c : Nat) (l : List En) (w : World) (h : SlE w A l) (hv : ledF l = 0) (hll : l.length ≤ 2000) :
    Calls Try.prog 25 #[.slice A l.length c] w (BalsRet w) := by
  have HR := Lib.hid (read_any A c l w h.rd h.len)
  have HV := Lib.hid hv
  have HOK := Lib.hid (fun lot => balF_nonneg hv lot)
  obtain ⟨i0, hi0, hz0, hz1, hz2⟩ := info_parts baInfo
  clear h hv
  go_enter Try.func25, Try.ntmps25
  go_wp2_with fail
  refine HR.out.mono ?_
  rintro e w2 ⟨pa, he, hb2, hacc⟩
  rw [HV.out] at he
  obtain ⟨pc, b1, b2, n1, n2, v, hA⟩ := hacc HV.out
  have c2 := hA.cell.2.2.1
  have hpa := hA.lt.1
  have HA := Lib.hid hA
  have HB2 := Lib.hid hb2
  subst he
  have hn1 : n1 ≤ 2000 := by have := hA.len.1; omega
  clear hA hacc hb2 HR
  go_wp2_with (first
    | (go_at_call 34; refine (keys_any _ _).mono ?_; rintro e w' ⟨rfl, rfl⟩)
    | (go_at_call 33; refine (sorted_any b1 n1 (balM l) w2 HA.out.bal (by omega)).mono ?_; rintro e w7 ⟨v7, ks, rfl, h1, h2, h3, h4, h5, h6⟩; obtain ⟨A7, c7, rfl⟩ := own_len h5; have HKS := Lib.hid (And.intro h1 (And.intro h2 (And.intro h3 h4))); have HO7 := Lib.hid h5; have HB7 := Lib.hid h6; clear h1 h2 h3 h4 h5 h6))
  have b67 : Below w2.heap.size w2 w7 := ((Below.refl _ _).alloc (Nat.le_refl _) _).trans (HB7.out.mono (Nat.le_succ _))
  have HA7 := Lib.hid (HA.out.below b67)
  have HB07 := Lib.hid (HB2.out.trans (b67.mono HB2.out.size))
  have hko : OwnX w7 (w2.heap.size + 1) 3 1 (.slice A7 ks.length c7) ks.length (ints ks) := OwnX.of_row HO7.out
  obtain ⟨A8, c8, e8, hrd8, _⟩ := hko.shape
  injection e8 with e81 _ e83
  subst e81; subst e83
  have HRK := Lib.hid hrd8
  have hksn : ks.length ≤ 2000 := by have := HKS.out.2.2.2; omega
  have hpa7 : pa < w7.heap.size := Nat.lt_of_lt_of_le hpa b67.size
  clear b67 hko hrd8 c2 hpa HA HB2 HO7 HB7
  go_loopg [5, 22] ks.length (fun m v i wr => BsRel w7 ks.length m v i wr)
  case atStart => exact ⟨0, [], by omega, rfl, bs_nil _ _, rfl, fun g hg => (by cases hg), Below.refl _ _⟩
  case round =>
    obtain ⟨k, bs, hk, rfl, hown, hbl, hok, hbw⟩ := hrel
    have HK := Lib.hid hk
    have HOWN := Lib.hid hown
    have HBL := Lib.hid hbl
    have HBO := Lib.hid hok
    have HBW := Lib.hid hbw
    have hk2 : k ≤ ks.length := by omega
    have hbs : bs.length ≤ 2000 := by omega
    have hsz := hbw.size
    obtain ⟨Av, cv, rfl⟩ := own_len hown
    clear hk hown hbl hok hbw
    by_cases hlt : k < ks.length
    · have hmem : ks[k]?.getD 0 ∈ ks := by rw [List.getElem?_eq_getElem hlt]; exact List.getElem_mem hlt
      have hwb := wf_bd (HKS.out.2.2.1 _ hmem)
      have HA8 := Lib.hid (HA7.out.below HBW.out)
      obtain ⟨bk, ofk, rfl, hcell⟩ := (HRK.out.below HBW.out).int hlt
      have hbk := block_lt_of_cell hcell
      have hlk := look_bal HA8.out.bal (ks[k]?.getD 0) hwb.1 hwb.2
      have c2 := HA8.out.cell.2.2.1
      have hpl := HA8.out.lt.1
      have HOL := Lib.hid (HOK.out (ks[k]?.getD 0))
      generalize (if hasLot l (ks[k]?.getD 0) = true then ks[k]?.getD 0 else 0) = l0 at hlk
      generalize balF l (ks[k]?.getD 0) = bb at hlk HOL
      generalize ks[k]?.getD 0 = lot at *
      unfold baV at hlk
      have s1 : (k : Int) < ks.length := by omega
      clear hmem
      go_wp2_with (at_builtin; refine wpList_append_new wr rfl (.tmp 26) (.tmp 33) 41 rfl w7.heap.size 37 i0 _ 5 40 Try.underlying41 hi0 hz0 hz1 hz2 rfl (by omega) (.slice Av bs.length cv) bs.length (tgsCs bs) [.int .i64 l0, .int .i64 bb.ow, .int .i64 bb.se, .int .i64 bb.pa, .int .i64 bb.re] rfl (by intro u hu; simp at hu; rcases hu with rfl | rfl | rfl | rfl | rfl <;> rfl) rfl HOWN.out rfl (by unfold maxLen; omega) (by omega) hsz ?_; intro v2 w3 hown2 hb3 _ _; have HO3 := Lib.hid hown2; have HB3 := Lib.hid (HBW.out.trans hb3); clear hown2 hb3)
      go_roundg (ks.length - (k + 1))
      case measure => have := HK.out; omega
      case rel =>
        refine ⟨k + 1, bs ++ [⟨l0, bb⟩], by have := HK.out; omega, by go_num, ?_, by have := HBL.out; simp; omega, fun g hg => ?_, HB3.out⟩
        · rw [tgsCs_snoc, List.length_append]
          exact HO3.out
        · rcases List.mem_append.1 hg with hg | hg
          · exact HBO.out g hg
          · rw [List.mem_singleton.1 hg]; exact HOL.out
    · obtain ⟨A9, c9, e9, hrd9, _⟩ := (OwnX.of_row HOWN.out).shape
      injection e9 with e91 _ e93
      subst e91; subst e93
      have HR9 := Lib.hid hrd9
      clear hrd9
      go_wp2_with fail
      go_ret
      exact ⟨_, _, bs, rfl, HR9.out, HBO.out, by omega, HB07.out.trans (HBW.out.mono HB07.out.size)⟩
end Go.Proofs.Ytefphkefgfoklaa
