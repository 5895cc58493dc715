/- awake, amount; what the listed variables hold. -/
import Derived.Test.YtjgobaedeagojaaDoorOj
import Derived.Test.YtjgobaedeagojaaDoorRows
import Derived.Lib.LaidTab
import Derived.LaidSub
import Derived.LaidLaws
import Derived.MakeChecks
namespace Go.Proofs.YtjgobaedeagojaaDoor
open Go.ChangeShapes Go.WideShapes Go.RowKit
set_option linter.unusedVariables false

def litCells : DataW Unit → Array Value
  | .agg l => (l.map fun | .lit (.int k n) => Value.int k n | _ => undef).toArray
  | _ => #[]
theorem tabType : (Tryd.prog.globals[4]?).map (·.type) = some 89 := by kernel_rfl
theorem tab_of_laid {l : List (String × DataW Unit)} {W : World} (h : laidMetH Tryd.prog l W) (h0 : (l.all fun x => x.2.handleName?.isNone) = true)
    (hf : l.filter (fun x => x.1 == "internal/strconv.uint64pow10") = [("internal/strconv.uint64pow10", Rows.laid_internal_strconv_uint64pow10)]) : Tab W := by
  rw [Go.MakeChecks.laidMetH_plain _ _ _ h0] at h
  have h2 := h.filter (fun x => x.1 == "internal/strconv.uint64pow10")
  rw [hf] at h2
  exact Lib.tabIs_of_head (rest := []) tabGlobal tabType Tryd.underlying89 Tryd.underlying45 (by kernel_rfl) (by kernel_rfl) h2
theorem err_of_laid {l : List (String × DataW Unit)} {W : World} (name : String) (g : Nat) (nm : String) (d : DataW Unit) (h : laidMetH Tryd.prog l W) (h0 : (l.all fun x => x.2.handleName?.isNone) = true)
    (hf : l.filter (fun x => x.1 == name) = [(name, .iface nm d)]) (hg : Tryd.prog.globalNamed name = some g) (hty : (Tryd.prog.globals[g]?).map (·.type) = some 50) : ∃ te pe, W.cell? ⟨g, 0, none⟩ = some (.iface te pe) := by
  rw [Go.MakeChecks.laidMetH_plain _ _ _ h0] at h
  have h2 := h.filter (fun x => x.1 == name)
  rw [hf] at h2
  obtain ⟨ps, ⟨g', t', cs, fuel, p, q, hg', ht', hvar, hd, _, _⟩, _⟩ := h2
  obtain rfl := Option.some.inj (hg.symm.trans hg')
  obtain rfl := Option.some.inj (hty.symm.trans ht')
  obtain ⟨l0⟩ := cs
  obtain ⟨f1, u, v, hcs, _, _⟩ := iface_of_trod Tryd.underlying50 hd
  have hcs' : l0 = [.iface u v] := hcs
  subst hcs'
  exact ⟨u, v, by simpa using World.var?_cell hg hvar 0⟩
/-- all that the laws ask of the listed variables -/
structure Given (W : World) : Prop where
  tab : Tab W
  err : ErrV W
theorem given_of_laid {l : List (String × DataW Unit)} {W : World} (h : laidMetH Tryd.prog l W) (h0 : (l.all fun x => x.2.handleName?.isNone) = true)
    (hf : l.filter (fun x => x.1 == "internal/strconv.uint64pow10") = [("internal/strconv.uint64pow10", Rows.laid_internal_strconv_uint64pow10)])
    (hr : l.filter (fun x => x.1 == "strconv.ErrRange") = [("strconv.ErrRange", Rows.laid_strconv_ErrRange)])
    (hs : l.filter (fun x => x.1 == "strconv.ErrSyntax") = [("strconv.ErrSyntax", Rows.laid_strconv_ErrSyntax)]) : Given W := by
  refine ⟨tab_of_laid h h0 hf, ?_, ?_⟩
  · obtain ⟨te, pe, hc⟩ := err_of_laid "strconv.ErrSyntax" 2 _ _ h h0 hs (by kernel_rfl) (by kernel_rfl)
    exact ⟨_, hc, .inr ⟨te, pe, rfl⟩⟩
  · obtain ⟨te, pe, hc⟩ := err_of_laid "strconv.ErrRange" 3 _ _ h h0 hr (by kernel_rfl) (by kernel_rfl)
    exact ⟨_, hc, .inr ⟨te, pe, rfl⟩⟩
theorem Given.below {w w' : World} (h : Given w) (hb : Below w.heap.size w w') : Given w' := ⟨h.tab.below hb, h.err.below hb⟩

theorem fmt_7 : fmtF 7 = [48, 46, 48, 55] := by
  have h1 : Lib.decDigits (7 / 100) = [digC 0] := dec_small (by omega)
  unfold fmtF
  rw [if_pos (by decide), if_neg (by decide)]
  show fmtN 7 = _
  unfold fmtN
  rw [h1]
  decide
theorem fmt_1205 : fmtF (-1205) = [45, 49, 50, 46, 48, 53] := by
  have h1 : Lib.decDigits (1205 / 100) = [digC 1] ++ [digC 2] := by rw [dec_big (by omega), dec_small (by omega)]
  unfold fmtF
  rw [if_pos (by decide), if_pos (by decide)]
  show 45 :: fmtN 1205 = _
  unfold fmtN
  rw [h1]
  decide
theorem fmt_0 : fmtF 0 = [48, 46, 48, 48] := by
  have h1 : Lib.decDigits (0 / 100) = [digC 0] := dec_small (by omega)
  unfold fmtF
  rw [if_pos (by decide), if_neg (by decide)]
  show fmtN 0 = _
  unfold fmtN
  rw [h1]
  decide
theorem pa_a : paV [45, 49, 50, 46, 48, 53] = -1205 ∧ paE [45, 49, 50, 46, 48, 53] = 0 := by
  have := pa_good (m := -1205) (by decide)
  rwa [fmt_1205] at this
theorem pa_b : paV [45, 48, 46, 48, 48] = 0 ∧ paE [45, 48, 46, 48, 48] = 4 := by
  refine pa_bad fun m hm e => ?_
  have h1 := rd_fmt hm
  rw [e] at h1
  have h2 : rdV [45, 48, 46, 48, 48] = 0 := by decide
  rw [h2] at h1
  subst h1
  rw [fmt_0] at e
  revert e
  decide
theorem pt_a : ptV 999 50000 2 = 50 ∧ ptE 999 50000 2 = 0 := by decide
set_option maxHeartbeats 1000000 in
theorem awake_any (w : World) (hg : Given w) : Calls Tryd.prog 12 #[] w fun e w' => e = .returned (.bool true) ∧ Below w.heap.size w w' := by
  have HG := Lib.hid hg
  have HP := Lib.hid (part_any 999 50000 2 (by omega) w)
  unfold ScRet at HP
  rw [pt_a.1, pt_a.2] at HP
  have HA := Lib.hid (fun W (h : Given W) => parse_any [45, 49, 50, 46, 48, 53] (by decide) W h.tab h.err)
  unfold ScRet at HA
  rw [pa_a.1, pa_a.2] at HA
  have HB := Lib.hid (fun W (h : Given W) => parse_any [45, 48, 46, 48, 48] (by decide) W h.tab h.err)
  unfold ScRet at HB
  rw [pa_b.1, pa_b.2] at HB
  have HF := Lib.hid (fun W (h : Given W) => format_any 7 W h.tab)
  rw [fmt_7] at HF
  have F1 : True := trivial
  clear hg
  go_enter Tryd.func12, Tryd.ntmps12
  go_wp2_with (first
    | (go_at_call 13; refine HP.out.mono ?_; rintro e W1 ⟨rfl, hb1⟩; have HB1 := Lib.hid hb1; have HG1 := Lib.hid (HG.out.below hb1); clear hb1)
    | (go_at_call 17; clear F1; refine (HA.out _ HG1.out).mono ?_; rintro e W2 ⟨rfl, hb2⟩; have HB2 := Lib.hid (HB1.out.trans (hb2.mono HB1.out.size)); have HG2 := Lib.hid (HG1.out.below hb2); clear hb2)
    | (go_at_call 17; refine (HB.out _ HG2.out).mono ?_; rintro e W3 ⟨rfl, hb3⟩; have HB3 := Lib.hid (HB2.out.trans (hb3.mono HB2.out.size)); have HG3 := Lib.hid (HG2.out.below hb3); clear hb3)
    | (go_at_call 15; refine (HF.out _ HG3.out).mono ?_; rintro e W4 ⟨rfl, hb4⟩; have HB4 := Lib.hid (HB3.out.trans (hb4.mono HB3.out.size)); clear hb4))
  go_ret
  exact ⟨rfl, HB4.out⟩
def amF (n : Int) : Int := n.tmod 1000000000001
theorem amF_bd (n : Int) : -1000000000000 ≤ amF n ∧ amF n ≤ 1000000000000 := by
  unfold amF
  have h1 := Int.emod_nonneg n (show (1000000000001 : Int) ≠ 0 by omega)
  have h2 := Int.emod_lt_of_pos n (show (0 : Int) < 1000000000001 by omega)
  rw [Int.tmod_eq_emod]
  split <;> omega
theorem amF_id {n : Int} (h : amtB n = true) : amF n = n := by
  have := amt_iff.1 h
  unfold amF
  by_cases hn : 0 ≤ n
  · rw [Int.tmod_eq_of_lt hn (by omega)]
  · have : n.tmod 1000000000001 = -((-n).tmod 1000000000001) := by rw [Int.neg_tmod]; omega
    rw [this, Int.tmod_eq_of_lt (by omega) (by omega)]
    omega
theorem amount_any (n : Int) (w : World) : Calls Tryd.prog 9 #[.int .i64 n] w fun e w' => e = .returned (.int .i64 (amF n)) ∧ w = w' := by
  have H : Hid (amF n = n.tmod 1000000000001) := rfl
  go_enter Tryd.func9, Tryd.ntmps9
  go_wp2
  go_ret
  exact ⟨by rw [H.out]; rfl, rfl⟩
theorem mode_bd (m : Int) : 0 ≤ bits .and .i64 m 3 ∧ bits .and .i64 m 3 ≤ 3 := by
  have h1 : (BitVec.ofInt 64 m &&& BitVec.ofInt 64 3).toNat ≤ 3 := by
    rw [BitVec.toNat_and]
    have h2 : (BitVec.ofInt 64 3).toNat = 3 := by decide
    rw [h2]
    exact Nat.and_le_right
  show 0 ≤ IntKind.i64.wrap ((BitVec.ofInt 64 m &&& BitVec.ofInt 64 3).toNat : Int) ∧ IntKind.i64.wrap ((BitVec.ofInt 64 m &&& BitVec.ofInt 64 3).toNat : Int) ≤ 3
  generalize (BitVec.ofInt 64 m &&& BitVec.ofInt 64 3).toNat = k at *
  rw [IntKind.wrap_i64]
  omega
end Go.Proofs.YtjgobaedeagojaaDoor
