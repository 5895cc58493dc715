/- Small of customsmade. -/
import Derived.Test.YtefphkefgfoklaaSrc
import Derived.Test.YtefphkefgfoklaaGb
namespace Go.Proofs.Ytefphkefgfoklaa
open Go.RowKit
set_option linter.unusedVariables false

set_option maxHeartbeats 1000000 in
theorem srcSmall_any (g : Nat) (A : Option Addr) (c : Nat) (l : List Int) (i : Nat) (few n : Int) (w : World) (h : Src w g A c l i) (hf : 0 < few) (hfn : few ≤ n) (hn2 : n ≤ 1000000000000000) :
    Calls Try.prog 28 #[.pointer (some ⟨g, 0, none⟩), .int .i64 few, .int .i64 n] w (SrcRet w g A c l i n) := by
  have HN := Lib.hid (fun (n : Int) (i : Nat) (W : World) (h : Src W g A c l i) (hn : 0 < n) (hn2 : n ≤ 1000000000000000) => srcNext_any g A c l i n W h hn hn2)
  have HF := Lib.hid hfn
  have HN2 := Lib.hid hn2
  have HF0 := Lib.hid hf
  clear hfn hn2 hf
  go_enter Try.func28, Try.ntmps28
  go_wp2_with fail
  refine (HN.out 5 i _ h (by omega) (by omega)).mono ?_
  rintro e w1 ⟨x, i1, rfl, hx0, hx5, hS1, hT1, hF1⟩
  have HF1 := Lib.hid hF1
  clear hF1
  by_cases hx : x = 4
  · subst hx
    go_wp2_with fail
    refine (HN.out n i1 w1 hS1 (by have := HF.out; have := HF0.out; omega) HN2.out).mono ?_
    rintro e w2 ⟨y, i2, rfl, hy0, hy5, hS2, hT2, hF2⟩
    have HF2 := Lib.hid hF2
    clear hF2
    go_wp2_with fail
    go_ret
    exact ⟨_, _, rfl, hy0, hy5, hS2, hT1.trans hT2, HF1.out.trans HF2.out⟩
  · have hx' : (x == 4) = false := by simpa using hx
    go_wp2_with fail
    refine (HN.out few i1 w1 hS1 HF0.out (by have := HF.out; have := HN2.out; omega)).mono ?_
    rintro e w2 ⟨y, i2, rfl, hy0, hy5, hS2, hT2, hF2⟩
    have HF2 := Lib.hid hF2
    clear hF2
    go_wp2_with fail
    go_ret
    exact ⟨_, _, rfl, hy0, by have := HF.out; omega, hS2, hT1.trans hT2, HF1.out.trans HF2.out⟩
end Go.Proofs.Ytefphkefgfoklaa
