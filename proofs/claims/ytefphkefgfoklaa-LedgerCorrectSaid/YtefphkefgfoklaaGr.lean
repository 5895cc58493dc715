/- The contract of the reference's may: the errors that come first. -/
import Derived.Test.YtefphkefgfoklaaGq
import Derived.Test.YtefphkefgfoklaaOrd
import Derived.Deep.CutBlock
import Derived.Deep.DeepCutAuto
namespace Go.Proofs.Ytefphkefgfoklaa
open Go.RowKit
set_option linter.unusedVariables false
set_option maxRecDepth 100000 in
set_option maxHeartbeats 4000000 in
theorem refMay_limit (A : Option Addr) (c : Nat) (l : List En) (x : En) (w : World) (h : SlE w A l) (hl : l.length ≤ 1000000) (h0 : 2000 ≤ l.length) :
    Calls Try.prog 40 #[.slice A l.length c, enV x] w (IsRet w.heap.size 8 w) := by
  obtain ⟨xn, xd, xk, xl, xa, xc⟩ := x
  unfold enV at *
  simp only at *
  have q0 := (Below.refl w.heap.size w).alloc (Nat.le_refl _) (.cells #[.int .i64 xn, .int .i64 xd, .int .i64 xk, .int .i64 xl, .int .i64 xa, .int .i64 xc] 26)
  have Q0 := Lib.hid q0
  clear q0
  clear h
  generalize l.length = n at *
  go_enter Try.func40, Try.ntmps40
  go_wp2_with fail
  go_ret
  exact ⟨rfl, Q0.out⟩
set_option maxRecDepth 100000 in
set_option maxHeartbeats 4000000 in
theorem refMay_range (A : Option Addr) (c : Nat) (l : List En) (x : En) (w : World) (h : SlE w A l) (hl : l.length ≤ 1000000) (h0 : l.length < 2000) (hr : rangeB x = false) :
    Calls Try.prog 40 #[.slice A l.length c, enV x] w (IsRet w.heap.size 2 w) := by
  have hc : (x.day < 0 ∨ 36524 < x.day) ∨ (0 ≤ x.day ∧ x.day ≤ 36524) ∧ (x.kind < 1 ∨ 1 ≤ x.kind ∧ (9 < x.kind ∨ x.kind ≤ 9 ∧ ((x.lot < 1 ∨ 1000000 < x.lot) ∨ (1 ≤ x.lot ∧ x.lot ≤ 1000000) ∧ (x.amt < 1 ∨ 1 ≤ x.amt ∧ (64000000000000 < x.amt ∨ x.amt ≤ 64000000000000 ∧ (x.cause < 0 ∨ 1000000000 < x.cause)))))) := by
    rcases range_cases x with h | h
    · rw [h.1] at hr; cases hr
    · exact h.2
  clear hr h
  generalize l.length = n at *
  obtain ⟨xn, xd, xk, xl, xa, xc⟩ := x
  unfold enV at *
  simp only at *
  have q0 := (Below.refl w.heap.size w).alloc (Nat.le_refl _) (.cells #[.int .i64 xn, .int .i64 xd, .int .i64 xk, .int .i64 xl, .int .i64 xa, .int .i64 xc] 26)
  have Q0 := Lib.hid q0
  clear q0
  rcases hc with (hd | hd) | ⟨⟨d0, d1⟩, hc⟩
  · go_enter Try.func40, Try.ntmps40
    go_wp2_with fail
    go_ret
    exact ⟨rfl, Q0.out⟩
  · go_enter Try.func40, Try.ntmps40
    go_wp2_with fail
    go_ret
    exact ⟨rfl, Q0.out⟩
  rcases hc with hk | ⟨k0, hc⟩
  · go_enter Try.func40, Try.ntmps40
    go_wp2_with fail
    go_ret
    exact ⟨rfl, Q0.out⟩
  rcases hc with hk | ⟨k1, hc⟩
  · go_enter Try.func40, Try.ntmps40
    go_wp2_with fail
    go_ret
    exact ⟨rfl, Q0.out⟩
  rcases hc with (hl1 | hl1) | ⟨⟨l0, l1⟩, hc⟩
  · go_enter Try.func40, Try.ntmps40
    go_wp2_with fail
    go_ret
    exact ⟨rfl, Q0.out⟩
  · go_enter Try.func40, Try.ntmps40
    go_wp2_with fail
    go_ret
    exact ⟨rfl, Q0.out⟩
  rcases hc with ha | ⟨a0, hc⟩
  · go_enter Try.func40, Try.ntmps40
    go_wp2_with fail
    go_ret
    exact ⟨rfl, Q0.out⟩
  rcases hc with ha | ⟨a1, hc⟩
  · go_enter Try.func40, Try.ntmps40
    go_wp2_with fail
    go_ret
    exact ⟨rfl, Q0.out⟩
  rcases hc with hc | hc
  · go_enter Try.func40, Try.ntmps40
    go_wp2_with fail
    go_ret
    exact ⟨rfl, Q0.out⟩
  · go_enter Try.func40, Try.ntmps40
    go_wp2_with fail
    go_ret
    exact ⟨rfl, Q0.out⟩
set_option maxRecDepth 100000 in
set_option maxHeartbeats 4000000 in
theorem refMay_order (A : Option Addr) (c : Nat) (l : List En) (x : En) (w : World) (h : SlE w A l) (hl : l.length ≤ 1000000) (h0 : l.length < 2000) (hr : rangeB x = true) (hn : x.num ≠ (l.length : Int) + 1) :
    Calls Try.prog 40 #[.slice A l.length c, enV x] w (IsRet w.heap.size 9 w) := by
  obtain ⟨⟨d0, d1⟩, ⟨k0, k1⟩, ⟨l0, l1⟩, ⟨a0, a1⟩, c0, c1⟩ := range_iff.1 hr
  clear hr
  generalize l.length = n at *
  obtain ⟨xn, xd, xk, xl, xa, xc⟩ := x
  unfold enV at *
  simp only at *
  have hn1 : (xn == (n : Int) + 1) = false := by simpa using hn
  clear hn h
  have q0 := (Below.refl w.heap.size w).alloc (Nat.le_refl _) (.cells #[.int .i64 xn, .int .i64 xd, .int .i64 xk, .int .i64 xl, .int .i64 xa, .int .i64 xc] 26)
  have Q0 := Lib.hid q0
  clear q0
  go_enter Try.func40, Try.ntmps40
  go_wp2_with fail
  go_ret
  exact ⟨rfl, Q0.out⟩
set_option maxRecDepth 100000 in
set_option maxHeartbeats 4000000 in
theorem refMay_unknown (A : Option Addr) (c : Nat) (l : List En) (x : En) (w : World) (h : SlE w A l) (hl : l.length ≤ 1000000) (h0 : l.length < 2000) (hr : rangeB x = true) (hn : x.num = (l.length : Int) + 1) (h9 : x.kind = 9) (hx : (l.length : Int) < x.amt) :
    Calls Try.prog 40 #[.slice A l.length c, enV x] w (IsRet w.heap.size 6 w) := by
  obtain ⟨⟨d0, d1⟩, ⟨k0, k1⟩, ⟨l0, l1⟩, ⟨a0, a1⟩, c0, c1⟩ := range_iff.1 hr
  clear hr
  generalize l.length = n at *
  obtain ⟨xn, xd, xk, xl, xa, xc⟩ := x
  unfold enV at *
  simp only at *
  have q0 := (Below.refl w.heap.size w).alloc (Nat.le_refl _) (.cells #[.int .i64 xn, .int .i64 xd, .int .i64 xk, .int .i64 xl, .int .i64 xa, .int .i64 xc] 26)
  have Q0 := Lib.hid q0
  clear q0
  subst hn; subst h9
  clear h
  go_enter Try.func40, Try.ntmps40
  go_wp2_with fail
  go_ret
  exact ⟨rfl, Q0.out⟩

end Go.Proofs.Ytefphkefgfoklaa
