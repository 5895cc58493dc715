/- The contract of add: the errors that come before the balances. -/
import Derived.Test.YtefphkefgfoklaaGe
import Derived.Deep.RegionHeld3
namespace Go.Proofs.Ytefphkefgfoklaa
open Go.RowKit
set_option linter.unusedVariables false

theorem bcell {W w1 : World} (hb : Below W.heap.size W w1) : (∀ b o, b < W.heap.size → w1.cell? ⟨b, o, none⟩ = W.cell? ⟨b, o, none⟩) ∧ (∀ b o, b < W.heap.size → w1.frozen? ⟨b, o, none⟩ = W.frozen? ⟨b, o, none⟩) :=
  ⟨fun b o h => hb.cell (p := ⟨b, o, none⟩) h, fun b o h => hb.frozen (p := ⟨b, o, none⟩) h⟩
theorem drewN_below {B : Nat} {a w : World} (h : Below B a w) (n : Nat) : Below B a (w.drewN n) := ⟨h.os, h.tape, h.output, h.size, h.block⟩
def IsRet (B : Nat) (n : Int) (w : World) (e : Ending) (w' : World) : Prop := e = .returned (.int .i64 n) ∧ Below B w w'
set_option maxRecDepth 100000 in
set_option maxHeartbeats 1000000 in
theorem add_limit (B pa : Nat) (l : List En) (x : En) (w : World) (h : Acc w B pa l) (hB : B ≤ w.heap.size) (hl : 2000 ≤ l.length) (hm : l.length ≤ 1000000) :
    Calls Try.prog 30 #[.pointer (some ⟨pa, 0, none⟩), enV x] w (IsRet B 8 w) := by
  obtain ⟨pc, b1, b2, n1, n2, v, h⟩ := h
  have q0 := (Below.refl B w).alloc hB (.cells #[.int .i64 x.num, .int .i64 x.day, .int .i64 x.kind, .int .i64 x.lot, .int .i64 x.amt, .int .i64 x.cause] 26)
  have hpl := h.lt.1
  have hc1 : w.cell? ⟨pa, 1, none⟩ = some v := by rw [cell_of_row _ _ _ _ _ _ h.acc]; rfl
  obtain ⟨A, cap, rfl⟩ := own_len h.ent
  unfold enV
  clear h
  generalize l.length = n at *
  go_enter Try.func30, Try.ntmps30
  go_wp2_with fail
  go_ret
  exact ⟨rfl, q0⟩
set_option maxRecDepth 100000 in
set_option maxHeartbeats 1000000 in
theorem add_range (B pa : Nat) (l : List En) (x : En) (w : World) (h : Acc w B pa l) (hB : B ≤ w.heap.size) (hl : l.length < 2000) (hr : rangeB x = false) :
    Calls Try.prog 30 #[.pointer (some ⟨pa, 0, none⟩), enV x] w (IsRet B 2 w) := by
  obtain ⟨pc, b1, b2, n1, n2, v, h⟩ := h
  have q0 := (Below.refl B w).alloc hB (.cells #[.int .i64 x.num, .int .i64 x.day, .int .i64 x.kind, .int .i64 x.lot, .int .i64 x.amt, .int .i64 x.cause] 26)
  have hpl := h.lt.1
  have hc1 : w.cell? ⟨pa, 1, none⟩ = some v := by rw [cell_of_row _ _ _ _ _ _ h.acc]; rfl
  obtain ⟨A, cap, rfl⟩ := own_len h.ent
  have HR := Lib.hid (fun W => inRange_any x W)
  rw [hr] at HR
  unfold enV at *
  clear h hr
  generalize l.length = n at *
  go_enter Try.func30, Try.ntmps30
  go_wp2_with (go_at_call 42; refine (HR.out _).mono ?_; rintro e w3 ⟨rfl, hb3⟩)
  go_ret
  exact ⟨rfl, q0.trans (hb3.mono (Nat.le_trans hB q0.size))⟩
set_option maxRecDepth 100000 in
set_option maxHeartbeats 1000000 in
theorem add_order (B pa : Nat) (l : List En) (x : En) (w : World) (h : Acc w B pa l) (hB : B ≤ w.heap.size) (hl : l.length < 2000) (hr : rangeB x = true) (hn : x.num ≠ (l.length : Int) + 1) :
    Calls Try.prog 30 #[.pointer (some ⟨pa, 0, none⟩), enV x] w (IsRet B 9 w) := by
  obtain ⟨pc, b1, b2, n1, n2, v, h⟩ := h
  have q0 := (Below.refl B w).alloc hB (.cells #[.int .i64 x.num, .int .i64 x.day, .int .i64 x.kind, .int .i64 x.lot, .int .i64 x.amt, .int .i64 x.cause] 26)
  have hpl := h.lt.1
  have hc1 : w.cell? ⟨pa, 1, none⟩ = some v := by rw [cell_of_row _ _ _ _ _ _ h.acc]; rfl
  obtain ⟨A, cap, rfl⟩ := own_len h.ent
  have HR := Lib.hid (fun W => inRange_any x W)
  rw [hr] at HR
  unfold enV at *
  clear h hr
  generalize l.length = n at *
  obtain ⟨xn, xd, xk, xl, xa, xc⟩ := x
  simp only at *
  have hn1 : (xn == (n : Int) + 1) = false := by simpa using hn
  clear hn
  go_enter Try.func30, Try.ntmps30
  go_wp2_with (go_at_call 42; refine (HR.out _).mono ?_; rintro e w3 ⟨rfl, hb3⟩)
  obtain ⟨hcc, hcf⟩ := bcell hb3
  go_quiet (fail)
  go_wp2
  go_ret
  exact ⟨rfl, drewN_below (q0.trans (hb3.mono (Nat.le_trans hB q0.size))) _⟩
end Go.Proofs.Ytefphkefgfoklaa
