/- SameLedger of two slices that read as one list. -/
import Derived.Test.YtefphkefgfoklaaHk
import Derived.Test.YtefphkefgfoklaaSrc
namespace Go.Proofs.Ytefphkefgfoklaa
open Go.RowKit
set_option linter.unusedVariables false

theorem Quiet.drewN {w w' : World} (h : Quiet w w') (m : Nat) : Quiet w (w'.drewN m) := by obtain ⟨n, rfl⟩ := h; exact ⟨n + m, World.drewN_drewN _ _ _⟩
theorem Quiet.trans {a b c : World} (h : Quiet a b) (k : Quiet b c) : Quiet a c := by obtain ⟨n, rfl⟩ := k; exact h.drewN n
theorem Quiet.cell {w w' : World} (h : Quiet w w') (p : Addr) : w'.cell? p = w.cell? p := by obtain ⟨n, rfl⟩ := h; rfl
def CntRel (n : Nat) (w : World) (g : Nat) (i : Value) (wr : World) : Prop := ∃ k : Nat, k + g = n ∧ i = .int .i64 (k : Int) ∧ Quiet w wr
set_option maxRecDepth 100000 in
set_option maxHeartbeats 4000000 in
theorem sameLedger_any (A A' : Option Addr) (c c' : Nat) (l : List En) (w : World) (h : SlE w A l) (h' : SlE w A' l) :
    Calls Try.prog 13 #[.slice A l.length c, .slice A' l.length c'] w fun e w' => e = .returned (.bool true) ∧ Quiet w w' := by
  have hnn : ((l.length : Int) != (l.length : Int)) = false := by simp
  have hl := h.len
  go_enter Try.func13, Try.ntmps13
  go_wp2
  go_loopg [5] l.length (fun g i wr => CntRel l.length w g i wr)
  case atStart => exact ⟨0, by omega, rfl, Quiet.refl _⟩
  case round =>
    obtain ⟨k, hk, rfl, hq⟩ := hrel
    have HK := Lib.hid hk
    have hk2 : k ≤ l.length := by omega
    clear hk
    by_cases hlt : k < l.length
    · obtain ⟨b, off, rfl, k0, k1, k2, k3, k4, k5⟩ := ((h.below (hq.below _)).rd).en (k := k) (x := l[k]) (List.getElem?_eq_getElem hlt)
      obtain ⟨b', off', rfl, m0, m1, m2, m3, m4, m5⟩ := ((h'.below (hq.below _)).rd).en (k := k) (x := l[k]) (List.getElem?_eq_getElem hlt)
      have HQ := Lib.hid hq
      clear h h' hq
      generalize l[k] = x at *
      obtain ⟨x0, x1, x2, x3, x4, x5⟩ := x
      simp only at k0 k1 k2 k3 k4 k5 m0 m1 m2 m3 m4 m5
      go_wp2
      go_quiet (fail)
      go_wp2
      have q2 : Quiet wr (wr.drewN nq) := ⟨nq, rfl⟩
      generalize wr.drewN nq = W2 at q2 ⊢
      go_roundg (l.length - (k + 1))
      case measure => have := HK.out; omega
      case rel => exact ⟨k + 1, by have := HK.out; omega, by go_num, HQ.out.trans q2⟩
    · obtain rfl : k = l.length := by omega
      have HQ := Lib.hid hq
      clear hq
      go_wp2
      go_ret
      exact ⟨rfl, HQ.out⟩
end Go.Proofs.Ytefphkefgfoklaa
