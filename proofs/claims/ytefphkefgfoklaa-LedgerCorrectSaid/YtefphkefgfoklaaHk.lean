/- The laws' awake. -/
import Derived.Test.YtefphkefgfoklaaHj
namespace Go.Proofs.Ytefphkefgfoklaa
open Go.RowKit
set_option linter.unusedVariables false

def aw1 : En := ⟨1, 0, 1, 5, 100, 0⟩
def aw2 : En := ⟨2, 0, 5, 5, 40, 0⟩
def aw3 : En := ⟨3, 9, 2, 5, 30, 3⟩
def awT : List Tg := [⟨5, ⟨70, 0, 40, 0⟩⟩]
theorem aw_1 : ledF ([] ++ [aw1]) = 0 := by decide
theorem aw_2 : ledF ([aw1] ++ [aw2]) = 0 := by decide
theorem aw_3 : corE [aw1, aw2] 9 3 awT = 0 := by decide
theorem aw_4 : corF [aw1, aw2] 9 3 awT = [aw1, aw2, aw3] := by decide
theorem aw_5 : bofF [aw1, aw2, aw3] 5 = ⟨70, 0, 40, 0⟩ := by decide
theorem aw_app1 (w : World) : Calls Try.prog 11 #[.slice none 0 0, .agg #[.int .i64 1, .int .i64 0, .int .i64 1, .int .i64 5, .int .i64 100, .int .i64 0]] w fun e w' =>
    ∃ A c, e = .returned (.tuple #[.slice A 1 c, .int .i64 0]) ∧ Below w.heap.size w w' ∧ SlE w' A [aw1] := by
  refine (append_any none 0 [] aw1 w ⟨Rd.nil _ _, by simp⟩).mono ?_
  rintro e w1 h1
  obtain ⟨v1, he, hb1, _, hl1⟩ := h1.x
  rw [aw_1] at he
  obtain ⟨A1, c1, rfl, hr1, _⟩ := hl1 aw_1
  exact ⟨A1, c1, he, hb1, ⟨hr1, by simp⟩⟩
theorem aw_app2 (A : Option Addr) (c : Nat) (w : World) (h : SlE w A [aw1]) : Calls Try.prog 11 #[.slice A 1 c, .agg #[.int .i64 2, .int .i64 0, .int .i64 5, .int .i64 5, .int .i64 40, .int .i64 0]] w fun e w' =>
    ∃ A c, e = .returned (.tuple #[.slice A 2 c, .int .i64 0]) ∧ Below w.heap.size w w' ∧ SlE w' A [aw1, aw2] := by
  refine (append_any A c [aw1] aw2 w h).mono ?_
  rintro e w1 h1
  obtain ⟨v1, he, hb1, _, hl1⟩ := h1.x
  rw [aw_2] at he
  obtain ⟨A1, c1, rfl, hr1, _⟩ := hl1 aw_2
  exact ⟨A1, c1, he, hb1, ⟨hr1, by simp⟩⟩
theorem aw_cor (A : Option Addr) (c : Nat) (w : World) (h : SlE w A [aw1, aw2]) : Calls Try.prog 18 #[.slice A 2 c, .int .i64 9, .int .i64 3, .slice (some ⟨w.heap.size, 0, none⟩) 1 1] (w.alloc (.cells #[.int .i64 5, .int .i64 70, .int .i64 0, .int .i64 40, .int .i64 0] 37)) fun e w' =>
    ∃ A c, e = .returned (.tuple #[.slice A 3 c, .int .i64 0]) ∧ Below w.heap.size w w' ∧ SlE w' A [aw1, aw2, aw3] := by
  have q := (Below.refl w.heap.size w).alloc (Nat.le_refl _) (.cells #[.int .i64 5, .int .i64 70, .int .i64 0, .int .i64 40, .int .i64 0] 37)
  refine (correct_any A c [aw1, aw2] 9 3 (some ⟨w.heap.size, 0, none⟩) 1 awT _ (h.below q) (Rd.new_ w (tgsCs awT) 37) (by simp [awT])).mono ?_
  rintro e w1 h1
  obtain ⟨v1, he, hb1, _, hl1⟩ := h1
  rw [aw_3] at he
  have hl1 := hl1 aw_3
  rw [aw_4] at hl1
  obtain ⟨A1, c1, rfl, hr1, _⟩ := hl1
  exact ⟨A1, c1, he, q.trans (hb1.mono q.size), ⟨hr1, by simp⟩⟩
theorem aw_bal (A : Option Addr) (c : Nat) (w : World) (h : SlE w A [aw1, aw2, aw3]) : Calls Try.prog 14 #[.slice A 3 c, .int .i64 5] w fun e w' =>
    e = .returned (.agg #[.int .i64 5, .int .i64 70, .int .i64 0, .int .i64 40, .int .i64 0]) ∧ Below w.heap.size w w' := by
  have := balanceOf_any A c [aw1, aw2, aw3] 5 w h (by omega) (by omega)
  rw [aw_5] at this
  exact this
/-- the cells of the third entry -/
theorem aw_cells {w : World} {A : Option Addr} (h : SlE w A [aw1, aw2, aw3]) : ∃ b off, A = some ⟨b, off, none⟩ ∧ w.cell? ⟨b, off + 12, none⟩ = some (.int .i64 3) ∧ w.cell? ⟨b, off + 12 + 1, none⟩ = some (.int .i64 9) ∧
    w.cell? ⟨b, off + 12 + 2, none⟩ = some (.int .i64 2) ∧ w.cell? ⟨b, off + 12 + 3, none⟩ = some (.int .i64 5) ∧ w.cell? ⟨b, off + 12 + 4, none⟩ = some (.int .i64 30) ∧ w.cell? ⟨b, off + 12 + 5, none⟩ = some (.int .i64 3) :=
  Rd.en h.rd (k := 2) (x := aw3) rfl
set_option maxRecDepth 100000 in
set_option maxHeartbeats 2000000 in
theorem awake_any (w : World) : Calls Try.prog 12 #[] w fun e w' => e = .returned (.bool true) ∧ Below w.heap.size w w' := by
  have HA1 := Lib.hid (aw_app1 w)
  go_enter Try.func12, Try.ntmps12
  go_wp2_with fail
  refine HA1.out.mono ?_
  rintro e w1 ⟨A1, c1, rfl, hb1, hs1⟩
  have S1 := Lib.hid (aw_app2 A1 c1 w1 hs1)
  have B1 := Lib.hid hb1
  clear hb1 hs1
  go_wp2_with fail
  refine S1.out.mono ?_
  rintro e w2 ⟨A2, c2, rfl, hb2, hs2⟩
  have S2 := Lib.hid (aw_cor A2 c2 w2 hs2)
  have B2 := Lib.hid (B1.out.trans (hb2.mono B1.out.size))
  clear hb2 hs2
  go_wp2_with fail
  refine S2.out.mono ?_
  rintro e w3 ⟨A3, c3, rfl, hb3, hs3⟩
  have B3 := Lib.hid (B2.out.trans (hb3.mono B2.out.size))
  obtain ⟨b, off, rfl, k0, k1, k2, k3, k4, k5⟩ := aw_cells hs3
  have S3 := Lib.hid (aw_bal _ c3 w3 hs3)
  clear hb3 hs3
  go_wp2_with fail
  refine S3.out.mono ?_
  rintro e w4 ⟨rfl, hb4⟩
  have B4 := Lib.hid (B3.out.trans (hb4.mono B3.out.size))
  clear hb4
  go_wp2
  go_ret
  exact ⟨rfl, B4.out⟩
end Go.Proofs.Ytefphkefgfoklaa
