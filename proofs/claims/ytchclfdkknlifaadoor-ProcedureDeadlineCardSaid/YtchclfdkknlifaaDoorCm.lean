/- Contract of Holidays: some list of at most 300 ints that the call owns. -/
import Derived.Test.YtchclfdkknlifaaDoorCl
import Derived.Laws.Bits64
namespace Go.Proofs.YtchclfdkknlifaaDoor.Cal
open Go.RowKit
set_option linter.unusedVariables false

/-- a row of n ints in block H -/
def Row (w : World) (H n : Nat) : Prop := ∃ (cs : Array Value) (xs : List Int), w.heap[H]? = some (.cells cs 3 (0, 0)) ∧ cs.toList = ints xs ∧ xs.length = n
theorem Row.new (w : World) (n : Nat) : Row (w.alloc (.cells (madeCells #[.int .i64 0] n) 3)) w.heap.size n :=
  ⟨_, List.replicate n 0, Go.heap_alloc_new w _, by rw [toList_madeCells_one]; simp [ints], by simp⟩
theorem Row.cell {w : World} {H n k : Nat} (h : Row w H n) (hk : k < n) : ∃ y, w.cell? ⟨H, k, none⟩ = some (.int .i64 y) := by
  obtain ⟨cs, xs, h1, h2, h3⟩ := h
  refine ⟨xs[k]?.getD 0, ?_⟩
  rw [cell_of_row _ _ _ _ _ _ h1, ← Array.getElem?_toList, h2, ints, List.getElem?_map, List.getElem?_eq_getElem (by omega)]
  rfl
theorem Row.frozen {w : World} {H n : Nat} (h : Row w H n) (k : Nat) : w.frozen? ⟨H, k, none⟩ = false := by
  obtain ⟨cs, xs, h1, h2, h3⟩ := h
  exact frozen_of_row _ _ _ _ _ h1
theorem Row.set {w : World} {H n : Nat} (h : Row w H n) (k : Nat) (y : Int) : Row (w.setCell ⟨H, k, none⟩ (.int .i64 y)) H n := by
  obtain ⟨cs, xs, h1, h2, h3⟩ := h
  refine ⟨_, xs.set k y, heap_setCell_same w H k cs _ _ h1, ?_, by simpa using h3⟩
  rw [Array.toList_setIfInBounds, h2, ints, ints, List.map_set]
theorem Row.rd {w : World} {H n : Nat} (h : Row w H n) : ∃ xs : List Int, xs.length = n ∧ Rd w (some ⟨H, 0, none⟩) (ints xs) := by
  obtain ⟨cs, xs, h1, h2, h3⟩ := h
  refine ⟨xs, h3, fun j u hu => ⟨_, rfl, ?_⟩⟩
  rw [Addr.add_lit, cell_of_row _ _ _ _ _ _ h1, ← Array.getElem?_toList, h2, Nat.zero_add]
  exact hu
def HolRel (w : World) (n : Nat) (g : Nat) (i : Value) (wr : World) : Prop := ∃ k, k + g = n ∧ i = .int .i64 (k : Int) ∧ Row wr w.heap.size n ∧ Below w.heap.size w wr

set_option maxHeartbeats 4000000 in
theorem holidays_any (A : Option Addr) (c : Nat) (l : List Int) (w : World) (hs : Rd w A (ints l)) (hl : l.length ≤ c) (hc : c ≤ 17592186044416) :
    Calls Tryd.prog 21 #[.slice A l.length c] w fun e w' => ∃ v n, e = .returned v ∧ n ≤ 300 ∧ Nums w' w.heap.size v n ∧ Below w.heap.size w w' := by
  have hcut := cut_any A c l 300 w (by omega) hl hc
  have hs2 : Rd w A (ints (l.take 300)) := by have := hs.take 300; rwa [ints, ← List.map_take] at this
  have hl2 : (l.take 300).length ≤ 300 := List.length_take_le 300 l
  generalize l.take 300 = m at hcut hs2 hl2
  have HC := Lib.hid hcut
  have hmk := run_make_row' (P := Tryd.prog) 29 3 (.int .i64 0) 8 Tryd.underlying29 intInfo rfl .i64 .i64 m.length (by omega) (by omega)
  have HR0 := Lib.hid (Row.new w m.length)
  have HB0 := Lib.hid ((Below.refl w.heap.size w).alloc (Nat.le_refl _) (.cells (madeCells #[.int .i64 0] m.length) 3))
  clear hcut hs
  go_enter Tryd.func21, Tryd.ntmps21
  go_wp2_with (go_at_call 28; refine HC.out.mono ?_; rintro e w' ⟨rfl, rfl⟩)
  go_loopg [4] m.length (fun g i wr => HolRel w m.length g i wr)
  case atStart => exact ⟨0, by omega, rfl, HR0.out, HB0.out⟩
  case round =>
    obtain ⟨k, hk, rfl, hrow, hb⟩ := hrel
    have HK := Lib.hid hk
    have hk2 : k ≤ m.length := by omega
    clear hk hmk HR0 HB0
    by_cases hlt : k < m.length
    · obtain ⟨b, off, rfl, hc1⟩ := (hs2.below hb).int hlt
      obtain ⟨b', off', hbo, hc0⟩ := hs2.int hlt
      injection hbo with hbo
      injection hbo with hb1 hb2
      subst hb1; subst hb2
      have hblt := cell_lt hc0
      have hne : b ≠ w.heap.size := by simp only at hblt; omega
      have hne2 : w.heap.size ≠ b := Ne.symm hne
      obtain ⟨y, hy⟩ := hrow.cell hlt
      have hfz := hrow.frozen k
      generalize m[k]?.getD 0 = a at hc1 hc0
      have HD := Lib.hid (fun w => mday_any a w)
      have b1 := Int.emod_nonneg a (by omega : (36525 : Int) ≠ 0)
      have b2 := Int.emod_lt_of_pos a (by omega : (0 : Int) < 36525)
      generalize a % 36525 = d at HD b1 b2
      have HROW := Lib.hid hrow
      have HBB := Lib.hid hb
      clear hrow hb hc0 hblt
      go_wp2_with (go_at_call 20; refine (HD.out _).mono ?_; rintro e w' ⟨rfl, rfl⟩)
      all_goals (go_roundg (m.length - (k + 1)))
      all_goals (first | (have := HK.out; omega) | exact ⟨k + 1, by omega, by go_num, (HROW.out.set k d).set k (d % 60), (HBB.out.setCell (Nat.le_refl _) _).setCell (Nat.le_refl _) _⟩ | exact ⟨k + 1, by omega, by go_num, HROW.out.set k d, HBB.out.setCell (Nat.le_refl _) _⟩)
    · have hge : m.length ≤ k := by omega
      clear hlt
      obtain ⟨xs, hxl, hxr⟩ := hrow.rd
      have HA := Lib.hid (ascending_any (some ⟨w.heap.size, 0, none⟩) m.length xs wr hxr (by omega))
      rw [hxl] at HA
      go_wp2_with (go_at_call 29; refine HA.out.mono ?_; rintro e w2 ⟨v, n, rfl, hn, hN, hb2⟩)
      go_ret
      exact ⟨v, n, rfl, by omega, hN.mono hb.size, hb.trans (hb2.mono hb.size)⟩
end Go.Proofs.YtchclfdkknlifaaDoor.Cal
