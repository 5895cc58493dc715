/- Contract of procedure.Next. -/
import Derived.Test.YtchclfdkknlifaaDoorWa
import Derived.Test.YtchclfdkknlifaaDoorPa
namespace Go.Proofs.YtchclfdkknlifaaDoor
open Go.RowKit

def moveCells : Array Value := (moveRows.flatMap fun r => [Value.int .i64 r.1, .int .i64 r.2.1, .int .i64 r.2.2]).toArray
theorem index_run (k : Nat) (hk : k < 36) (w : World) : (Instr.index 45 (.agg moveCells) (.int .i64 k)).run Tryd.prog w = .ok (.agg #[.int .i64 (mv k).1, .int .i64 (mv k).2.1, .int .i64 (mv k).2.2]) w :=
  match k, hk with
  | 0, _ => by kernel_rfl
  | 1, _ => by kernel_rfl
  | 2, _ => by kernel_rfl
  | 3, _ => by kernel_rfl
  | 4, _ => by kernel_rfl
  | 5, _ => by kernel_rfl
  | 6, _ => by kernel_rfl
  | 7, _ => by kernel_rfl
  | 8, _ => by kernel_rfl
  | 9, _ => by kernel_rfl
  | 10, _ => by kernel_rfl
  | 11, _ => by kernel_rfl
  | 12, _ => by kernel_rfl
  | 13, _ => by kernel_rfl
  | 14, _ => by kernel_rfl
  | 15, _ => by kernel_rfl
  | 16, _ => by kernel_rfl
  | 17, _ => by kernel_rfl
  | 18, _ => by kernel_rfl
  | 19, _ => by kernel_rfl
  | 20, _ => by kernel_rfl
  | 21, _ => by kernel_rfl
  | 22, _ => by kernel_rfl
  | 23, _ => by kernel_rfl
  | 24, _ => by kernel_rfl
  | 25, _ => by kernel_rfl
  | 26, _ => by kernel_rfl
  | 27, _ => by kernel_rfl
  | 28, _ => by kernel_rfl
  | 29, _ => by kernel_rfl
  | 30, _ => by kernel_rfl
  | 31, _ => by kernel_rfl
  | 32, _ => by kernel_rfl
  | 33, _ => by kernel_rfl
  | 34, _ => by kernel_rfl
  | 35, _ => by kernel_rfl
  | n + 36, h => absurd h (by omega)

/-- the table lies in its variable -/
def Tab (w : World) : Prop := ∃ t fr, w.heap[0]? = some (.cells moveCells t fr)
theorem Tab.below {w w' : World} (h : Tab w) (hb : Below w.heap.size w w') : Tab w' := by
  obtain ⟨t, fr, h⟩ := h
  exact ⟨t, fr, (hb.block _ (Array.getElem?_eq_some_iff.1 h).1).trans h⟩

set_option maxHeartbeats 400000 in
theorem next_out (p a : Int) (w : World) (h : ¬ (0 ≤ p ∧ p ≤ 13 ∧ 1 ≤ a ∧ a ≤ 14)) :
    Calls Tryd.prog 10 #[.int .i64 p, .int .i64 a] w fun e w' => e = .returned (.tuple #[.int .i64 0, .int .i64 2]) ∧ w = w' := by
  by_cases h1 : 0 ≤ p ∧ p ≤ 13
  · obtain ⟨h2, h3⟩ := h1
    by_cases h4 : a < 1
    · clear h
      go_enter Tryd.func10, Tryd.ntmps10
      go_wp2_with (go_at_call 25; refine (valid_yes p _ h2 h3).mono ?_; rintro e w' ⟨rfl, rfl⟩)
      go_ret2
      exact ⟨rfl, rfl⟩
    · have h5 : 14 < a := by omega
      clear h
      go_enter Tryd.func10, Tryd.ntmps10
      go_wp2_with (go_at_call 25; refine (valid_yes p _ h2 h3).mono ?_; rintro e w' ⟨rfl, rfl⟩)
      go_ret2
      exact ⟨rfl, rfl⟩
  · clear h
    go_enter Tryd.func10, Tryd.ntmps10
    go_wp2_with (go_at_call 25; refine (valid_no p _ h1).mono ?_; rintro e w' ⟨rfl, rfl⟩)
    go_ret2
    exact ⟨rfl, rfl⟩

set_option maxHeartbeats 400000 in
theorem next_in (p a : Int) (w : World) (ht : Tab w) (h0 : 0 ≤ p) (h1 : p ≤ 13) (h2 : 1 ≤ a) (h3 : a ≤ 14) :
    Calls Tryd.prog 10 #[.int .i64 p, .int .i64 a] w fun e w' => e = .returned (.tuple #[.int .i64 (nextF p a).1, .int .i64 (nextF p a).2]) ∧ Below w.heap.size w w' := by
  obtain ⟨tt, fr, ht⟩ := ht
  have g1 : decide (a < 1) = false := by simp; omega
  have g2 : decide (14 < a) = false := by simp; omega
  go_enter Tryd.func10, Tryd.ntmps10
  go_wp2_with (first
    | (go_at_call 25; refine (valid_yes p _ h0 h1).mono ?_; rintro e w' ⟨rfl, rfl⟩)
    | (refine wpList_load_row rfl 45 _ rfl 0 rfl tt moveCells fr _ ht Tryd.underlying45 rfl (by kernel_rfl) ?_))
  go_loopw [20] (fun i wr => ∃ k : Nat, k ≤ 36 ∧ i = .int .i64 k ∧ NoneBefore p a k ∧ Below w.heap.size w wr) (fun i _ => 36 - (intOf i).toNat)
  case atStart => exact ⟨0, by omega, rfl, noneBefore_zero p a, Below.refl _ _⟩
  case round =>
    obtain ⟨k, hk, rfl, hnb, hb⟩ := hrel
    have hsz := hb.size
    by_cases hlt : k < 36
    · have hi := fun w => index_run k hlt w
      have hm1 : ∃ x, x = (mv k).1 := ⟨_, rfl⟩
      obtain ⟨x, hx⟩ := hm1
      have hm2 : ∃ x, x = (mv k).2.1 := ⟨_, rfl⟩
      obtain ⟨y, hy⟩ := hm2
      have hm3 : ∃ x, x = (mv k).2.2 := ⟨_, rfl⟩
      obtain ⟨z, hz⟩ := hm3
      rw [← hx, ← hy, ← hz] at hi
      have HX := Lib.hid hx
      have HY := Lib.hid hy
      have HZ := Lib.hid hz
      clear hx hy hz
      go_wp2
      · go_ret2
        have e1 : x = a := by assumption
        have e2 : y = p := by simpa using (by assumption : (y == p) = true)
        have hn := nextF_some h0 h1 h2 h3 hlt hnb (HX.out.symm.trans e1) (HY.out.symm.trans e2)
        exact ⟨by rw [hn, ← HZ.out]; rfl, by first | exact hb.alloc hsz _ | exact (hb.alloc hsz _).drew⟩
      · go_roundw
        case rel => exact ⟨k + 1, by omega, by go_num, noneBefore_succ hnb (fun h => by
          have e2 : ¬ y = p := by simpa using (by assumption : (y == p) = false)
          exact e2 (HY.out.trans h.2)), by first | exact hb.alloc hsz _ | exact (hb.alloc hsz _).drew⟩
        case measure => simp [intOf]; omega
      · go_roundw
        case rel => exact ⟨k + 1, by omega, by go_num, noneBefore_succ hnb (fun h => by
          have e2 : ¬ x = a := by assumption
          exact e2 (HX.out.trans h.1)), by first | exact hb.alloc hsz _ | exact (hb.alloc hsz _).drew⟩
        case measure => simp [intOf]; omega
    · have hge : 36 ≤ k := by omega
      clear hlt
      go_wp2
      go_ret2
      have e : k = 36 := by omega
      subst e
      exact ⟨by rw [nextF_none h0 h1 h2 h3 hnb]; rfl, hb⟩

theorem next_any (p a : Int) (w : World) (ht : Tab w) :
    Calls Tryd.prog 10 #[.int .i64 p, .int .i64 a] w fun e w' => e = .returned (.tuple #[.int .i64 (nextF p a).1, .int .i64 (nextF p a).2]) ∧ Below w.heap.size w w' := by
  by_cases h : 0 ≤ p ∧ p ≤ 13 ∧ 1 ≤ a ∧ a ≤ 14
  · exact next_in p a w ht h.1 h.2.1 h.2.2.1 h.2.2.2
  · refine (next_out p a w h).mono ?_
    rintro e w' ⟨rfl, rfl⟩
    rw [nextF_out h]
    exact ⟨rfl, Below.refl _ _⟩
end Go.Proofs.YtchclfdkknlifaaDoor
