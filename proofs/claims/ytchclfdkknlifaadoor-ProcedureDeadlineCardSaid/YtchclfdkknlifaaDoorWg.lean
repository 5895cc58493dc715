/- Contracts of Path at every argument and of the laws' awake. -/
import Derived.Test.YtchclfdkknlifaaDoorWf
namespace Go.Proofs.YtchclfdkknlifaaDoor
open Go.RowKit

set_option maxHeartbeats 400000 in
theorem path_out (f to : Int) (w : World) (h : ¬ (0 ≤ f ∧ f ≤ 13 ∧ 0 ≤ to ∧ to ≤ 13)) :
    Calls Tryd.prog 15 #[.int .i64 f, .int .i64 to] w (PathRet w (pathF f to)) := by
  have hp : Hid (pathF f to = none) := by show _ = _; unfold pathF; rw [if_neg h]
  by_cases h1 : 0 ≤ f ∧ f ≤ 13
  · have h2 : ¬ (0 ≤ to ∧ to ≤ 13) := fun h3 => h ⟨h1.1, h1.2, h3.1, h3.2⟩
    obtain ⟨h3, h4⟩ := h1
    clear h
    go_enter Tryd.func15, Tryd.ntmps15
    go_wp2_with fail
    refine (valid_yes f _ h3 h4).mono ?_
    rintro e w' ⟨rfl, rfl⟩
    go_wp2_with fail
    refine (valid_no to _ h2).mono ?_
    rintro e w' ⟨rfl, rfl⟩
    go_wp2
    go_ret2
    exact ⟨Below.refl _ _, by rw [hp.out]; rfl⟩
  · clear h
    go_enter Tryd.func15, Tryd.ntmps15
    go_wp2_with (go_at_call 25; refine (valid_no f _ h1).mono ?_; rintro e w' ⟨rfl, rfl⟩)
    go_ret2
    exact ⟨Below.refl _ _, by rw [hp.out]; rfl⟩
theorem path_any (f to : Int) (w : World) (ht : Tab w) : Calls Tryd.prog 15 #[.int .i64 f, .int .i64 to] w (PathRet w (pathF f to)) := by
  by_cases h : 0 ≤ f ∧ f ≤ 13 ∧ 0 ≤ to ∧ to ≤ 13
  · exact path_in f to w ht h.1 h.2.1 h.2.2.1 h.2.2.2
  · exact path_out f to w h
theorem pathF_06 : pathF 0 6 = some [1, 8] := by decide +kernel
theorem path_06 (w : World) (ht : Tab w) : Calls Tryd.prog 15 #[.int .i64 0, .int .i64 6] w fun e w' => Below w.heap.size w w' ∧ ∃ b off c, e = .returned (.tuple #[.slice (some ⟨b, off, none⟩) 2 c, .bool true]) ∧ w'.cell? ⟨b, off, none⟩ = some (.int .i64 1) ∧ w'.cell? ⟨b, off + 1, none⟩ = some (.int .i64 8) :=
  (path_any 0 6 w ht).mono fun e w' h => by
    rw [pathF_06] at h
    obtain ⟨hb, A, c, he, hr⟩ := h
    obtain ⟨b, off, rfl, hc⟩ := Rd.lit hr
    exact ⟨hb, b, off, c, he, hc 0 _ rfl, hc 1 _ rfl⟩
theorem next_611 : nextF 6 11 = (9, 0) := by decide +kernel
theorem next_awake (w : World) (ht : Tab w) : Calls Tryd.prog 10 #[.int .i64 6, .int .i64 11] w fun e w' => e = .returned (.tuple #[.int .i64 9, .int .i64 0]) ∧ Below w.heap.size w w' := by
  have := next_any 6 11 w ht
  rwa [next_611] at this

set_option maxHeartbeats 400000 in
theorem awake_any (w : World) (ht : Tab w) : Calls Tryd.prog 14 #[] w fun e w' => e = .returned (.bool true) ∧ Below w.heap.size w w' := by
  go_enter Tryd.func14, Tryd.ntmps14
  go_wp2_with fail
  refine (next_awake _ ht).mono ?_
  rintro e w1 ⟨rfl, hb1⟩
  have ht1 := ht.below hb1
  go_wp2_with fail
  refine (path_06 _ ht1).mono ?_
  rintro e w2 ⟨hb2, b, off, c, rfl, hc0, hc1⟩
  go_wp2_with (go_at_call 12; refine (class_any 2 _).mono ?_; rintro e w' ⟨rfl, rfl⟩)
  go_ret
  exact ⟨rfl, hb1.trans (hb2.mono hb1.size)⟩
end Go.Proofs.YtchclfdkknlifaaDoor
