/- The law SegmentValidate: the walk. -/
import Derived.Test.YtmnflbgejagpmaaSr
namespace Go.Proofs.Ytmnflbgejagpmaa
open Go.RowKit
set_option linter.unusedVariables false

namespace segmentValidate
set_option maxHeartbeats 4000000 in
theorem walkSegmentValidate (t : ByteArray) (A : Option Addr) (c : Nat) (l : List (List Bs)) (w : World) (h : ElsAt w w.heap.size A l) (hl : l.length ≤ maxLen) (hle : ∀ e ∈ l, e.length ≤ maxLen) :
    Calls Try.prog 3 #[.agg #[.string t, .slice A l.length c]] w fun e w' => e = .returned (.bool true) ∧ Below w.heap.size w w' := by
  unfold maxLen at hl hle
  have q0 := (Below.refl w.heap.size w).alloc (Nat.le_refl _) (.cells #[.string t, .slice A l.length c] 24)
  have HVA := fun W (hb : Below w.heap.size w W) => validate_any t A c l W ((h.below hb).mono hb.size)
  have HRA := fun W (hb : Below w.heap.size w W) => refSegment_any t A c l W ((h.below hb).mono hb.size) hl hle
  have HAW := Lib.hid (fun W => awake_any W)
  have hc0 : (w.alloc (.cells #[.string t, .slice A l.length c] 24)).cell? ⟨w.heap.size, 0, none⟩ = some (.string t) := by simp
  have hc1 : (w.alloc (.cells #[.string t, .slice A l.length c] 24)).cell? ⟨w.heap.size, 1, none⟩ = some (.slice A l.length c) := by simp
  have hz0 : w.heap.size < (w.alloc (.cells #[.string t, .slice A l.length c] 24)).heap.size := by simp
  generalize hW : w.alloc (.cells #[.string t, .slice A l.length c] 24) = W at q0 hc0 hc1 hz0
  clear hle h
  rcases validF_cases ⟨t.data.toList, l⟩ with hv | hv | hv
  all_goals
    rw [hv] at HVA HRA
    have HVA := Lib.hid HVA
    have HRA := Lib.hid HRA
    clear hv
    go_enter Try.func3, Try.ntmps3
    go_wp2
    clear hW
    go_region_held3 (fun w' => Below W.heap.size W w' ∧ w'.cell? ⟨w.heap.size, 0, none⟩ = some (.string t) ∧ w'.cell? ⟨w.heap.size, 1, none⟩ = some (.slice A l.length c))
      ((refine (fun h => ⟨h, (Below.cell (p := ⟨w.heap.size, 0, none⟩) h hz0).trans hc0, (Below.cell (p := ⟨w.heap.size, 1, none⟩) h hz0).trans hc1⟩ : Below W.heap.size W _ → _) ?_; first | exact (Below.refl _ _).drew | exact hB9 | exact hB8 | exact hB7 | exact hB6))
      (first
        | (go_at_call 9; refine (HVA.out _ (q0.trans (by first | exact hB6.mono q0.size | exact ((Below.refl _ _).drew).mono q0.size))).mono ?_; rintro e w7 ⟨rfl, hb7⟩; have hB7 : Below W.heap.size W w7 := by (first | exact hB6.trans (hb7.mono hB6.size) | exact (Below.refl _ _).drew.trans hb7))
        | (go_at_call 10; refine (HRA.out _ (q0.trans (by first | exact hB7.mono q0.size | exact ((Below.refl _ _).drew).mono q0.size))).mono ?_; rintro e w6 ⟨rfl, hb6⟩; have hB6 : Below W.heap.size W w6 := by (first | exact hB7.trans (hb6.mono hB7.size) | exact (Below.refl _ _).drew.trans hb6))
        | (go_at_call 11; refine (HAW.out _).mono ?_; rintro e w9 ⟨rfl, hb9⟩; have hB9 : Below W.heap.size W w9 := by (first | exact (hB6.trans (hb9.mono hB6.size)) | exact (hB7.trans (hb9.mono hB7.size)))))
    all_goals go_wp2
    all_goals go_ret
    all_goals exact ⟨rfl, q0.trans (hB9.mono q0.size)⟩
end segmentValidate
end Go.Proofs.Ytmnflbgejagpmaa
