/- The contract of add, whole, and that of read. -/
import Derived.Test.YtefphkefgfoklaaGh
import Derived.Test.YtefphkefgfoklaaGi
import Derived.Test.YtefphkefgfoklaaGj
import Derived.Test.YtefphkefgfoklaaGk
import Derived.Test.YtefphkefgfoklaaGl
import Derived.Test.YtefphkefgfoklaaFrame
namespace Go.Proofs.Ytefphkefgfoklaa
open Go.RowKit
set_option linter.unusedVariables false

theorem ret_of {B pa : Nat} {l : List En} {x : En} {w : World} {n : Int} (hm : mayF l x = n) (hn : n ≠ 0) {e : Ending} {w' : World} (h : IsRet B n w e w') : AddRet B pa l x w e w' :=
  ⟨by rw [h.1, hm], h.2, fun h0 => absurd (hm.symm.trans h0) hn⟩
theorem add_any (B pa : Nat) (l : List En) (x : En) (w : World) (h : Acc w B pa l) (hB : B ≤ w.heap.size) (hv : ledF l = 0) :
    Calls Try.prog 30 #[.pointer (some ⟨pa, 0, none⟩), enV x] w (AddRet B pa l x w) := by
  have hlen := ledF_len hv
  by_cases h1 : 2000 ≤ l.length
  · refine (add_limit B pa l x w h hB h1 (by omega)).mono fun e w' => ret_of ?_ (by decide)
    unfold mayF; rw [if_pos h1]
  by_cases h2 : rangeB x = false
  · refine (add_range B pa l x w h hB (by omega) h2).mono fun e w' => ret_of ?_ (by decide)
    unfold mayF; rw [if_neg h1, if_pos h2]
  have hr : rangeB x = true := by simpa using h2
  by_cases h3 : x.num ≠ (l.length : Int) + 1
  · refine (add_order B pa l x w h hB (by omega) hr h3).mono fun e w' => ret_of ?_ (by decide)
    unfold mayF; rw [if_neg h1, if_neg h2, if_pos h3]
  have hn : x.num = (l.length : Int) + 1 := by omega
  by_cases h9 : x.kind = 9
  · by_cases h4 : (l.length : Int) < x.amt
    · refine (add_unknown B pa l x w h hB (by omega) hr hn h9 h4).mono fun e w' => ret_of ?_ (by decide)
      unfold mayF; rw [if_neg h1, if_neg h2, if_neg h3, if_pos h9, if_pos h4]
    by_cases h5 : (nth l x.amt).kind = 9
    · refine (add_state9 B pa l x w h hB hv (by omega) hr hn h9 (by omega) h5).mono fun e w' => ret_of ?_ (by decide)
      unfold mayF; rw [if_neg h1, if_neg h2, if_neg h3, if_pos h9, if_neg h4, if_pos h5]
    by_cases h6 : revB l x.amt = true
    · refine (add_state B pa l x w h hB hv (by omega) hr hn h9 (by omega) h5 h6).mono fun e w' => ret_of ?_ (by decide)
      unfold mayF; rw [if_neg h1, if_neg h2, if_neg h3, if_pos h9, if_neg h4, if_neg h5, if_pos h6]
    have h6' : revB l x.amt = false := by simpa using h6
    by_cases h7 : (nth l x.amt).lot ≠ x.lot
    · refine (add_conflict B pa l x w h hB hv (by omega) hr hn h9 (by omega) h5 h6' h7).mono fun e w' => ret_of ?_ (by decide)
      unfold mayF; rw [if_neg h1, if_neg h2, if_neg h3, if_pos h9, if_neg h4, if_neg h5, if_neg h6, if_pos h7]
    have hm : mayF l x = excF l x := by unfold mayF; rw [if_neg h1, if_neg h2, if_neg h3, if_pos h9, if_neg h4, if_neg h5, if_neg h6, if_neg h7]
    have h7' : (nth l x.amt).lot = x.lot := by omega
    cases hok : (nextB l x).okB with
    | false =>
      refine (add_exceeded9 B pa l x w h hB hv (by omega) hr hn h9 (by omega) h5 h6' h7' hok).mono fun e w' => ret_of ?_ (by decide)
      rw [hm]; unfold excF; rw [if_neg (by simp [hok])]
    | true =>
      have h0 : mayF l x = 0 := by rw [hm]; unfold excF; rw [if_pos hok]
      exact (add_ok9 B pa l x w h hB hv (by omega) hr hn h9 (by omega) h5 h6' h7' hok).mono fun e w' ⟨a, b, c⟩ => ⟨by rw [a, h0], b, fun _ => c⟩
  · have hm : mayF l x = excF l x := by unfold mayF; rw [if_neg h1, if_neg h2, if_neg h3, if_neg h9]
    cases hok : (nextB l x).okB with
    | false =>
      refine (add_exceeded B pa l x w h hB hv (by omega) hr hn h9 hok).mono fun e w' => ret_of ?_ (by decide)
      rw [hm]; unfold excF; rw [if_neg (by simp [hok])]
    | true =>
      have h0 : mayF l x = 0 := by rw [hm]; unfold excF; rw [if_pos hok]
      exact (add_ok B pa l x w h hB hv (by omega) hr hn h9 hok).mono fun e w' ⟨a, b, c⟩ => ⟨by rw [a, h0], b, fun _ => c⟩
end Go.Proofs.Ytefphkefgfoklaa
