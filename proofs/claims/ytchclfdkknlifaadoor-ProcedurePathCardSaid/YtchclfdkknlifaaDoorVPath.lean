/- Contract of the reference's Path at every argument; the walk of the law ProcedurePath. -/
import Derived.Test.YtchclfdkknlifaaDoorWg
import Derived.Test.YtchclfdkknlifaaDoorWh
import Derived.Test.YtchclfdkknlifaaDoorWl
import Derived.Deep.QuietTactic
import Derived.BigQuiet
namespace Go.Proofs.YtchclfdkknlifaaDoor
open Go.RowKit
set_option linter.unusedVariables false

set_option maxRecDepth 100000 in
set_option maxHeartbeats 1000000 in
theorem refPath_out (f to : Int) (w : World) (h : ¬ (0 ≤ f ∧ f ≤ 13 ∧ 0 ≤ to ∧ to ≤ 13)) :
    Calls Tryd.prog 16 #[.int .i64 f, .int .i64 to] w (PathRet w (refPathF f to)) := by
  have hp : Hid (refPathF f to = none) := by show _ = _; unfold refPathF; rw [if_neg h]
  by_cases c0 : f < 0
  · clear h
    go_enter Tryd.func16, Tryd.ntmps16
    go_wp2
    go_ret2
    exact ⟨Below.refl _ _, by rw [hp.out]; rfl⟩
  · by_cases c1 : 13 < f
    · clear h
      go_enter Tryd.func16, Tryd.ntmps16
      go_wp2
      go_ret2
      exact ⟨Below.refl _ _, by rw [hp.out]; rfl⟩
    · by_cases c2 : to < 0
      · clear h
        go_enter Tryd.func16, Tryd.ntmps16
        go_wp2
        go_ret2
        exact ⟨Below.refl _ _, by rw [hp.out]; rfl⟩
      · have c3 : 13 < to := by omega
        clear h
        go_enter Tryd.func16, Tryd.ntmps16
        go_wp2
        go_ret2
        exact ⟨Below.refl _ _, by rw [hp.out]; rfl⟩
theorem refPath_any (f to : Int) (w : World) : Calls Tryd.prog 16 #[.int .i64 f, .int .i64 to] w (PathRet w (pathF f to)) := by
  rw [← path_same]
  by_cases h : 0 ≤ f ∧ f ≤ 13 ∧ 0 ≤ to ∧ to ≤ 13
  · exact refPath_in f to w h.1 h.2.1 h.2.2.1 h.2.2.2
  · exact refPath_out f to w h
theorem pathF_len_fin : ∀ f to : Fin 14, ((pathF f.1 to.1).getD []).length ≤ 14 := by decide +kernel
theorem pathF_len (f to : Int) : ((pathF f to).getD []).length ≤ 14 := by
  by_cases h : 0 ≤ f ∧ f ≤ 13 ∧ 0 ≤ to ∧ to ≤ 13
  · obtain ⟨m, rfl⟩ := Int.eq_ofNat_of_zero_le h.1
    obtain ⟨n, rfl⟩ := Int.eq_ofNat_of_zero_le h.2.2.1
    exact pathF_len_fin ⟨m, by omega⟩ ⟨n, by omega⟩
  · unfold pathF; rw [if_neg h]; simp
def LpRel (w : World) (n g : Nat) (i : Value) (wr : World) : Prop := ∃ k, k + g = n ∧ i = .int .i64 (k : Int) ∧ Below w.heap.size w wr
theorem below_drewN {B : Nat} {a w : World} (h : Below B a w) (n : Nat) : Below B a (w.drewN n) := ⟨h.os, h.tape, h.output, h.size, h.block⟩

set_option maxHeartbeats 2000000 in
theorem lawPath (f to : Int) (w : World) (ht : Tab w) :
    Calls Tryd.prog 4 #[.int .i64 f, .int .i64 to, .bool true] w fun e w' => e = .returned (.bool true) ∧ Below w.heap.size w w' := by
  have h1 := path_any f to w ht
  have h2 := fun w => refPath_any f to w
  have hlen := pathF_len f to
  cases hr : pathF f to with
  | none =>
    rw [hr] at h1 h2
    have H1 := Lib.hid h1
    have H2 := Lib.hid h2
    clear h1 h2 hr hlen
    go_enter Tryd.func4, Tryd.ntmps4
    go_wp2_with fail
    refine H1.out.mono ?_
    rintro e w1 ⟨hb1, rfl⟩
    have ht1 := ht.below hb1
    go_wp2_with fail
    refine (H2.out _).mono ?_
    rintro e w2 ⟨hb2, rfl⟩
    have ht2 := ht1.below hb2
    have hb12 := hb1.trans (hb2.mono hb1.size)
    go_wp2
    go_loopg [11] 0 (fun g i wr => LpRel w2 0 g i wr)
    case atStart => exact ⟨0, rfl, rfl, Below.refl _ _⟩
    case round =>
      obtain ⟨k, hk, rfl, hb3⟩ := hrel
      have hk0 : k ≤ 0 := by omega
      clear hk
      have ht3 := ht2.below hb3
      go_wp2_with (go_at_call 14; refine (awake_any _ ht3).mono ?_; rintro e w3 ⟨rfl, hb4⟩)
      go_ret
      have h13 := hb12.trans (hb3.mono hb12.size)
      exact ⟨rfl, h13.trans (hb4.mono h13.size)⟩
  | some l =>
    rw [hr] at h1 h2 hlen
    simp only [Option.getD_some] at hlen
    have H1 := Lib.hid h1
    have H2 := Lib.hid h2
    clear h1 h2 hr
    go_enter Tryd.func4, Tryd.ntmps4
    go_wp2_with fail
    refine H1.out.mono ?_
    rintro e w1 ⟨hb1, A, c, rfl, hrA⟩
    have ht1 := ht.below hb1
    go_wp2_with fail
    refine (H2.out _).mono ?_
    rintro e w2 ⟨hb2, B, d, rfl, hrB⟩
    have ht2 := ht1.below hb2
    have hrA2 := hrA.below hb2
    have hb12 := hb1.trans (hb2.mono hb1.size)
    go_wp2
    go_loopg [11] l.length (fun g i wr => LpRel w2 l.length g i wr)
    case atStart => exact ⟨0, by omega, rfl, Below.refl _ _⟩
    case round =>
      obtain ⟨k, hk, rfl, hb3⟩ := hrel
      have HK := Lib.hid hk
      have hk2 : k ≤ l.length := by omega
      clear hk
      by_cases hlt : k < l.length
      · obtain ⟨b, off, rfl, hc⟩ := (hrA2.below hb3).int hlt
        obtain ⟨b2, off2, rfl, hc2⟩ := (hrB.below hb3).int hlt
        generalize l[k]?.getD 0 = x at hc hc2
        go_wp2
        go_quiet (fail)
        go_wp2
        go_roundg (l.length - (k + 1))
        case measure => have := HK.out; omega
        case rel => exact ⟨k + 1, by omega, by go_num, below_drewN hb3 _⟩
      · have hge : l.length ≤ k := by omega
        clear hlt
        have ht3 := ht2.below hb3
        go_wp2_with (go_at_call 14; refine (awake_any _ ht3).mono ?_; rintro e w3 ⟨rfl, hb4⟩)
        go_ret
        have h13 := hb12.trans (hb3.mono hb12.size)
        exact ⟨rfl, h13.trans (hb4.mono h13.size)⟩
set_option maxHeartbeats 2000000 in
theorem lawPathF (f0 to0 : Int) (w : World) (ht : Tab w) :
    Calls Tryd.prog 4 #[.int .i64 f0, .int .i64 to0, .bool false] w fun e w' => e = .returned (.bool true) ∧ Below w.heap.size w w' := by
  have HW1 := Lib.hid (fun w => within_any f0 14 w (by omega) (by omega))
  have HW2 := Lib.hid (fun w => within_any to0 14 w (by omega) (by omega))
  generalize f0 % 14 = f at *
  generalize to0 % 14 = to at *
  have h1 := path_any f to w ht
  have h2 := fun w => refPath_any f to w
  have hlen := pathF_len f to
  cases hr : pathF f to with
  | none =>
    rw [hr] at h1 h2
    have H1 := Lib.hid h1
    have H2 := Lib.hid h2
    clear h1 h2 hr hlen
    go_enter Tryd.func4, Tryd.ntmps4
    go_wp2_with fail
    refine (HW1.out _).mono ?_
    rintro e w' ⟨rfl, rfl⟩
    go_wp2_with fail
    refine (HW2.out _).mono ?_
    rintro e w' ⟨rfl, rfl⟩
    go_wp2_with fail
    refine H1.out.mono ?_
    rintro e w1 ⟨hb1, rfl⟩
    have ht1 := ht.below hb1
    go_wp2_with fail
    refine (H2.out _).mono ?_
    rintro e w2 ⟨hb2, rfl⟩
    have ht2 := ht1.below hb2
    have hb12 := hb1.trans (hb2.mono hb1.size)
    go_wp2
    go_loopg [11] 0 (fun g i wr => LpRel w2 0 g i wr)
    case atStart => exact ⟨0, rfl, rfl, Below.refl _ _⟩
    case round =>
      obtain ⟨k, hk, rfl, hb3⟩ := hrel
      have hk0 : k ≤ 0 := by omega
      clear hk
      have ht3 := ht2.below hb3
      go_wp2_with (go_at_call 14; refine (awake_any _ ht3).mono ?_; rintro e w3 ⟨rfl, hb4⟩)
      go_ret
      have h13 := hb12.trans (hb3.mono hb12.size)
      exact ⟨rfl, h13.trans (hb4.mono h13.size)⟩
  | some l =>
    rw [hr] at h1 h2 hlen
    simp only [Option.getD_some] at hlen
    have H1 := Lib.hid h1
    have H2 := Lib.hid h2
    clear h1 h2 hr
    go_enter Tryd.func4, Tryd.ntmps4
    go_wp2_with fail
    refine (HW1.out _).mono ?_
    rintro e w' ⟨rfl, rfl⟩
    go_wp2_with fail
    refine (HW2.out _).mono ?_
    rintro e w' ⟨rfl, rfl⟩
    go_wp2_with fail
    refine H1.out.mono ?_
    rintro e w1 ⟨hb1, A, c, rfl, hrA⟩
    have ht1 := ht.below hb1
    go_wp2_with fail
    refine (H2.out _).mono ?_
    rintro e w2 ⟨hb2, B, d, rfl, hrB⟩
    have ht2 := ht1.below hb2
    have hrA2 := hrA.below hb2
    have hb12 := hb1.trans (hb2.mono hb1.size)
    go_wp2
    go_loopg [11] l.length (fun g i wr => LpRel w2 l.length g i wr)
    case atStart => exact ⟨0, by omega, rfl, Below.refl _ _⟩
    case round =>
      obtain ⟨k, hk, rfl, hb3⟩ := hrel
      have HK := Lib.hid hk
      have hk2 : k ≤ l.length := by omega
      clear hk
      by_cases hlt : k < l.length
      · obtain ⟨b, off, rfl, hc⟩ := (hrA2.below hb3).int hlt
        obtain ⟨b2, off2, rfl, hc2⟩ := (hrB.below hb3).int hlt
        generalize l[k]?.getD 0 = x at hc hc2
        go_wp2
        go_quiet (fail)
        go_wp2
        go_roundg (l.length - (k + 1))
        case measure => have := HK.out; omega
        case rel => exact ⟨k + 1, by omega, by go_num, below_drewN hb3 _⟩
      · have hge : l.length ≤ k := by omega
        clear hlt
        have ht3 := ht2.below hb3
        go_wp2_with (go_at_call 14; refine (awake_any _ ht3).mono ?_; rintro e w3 ⟨rfl, hb4⟩)
        go_ret
        have h13 := hb12.trans (hb3.mono hb12.size)
        exact ⟨rfl, h13.trans (hb4.mono h13.size)⟩
namespace procedurePath
theorem walkProcedurePath (p a : Int) (raw : Bool) (w : World) (_ : -9223372036854775808 ≤ p ∧ p ≤ 9223372036854775807) (_ : -9223372036854775808 ≤ a ∧ a ≤ 9223372036854775807) (hL : laidMetH Tryd.prog Rows.procedurePathRow.laid w) :
    Calls Tryd.prog 4 #[.int .i64 p, .int .i64 a, .bool raw] w fun e w' => e = .returned (.bool true) ∧ Below w.heap.size w w' := by
  cases raw
  · exact lawPathF p a w (tab_of_laid hL)
  · exact lawPath p a w (tab_of_laid hL)
end procedurePath
end Go.Proofs.YtchclfdkknlifaaDoor
