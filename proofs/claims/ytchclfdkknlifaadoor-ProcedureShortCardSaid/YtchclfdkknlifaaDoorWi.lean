/- Contracts of Run and of its reference. -/
import Derived.Test.YtchclfdkknlifaaDoorWb
import Derived.Test.YtchclfdkknlifaaDoorWc
import Derived.Test.YtchclfdkknlifaaDoorFrame
import Derived.Deep.LoopGhost
namespace Go.Proofs.YtchclfdkknlifaaDoor
open Go.RowKit

/-- Run from the i-th action on -/
def runF : Int → List Int → Nat → Int × Nat
  | p, [], i => (p, i)
  | p, a :: l, i => if (nextF p a).2 = 0 then runF (nextF p a).1 l (i + 1) else (p, i)
theorem runF_end {p : Int} {l : List Int} {k : Nat} (h : k = l.length) : runF p (l.drop k) k = (p, l.length) := by
  subst h; simp [runF]
theorem runF_ok {p : Int} {l : List Int} {k : Nat} (h : k < l.length) (h2 : (nextF p (l[k]?.getD 0)).2 = 0) : runF p (l.drop k) k = runF (nextF p (l[k]?.getD 0)).1 (l.drop (k + 1)) (k + 1) := by
  rw [List.drop_eq_getElem_cons h]
  simp only [List.getElem?_eq_getElem h, Option.getD_some] at h2 ⊢
  simp [runF, h2]
theorem runF_no {p : Int} {l : List Int} {k : Nat} (h : k < l.length) (h2 : ¬ (nextF p (l[k]?.getD 0)).2 = 0) : runF p (l.drop k) k = (p, k) := by
  rw [List.drop_eq_getElem_cons h]
  simp only [List.getElem?_eq_getElem h, Option.getD_some] at h2
  simp [runF, h2]

def runRel (w : World) (p0 : Int) (l : List Int) (g : Nat) (i p : Value) (wr : World) : Prop :=
  ∃ k x, k + g = l.length ∧ i = .int .i64 (k : Int) ∧ p = .int .i64 x ∧ runF x (l.drop k) k = runF p0 l 0 ∧ Below w.heap.size w wr
set_option maxHeartbeats 1000000 in
theorem run_any (p : Int) (A : Option Addr) (c : Nat) (l : List Int) (w : World) (ht : Tab w) (hs : Rd w A (ints l)) (hl : l.length ≤ 17592186044416) :
    Calls Tryd.prog 18 #[.int .i64 p, .slice A l.length c] w fun e w' => e = .returned (.tuple #[.int .i64 (runF p l 0).1, .int .i64 ((runF p l 0).2 : Int)]) ∧ Below w.heap.size w w' := by
  go_enter Tryd.func18, Tryd.ntmps18
  go_wp2
  go_loopg [12, 0] l.length (fun g i q wr => runRel w p l g i q wr)
  case atStart => exact ⟨0, p, by omega, rfl, rfl, rfl, Below.refl _ _⟩
  case round =>
    obtain ⟨k, x, hk, rfl, rfl, hr, hb⟩ := hrel
    have HK := Lib.hid hk
    have hk2 : k ≤ l.length := by omega
    have HR := Lib.hid hr
    clear hk hr
    by_cases hlt : k < l.length
    · obtain ⟨b, off, rfl, hc⟩ := (hs.below hb).int hlt
      have hn := next_any x (l[k]?.getD 0) wr (ht.below hb)
      have H1 := Lib.hid (runF_ok (p := x) hlt)
      have H2 := Lib.hid (runF_no (p := x) hlt)
      obtain ⟨a, ha⟩ : ∃ a, a = l[k]?.getD 0 := ⟨_, rfl⟩
      have H1' : Hid ((nextF x a).2 = 0 → runF x (l.drop k) k = runF (nextF x a).1 (l.drop (k + 1)) (k + 1)) := by rw [ha]; exact H1.out
      have H2' : Hid (¬ (nextF x a).2 = 0 → runF x (l.drop k) k = (x, k)) := by rw [ha]; exact H2.out
      rw [← ha] at hc hn
      clear ha H1 H2
      obtain ⟨r1, hr1⟩ : ∃ y, y = (nextF x a).1 := ⟨_, rfl⟩
      obtain ⟨r2, hr2⟩ : ∃ y, y = (nextF x a).2 := ⟨_, rfl⟩
      rw [← hr1, ← hr2] at hn
      have HN := Lib.hid hn
      have H3 : Hid (r2 = 0 → runF x (l.drop k) k = runF r1 (l.drop (k + 1)) (k + 1)) := by rw [hr1, hr2]; exact H1'.out
      have H4 : Hid (¬ r2 = 0 → runF x (l.drop k) k = (x, k)) := by rw [hr2]; exact H2'.out
      clear hn hr1 hr2 H1' H2'
      by_cases he : r2 = 0
      · have hz : (r2 != 0) = false := by simpa using he
        have H5 := Lib.hid (H3.out he)
        clear he H3 H4
        go_wp2_with (go_at_call 10; refine (HN.out).mono ?_; rintro e w1 ⟨rfl, hbw⟩)
        go_roundg (l.length - (k + 1))
        case measure => have := HK.out; omega
        case rel => exact ⟨k + 1, r1, by omega, by go_num, rfl, H5.out.symm.trans HR.out, hb.trans (hbw.mono hb.size)⟩
      · have hz : (r2 != 0) = true := by simpa using he
        have H5 := Lib.hid (H4.out he)
        clear he H3 H4
        go_wp2_with (go_at_call 10; refine (HN.out).mono ?_; rintro e w1 ⟨rfl, hbw⟩)
        go_ret2
        exact ⟨by rw [← HR.out, H5.out]; rfl, hb.trans (hbw.mono hb.size)⟩
    · have hge : l.length ≤ k := by omega
      clear hlt
      go_wp2
      go_ret2
      have e : k = l.length := by omega
      exact ⟨by rw [← HR.out, runF_end e]; rfl, hb⟩

def refRunRel (w : World) (p0 : Int) (l : List Int) (g : Nat) (i p : Value) (wr : World) : Prop :=
  ∃ k x, k + g = l.length ∧ i = .int .i64 (k : Int) ∧ p = .int .i64 x ∧ runF x (l.drop k) k = runF p0 l 0 ∧ Below w.heap.size w wr
set_option maxHeartbeats 1000000 in
theorem refRun_any (p : Int) (A : Option Addr) (c : Nat) (l : List Int) (w : World) (hs : Rd w A (ints l)) (hl : l.length ≤ 17592186044416) :
    Calls Tryd.prog 19 #[.int .i64 p, .slice A l.length c] w fun e w' => e = .returned (.tuple #[.int .i64 (runF p l 0).1, .int .i64 ((runF p l 0).2 : Int)]) ∧ Below w.heap.size w w' := by
  go_enter Tryd.func19, Tryd.ntmps19
  go_wp2
  go_loopg [6, 0] l.length (fun g i q wr => refRunRel w p l g i q wr)
  case atStart => exact ⟨0, p, by omega, rfl, rfl, rfl, Below.refl _ _⟩
  case round =>
    obtain ⟨k, x, hk, rfl, rfl, hr, hb⟩ := hrel
    have HK := Lib.hid hk
    have hk2 : k ≤ l.length := by omega
    have HR := Lib.hid hr
    clear hk hr
    by_cases hlt : k < l.length
    · obtain ⟨b, off, rfl, hc⟩ := (hs.below hb).int hlt
      have hn := refNext_any x (l[k]?.getD 0) wr
      have H1 := Lib.hid (runF_ok (p := x) hlt)
      have H2 := Lib.hid (runF_no (p := x) hlt)
      obtain ⟨a, ha⟩ : ∃ a, a = l[k]?.getD 0 := ⟨_, rfl⟩
      have H1' : Hid ((nextF x a).2 = 0 → runF x (l.drop k) k = runF (nextF x a).1 (l.drop (k + 1)) (k + 1)) := by rw [ha]; exact H1.out
      have H2' : Hid (¬ (nextF x a).2 = 0 → runF x (l.drop k) k = (x, k)) := by rw [ha]; exact H2.out
      rw [← ha] at hc hn
      clear ha H1 H2
      obtain ⟨r1, hr1⟩ : ∃ y, y = (nextF x a).1 := ⟨_, rfl⟩
      obtain ⟨r2, hr2⟩ : ∃ y, y = (nextF x a).2 := ⟨_, rfl⟩
      rw [← hr1, ← hr2] at hn
      have HN := Lib.hid hn
      have H3 : Hid (r2 = 0 → runF x (l.drop k) k = runF r1 (l.drop (k + 1)) (k + 1)) := by rw [hr1, hr2]; exact H1'.out
      have H4 : Hid (¬ r2 = 0 → runF x (l.drop k) k = (x, k)) := by rw [hr2]; exact H2'.out
      clear hn hr1 hr2 H1' H2'
      by_cases he : r2 = 0
      · have hz : (r2 != 0) = false := by simpa using he
        have H5 := Lib.hid (H3.out he)
        clear he H3 H4
        go_wp2_with (go_at_call 11; refine (HN.out).mono ?_; rintro e w1 ⟨rfl, rfl⟩)
        go_roundg (l.length - (k + 1))
        case measure => have := HK.out; omega
        case rel => exact ⟨k + 1, r1, by omega, by go_num, rfl, H5.out.symm.trans HR.out, hb⟩
      · have hz : (r2 != 0) = true := by simpa using he
        have H5 := Lib.hid (H4.out he)
        clear he H3 H4
        go_wp2_with (go_at_call 11; refine (HN.out).mono ?_; rintro e w1 ⟨rfl, rfl⟩)
        go_ret2
        exact ⟨by rw [← HR.out, H5.out]; rfl, hb⟩
    · have hge : l.length ≤ k := by omega
      clear hlt
      go_wp2
      go_ret2
      have e : k = l.length := by omega
      exact ⟨by rw [← HR.out, runF_end e]; rfl, hb⟩

end Go.Proofs.YtchclfdkknlifaaDoor
