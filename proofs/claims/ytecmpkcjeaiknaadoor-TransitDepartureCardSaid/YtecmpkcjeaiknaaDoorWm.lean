/- Contracts of procedure.Deadline and of its reference, over the calendar's own. -/


import Derived.Test.YtecmpkcjeaiknaaDoorCi
namespace Go.Proofs.YtecmpkcjeaiknaaDoor
open Go.RowKit
set_option linter.unusedVariables false

/-- the months and days of a procedure -/
def termF (p : Int) : Option (Int × Int) := if p = 1 then some (0, 90) else if p = 2 then some (0, 8) else if p = 4 then some (6, 0) else if p = 5 then some (24, 0) else if p = 7 then some (12, 0) else none
def pdF (l : List Int) (p d : Int) : Int × Bool := match termF p with
  | none => (0, false)
  | some (m, n) => ((Cal.dlF l d m n 0).1, (Cal.dlF l d m n 0).2 == 0)
theorem nwS_no (l : List Int) : ∀ (f : Nat) (d : Int), (Cal.nwS l f d).2 ≠ 0 → (Cal.nwS l f d).1 = 0
  | 0, d, h => rfl
  | f + 1, d, h => by
    unfold Cal.nwS at h ⊢
    by_cases c : Cal.workB l d = true
    · rw [if_pos c] at h; exact absurd rfl h
    · rw [if_neg c] at h ⊢; exact nwS_no l f _ h
set_option maxRecDepth 100000 in
theorem nwF_no {l : List Int} {d : Int} (h : (Cal.nwF l d).2 ≠ 0) : (Cal.nwF l d).1 = 0 := by
  unfold Cal.nwF at h ⊢
  by_cases c : Cal.validE l ≠ 0
  · rw [if_pos c]
  · rw [if_neg c] at h ⊢
    by_cases c2 : Cal.dayB d = false
    · rw [if_pos c2]
    · rw [if_neg c2] at h ⊢; exact nwS_no _ _ _ h
set_option maxRecDepth 100000 in
theorem dlF_no {l : List Int} {n m d k : Int} (h : (Cal.dlF l n m d k).2 ≠ 0) : (Cal.dlF l n m d k).1 = 0 := by
  unfold Cal.dlF at h ⊢
  by_cases c : Cal.validE l ≠ 0
  · rw [if_pos c]
  · rw [if_neg c] at h ⊢
    by_cases c2 : Cal.dayB n = true ∧ Cal.TermOk m d k
    · rw [if_pos c2] at h ⊢
      unfold Cal.dlG at h ⊢
      by_cases c3 : Cal.amE n m ≠ 0
      · rw [if_pos c3]
      · rw [if_neg c3] at h ⊢
        by_cases c4 : Cal.dayB (Cal.amV n m + d) = false
        · rw [if_pos c4]
        · rw [if_neg c4] at h ⊢
          by_cases c5 : (Cal.awF l (Cal.amV n m + d) k).2 ≠ 0
          · rw [if_pos c5]
          · rw [if_neg c5] at h ⊢; exact nwF_no h
    · rw [if_neg c2]
theorem termF_none {p : Int} (h1 : ¬ p = 1) (h2 : ¬ p = 2) (h4 : ¬ p = 4) (h5 : ¬ p = 5) (h7 : ¬ p = 7) : termF p = none := by
  unfold termF; rw [if_neg h1, if_neg h2, if_neg h4, if_neg h5, if_neg h7]

set_option maxRecDepth 100000 in
set_option maxHeartbeats 4000000 in
theorem pDeadline_any (A : Option Addr) (c : Nat) (l : List Int) (p d : Int) (w : World) (ht : Cal.MTab w) (hs : Rd w A (ints l)) (hl : l.length ≤ 17592186044416) :
    Calls Tryd.prog 21 #[.int .i64 p, .int .i64 d, .slice A l.length c] w fun e w' => e = .returned (.tuple #[.int .i64 (pdF l p d).1, .bool (pdF l p d).2]) ∧ Below w.heap.size w w' := by
  by_cases hany : p = 1 ∨ p = 2 ∨ p = 4 ∨ p = 5 ∨ p = 7
  · rcases hany with rfl | rfl | rfl | rfl | rfl
    · skip
      have HD := fun W (hb : Below w.heap.size w W) => Cal.deadline_any A c l d 0 90 0 W (ht.below hb) (hs.below hb) hl
      have HE : Hid (pdF l 1 d = ((Cal.dlF l d 0 90 0).1, (Cal.dlF l d 0 90 0).2 == 0)) := rfl
      have HN := Lib.hid (dlF_no (l := l) (n := d) (m := 0) (d := 90) (k := 0))
      generalize Cal.dlF l d 0 90 0 = R at HD HE HN
      obtain ⟨r, e0⟩ := R
      have HD := Lib.hid HD
      have q0 := (Below.refl w.heap.size w).alloc (Nat.le_refl _) (.cells #[.int .i64 0, .int .i64 90, .int .i64 0] 52)
      by_cases h0 : e0 = 0
      · subst h0
        go_enter Tryd.func21, Tryd.ntmps21
        go_wp2_with fail
        refine (HD.out _ q0).mono ?_
        rintro e w1 ⟨rfl, hb1⟩
        go_wp2
        go_ret2
        exact ⟨by rw [HE.out]; rfl, q0.trans (hb1.mono q0.size)⟩
      · have hr : r = 0 := HN.out h0
        subst hr
        have hne : (e0 != 0) = true := by simpa using h0
        have HZ : Hid ((e0 == 0) = false) := by show _ = _; simpa using h0
        clear h0
        go_enter Tryd.func21, Tryd.ntmps21
        go_wp2_with fail
        refine (HD.out _ q0).mono ?_
        rintro e w1 ⟨rfl, hb1⟩
        go_wp2
        go_ret2
        exact ⟨by rw [HE.out]; show _ = Ending.returned (.tuple #[.int .i64 0, .bool (e0 == 0)]); rw [HZ.out]; rfl, q0.trans (hb1.mono q0.size)⟩
    · skip
      have HD := fun W (hb : Below w.heap.size w W) => Cal.deadline_any A c l d 0 8 0 W (ht.below hb) (hs.below hb) hl
      have HE : Hid (pdF l 2 d = ((Cal.dlF l d 0 8 0).1, (Cal.dlF l d 0 8 0).2 == 0)) := rfl
      have HN := Lib.hid (dlF_no (l := l) (n := d) (m := 0) (d := 8) (k := 0))
      generalize Cal.dlF l d 0 8 0 = R at HD HE HN
      obtain ⟨r, e0⟩ := R
      have HD := Lib.hid HD
      have q0 := (Below.refl w.heap.size w).alloc (Nat.le_refl _) (.cells #[.int .i64 0, .int .i64 8, .int .i64 0] 52)
      by_cases h0 : e0 = 0
      · subst h0
        go_enter Tryd.func21, Tryd.ntmps21
        go_wp2_with fail
        refine (HD.out _ q0).mono ?_
        rintro e w1 ⟨rfl, hb1⟩
        go_wp2
        go_ret2
        exact ⟨by rw [HE.out]; rfl, q0.trans (hb1.mono q0.size)⟩
      · have hr : r = 0 := HN.out h0
        subst hr
        have hne : (e0 != 0) = true := by simpa using h0
        have HZ : Hid ((e0 == 0) = false) := by show _ = _; simpa using h0
        clear h0
        go_enter Tryd.func21, Tryd.ntmps21
        go_wp2_with fail
        refine (HD.out _ q0).mono ?_
        rintro e w1 ⟨rfl, hb1⟩
        go_wp2
        go_ret2
        exact ⟨by rw [HE.out]; show _ = Ending.returned (.tuple #[.int .i64 0, .bool (e0 == 0)]); rw [HZ.out]; rfl, q0.trans (hb1.mono q0.size)⟩
    · skip
      have HD := fun W (hb : Below w.heap.size w W) => Cal.deadline_any A c l d 6 0 0 W (ht.below hb) (hs.below hb) hl
      have HE : Hid (pdF l 4 d = ((Cal.dlF l d 6 0 0).1, (Cal.dlF l d 6 0 0).2 == 0)) := rfl
      have HN := Lib.hid (dlF_no (l := l) (n := d) (m := 6) (d := 0) (k := 0))
      generalize Cal.dlF l d 6 0 0 = R at HD HE HN
      obtain ⟨r, e0⟩ := R
      have HD := Lib.hid HD
      have q0 := (Below.refl w.heap.size w).alloc (Nat.le_refl _) (.cells #[.int .i64 6, .int .i64 0, .int .i64 0] 52)
      by_cases h0 : e0 = 0
      · subst h0
        go_enter Tryd.func21, Tryd.ntmps21
        go_wp2_with fail
        refine (HD.out _ q0).mono ?_
        rintro e w1 ⟨rfl, hb1⟩
        go_wp2
        go_ret2
        exact ⟨by rw [HE.out]; rfl, q0.trans (hb1.mono q0.size)⟩
      · have hr : r = 0 := HN.out h0
        subst hr
        have hne : (e0 != 0) = true := by simpa using h0
        have HZ : Hid ((e0 == 0) = false) := by show _ = _; simpa using h0
        clear h0
        go_enter Tryd.func21, Tryd.ntmps21
        go_wp2_with fail
        refine (HD.out _ q0).mono ?_
        rintro e w1 ⟨rfl, hb1⟩
        go_wp2
        go_ret2
        exact ⟨by rw [HE.out]; show _ = Ending.returned (.tuple #[.int .i64 0, .bool (e0 == 0)]); rw [HZ.out]; rfl, q0.trans (hb1.mono q0.size)⟩
    · skip
      have HD := fun W (hb : Below w.heap.size w W) => Cal.deadline_any A c l d 24 0 0 W (ht.below hb) (hs.below hb) hl
      have HE : Hid (pdF l 5 d = ((Cal.dlF l d 24 0 0).1, (Cal.dlF l d 24 0 0).2 == 0)) := rfl
      have HN := Lib.hid (dlF_no (l := l) (n := d) (m := 24) (d := 0) (k := 0))
      generalize Cal.dlF l d 24 0 0 = R at HD HE HN
      obtain ⟨r, e0⟩ := R
      have HD := Lib.hid HD
      have q0 := (Below.refl w.heap.size w).alloc (Nat.le_refl _) (.cells #[.int .i64 24, .int .i64 0, .int .i64 0] 52)
      by_cases h0 : e0 = 0
      · subst h0
        go_enter Tryd.func21, Tryd.ntmps21
        go_wp2_with fail
        refine (HD.out _ q0).mono ?_
        rintro e w1 ⟨rfl, hb1⟩
        go_wp2
        go_ret2
        exact ⟨by rw [HE.out]; rfl, q0.trans (hb1.mono q0.size)⟩
      · have hr : r = 0 := HN.out h0
        subst hr
        have hne : (e0 != 0) = true := by simpa using h0
        have HZ : Hid ((e0 == 0) = false) := by show _ = _; simpa using h0
        clear h0
        go_enter Tryd.func21, Tryd.ntmps21
        go_wp2_with fail
        refine (HD.out _ q0).mono ?_
        rintro e w1 ⟨rfl, hb1⟩
        go_wp2
        go_ret2
        exact ⟨by rw [HE.out]; show _ = Ending.returned (.tuple #[.int .i64 0, .bool (e0 == 0)]); rw [HZ.out]; rfl, q0.trans (hb1.mono q0.size)⟩
    · skip
      have HD := fun W (hb : Below w.heap.size w W) => Cal.deadline_any A c l d 12 0 0 W (ht.below hb) (hs.below hb) hl
      have HE : Hid (pdF l 7 d = ((Cal.dlF l d 12 0 0).1, (Cal.dlF l d 12 0 0).2 == 0)) := rfl
      have HN := Lib.hid (dlF_no (l := l) (n := d) (m := 12) (d := 0) (k := 0))
      generalize Cal.dlF l d 12 0 0 = R at HD HE HN
      obtain ⟨r, e0⟩ := R
      have HD := Lib.hid HD
      have q0 := (Below.refl w.heap.size w).alloc (Nat.le_refl _) (.cells #[.int .i64 12, .int .i64 0, .int .i64 0] 52)
      by_cases h0 : e0 = 0
      · subst h0
        go_enter Tryd.func21, Tryd.ntmps21
        go_wp2_with fail
        refine (HD.out _ q0).mono ?_
        rintro e w1 ⟨rfl, hb1⟩
        go_wp2
        go_ret2
        exact ⟨by rw [HE.out]; rfl, q0.trans (hb1.mono q0.size)⟩
      · have hr : r = 0 := HN.out h0
        subst hr
        have hne : (e0 != 0) = true := by simpa using h0
        have HZ : Hid ((e0 == 0) = false) := by show _ = _; simpa using h0
        clear h0
        go_enter Tryd.func21, Tryd.ntmps21
        go_wp2_with fail
        refine (HD.out _ q0).mono ?_
        rintro e w1 ⟨rfl, hb1⟩
        go_wp2
        go_ret2
        exact ⟨by rw [HE.out]; show _ = Ending.returned (.tuple #[.int .i64 0, .bool (e0 == 0)]); rw [HZ.out]; rfl, q0.trans (hb1.mono q0.size)⟩
  · have h1 : (p == 1) = false := by simp; omega
    have h2 : (p == 2) = false := by simp; omega
    have h4 : (p == 4) = false := by simp; omega
    have h5 : (p == 5) = false := by simp; omega
    have h7 : (p == 7) = false := by simp; omega
    have HE : Hid (pdF l p d = (0, false)) := by show _ = _; unfold pdF; rw [termF_none (by omega) (by omega) (by omega) (by omega) (by omega)]
    have q0 := fun o => (Below.refl w.heap.size w).alloc (Nat.le_refl _) o
    clear hany
    go_enter Tryd.func21, Tryd.ntmps21
    go_wp2
    go_ret2
    exact ⟨by rw [HE.out]; rfl, q0 _⟩
set_option maxRecDepth 100000 in
set_option maxHeartbeats 4000000 in
theorem refPDeadline_any (A : Option Addr) (c : Nat) (l : List Int) (p d : Int) (w : World) (hs : Rd w A (ints l)) (hl : l.length ≤ 17592186044416) :
    Calls Tryd.prog 22 #[.int .i64 p, .int .i64 d, .slice A l.length c] w fun e w' => e = .returned (.tuple #[.int .i64 (pdF l p d).1, .bool (pdF l p d).2]) ∧ Below w.heap.size w w' := by
  by_cases hany : p = 1 ∨ p = 2 ∨ p = 4 ∨ p = 5 ∨ p = 7
  · rcases hany with rfl | rfl | rfl | rfl | rfl
    · skip
      have HD := fun W (hb : Below w.heap.size w W) => Cal.refDeadline_any A c l d 0 90 0 W (hs.below hb) hl
      have HE : Hid (pdF l 1 d = ((Cal.dlF l d 0 90 0).1, (Cal.dlF l d 0 90 0).2 == 0)) := rfl
      have HN := Lib.hid (dlF_no (l := l) (n := d) (m := 0) (d := 90) (k := 0))
      generalize Cal.dlF l d 0 90 0 = R at HD HE HN
      obtain ⟨r, e0⟩ := R
      have HD := Lib.hid HD
      have q0 := (Below.refl w.heap.size w).alloc (Nat.le_refl _) (.cells #[.int .i64 0, .int .i64 90, .int .i64 0] 52)
      go_enter Tryd.func22, Tryd.ntmps22
      go_wp2_with fail
      refine (HD.out _ q0).mono ?_
      rintro e w1 ⟨rfl, hb1⟩
      go_wp2
      go_ret2
      exact ⟨by rw [HE.out]; rfl, q0.trans (hb1.mono q0.size)⟩
    · skip
      have HD := fun W (hb : Below w.heap.size w W) => Cal.refDeadline_any A c l d 0 8 0 W (hs.below hb) hl
      have HE : Hid (pdF l 2 d = ((Cal.dlF l d 0 8 0).1, (Cal.dlF l d 0 8 0).2 == 0)) := rfl
      have HN := Lib.hid (dlF_no (l := l) (n := d) (m := 0) (d := 8) (k := 0))
      generalize Cal.dlF l d 0 8 0 = R at HD HE HN
      obtain ⟨r, e0⟩ := R
      have HD := Lib.hid HD
      have q0 := (Below.refl w.heap.size w).alloc (Nat.le_refl _) (.cells #[.int .i64 0, .int .i64 8, .int .i64 0] 52)
      go_enter Tryd.func22, Tryd.ntmps22
      go_wp2_with fail
      refine (HD.out _ q0).mono ?_
      rintro e w1 ⟨rfl, hb1⟩
      go_wp2
      go_ret2
      exact ⟨by rw [HE.out]; rfl, q0.trans (hb1.mono q0.size)⟩
    · skip
      have HD := fun W (hb : Below w.heap.size w W) => Cal.refDeadline_any A c l d 6 0 0 W (hs.below hb) hl
      have HE : Hid (pdF l 4 d = ((Cal.dlF l d 6 0 0).1, (Cal.dlF l d 6 0 0).2 == 0)) := rfl
      have HN := Lib.hid (dlF_no (l := l) (n := d) (m := 6) (d := 0) (k := 0))
      generalize Cal.dlF l d 6 0 0 = R at HD HE HN
      obtain ⟨r, e0⟩ := R
      have HD := Lib.hid HD
      have q0 := (Below.refl w.heap.size w).alloc (Nat.le_refl _) (.cells #[.int .i64 6, .int .i64 0, .int .i64 0] 52)
      go_enter Tryd.func22, Tryd.ntmps22
      go_wp2_with fail
      refine (HD.out _ q0).mono ?_
      rintro e w1 ⟨rfl, hb1⟩
      go_wp2
      go_ret2
      exact ⟨by rw [HE.out]; rfl, q0.trans (hb1.mono q0.size)⟩
    · skip
      have HD := fun W (hb : Below w.heap.size w W) => Cal.refDeadline_any A c l d 24 0 0 W (hs.below hb) hl
      have HE : Hid (pdF l 5 d = ((Cal.dlF l d 24 0 0).1, (Cal.dlF l d 24 0 0).2 == 0)) := rfl
      have HN := Lib.hid (dlF_no (l := l) (n := d) (m := 24) (d := 0) (k := 0))
      generalize Cal.dlF l d 24 0 0 = R at HD HE HN
      obtain ⟨r, e0⟩ := R
      have HD := Lib.hid HD
      have q0 := (Below.refl w.heap.size w).alloc (Nat.le_refl _) (.cells #[.int .i64 24, .int .i64 0, .int .i64 0] 52)
      go_enter Tryd.func22, Tryd.ntmps22
      go_wp2_with fail
      refine (HD.out _ q0).mono ?_
      rintro e w1 ⟨rfl, hb1⟩
      go_wp2
      go_ret2
      exact ⟨by rw [HE.out]; rfl, q0.trans (hb1.mono q0.size)⟩
    · skip
      have HD := fun W (hb : Below w.heap.size w W) => Cal.refDeadline_any A c l d 12 0 0 W (hs.below hb) hl
      have HE : Hid (pdF l 7 d = ((Cal.dlF l d 12 0 0).1, (Cal.dlF l d 12 0 0).2 == 0)) := rfl
      have HN := Lib.hid (dlF_no (l := l) (n := d) (m := 12) (d := 0) (k := 0))
      generalize Cal.dlF l d 12 0 0 = R at HD HE HN
      obtain ⟨r, e0⟩ := R
      have HD := Lib.hid HD
      have q0 := (Below.refl w.heap.size w).alloc (Nat.le_refl _) (.cells #[.int .i64 12, .int .i64 0, .int .i64 0] 52)
      go_enter Tryd.func22, Tryd.ntmps22
      go_wp2_with fail
      refine (HD.out _ q0).mono ?_
      rintro e w1 ⟨rfl, hb1⟩
      go_wp2
      go_ret2
      exact ⟨by rw [HE.out]; rfl, q0.trans (hb1.mono q0.size)⟩
  · have h1 : (p == 1) = false := by simp; omega
    have h2 : (p == 2) = false := by simp; omega
    have h4 : (p == 4) = false := by simp; omega
    have h5 : (p == 5) = false := by simp; omega
    have h7 : (p == 7) = false := by simp; omega
    have HE : Hid (pdF l p d = (0, false)) := by show _ = _; unfold pdF; rw [termF_none (by omega) (by omega) (by omega) (by omega) (by omega)]
    have q0 := fun o => (Below.refl w.heap.size w).alloc (Nat.le_refl _) o
    clear hany
    go_enter Tryd.func22, Tryd.ntmps22
    go_wp2
    go_ret2
    exact ⟨by rw [HE.out]; rfl, q0 _⟩
end Go.Proofs.YtecmpkcjeaiknaaDoor
