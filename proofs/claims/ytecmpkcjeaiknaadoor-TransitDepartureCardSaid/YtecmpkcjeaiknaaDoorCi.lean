/- Contracts of Deadline, of the program and of its reference. -/
import Derived.Test.YtecmpkcjeaiknaaDoorCe
import Derived.Test.YtecmpkcjeaiknaaDoorCh
namespace Go.Proofs.YtecmpkcjeaiknaaDoor.Cal
open Go.RowKit
set_option linter.unusedVariables false

def TermOk (m d k : Int) : Prop := 0 ≤ m ∧ m ≤ 1000 ∧ 0 ≤ d ∧ d ≤ 1000 ∧ 0 ≤ k ∧ k ≤ 1000
instance (m d k : Int) : Decidable (TermOk m d k) := by unfold TermOk; infer_instance
/-- what Deadline returns for valid holidays, a day and a valid term -/
def dlG (l : List Int) (n m d k : Int) : Int × Int :=
  if amE n m ≠ 0 then (0, 3) else if dayB (amV n m + d) = false then (0, 3) else if (awF l (amV n m + d) k).2 ≠ 0 then (0, (awF l (amV n m + d) k).2) else nwF l (awF l (amV n m + d) k).1
def dlF (l : List Int) (n m d k : Int) : Int × Int :=
  if validE l ≠ 0 then (0, validE l) else if dayB n = true ∧ TermOk m d k then dlG l n m d k else (0, 2)
set_option maxRecDepth 100000 in
theorem amE_three {n m : Int} (hn : dayB n = true) (h0 : 0 ≤ m) (h1 : m ≤ 1000) (h : amE n m ≠ 0) : amE n m = 3 := by
  have hd := (dayB_iff n).1 hn
  have ok : AmOk n m := ⟨hd.1, hd.2, by omega, by omega⟩
  unfold amE at h ⊢
  rw [if_pos ok] at h ⊢
  split at h
  · exact absurd rfl h
  · rename_i c; rw [if_neg c]
set_option maxRecDepth 100000 in
theorem amV_bd {n m : Int} (h : amE n m = 0) : 0 ≤ amV n m ∧ amV n m ≤ 36524 := by
  unfold amE at h
  split at h
  · rename_i ok
    split at h
    · rename_i c
      unfold amV
      rw [if_pos ⟨ok, c⟩]
      obtain ⟨a1, a2, a3, a4, a5, a6, a7⟩ := date_spec ok.1 ok.2.1
      have hl := mlF_bd (2000 + (mi n + m) / 12) ((mi n + m) % 12 + 1)
      have := (IsDate.range (n := ms (mi n + m) + min (dF n) (mln (mi n + m)) - 1) (y := 2000 + (mi n + m) / 12) (m := (mi n + m) % 12 + 1) (d := min (dF n) (mln (mi n + m))) ⟨by omega, by omega, by omega, by omega, by unfold mln; omega, by unfold mln; omega, by unfold ms; omega⟩)
      exact this
    · cases h
  · cases h
set_option maxRecDepth 100000 in
set_option maxHeartbeats 4000000 in
theorem deadline_ok (A : Option Addr) (c : Nat) (l : List Int) (n m d k : Int) (w : World) (ht : MTab w) (hs : Rd w A (ints l)) (hl : l.length ≤ 17592186044416) (hv : validE l = 0) (hn : dayB n = true) (hk : TermOk m d k) :
    Calls Tryd.prog 26 #[.slice A l.length c, .int .i64 n, .agg #[.int .i64 m, .int .i64 d, .int .i64 k]] w fun e w' => e = .returned (.tuple #[.int .i64 (dlG l n m d k).1, .int .i64 (dlG l n m d k).2]) ∧ Below w.heap.size w w' := by
  obtain ⟨k1, k2, k3, k4, k5, k6⟩ := hk
  have hb0 : Below w.heap.size w (w.alloc (.cells #[.int .i64 m, .int .i64 d, .int .i64 k] 52)) := (Below.refl _ _).alloc (Nat.le_refl _) _
  have ht0 := ht.below hb0
  have HV := Lib.hid (valid_any A c l (w.alloc (.cells #[.int .i64 m, .int .i64 d, .int .i64 k] 52)) (hs.below hb0) hl)
  rw [hv] at HV
  have HD := Lib.hid (fun w => isDay_any n w)
  rw [hn] at HD
  obtain ⟨mn, hmn⟩ : ∃ mn, (if k < (if d < m then d else m) then k else (if d < m then d else m)) = mn := ⟨_, rfl⟩
  obtain ⟨mx, hmx⟩ : ∃ mx, (if (if m < d then d else m) < k then k else (if m < d then d else m)) = mx := ⟨_, rfl⟩
  have hn0 : 0 ≤ mn := by rw [← hmn]; repeat' split <;> omega
  have hx0 : mx ≤ 1000 := by rw [← hmx]; repeat' split <;> omega
  have gn : decide (mn < 0) = false := by simp; omega
  have gx : decide (1000 < mx) = false := by simp; omega
  have HE : Hid (dlG l n m d k = if amE n m ≠ 0 then (0, 3) else if dayB (amV n m + d) = false then (0, 3) else if (awF l (amV n m + d) k).2 ≠ 0 then (0, (awF l (amV n m + d) k).2) else nwF l (awF l (amV n m + d) k).1) := rfl
  have H3 := Lib.hid (amE_three (m := m) hn k1 k2)
  have HB := Lib.hid (amV_bd (n := n) (m := m))
  have HAM := Lib.hid (fun w h => addMonths_any n m w h)
  generalize dlG l n m d k = R at *
  generalize amE n m = e1 at *
  generalize amV n m = a at *
  by_cases he1 : e1 = 0
  · subst he1
    rw [if_neg (by simp)] at HE
    have hbd := HB.out rfl
    have hb1 := hbd.1
    have hb2' := hbd.2
    have HD2 := Lib.hid (fun w => isDay_any (a + d) w)
    clear hbd H3 HB
    cases hda : dayB (a + d)
    · rw [hda] at HD2 HE
      have HE2 : Hid (R = (0, 3)) := HE.out
      clear hda HE
      go_enter Tryd.func26, Tryd.ntmps26
      go_wp2_with fail
      refine HV.out.mono ?_
      rintro e w1 ⟨rfl, q1, rfl⟩
      go_wp2_with fail
      refine (HD.out _).mono ?_
      rintro e w' ⟨rfl, rfl⟩
      go_wp2_with fail
      refine (HAM.out _ (ht0.drewN _)).mono ?_
      rintro e w2 ⟨rfl, hb2⟩
      have hc0 : w2.cell? ⟨w.heap.size, 0, none⟩ = some (.int .i64 m) := (hb2.cell (p := ⟨w.heap.size, 0, none⟩) (by simp)).trans (by simp)
      have hc1 : w2.cell? ⟨w.heap.size, 1, none⟩ = some (.int .i64 d) := (hb2.cell (p := ⟨w.heap.size, 1, none⟩) (by simp)).trans (by simp)
      have hc2 : w2.cell? ⟨w.heap.size, 2, none⟩ = some (.int .i64 k) := (hb2.cell (p := ⟨w.heap.size, 2, none⟩) (by simp)).trans (by simp)
      have hb02 : Below w.heap.size w w2 := (drewN_below hb0 q1).trans (hb2.mono (drewN_below hb0 q1).size)
      have hs2 := hs.below hb02
      go_wp2_with fail
      refine (HD2.out _).mono ?_
      rintro e w' ⟨rfl, rfl⟩
      go_wp2
      go_ret2
      exact ⟨by rw [HE2.out]; rfl, hb02⟩
    · rw [hda] at HD2 HE
      have HE2 : Hid (R = if (awF l (a + d) k).2 ≠ 0 then (0, (awF l (a + d) k).2) else nwF l (awF l (a + d) k).1) := HE.out
      have HAW := Lib.hid (fun w hs => addWorking_any A c l (a + d) k w hs hl)
      clear hda HE
      generalize awF l (a + d) k = r at *
      obtain ⟨x, e2⟩ := r
      by_cases he2 : e2 = 0
      · subst he2
        have HE3 : Hid (R = nwF l x) := by show _ = _; rw [HE2.out, if_neg (by simp)]
        have HNW := Lib.hid (fun w hs => nextWorking_any A c l x w hs hl)
        clear HE2
        generalize nwF l x = r2 at *
        obtain ⟨x2, e3⟩ := r2
        go_enter Tryd.func26, Tryd.ntmps26
        go_wp2_with fail
        refine HV.out.mono ?_
        rintro e w1 ⟨rfl, q1, rfl⟩
        go_wp2_with fail
        refine (HD.out _).mono ?_
        rintro e w' ⟨rfl, rfl⟩
        go_wp2_with fail
        refine (HAM.out _ (ht0.drewN _)).mono ?_
        rintro e w2 ⟨rfl, hb2⟩
        have hc0 : w2.cell? ⟨w.heap.size, 0, none⟩ = some (.int .i64 m) := (hb2.cell (p := ⟨w.heap.size, 0, none⟩) (by simp)).trans (by simp)
        have hc1 : w2.cell? ⟨w.heap.size, 1, none⟩ = some (.int .i64 d) := (hb2.cell (p := ⟨w.heap.size, 1, none⟩) (by simp)).trans (by simp)
        have hc2 : w2.cell? ⟨w.heap.size, 2, none⟩ = some (.int .i64 k) := (hb2.cell (p := ⟨w.heap.size, 2, none⟩) (by simp)).trans (by simp)
        have hb02 : Below w.heap.size w w2 := (drewN_below hb0 q1).trans (hb2.mono (drewN_below hb0 q1).size)
        have hs2 := hs.below hb02
        go_wp2_with fail
        refine (HD2.out _).mono ?_
        rintro e w' ⟨rfl, rfl⟩
        go_wp2_with fail
        refine (HAW.out _ hs2).mono ?_
        rintro e w3 ⟨rfl, q3, rfl⟩
        go_wp2_with fail
        refine (HNW.out _ (by exact hs2)).mono ?_
        rintro e w4 ⟨rfl, q4, rfl⟩
        go_wp2
        go_ret2
        exact ⟨by rw [HE3.out]; rfl, drewN_below hb02 _⟩
      · have HE3 : Hid (R = (0, e2)) := by show _ = _; rw [HE2.out, if_pos (by simpa using he2)]
        have hne2 : (e2 != 0) = true := by simpa using he2
        clear HE2 he2
        go_enter Tryd.func26, Tryd.ntmps26
        go_wp2_with fail
        refine HV.out.mono ?_
        rintro e w1 ⟨rfl, q1, rfl⟩
        go_wp2_with fail
        refine (HD.out _).mono ?_
        rintro e w' ⟨rfl, rfl⟩
        go_wp2_with fail
        refine (HAM.out _ (ht0.drewN _)).mono ?_
        rintro e w2 ⟨rfl, hb2⟩
        have hc0 : w2.cell? ⟨w.heap.size, 0, none⟩ = some (.int .i64 m) := (hb2.cell (p := ⟨w.heap.size, 0, none⟩) (by simp)).trans (by simp)
        have hc1 : w2.cell? ⟨w.heap.size, 1, none⟩ = some (.int .i64 d) := (hb2.cell (p := ⟨w.heap.size, 1, none⟩) (by simp)).trans (by simp)
        have hc2 : w2.cell? ⟨w.heap.size, 2, none⟩ = some (.int .i64 k) := (hb2.cell (p := ⟨w.heap.size, 2, none⟩) (by simp)).trans (by simp)
        have hb02 : Below w.heap.size w w2 := (drewN_below hb0 q1).trans (hb2.mono (drewN_below hb0 q1).size)
        have hs2 := hs.below hb02
        go_wp2_with fail
        refine (HD2.out _).mono ?_
        rintro e w' ⟨rfl, rfl⟩
        go_wp2_with fail
        refine (HAW.out _ hs2).mono ?_
        rintro e w3 ⟨rfl, q3, rfl⟩
        go_wp2
        go_ret2
        exact ⟨by rw [HE3.out]; rfl, drewN_below hb02 _⟩
  · have HE2 : Hid (R = (0, 3)) := by show _ = _; rw [HE.out, if_pos (by simpa using he1)]
    obtain rfl : e1 = 3 := H3.out he1
    clear he1 HE H3 HB
    go_enter Tryd.func26, Tryd.ntmps26
    go_wp2_with fail
    refine HV.out.mono ?_
    rintro e w1 ⟨rfl, q1, rfl⟩
    go_wp2_with fail
    refine (HD.out _).mono ?_
    rintro e w' ⟨rfl, rfl⟩
    go_wp2_with fail
    refine (HAM.out _ (ht0.drewN _)).mono ?_
    rintro e w2 ⟨rfl, hb2⟩
    have hc0 : w2.cell? ⟨w.heap.size, 0, none⟩ = some (.int .i64 m) := (hb2.cell (p := ⟨w.heap.size, 0, none⟩) (by simp)).trans (by simp)
    have hc1 : w2.cell? ⟨w.heap.size, 1, none⟩ = some (.int .i64 d) := (hb2.cell (p := ⟨w.heap.size, 1, none⟩) (by simp)).trans (by simp)
    have hc2 : w2.cell? ⟨w.heap.size, 2, none⟩ = some (.int .i64 k) := (hb2.cell (p := ⟨w.heap.size, 2, none⟩) (by simp)).trans (by simp)
    have hb02 : Below w.heap.size w w2 := (drewN_below hb0 q1).trans (hb2.mono (drewN_below hb0 q1).size)
    have hs2 := hs.below hb02
    go_wp2
    go_ret2
    exact ⟨by rw [HE2.out]; rfl, hb02⟩
set_option maxRecDepth 100000 in
set_option maxHeartbeats 4000000 in
theorem deadline_any (A : Option Addr) (c : Nat) (l : List Int) (n m d k : Int) (w : World) (ht : MTab w) (hs : Rd w A (ints l)) (hl : l.length ≤ 17592186044416) :
    Calls Tryd.prog 26 #[.slice A l.length c, .int .i64 n, .agg #[.int .i64 m, .int .i64 d, .int .i64 k]] w fun e w' => e = .returned (.tuple #[.int .i64 (dlF l n m d k).1, .int .i64 (dlF l n m d k).2]) ∧ Below w.heap.size w w' := by
  unfold dlF
  have hb0 : Below w.heap.size w (w.alloc (.cells #[.int .i64 m, .int .i64 d, .int .i64 k] 52)) := (Below.refl _ _).alloc (Nat.le_refl _) _
  have HV := Lib.hid (valid_any A c l (w.alloc (.cells #[.int .i64 m, .int .i64 d, .int .i64 k] 52)) (hs.below hb0) hl)
  by_cases hv : validE l = 0
  · rw [if_neg (by simp [hv])]
    by_cases hk : dayB n = true ∧ TermOk m d k
    · rw [if_pos hk]
      exact deadline_ok A c l n m d k w ht hs hl hv hk.1 hk.2
    · rw [if_neg hk]
      rw [hv] at HV
      have HD := Lib.hid (fun w => isDay_any n w)
      clear hv
      cases hn : dayB n
      · rw [hn] at HD
        clear hn hk
        go_enter Tryd.func26, Tryd.ntmps26
        go_wp2_with fail
        refine HV.out.mono ?_
        rintro e w1 ⟨rfl, q1, rfl⟩
        go_wp2_with (go_at_call 35; refine (HD.out _).mono ?_; rintro e w' ⟨rfl, rfl⟩)
        go_ret2
        exact ⟨rfl, drewN_below hb0 _⟩
      · rw [hn] at HD hk
        have hto : ¬ TermOk m d k := fun h => hk ⟨rfl, h⟩
        clear hn hk
        obtain ⟨mn, hmn⟩ : ∃ mn, (if k < (if d < m then d else m) then k else (if d < m then d else m)) = mn := ⟨_, rfl⟩
        obtain ⟨mx, hmx⟩ : ∃ mx, (if (if m < d then d else m) < k then k else (if m < d then d else m)) = mx := ⟨_, rfl⟩
        by_cases c1 : mn < 0
        · have gn : decide (mn < 0) = true := by simpa using c1
          clear hto
          go_enter Tryd.func26, Tryd.ntmps26
          go_wp2_with fail
          refine HV.out.mono ?_
          rintro e w1 ⟨rfl, q1, rfl⟩
          go_wp2_with (go_at_call 35; refine (HD.out _).mono ?_; rintro e w' ⟨rfl, rfl⟩)
          go_ret2
          exact ⟨rfl, drewN_below hb0 _⟩
        · have c2 : 1000 < mx := by
            unfold TermOk at hto
            rw [← hmn] at c1
            rw [← hmx]
            revert c1
            repeat' split
            all_goals omega
          have gn : decide (mn < 0) = false := by simpa using c1
          have gx : decide (1000 < mx) = true := by simpa using c2
          clear hto
          go_enter Tryd.func26, Tryd.ntmps26
          go_wp2_with fail
          refine HV.out.mono ?_
          rintro e w1 ⟨rfl, q1, rfl⟩
          go_wp2_with (go_at_call 35; refine (HD.out _).mono ?_; rintro e w' ⟨rfl, rfl⟩)
          go_ret2
          exact ⟨rfl, drewN_below hb0 _⟩
  · rw [if_pos (by simpa using hv)]
    have hne : (validE l != 0) = true := by simpa using hv
    clear hv
    generalize validE l = v at *
    go_enter Tryd.func26, Tryd.ntmps26
    go_wp2_with fail
    refine HV.out.mono ?_
    rintro e w1 ⟨rfl, q1, rfl⟩
    go_wp2
    go_ret2
    exact ⟨rfl, drewN_below hb0 _⟩
def inB (n : Int) : Bool := decide (0 ≤ n) && decide (n ≤ 1000)
theorem inB_iff (n : Int) : inB n = true ↔ 0 ≤ n ∧ n ≤ 1000 := by simp [inB]
set_option maxRecDepth 100000 in
set_option maxHeartbeats 400000 in
theorem within1_any (n : Int) (w : World) : Calls Tryd.prog 41 #[.int .i64 n] w fun e w' => e = .returned (.bool (inB n)) ∧ w = w' := by
  by_cases h0 : 0 ≤ n
  · have hd : Hid (inB n = decide (n ≤ 1000)) := by show _ = _; simp [inB, h0]
    go_enter Tryd.func41, Tryd.ntmps41
    go_wp2
    go_ret
    exact ⟨by rw [hd.out]; rfl, rfl⟩
  · have hd : Hid (inB n = false) := by show _ = _; simp [inB, h0]
    have h1 : n < 0 := by omega
    clear h0
    go_enter Tryd.func41, Tryd.ntmps41
    go_wp2
    go_ret
    exact ⟨by rw [hd.out]; rfl, rfl⟩
set_option maxRecDepth 100000 in
set_option maxHeartbeats 4000000 in
theorem refDeadline_ok (A : Option Addr) (c : Nat) (l : List Int) (n m d k : Int) (w : World) (hs : Rd w A (ints l)) (hl : l.length ≤ 17592186044416) (hv : validE l = 0) (hn : dayB n = true) (hk : TermOk m d k) :
    Calls Tryd.prog 27 #[.slice A l.length c, .int .i64 n, .agg #[.int .i64 m, .int .i64 d, .int .i64 k]] w fun e w' => e = .returned (.tuple #[.int .i64 (dlG l n m d k).1, .int .i64 (dlG l n m d k).2]) ∧ Below w.heap.size w w' := by
  obtain ⟨k1, k2, k3, k4, k5, k6⟩ := hk
  have hb0 : Below w.heap.size w (w.alloc (.cells #[.int .i64 m, .int .i64 d, .int .i64 k] 52)) := (Below.refl _ _).alloc (Nat.le_refl _) _
  have HV := Lib.hid (refValid_any A c l (w.alloc (.cells #[.int .i64 m, .int .i64 d, .int .i64 k] 52)) (hs.below hb0) hl)
  rw [hv] at HV
  have HD := Lib.hid (fun w => refDay_any n w)
  rw [hn] at HD
  have HT1 := Lib.hid (fun w => within1_any m w)
  have HT2 := Lib.hid (fun w => within1_any d w)
  have HT3 := Lib.hid (fun w => within1_any k w)
  rw [(inB_iff m).2 ⟨k1, k2⟩] at HT1
  rw [(inB_iff d).2 ⟨k3, k4⟩] at HT2
  rw [(inB_iff k).2 ⟨k5, k6⟩] at HT3
  have HE : Hid (dlG l n m d k = if amE n m ≠ 0 then (0, 3) else if dayB (amV n m + d) = false then (0, 3) else if (awF l (amV n m + d) k).2 ≠ 0 then (0, (awF l (amV n m + d) k).2) else nwF l (awF l (amV n m + d) k).1) := rfl
  have H3 := Lib.hid (amE_three (m := m) hn k1 k2)
  have HB := Lib.hid (amV_bd (n := n) (m := m))
  have HAM := Lib.hid (fun w  => refAddMonths_any n m w)
  generalize dlG l n m d k = R at *
  generalize amE n m = e1 at *
  generalize amV n m = a at *
  by_cases he1 : e1 = 0
  · subst he1
    rw [if_neg (by simp)] at HE
    have hbd := HB.out rfl
    have hb1 := hbd.1
    have hb2' := hbd.2
    have HD2 := Lib.hid (fun w => refDay_any (a + d) w)
    clear hbd H3 HB
    cases hda : dayB (a + d)
    · rw [hda] at HD2 HE
      have HE2 : Hid (R = (0, 3)) := HE.out
      clear hda HE
      go_enter Tryd.func27, Tryd.ntmps27
      go_wp2_with fail
      refine HV.out.mono ?_
      rintro e w1 ⟨rfl, q1, rfl⟩
      go_wp2_with fail
      refine (HD.out _).mono ?_
      rintro e w' ⟨rfl, rfl⟩
      go_wp2_with fail
      refine (HT1.out _).mono ?_
      rintro e w' ⟨rfl, rfl⟩
      go_wp2_with fail
      refine (HT2.out _).mono ?_
      rintro e w' ⟨rfl, rfl⟩
      go_wp2_with fail
      refine (HT3.out _).mono ?_
      rintro e w' ⟨rfl, rfl⟩
      go_wp2_with fail
      refine (HAM.out _).mono ?_
      rintro e w2 ⟨rfl, hb2⟩
      have hc0 : w2.cell? ⟨w.heap.size, 0, none⟩ = some (.int .i64 m) := (hb2.cell (p := ⟨w.heap.size, 0, none⟩) (by simp)).trans (by simp)
      have hc1 : w2.cell? ⟨w.heap.size, 1, none⟩ = some (.int .i64 d) := (hb2.cell (p := ⟨w.heap.size, 1, none⟩) (by simp)).trans (by simp)
      have hc2 : w2.cell? ⟨w.heap.size, 2, none⟩ = some (.int .i64 k) := (hb2.cell (p := ⟨w.heap.size, 2, none⟩) (by simp)).trans (by simp)
      have hb02 : Below w.heap.size w w2 := (drewN_below hb0 q1).trans (hb2.mono (drewN_below hb0 q1).size)
      have hs2 := hs.below hb02
      go_wp2_with fail
      refine (HD2.out _).mono ?_
      rintro e w' ⟨rfl, rfl⟩
      go_wp2
      go_ret2
      exact ⟨by rw [HE2.out]; rfl, hb02⟩
    · rw [hda] at HD2 HE
      have HE2 : Hid (R = if (awF l (a + d) k).2 ≠ 0 then (0, (awF l (a + d) k).2) else nwF l (awF l (a + d) k).1) := HE.out
      have HAW := Lib.hid (fun w hs => refAddWorking_any A c l (a + d) k w hs hl)
      clear hda HE
      generalize awF l (a + d) k = r at *
      obtain ⟨x, e2⟩ := r
      by_cases he2 : e2 = 0
      · subst he2
        have HE3 : Hid (R = nwF l x) := by show _ = _; rw [HE2.out, if_neg (by simp)]
        have HNW := Lib.hid (fun w hs => refNextWorking_any A c l x w hs hl)
        clear HE2
        generalize nwF l x = r2 at *
        obtain ⟨x2, e3⟩ := r2
        go_enter Tryd.func27, Tryd.ntmps27
        go_wp2_with fail
        refine HV.out.mono ?_
        rintro e w1 ⟨rfl, q1, rfl⟩
        go_wp2_with fail
        refine (HD.out _).mono ?_
        rintro e w' ⟨rfl, rfl⟩
        go_wp2_with fail
        refine (HT1.out _).mono ?_
        rintro e w' ⟨rfl, rfl⟩
        go_wp2_with fail
        refine (HT2.out _).mono ?_
        rintro e w' ⟨rfl, rfl⟩
        go_wp2_with fail
        refine (HT3.out _).mono ?_
        rintro e w' ⟨rfl, rfl⟩
        go_wp2_with fail
        refine (HAM.out _).mono ?_
        rintro e w2 ⟨rfl, hb2⟩
        have hc0 : w2.cell? ⟨w.heap.size, 0, none⟩ = some (.int .i64 m) := (hb2.cell (p := ⟨w.heap.size, 0, none⟩) (by simp)).trans (by simp)
        have hc1 : w2.cell? ⟨w.heap.size, 1, none⟩ = some (.int .i64 d) := (hb2.cell (p := ⟨w.heap.size, 1, none⟩) (by simp)).trans (by simp)
        have hc2 : w2.cell? ⟨w.heap.size, 2, none⟩ = some (.int .i64 k) := (hb2.cell (p := ⟨w.heap.size, 2, none⟩) (by simp)).trans (by simp)
        have hb02 : Below w.heap.size w w2 := (drewN_below hb0 q1).trans (hb2.mono (drewN_below hb0 q1).size)
        have hs2 := hs.below hb02
        go_wp2_with fail
        refine (HD2.out _).mono ?_
        rintro e w' ⟨rfl, rfl⟩
        go_wp2_with fail
        refine (HAW.out _ hs2).mono ?_
        rintro e w3 ⟨rfl, q3, rfl⟩
        go_wp2_with fail
        refine (HNW.out _ (by exact hs2)).mono ?_
        rintro e w4 ⟨rfl, q4, rfl⟩
        go_wp2
        go_ret2
        exact ⟨by rw [HE3.out]; rfl, drewN_below hb02 _⟩
      · have HE3 : Hid (R = (0, e2)) := by show _ = _; rw [HE2.out, if_pos (by simpa using he2)]
        have hne2 : (e2 != 0) = true := by simpa using he2
        clear HE2 he2
        go_enter Tryd.func27, Tryd.ntmps27
        go_wp2_with fail
        refine HV.out.mono ?_
        rintro e w1 ⟨rfl, q1, rfl⟩
        go_wp2_with fail
        refine (HD.out _).mono ?_
        rintro e w' ⟨rfl, rfl⟩
        go_wp2_with fail
        refine (HT1.out _).mono ?_
        rintro e w' ⟨rfl, rfl⟩
        go_wp2_with fail
        refine (HT2.out _).mono ?_
        rintro e w' ⟨rfl, rfl⟩
        go_wp2_with fail
        refine (HT3.out _).mono ?_
        rintro e w' ⟨rfl, rfl⟩
        go_wp2_with fail
        refine (HAM.out _).mono ?_
        rintro e w2 ⟨rfl, hb2⟩
        have hc0 : w2.cell? ⟨w.heap.size, 0, none⟩ = some (.int .i64 m) := (hb2.cell (p := ⟨w.heap.size, 0, none⟩) (by simp)).trans (by simp)
        have hc1 : w2.cell? ⟨w.heap.size, 1, none⟩ = some (.int .i64 d) := (hb2.cell (p := ⟨w.heap.size, 1, none⟩) (by simp)).trans (by simp)
        have hc2 : w2.cell? ⟨w.heap.size, 2, none⟩ = some (.int .i64 k) := (hb2.cell (p := ⟨w.heap.size, 2, none⟩) (by simp)).trans (by simp)
        have hb02 : Below w.heap.size w w2 := (drewN_below hb0 q1).trans (hb2.mono (drewN_below hb0 q1).size)
        have hs2 := hs.below hb02
        go_wp2_with fail
        refine (HD2.out _).mono ?_
        rintro e w' ⟨rfl, rfl⟩
        go_wp2_with fail
        refine (HAW.out _ hs2).mono ?_
        rintro e w3 ⟨rfl, q3, rfl⟩
        go_wp2
        go_ret2
        exact ⟨by rw [HE3.out]; rfl, drewN_below hb02 _⟩
  · have HE2 : Hid (R = (0, 3)) := by show _ = _; rw [HE.out, if_pos (by simpa using he1)]
    obtain rfl : e1 = 3 := H3.out he1
    clear he1 HE H3 HB
    go_enter Tryd.func27, Tryd.ntmps27
    go_wp2_with fail
    refine HV.out.mono ?_
    rintro e w1 ⟨rfl, q1, rfl⟩
    go_wp2_with fail
    refine (HD.out _).mono ?_
    rintro e w' ⟨rfl, rfl⟩
    go_wp2_with fail
    refine (HT1.out _).mono ?_
    rintro e w' ⟨rfl, rfl⟩
    go_wp2_with fail
    refine (HT2.out _).mono ?_
    rintro e w' ⟨rfl, rfl⟩
    go_wp2_with fail
    refine (HT3.out _).mono ?_
    rintro e w' ⟨rfl, rfl⟩
    go_wp2_with fail
    refine (HAM.out _).mono ?_
    rintro e w2 ⟨rfl, hb2⟩
    have hc0 : w2.cell? ⟨w.heap.size, 0, none⟩ = some (.int .i64 m) := (hb2.cell (p := ⟨w.heap.size, 0, none⟩) (by simp)).trans (by simp)
    have hc1 : w2.cell? ⟨w.heap.size, 1, none⟩ = some (.int .i64 d) := (hb2.cell (p := ⟨w.heap.size, 1, none⟩) (by simp)).trans (by simp)
    have hc2 : w2.cell? ⟨w.heap.size, 2, none⟩ = some (.int .i64 k) := (hb2.cell (p := ⟨w.heap.size, 2, none⟩) (by simp)).trans (by simp)
    have hb02 : Below w.heap.size w w2 := (drewN_below hb0 q1).trans (hb2.mono (drewN_below hb0 q1).size)
    have hs2 := hs.below hb02
    go_wp2
    go_ret2
    exact ⟨by rw [HE2.out]; rfl, hb02⟩
set_option maxRecDepth 100000 in
set_option maxHeartbeats 4000000 in
theorem refDeadline_any (A : Option Addr) (c : Nat) (l : List Int) (n m d k : Int) (w : World) (hs : Rd w A (ints l)) (hl : l.length ≤ 17592186044416) :
    Calls Tryd.prog 27 #[.slice A l.length c, .int .i64 n, .agg #[.int .i64 m, .int .i64 d, .int .i64 k]] w fun e w' => e = .returned (.tuple #[.int .i64 (dlF l n m d k).1, .int .i64 (dlF l n m d k).2]) ∧ Below w.heap.size w w' := by
  unfold dlF
  have hb0 : Below w.heap.size w (w.alloc (.cells #[.int .i64 m, .int .i64 d, .int .i64 k] 52)) := (Below.refl _ _).alloc (Nat.le_refl _) _
  have HV := Lib.hid (refValid_any A c l (w.alloc (.cells #[.int .i64 m, .int .i64 d, .int .i64 k] 52)) (hs.below hb0) hl)
  by_cases hv : validE l = 0
  · rw [if_neg (by simp [hv])]
    by_cases hk : dayB n = true ∧ TermOk m d k
    · rw [if_pos hk]
      exact refDeadline_ok A c l n m d k w hs hl hv hk.1 hk.2
    · rw [if_neg hk]
      rw [hv] at HV
      have HD := Lib.hid (fun w => refDay_any n w)
      clear hv
      cases hn : dayB n
      · rw [hn] at HD
        clear hn hk
        go_enter Tryd.func27, Tryd.ntmps27
        go_wp2_with fail
        refine HV.out.mono ?_
        rintro e w1 ⟨rfl, q1, rfl⟩
        go_wp2_with (go_at_call 40; refine (HD.out _).mono ?_; rintro e w' ⟨rfl, rfl⟩)
        go_ret2
        exact ⟨rfl, drewN_below hb0 _⟩
      · rw [hn] at HD hk
        have hto : ¬ TermOk m d k := fun h => hk ⟨rfl, h⟩
        clear hn hk
        unfold TermOk at hto
        have HT1 := Lib.hid (fun w => within1_any m w)
        have HT2 := Lib.hid (fun w => within1_any d w)
        have HT3 := Lib.hid (fun w => within1_any k w)
        have i1 := inB_iff m
        have i2 := inB_iff d
        have i3 := inB_iff k
        have key : inB m = false ∨ (inB m = true ∧ inB d = false) ∨ (inB m = true ∧ inB d = true ∧ inB k = false) := by
          cases c1 : inB m
          · exact .inl rfl
          · cases c2 : inB d
            · exact .inr (.inl ⟨rfl, rfl⟩)
            · cases c3 : inB k
              · exact .inr (.inr ⟨rfl, rfl, rfl⟩)
              · have := i1.1 c1; have := i2.1 c2; have := i3.1 c3; omega
        clear i1 i2 i3 hto
        rcases key with c1 | ⟨c1, c2⟩ | ⟨c1, c2, c3⟩
        · rw [c1] at HT1
          clear c1
          go_enter Tryd.func27, Tryd.ntmps27
          go_wp2_with fail
          refine HV.out.mono ?_
          rintro e w1 ⟨rfl, q1, rfl⟩
          go_wp2_with fail
          refine (HD.out _).mono ?_
          rintro e w' ⟨rfl, rfl⟩
          go_wp2_with fail
          refine (HT1.out _).mono ?_
          rintro e w' ⟨rfl, rfl⟩
          go_wp2
          go_ret2
          exact ⟨rfl, drewN_below hb0 _⟩
        · rw [c1] at HT1
          rw [c2] at HT2
          clear c1 c2
          go_enter Tryd.func27, Tryd.ntmps27
          go_wp2_with fail
          refine HV.out.mono ?_
          rintro e w1 ⟨rfl, q1, rfl⟩
          go_wp2_with fail
          refine (HD.out _).mono ?_
          rintro e w' ⟨rfl, rfl⟩
          go_wp2_with fail
          refine (HT1.out _).mono ?_
          rintro e w' ⟨rfl, rfl⟩
          go_wp2_with fail
          refine (HT2.out _).mono ?_
          rintro e w' ⟨rfl, rfl⟩
          go_wp2
          go_ret2
          exact ⟨rfl, drewN_below hb0 _⟩
        · rw [c1] at HT1
          rw [c2] at HT2
          rw [c3] at HT3
          clear c1 c2 c3
          go_enter Tryd.func27, Tryd.ntmps27
          go_wp2_with fail
          refine HV.out.mono ?_
          rintro e w1 ⟨rfl, q1, rfl⟩
          go_wp2_with fail
          refine (HD.out _).mono ?_
          rintro e w' ⟨rfl, rfl⟩
          go_wp2_with fail
          refine (HT1.out _).mono ?_
          rintro e w' ⟨rfl, rfl⟩
          go_wp2_with fail
          refine (HT2.out _).mono ?_
          rintro e w' ⟨rfl, rfl⟩
          go_wp2_with fail
          refine (HT3.out _).mono ?_
          rintro e w' ⟨rfl, rfl⟩
          go_wp2
          go_ret2
          exact ⟨rfl, drewN_below hb0 _⟩
  · rw [if_pos (by simpa using hv)]
    have hne : (validE l != 0) = true := by simpa using hv
    clear hv
    generalize validE l = v at *
    go_enter Tryd.func27, Tryd.ntmps27
    go_wp2_with fail
    refine HV.out.mono ?_
    rintro e w1 ⟨rfl, q1, rfl⟩
    go_wp2
    go_ret2
    exact ⟨rfl, drewN_below hb0 _⟩
end Go.Proofs.YtecmpkcjeaiknaaDoor.Cal
