/- The law SegmentDecode: the walk (printed by mkdec.py). -/
import Derived.Test.YtmnflbgejagpmaaTd
namespace Go.Proofs.Ytmnflbgejagpmaa
open Go.RowKit
set_option linter.unusedVariables false

theorem decF_err : ∀ (f : Nat) (b : Bs) (l : List Seg) (o : Nat), (decF f b l o).2.2 ≠ 0 → (decF f b l o).1 = []
  | 0, _, _, _, h => absurd rfl h
  | f + 1, b, l, o, h => by
    unfold decF at h ⊢
    split
    · rename_i hb
      rw [if_pos hb] at h
      exact absurd rfl h
    · rename_i hb
      rw [if_neg hb] at h
      split
      · rename_i he
        rw [if_pos he] at h
        exact decF_err f _ _ _ h
      · rfl
theorem encAll_ge : ∀ l : List Seg, l.length ≤ (encAll l).length
  | [] => by simp
  | s :: r => by
    have := encAll_ge r
    have := encS_pos s
    simp only [encAll, List.length_append, List.length_cons]
    omega
/-- what Decode returns, valid in any case -/
theorem decode_small {b : Bs} (h : b.length ≤ 2000) {r : List Seg} {n : Nat} {e : Int} (hd : decodeF b = (r, n, e)) : r.length ≤ 2000 ∧ (∀ s ∈ r, validF s = 0) ∧ EncFits r ∧ (e = 0 → b = encAll r) := by
  by_cases he : e = 0
  · subst he
    obtain ⟨h1, h2, h3⟩ := decode_ok hd
    have := encAll_ge r
    rw [← h1] at this
    refine ⟨by omega, h3, fun k _ => ?_, fun _ => h1⟩
    have e1 : encAll r = encAll (r.take k) ++ encAll (r.drop k) := by rw [← encAll_append, List.take_append_drop]
    have e2 := congrArg List.length e1
    rw [← h1, List.length_append] at e2
    omega
  · have h1 := decF_err b.length b [] 0 (by show (decodeF b).2.2 ≠ 0; rw [hd]; exact he)
    have h2 : (decodeF b).1 = [] := h1
    rw [hd] at h2
    simp only at h2
    subst h2
    exact ⟨by simp, fun s hs => (by cases hs), fits_few (by simp), fun h => absurd h he⟩
theorem next_small {b : Bs} {s : Seg} {n : Nat} {e : Int} (hd : nextF b = (s, n, e)) : s.els.length ≤ 1000000 ∧ ∀ x ∈ s.els, x.length ≤ 1000000 := by
  rcases next_err b with h | h | h
  · rw [hd] at h
    simp only at h
    subst h
    exact valid_small (next_ok hd).1
  · rw [hd] at h
    injection h with h
    subst h
    exact ⟨by simp [noSeg], fun x hx => by simp [noSeg] at hx⟩
  · rw [hd] at h
    injection h with h
    subst h
    exact ⟨by simp [noSeg], fun x hx => by simp [noSeg] at hx⟩
namespace segmentDecode
set_option maxRecDepth 100000 in
set_option maxHeartbeats 1000000 in
theorem law (A : Option Addr) (c : Nat) (x : Bs) (N : Nat) (hN : N = x.length) (hx : x.length ≤ 2000) (hc : x.length ≤ c) (w : World) (hr : RdB w w.heap.size A (u8s x))
    (bv : Value) (hbv : (bv = .slice A N c) ∨ (∃ k, bv = .slice A k c ∧ 2000 < k ∧ N = 2000)) :
    Calls Try.prog 6 #[bv] w fun e w' => e = .returned (.bool true) ∧ Below w.heap.size w w' := by
  have HR := Lib.hid hr
  have HDE := fun W (hr : RdB W w.heap.size A (u8s x)) (hB : w.heap.size ≤ W.heap.size) => decode_any A c x W (hr.mono hB) hc (by omega)
  have HDR := fun W (hr : RdB W w.heap.size A (u8s x)) (hB : w.heap.size ≤ W.heap.size) => refDecode_any A c x W (hr.mono hB) hc (by omega)
  have HNX := fun W (hr : RdB W w.heap.size A (u8s x)) (hB : w.heap.size ≤ W.heap.size) => next_any A c x W (hr.mono hB) hc (by omega)
  have HNR := fun W (hr : RdB W w.heap.size A (u8s x)) (hB : w.heap.size ≤ W.heap.size) => refNext_any A c x W (hr.mono hB) hc (by omega)
  have HCV := fun W (hr : RdB W w.heap.size A (u8s x)) => conv_back W A c x hr.rd
  rw [← hN] at HDE HDR HNX HNR HCV
  have HNN := Lib.hid hN
  have hN2 : N ≤ 2000 := by omega
  have hNc : N ≤ c := by omega
  rcases hd : decodeF x with ⟨r, m, e⟩
  rcases hn : nextF x with ⟨s, k, g⟩
  obtain ⟨d1, d2, d3, d5⟩ := decode_small hx hd
  have hs := next_small hn
  rw [hd] at HDE HDR
  rw [hn] at HNX HNR
  have HDE := Lib.hid HDE
  have HDR := Lib.hid HDR
  have HNX := Lib.hid HNX
  have HNR := Lib.hid HNR
  have HCV := Lib.hid HCV
  have HSM := Lib.hid (fun A1 A2 c1 c2 B B' W h h' => same_any A1 A2 c1 c2 r B B' W h h' (by omega) (fun s hs => valid_small (d2 s hs)))
  have HSM2 := Lib.hid (fun A1 A2 c1 c2 B B' W h h' => same_any A1 A2 c1 c2 [s] B B' W h h' (by simp) (by simpa using hs))
  have HEN := Lib.hid (fun A1 c1 W h => encode_any A1 c1 r W h (by omega) d3)
  have HEZ : Hid (encE? r = 0) := encE?_zero.2 d2
  have HD5 := Lib.hid d5
  have HAW := Lib.hid (fun W => awake_any W)
  have hmm : ((m : Int) != (m : Int)) = false := by simp
  have hee : ((e : Int) != (e : Int)) = false := by simp
  have hkk : ((k : Int) != (k : Int)) = false := by simp
  have hgg : ((g : Int) != (g : Int)) = false := by simp
  clear hr hN hx hc hd hn d2 d3 d5 hs
  rcases hbv with rfl | ⟨n, rfl, hn, rfl⟩
  · have hdk : decide (2000 < N) = false := by simp; omega
    go_enter Try.func6, Try.ntmps6
    go_wp2_with fail
    refine (HDE.out w HR.out (Nat.le_refl _)).mono ?_
    rintro e w1 ⟨v1, rfl, ho1, hb1⟩
    obtain ⟨A1, c1, rfl, hc1, hat1⟩ := ho1.at_
    have HAT1 := Lib.hid hat1
    clear ho1 hat1
    go_wp2_with fail
    refine (HDR.out w1 (HR.out.below hb1) hb1.size).mono ?_
    rintro e w2 ⟨v2, rfl, ho2, hb2⟩
    obtain ⟨A2, c2, rfl, hc2, hat2⟩ := ho2.at_
    have HAT2 := Lib.hid hat2
    have hB2 := hb1.trans (hb2.mono hb1.size)
    have g2 := hb2
    clear ho2 hat2
    simp only at HAT1 HAT2 hc1 hc2
    go_wp2_with fail
    refine (HSM.out A1 A2 c1 c2 _ _ w2 (HAT1.out.below hb2) HAT2.out).mono ?_
    rintro e w3 ⟨rfl, hq3⟩
    have hB3 := hB2.trans (hq3.below _)
    have g3 := g2.trans (hq3.below _)
    go_wp2_with fail
    refine (HNX.out w3 (HR.out.below hB3) hB3.size).mono ?_
    rintro e w4 ⟨u4, rfl, he4, hb4⟩
    obtain ⟨Au, cu, rfl, hea4⟩ := he4.at_
    have hB4 := hB3.trans (hb4.mono hB3.size)
    have g4 := g3.trans (hb4.mono g3.size)
    have hb4a := (Below.refl w4.heap.size w4).alloc (Nat.le_refl _) (.cells #[.string ⟨s.tag.toArray⟩, .slice Au s.els.length cu] 24)
    have hm0 : (w4.alloc (.cells #[.string ⟨s.tag.toArray⟩, .slice Au s.els.length cu] 24)).cell? ⟨w4.heap.size, 0, none⟩ = some (.string ⟨s.tag.toArray⟩) := by simp
    have hm1 : (w4.alloc (.cells #[.string ⟨s.tag.toArray⟩, .slice Au s.els.length cu] 24)).cell? ⟨w4.heap.size, 1, none⟩ = some (.slice Au s.els.length cu) := by simp
    have hmz : w4.heap.size < (w4.alloc (.cells #[.string ⟨s.tag.toArray⟩, .slice Au s.els.length cu] 24)).heap.size := by simp
    generalize hW4 : w4.alloc (.cells #[.string ⟨s.tag.toArray⟩, .slice Au s.els.length cu] 24) = W4 at hb4a hm0 hm1 hmz
    have hB4a := hB4.trans (hb4a.mono hB4.size)
    have g4a := g4.trans (hb4a.mono g4.size)
    have hea4a := hea4.below hb4a
    clear he4 hea4
    go_wp2_with fail
    refine (HNR.out W4 (HR.out.below hB4a) hB4a.size).mono ?_
    rintro e w5 ⟨u5, rfl, he5, hb5⟩
    obtain ⟨Ay, cy, rfl, hea5⟩ := he5.at_
    have hB5 := hB4a.trans (hb5.mono hB4a.size)
    have g5 := g4a.trans (hb5.mono g4a.size)
    have hn0 : w5.cell? ⟨w4.heap.size, 0, none⟩ = some (.string ⟨s.tag.toArray⟩) := (hb5.cell (p := ⟨w4.heap.size, 0, none⟩) hmz).trans hm0
    have hn1 : w5.cell? ⟨w4.heap.size, 1, none⟩ = some (.slice Au s.els.length cu) := (hb5.cell (p := ⟨w4.heap.size, 1, none⟩) hmz).trans hm1
    have hea4b := hea4a.below (hb5.mono (Nat.le_of_lt hmz))
    have hz5 : w4.heap.size < w5.heap.size := Nat.lt_of_lt_of_le hmz hb5.size
    have hb5a := (Below.refl w5.heap.size w5).alloc (Nat.le_refl _) (.cells #[.string ⟨s.tag.toArray⟩, .slice Ay s.els.length cy] 24)
    have hp0 : (w5.alloc (.cells #[.string ⟨s.tag.toArray⟩, .slice Ay s.els.length cy] 24)).cell? ⟨w5.heap.size, 0, none⟩ = some (.string ⟨s.tag.toArray⟩) := by simp
    have hp1 : (w5.alloc (.cells #[.string ⟨s.tag.toArray⟩, .slice Ay s.els.length cy] 24)).cell? ⟨w5.heap.size, 1, none⟩ = some (.slice Ay s.els.length cy) := by simp
    have hpz : w5.heap.size < (w5.alloc (.cells #[.string ⟨s.tag.toArray⟩, .slice Ay s.els.length cy] 24)).heap.size := by simp
    generalize hW5 : w5.alloc (.cells #[.string ⟨s.tag.toArray⟩, .slice Ay s.els.length cy] 24) = W5 at hb5a hp0 hp1 hpz
    have hB5a := hB5.trans (hb5a.mono hB5.size)
    have g5a := g5.trans (hb5a.mono g5.size)
    replace hn0 := (hb5a.cell (p := ⟨w4.heap.size, 0, none⟩) hz5).trans hn0
    replace hn1 := (hb5a.cell (p := ⟨w4.heap.size, 1, none⟩) hz5).trans hn1
    have hea6 := hea4b.below (hb5a.mono (Nat.le_of_lt hz5))
    have hey6 := hea5.below hb5a
    have hz6 : w4.heap.size < W5.heap.size := Nat.lt_trans hz5 hpz
    have S1 := SegsAt.one W5 s.tag Au cu s.els w4.heap.size (Nat.le_of_lt hz6) hea6
    have hb6 := (Below.refl W5.heap.size W5).alloc (Nat.le_refl _) (.cells #[.string ⟨s.tag.toArray⟩, .slice Au s.els.length cu] 24)
    have hr0 := (hb6.cell (p := ⟨w5.heap.size, 0, none⟩) hpz).trans hp0
    have hr1 := (hb6.cell (p := ⟨w5.heap.size, 1, none⟩) hpz).trans hp1
    have hz6a : (W5.alloc (.cells #[.string ⟨s.tag.toArray⟩, .slice Au s.els.length cu] 24)).heap.size = W5.heap.size + 1 := by simp
    have hey7 := hey6.below (hb6.mono (Nat.le_of_lt hpz))
    have hB6 := hB5a.trans (hb6.mono hB5a.size)
    have g6 := g5a.trans (hb6.mono g5a.size)
    have hz7 : w5.heap.size ≤ W5.heap.size + 1 := by omega
    generalize hW6 : W5.alloc (.cells #[.string ⟨s.tag.toArray⟩, .slice Au s.els.length cu] 24) = W6 at S1 hb6 hr0 hr1 hz6a hey7 hB6 g6
    have S2 := SegsAt.one W6 s.tag Ay cy s.els w5.heap.size (by rw [hz6a]; exact hz7) hey7
    have hb7 := (Below.refl W6.heap.size W6).alloc (Nat.le_refl _) (.cells #[.string ⟨s.tag.toArray⟩, .slice Ay s.els.length cy] 24)
    have S1' := S1.below (hb7.mono (Nat.le_of_eq hz6a.symm))
    have hB7 := hB6.trans (hb7.mono hB6.size)
    have g7 := g6.trans (hb7.mono g6.size)
    generalize hW7 : W6.alloc (.cells #[.string ⟨s.tag.toArray⟩, .slice Ay s.els.length cy] 24) = W7 at S2 hb7 S1' hB7 g7
    have HS1 := Lib.hid S1'
    have HS2 := Lib.hid S2
    have HZ6 := Lib.hid hz6a
    clear S1 S2 S1' hea4a hea4b hea5 hea6 hey6 hey7 he5 hm0 hm1 hz6a hW4
    go_wp2_with fail
    refine (HSM2.out _ _ _ _ _ _ W7 HS1.out HS2.out).mono ?_
    rintro e w8 ⟨rfl, hq8⟩
    have hB8 := hB7.trans (hq8.below _)
    have hB18 : Below w1.heap.size w1 w8 := g7.trans (hq8.below _)
    go_wp2_with fail
    refine (HEN.out A1 c1 w8 ((HAT1.out.below hB18).mono hB18.size)).mono ?_
    rintro e9 w9 ⟨hb9, h⟩
    rcases h with ⟨_, vb, rfl, hob⟩ | ⟨h, _⟩
    · obtain ⟨Ab, cb, rfl, hrb, _, _⟩ := hob.shape
      have hB9 := hB8.trans (hb9.mono hB8.size)
      have hcv1 := conv_back w9 Ab cb (encAll r) hrb
      have hcv2 := HCV.out w9 (HR.out.below hB9)
      by_cases he : e = 0
      · have hxe := HD5.out he
        subst he
        rw [hxe] at hcv2
        have hss : (encAll r == encAll r) = true := by simp
        clear hxe
        go_wp2_with (go_at_call 11; refine (HAW.out _).mono ?_; rintro e wa ⟨rfl, hba⟩)
        go_ret
        exact ⟨rfl, hB9.trans (hba.mono hB9.size)⟩
      · have hne : (e != 0) = true := by simpa using he
        clear he hee
        go_wp2_with (go_at_call 11; refine (HAW.out _).mono ?_; rintro e wa ⟨rfl, hba⟩)
        go_ret
        exact ⟨rfl, hB9.trans (hba.mono hB9.size)⟩
    · exact absurd HEZ.out h
  · have hdk : decide (2000 < n) = true := by simp; omega
    have hhd := fun W => head_run W A n c 2000 hNc
    go_enter Try.func6, Try.ntmps6
    go_wp2_with fail
    refine (HDE.out w HR.out (Nat.le_refl _)).mono ?_
    rintro e w1 ⟨v1, rfl, ho1, hb1⟩
    obtain ⟨A1, c1, rfl, hc1, hat1⟩ := ho1.at_
    have HAT1 := Lib.hid hat1
    clear ho1 hat1
    go_wp2_with fail
    refine (HDR.out w1 (HR.out.below hb1) hb1.size).mono ?_
    rintro e w2 ⟨v2, rfl, ho2, hb2⟩
    obtain ⟨A2, c2, rfl, hc2, hat2⟩ := ho2.at_
    have HAT2 := Lib.hid hat2
    have hB2 := hb1.trans (hb2.mono hb1.size)
    have g2 := hb2
    clear ho2 hat2
    simp only at HAT1 HAT2 hc1 hc2
    go_wp2_with fail
    refine (HSM.out A1 A2 c1 c2 _ _ w2 (HAT1.out.below hb2) HAT2.out).mono ?_
    rintro e w3 ⟨rfl, hq3⟩
    have hB3 := hB2.trans (hq3.below _)
    have g3 := g2.trans (hq3.below _)
    go_wp2_with fail
    refine (HNX.out w3 (HR.out.below hB3) hB3.size).mono ?_
    rintro e w4 ⟨u4, rfl, he4, hb4⟩
    obtain ⟨Au, cu, rfl, hea4⟩ := he4.at_
    have hB4 := hB3.trans (hb4.mono hB3.size)
    have g4 := g3.trans (hb4.mono g3.size)
    have hb4a := (Below.refl w4.heap.size w4).alloc (Nat.le_refl _) (.cells #[.string ⟨s.tag.toArray⟩, .slice Au s.els.length cu] 24)
    have hm0 : (w4.alloc (.cells #[.string ⟨s.tag.toArray⟩, .slice Au s.els.length cu] 24)).cell? ⟨w4.heap.size, 0, none⟩ = some (.string ⟨s.tag.toArray⟩) := by simp
    have hm1 : (w4.alloc (.cells #[.string ⟨s.tag.toArray⟩, .slice Au s.els.length cu] 24)).cell? ⟨w4.heap.size, 1, none⟩ = some (.slice Au s.els.length cu) := by simp
    have hmz : w4.heap.size < (w4.alloc (.cells #[.string ⟨s.tag.toArray⟩, .slice Au s.els.length cu] 24)).heap.size := by simp
    generalize hW4 : w4.alloc (.cells #[.string ⟨s.tag.toArray⟩, .slice Au s.els.length cu] 24) = W4 at hb4a hm0 hm1 hmz
    have hB4a := hB4.trans (hb4a.mono hB4.size)
    have g4a := g4.trans (hb4a.mono g4.size)
    have hea4a := hea4.below hb4a
    clear he4 hea4
    go_wp2_with fail
    refine (HNR.out W4 (HR.out.below hB4a) hB4a.size).mono ?_
    rintro e w5 ⟨u5, rfl, he5, hb5⟩
    obtain ⟨Ay, cy, rfl, hea5⟩ := he5.at_
    have hB5 := hB4a.trans (hb5.mono hB4a.size)
    have g5 := g4a.trans (hb5.mono g4a.size)
    have hn0 : w5.cell? ⟨w4.heap.size, 0, none⟩ = some (.string ⟨s.tag.toArray⟩) := (hb5.cell (p := ⟨w4.heap.size, 0, none⟩) hmz).trans hm0
    have hn1 : w5.cell? ⟨w4.heap.size, 1, none⟩ = some (.slice Au s.els.length cu) := (hb5.cell (p := ⟨w4.heap.size, 1, none⟩) hmz).trans hm1
    have hea4b := hea4a.below (hb5.mono (Nat.le_of_lt hmz))
    have hz5 : w4.heap.size < w5.heap.size := Nat.lt_of_lt_of_le hmz hb5.size
    have hb5a := (Below.refl w5.heap.size w5).alloc (Nat.le_refl _) (.cells #[.string ⟨s.tag.toArray⟩, .slice Ay s.els.length cy] 24)
    have hp0 : (w5.alloc (.cells #[.string ⟨s.tag.toArray⟩, .slice Ay s.els.length cy] 24)).cell? ⟨w5.heap.size, 0, none⟩ = some (.string ⟨s.tag.toArray⟩) := by simp
    have hp1 : (w5.alloc (.cells #[.string ⟨s.tag.toArray⟩, .slice Ay s.els.length cy] 24)).cell? ⟨w5.heap.size, 1, none⟩ = some (.slice Ay s.els.length cy) := by simp
    have hpz : w5.heap.size < (w5.alloc (.cells #[.string ⟨s.tag.toArray⟩, .slice Ay s.els.length cy] 24)).heap.size := by simp
    generalize hW5 : w5.alloc (.cells #[.string ⟨s.tag.toArray⟩, .slice Ay s.els.length cy] 24) = W5 at hb5a hp0 hp1 hpz
    have hB5a := hB5.trans (hb5a.mono hB5.size)
    have g5a := g5.trans (hb5a.mono g5.size)
    replace hn0 := (hb5a.cell (p := ⟨w4.heap.size, 0, none⟩) hz5).trans hn0
    replace hn1 := (hb5a.cell (p := ⟨w4.heap.size, 1, none⟩) hz5).trans hn1
    have hea6 := hea4b.below (hb5a.mono (Nat.le_of_lt hz5))
    have hey6 := hea5.below hb5a
    have hz6 : w4.heap.size < W5.heap.size := Nat.lt_trans hz5 hpz
    have S1 := SegsAt.one W5 s.tag Au cu s.els w4.heap.size (Nat.le_of_lt hz6) hea6
    have hb6 := (Below.refl W5.heap.size W5).alloc (Nat.le_refl _) (.cells #[.string ⟨s.tag.toArray⟩, .slice Au s.els.length cu] 24)
    have hr0 := (hb6.cell (p := ⟨w5.heap.size, 0, none⟩) hpz).trans hp0
    have hr1 := (hb6.cell (p := ⟨w5.heap.size, 1, none⟩) hpz).trans hp1
    have hz6a : (W5.alloc (.cells #[.string ⟨s.tag.toArray⟩, .slice Au s.els.length cu] 24)).heap.size = W5.heap.size + 1 := by simp
    have hey7 := hey6.below (hb6.mono (Nat.le_of_lt hpz))
    have hB6 := hB5a.trans (hb6.mono hB5a.size)
    have g6 := g5a.trans (hb6.mono g5a.size)
    have hz7 : w5.heap.size ≤ W5.heap.size + 1 := by omega
    generalize hW6 : W5.alloc (.cells #[.string ⟨s.tag.toArray⟩, .slice Au s.els.length cu] 24) = W6 at S1 hb6 hr0 hr1 hz6a hey7 hB6 g6
    have S2 := SegsAt.one W6 s.tag Ay cy s.els w5.heap.size (by rw [hz6a]; exact hz7) hey7
    have hb7 := (Below.refl W6.heap.size W6).alloc (Nat.le_refl _) (.cells #[.string ⟨s.tag.toArray⟩, .slice Ay s.els.length cy] 24)
    have S1' := S1.below (hb7.mono (Nat.le_of_eq hz6a.symm))
    have hB7 := hB6.trans (hb7.mono hB6.size)
    have g7 := g6.trans (hb7.mono g6.size)
    generalize hW7 : W6.alloc (.cells #[.string ⟨s.tag.toArray⟩, .slice Ay s.els.length cy] 24) = W7 at S2 hb7 S1' hB7 g7
    have HS1 := Lib.hid S1'
    have HS2 := Lib.hid S2
    have HZ6 := Lib.hid hz6a
    clear S1 S2 S1' hea4a hea4b hea5 hea6 hey6 hey7 he5 hm0 hm1 hz6a hW4
    go_wp2_with fail
    refine (HSM2.out _ _ _ _ _ _ W7 HS1.out HS2.out).mono ?_
    rintro e w8 ⟨rfl, hq8⟩
    have hB8 := hB7.trans (hq8.below _)
    have hB18 : Below w1.heap.size w1 w8 := g7.trans (hq8.below _)
    go_wp2_with fail
    refine (HEN.out A1 c1 w8 ((HAT1.out.below hB18).mono hB18.size)).mono ?_
    rintro e9 w9 ⟨hb9, h⟩
    rcases h with ⟨_, vb, rfl, hob⟩ | ⟨h, _⟩
    · obtain ⟨Ab, cb, rfl, hrb, _, _⟩ := hob.shape
      have hB9 := hB8.trans (hb9.mono hB8.size)
      have hcv1 := conv_back w9 Ab cb (encAll r) hrb
      have hcv2 := HCV.out w9 (HR.out.below hB9)
      by_cases he : e = 0
      · have hxe := HD5.out he
        subst he
        rw [hxe] at hcv2
        have hss : (encAll r == encAll r) = true := by simp
        clear hxe
        go_wp2_with (go_at_call 11; refine (HAW.out _).mono ?_; rintro e wa ⟨rfl, hba⟩)
        go_ret
        exact ⟨rfl, hB9.trans (hba.mono hB9.size)⟩
      · have hne : (e != 0) = true := by simpa using he
        clear he hee
        go_wp2_with (go_at_call 11; refine (HAW.out _).mono ?_; rintro e wa ⟨rfl, hba⟩)
        go_ret
        exact ⟨rfl, hB9.trans (hba.mono hB9.size)⟩
    · exact absurd HEZ.out h
theorem walkSegmentDecode (A : Option Addr) (c : Nat) (b : Bs) (w : World) (hS : SlB w A c b) :
    Calls Try.prog 6 #[.slice A b.length c] w fun e w' => e = .returned (.bool true) ∧ Below w.heap.size w w' := by
  have hr := RdB.of_rd hS.rd
  have hle := hS.le
  by_cases h : 2000 < b.length
  · have hl : (b.take 2000).length = 2000 := by rw [List.length_take]; omega
    exact law A c (b.take 2000) 2000 hl.symm (by omega) (by omega) w (hr.takeB 2000) _ (.inr ⟨b.length, rfl, h, rfl⟩)
  · exact law A c b b.length rfl (by omega) hle w hr _ (.inl rfl)
end segmentDecode
end Go.Proofs.Ytmnflbgejagpmaa
