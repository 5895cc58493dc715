/- The law SegmentEncode: the walk. -/
import Derived.Test.YtmnflbgejagpmaaSy
namespace Go.Proofs.Ytmnflbgejagpmaa
open Go.RowKit
set_option linter.unusedVariables false

theorem tailS_at {w : World} {B : Nat} {A : Option Addr} {l : List Seg} {c k : Nat} (h : SegsAt w B A l) (hc : l.length ≤ c) (hk : k ≤ l.length) :
    ∃ A', (∀ W, (Instr.slice 30 (.slice A l.length c) (some (.int .i64 (k : Int))) none none).run Try.prog W = .ok (.slice A' (l.drop k).length (c - k)) W) ∧ SegsAt w B A' (l.drop k) := by
  refine ⟨if c = k then A else A.map (·.add (k * 2)), fun W => ?_, ?_⟩
  · rw [run_cut W 30 24 2 Try.underlying30 (by kernel_rfl) (by kernel_rfl) A l.length c k hk, List.length_drop]
  · obtain ⟨cs, h1, h2, h3⟩ := h
    refine ⟨cs.drop (k * 2), by rw [List.length_drop, List.length_drop, h1]; omega, ?_, fun i s hs => ?_⟩
    · by_cases h4 : c = k
      · have : cs.drop (k * 2) = [] := List.drop_eq_nil_of_le (by omega)
        rw [this]
        exact RdB.nil _ _ _
      · rw [if_neg h4]
        exact h2.drop (k * 2)
    · rw [List.getElem?_drop] at hs
      obtain ⟨t, v, a, b, e⟩ := h3 (k + i) s hs
      exact ⟨t, v, by rw [List.getElem?_drop, ← a]; congr 1; omega, by rw [List.getElem?_drop, ← b]; congr 1; omega, e⟩
namespace segmentEncode
set_option maxRecDepth 100000 in
set_option maxHeartbeats 2000000 in
theorem law (A1 : Option Addr) (c1 : Nat) (l1 : List Int) (tg : Bs) (A : Option Addr) (c : Nat) (els : List (List Bs)) (x : Int) (w : World) (h1 : SlI w A1 c1 l1) (h : ElsAt w w.heap.size A els) (hz : Sized ⟨tg, els⟩) :
    Calls Try.prog 4 #[.slice A1 l1.length c1, .agg #[.string ⟨tg.toArray⟩, .slice A els.length c], .int .i64 x] w fun e w' => e = .returned (.bool true) ∧ Below w.heap.size w w' := by
  have q0 := (Below.refl w.heap.size w).alloc (Nat.le_refl _) (.cells #[.string ⟨tg.toArray⟩, .slice A els.length c] 24)
  have hc0 : (w.alloc (.cells #[.string ⟨tg.toArray⟩, .slice A els.length c] 24)).cell? ⟨w.heap.size, 0, none⟩ = some (.string ⟨tg.toArray⟩) := by simp
  have hc1 : (w.alloc (.cells #[.string ⟨tg.toArray⟩, .slice A els.length c] 24)).cell? ⟨w.heap.size, 1, none⟩ = some (.slice A els.length c) := by simp
  have hz0 : w.heap.size < (w.alloc (.cells #[.string ⟨tg.toArray⟩, .slice A els.length c] 24)).heap.size := by simp
  generalize hW : w.alloc (.cells #[.string ⟨tg.toArray⟩, .slice A els.length c] 24) = W at q0 hc0 hc1 hz0
  have HM := Lib.hid (mSegments_any A1 c1 l1 W (h1.rd.below q0) h1.le (by have := h1.max; omega))
  have HE0 := Lib.hid (h.below q0)
  have HAW := Lib.hid (fun W => awake_any W)
  have HZ := Lib.hid hz
  clear h1 h hz
  go_enter Try.func4, Try.ntmps4
  go_wp2_with fail
  refine HM.out.mono ?_
  rintro e w1 ⟨v1, s, rfl, ho1, h12, hval1, hb1⟩
  obtain ⟨As, cs, rfl, hcs, hat1⟩ := ho1.at_
  have HV := Lib.hid hval1
  have HT := Lib.hid hat1
  have HZ1 : Hid (encE? s = 0) := encE?_zero.2 hval1
  have HEN := Lib.hid (encode_any As cs s w1 hat1 (by omega) (fits_few (by omega)))
  have HRE := Lib.hid (fun W2 (hb : Below w1.heap.size w1 W2) => refEncode_any As cs s W2 ((hat1.below hb).mono hb.size) (by omega) (fits_few (by omega)) (fun s hs => sized_valid (hval1 s hs)))
  have hd0 : w1.cell? ⟨w.heap.size, 0, none⟩ = some (.string ⟨tg.toArray⟩) := (hb1.cell (p := ⟨w.heap.size, 0, none⟩) hz0).trans hc0
  have hd1 : w1.cell? ⟨w.heap.size, 1, none⟩ = some (.slice A els.length c) := (hb1.cell (p := ⟨w.heap.size, 1, none⟩) hz0).trans hc1
  have hz1 := Nat.lt_of_lt_of_le hz0 hb1.size
  have hraw1 := HE0.out.below (hb1.mono (Nat.le_of_lt hz0))
  have hB01 := q0.trans (hb1.mono q0.size)
  clear hval1 hat1 ho1 hW hc0 hc1 q0
  have HR1 := Lib.hid hraw1
  clear hraw1
  go_wp2_with fail
  refine HEN.out.mono ?_
  rintro e w2 ⟨hb2, hh⟩
  rcases hh with ⟨_, va, rfl, hoa⟩ | ⟨hh, _⟩
  · obtain ⟨Aa, ca, rfl, hra, hca, _⟩ := hoa.shape
    have hrA := RdB.of_rd hra
    clear hoa hra
    go_wp2_with fail
    refine (HRE.out _ hb2).mono ?_
    rintro e w3 ⟨hb3, hh⟩
    rcases hh with ⟨_, vb, rfl, hob⟩ | ⟨hh, _⟩
    · obtain ⟨Ab, cb, rfl, hrb, hcb, _⟩ := hob.shape
      have hcv1 := conv_back w3 Aa ca (encAll s) (hrA.below hb3).rd
      have hcv2 := conv_back w3 Ab cb (encAll s) hrb
      have hnn : (encAll s != encAll s) = false := by simp
      clear hrA hob hrb
      have hB3 := hb2.trans (hb3.mono hb2.size)
      have hB03 := hB01.trans (hB3.mono hB01.size)
      have HW := within_any x ((s.length : Int) + 1) w3 (by omega) (by omega)
      have hk0 := Int.emod_nonneg x (by omega : ((s.length : Int) + 1) ≠ 0)
      have hk1 := Int.emod_lt_of_pos x (by omega : (0 : Int) < (s.length : Int) + 1)
      generalize x % ((s.length : Int) + 1) = kk at HW hk0 hk1
      obtain ⟨k, rfl⟩ := Int.eq_ofNat_of_zero_le hk0
      have hks : k ≤ s.length := by omega
      have HW := Lib.hid HW
      generalize encAll s = xa at *
      go_wp2_with (go_at_call 15; refine HW.out.mono ?_; rintro e w' ⟨rfl, rfl⟩)
      have HE3 := Lib.hid ((HR1.out.below (hB3.mono (Nat.le_of_lt hz1))).mono hB03.size)
      have hat3 := (HT.out.below hB3).mono hB3.size
      have HSC := Lib.hid (SegsC.of (hat3.take k hks))
      have hlk : (s.take k).length = k := by rw [List.length_take]; omega
      have hld : (s.drop k).length ≤ 1000 := by rw [List.length_drop]; omega
      obtain ⟨TL, htl, hat4⟩ := tailS_at (c := cs) (k := k) hat3 hcs hks
      have HSD := Lib.hid (SegsC.of hat4)
      simp only [List.length_drop] at htl
      have hhd := fun W => headS_run W As s.length cs k (by omega)
      have hc30 : w3.cell? ⟨w.heap.size, 0, none⟩ = some (.string ⟨tg.toArray⟩) := (hB3.cell (p := ⟨w.heap.size, 0, none⟩) hz1).trans hd0
      have hc31 : w3.cell? ⟨w.heap.size, 1, none⟩ = some (.slice A els.length c) := (hB3.cell (p := ⟨w.heap.size, 1, none⟩) hz1).trans hd1
      have hz3 := Nat.lt_of_lt_of_le hz1 hB3.size
      clear hat3 hat4 hd0 hd1
      go_region_held3 (fun w' => Below w3.heap.size w3 w' ∧ w'.cell? ⟨w.heap.size, 0, none⟩ = some (.string ⟨tg.toArray⟩) ∧ w'.cell? ⟨w.heap.size, 1, none⟩ = some (.slice A els.length c))
        ((refine (fun h => ⟨h, (Below.cell (p := ⟨w.heap.size, 0, none⟩) h hz3).trans hc30, (Below.cell (p := ⟨w.heap.size, 1, none⟩) h hz3).trans hc31⟩ : Below w3.heap.size w3 _ → _) ?_; first | exact (Below.refl _ _).drew | exact ((Below.refl _ _).alloc (Nat.le_refl _) _).drew | exact (((Below.refl _ _).alloc (Nat.le_refl _) _).alloc (by simp) _).drew | exact hB55 | exact hB51 | exact hB48.alloc hB48.size _ | exact hB48))
        (first
          | (refine step_segs (by rfl) (.tmp 44) (.tmp 47) (by rfl) _ w3.heap.size _ [] (by rfl) (.inl ⟨_, rfl, rfl⟩) _ _ _ (s.take k) hlk.symm (by rfl) (HSC.out.below (Nat.le_refl _) (by first | exact ((Below.refl _ _).alloc (Nat.le_refl _) _).drew | exact (((Below.refl _ _).alloc (Nat.le_refl _) _).alloc (by simp) _).drew)) (by simp; omega) (Nat.le_refl _) (by simp <;> omega) ?_; intro v48 w48 hY48' hb48; have hY48 := hY48'.mono (B1 := w3.heap.size) (by simp <;> omega); have hB48 : Below w3.heap.size w3 w48 := Below.trans (by first | exact ((Below.refl _ _).alloc (Nat.le_refl _) _).drew | exact (((Below.refl _ _).alloc (Nat.le_refl _) _).alloc (by simp) _).drew) (hb48.mono (by simp <;> omega)); first | (have hx50 : SegsC w48 w3.heap.size (some ⟨w3.heap.size + 1, 0, none⟩) [⟨tg, els⟩] := by (have q := ((SegsC.one (w3.alloc (.cells #[] 24)) tg A c els w3.heap.size (HE3.out.below ((Below.refl _ _).alloc (Nat.le_refl _) _)) (by simp)).drew).below (by simp; omega) hb48; simpa using q)) | (have hx50 : SegsC w48 w3.heap.size (some ⟨w3.heap.size, 0, none⟩) [⟨tg, els⟩] := ((((SegsC.one w3 tg A c els w3.heap.size HE3.out (Nat.le_refl _)).below (by simp) ((Below.refl _ _).alloc (Nat.le_refl _) (.cells #[] 24)))).drew).below (by simp; omega) hb48) | skip)
          | (refine step_segs (by rfl) (.tmp 48) (.tmp 50) (by rfl) w3.heap.size w3.heap.size _ ([] ++ s.take k) (by rfl) (by first | exact hY48 | exact hY48.below hB48.size ((Below.refl _ _).alloc (Nat.le_refl _) _)) _ _ _ [⟨tg, els⟩] rfl (by rfl) (by first | exact hx50 | exact SegsC.one _ _ _ _ _ _ (HE3.out.below hB48) hB48.size) (by simp; omega) (by first | exact hB48.size | exact (hB48.alloc hB48.size _).size) (Nat.le_refl _) ?_; intro v51 w51 hY51 hb51; have hB51 : Below w3.heap.size w3 w51 := Below.trans (by first | exact hB48 | exact hB48.alloc hB48.size _) hb51)
          | (refine step_segs (by rfl) (.tmp 51) (.tmp 54) (by rfl) w3.heap.size w3.heap.size _ (([] ++ s.take k) ++ [⟨tg, els⟩]) (by rfl) hY51 TL (s.length - k) _ (s.drop k) List.length_drop.symm (by rfl) (HSD.out.below (Nat.le_refl _) hB51) (by simp; omega) hB51.size (Nat.le_refl _) ?_; intro v55 w55 hY55 hb55; have hB55 := hB51.trans hb55))
      all_goals
        have hl5 : ((([] : List Seg) ++ s.take k ++ [(⟨tg, els⟩ : Seg)]) ++ s.drop k).length ≤ 40 := by simp; omega
        have hz5 : ∀ g ∈ ((([] : List Seg) ++ s.take k ++ [(⟨tg, els⟩ : Seg)]) ++ s.drop k), Sized g := by
          intro g hg
          simp only [List.nil_append, List.mem_append, List.mem_singleton] at hg
          rcases hg with (hg | hg) | hg
          · exact sized_valid (HV.out g (List.mem_of_mem_take hg))
          · rw [hg]; exact HZ.out
          · exact sized_valid (HV.out g (List.mem_of_mem_drop hg))
        have HL5 : Hid (((([] : List Seg) ++ s.take k ++ [(⟨tg, els⟩ : Seg)]) ++ s.drop k).length ≤ 40) := Lib.hid hl5
        have HZ5 := Lib.hid hz5
        clear hz5 hl5
        generalize ((([] : List Seg) ++ s.take k ++ [(⟨tg, els⟩ : Seg)]) ++ s.drop k) = l5 at hY55 HL5 HZ5
        obtain ⟨A5, c5, rfl, hat5⟩ := hY55.at_ hB55.size
        have hl5 := HL5.out
        have HEN5 := Lib.hid (encode_any A5 c5 l5 w55 hat5 (by omega) (fits_few (by omega)))
        have HRE5 := Lib.hid (fun W2 (hb : Below w55.heap.size w55 W2) => refEncode_any A5 c5 l5 W2 ((hat5.below hb).mono hb.size) (by omega) (fits_few (by omega)) HZ5.out)
        have hB05 := hB03.trans (hB55.mono hB03.size)
        clear hat5 hY55 htl hhd hY51 hY48 hb55 hb51 hb48 hB55 hB51 hB48 hB3 hB03 hcv1 hcv2 hc30 hc31
        go_wp2_with fail
        refine HEN5.out.mono ?_
        rintro e w6 ⟨hb6, hh⟩
        rcases hh with ⟨hE, va, rfl, hoa⟩ | ⟨hE, rfl⟩
        · have HE6 := Lib.hid hE
          obtain ⟨Ap, cp, rfl, hra, hcp, _⟩ := hoa.shape
          have hrA := RdB.of_rd hra
          clear hoa hra hE
          go_wp2_with fail
          refine (HRE5.out _ hb6).mono ?_
          rintro e w7 ⟨hb7, hh⟩
          rcases hh with ⟨_, vb, rfl, hob⟩ | ⟨hh, _⟩
          · obtain ⟨Aq, cq, rfl, hrb, hcq, _⟩ := hob.shape
            have hcv5 := conv_back w7 Ap cp (encAll l5) (hrA.below hb7).rd
            have hcv6 := conv_back w7 Aq cq (encAll l5) hrb
            have hB07 := (hB05.trans (hb6.mono hB05.size)).trans (hb7.mono (Nat.le_trans hB05.size hb6.size))
            clear hrA hob hrb
            generalize encAll l5 = xb at *
            go_wp2_with (go_at_call 11; refine (HAW.out _).mono ?_; rintro e w9 ⟨rfl, hb9⟩)
            go_ret
            exact ⟨rfl, hB07.trans (hb9.mono hB07.size)⟩
          · exact absurd HE6.out hh
        · have HE6 := Lib.hid hE
          clear hE
          go_wp2_with fail
          refine (HRE5.out _ hb6).mono ?_
          rintro e w7 ⟨hb7, hh⟩
          rcases hh with ⟨hh, _⟩ | ⟨hn5, rfl⟩
          · exact absurd hh HE6.out
          · have hcv5 : (convert 32 9 (.slice none 0 0)).run Try.prog w7 = .ok (.string ⟨#[]⟩) w7 := conv_back w7 none 0 [] (fun j u hu => by cases hu)
            have hB07 := (hB05.trans (hb6.mono hB05.size)).trans (hb7.mono (Nat.le_trans hB05.size hb6.size))
            clear HE6 hn5
            generalize encE? l5 = ee at *
            go_wp2_with (go_at_call 11; refine (HAW.out _).mono ?_; rintro e w9 ⟨rfl, hb9⟩)
            go_ret
            exact ⟨rfl, hB07.trans (hb9.mono hB07.size)⟩
    · exact absurd HZ1.out hh
  · exact absurd HZ1.out hh
theorem walkSegmentEncode (A1 : Option Addr) (c1 : Nat) (l1 : List Int) (t : ByteArray) (A : Option Addr) (c : Nat) (l : List (List Bs)) (x : Int) (w : World) (h1 : SlI w A1 c1 l1) (h : ElsAt w w.heap.size A l) (hl : l.length ≤ maxLen) (hle : ∀ e ∈ l, e.length ≤ maxLen) (hx : -9223372036854775808 ≤ x ∧ x ≤ 9223372036854775807) :
    Calls Try.prog 4 #[.slice A1 l1.length c1, .agg #[.string t, .slice A l.length c], .int .i64 x] w fun e w' => e = .returned (.bool true) ∧ Below w.heap.size w w' := by
  unfold maxLen at hl hle
  exact law A1 c1 l1 t.data.toList A c l x w h1 h ⟨hl, hle⟩
end segmentEncode
end Go.Proofs.Ytmnflbgejagpmaa
