/- The law SegmentConcatenation: the walk. -/
import Derived.Test.YtmnflbgejagpmaaSx
namespace Go.Proofs.Ytmnflbgejagpmaa
open Go.RowKit
set_option linter.unusedVariables false

theorem cat_bytes (a b : Bs) : ({ data := a.toArray } ++ { data := b.toArray } : ByteArray) = { data := (a ++ b).toArray } := by
  apply ByteArray.ext
  simp [ByteArray.data_append]
namespace segmentConcatenation
set_option maxRecDepth 100000 in
set_option maxHeartbeats 1000000 in
theorem law (A1 A2 A3 : Option Addr) (c1 c2 c3 : Nat) (l1 l2 : List Int) (m : Bs) (n3 : Nat) (hn3 : n3 = m.length) (hm : m.length ≤ 200) (w : World) (h1 : SlI w A1 c1 l1) (h2 : SlI w A2 c2 l2) (h3 : Rd w A3 (u8s m))
    (more : Value) (hmore : (more = .slice A3 n3 c3 ∧ n3 ≤ 200) ∨ (∃ k, more = .slice A3 k c3 ∧ 200 < k ∧ k ≤ c3 ∧ n3 = 200)) :
    Calls Try.prog 8 #[.slice A1 l1.length c1, .slice A2 l2.length c2, more] w fun e w' => e = .returned (.bool true) ∧ Below w.heap.size w w' := by
  have HM1 := Lib.hid (mSegments_any A1 c1 l1 w h1.rd h1.le (by have := h1.max; omega))
  have HM2 := Lib.hid (fun W (hb : Below w.heap.size w W) => mSegments_any A2 c2 l2 W (h2.rd.below hb) h2.le (by have := h2.max; omega))
  have HR3 := Lib.hid (RdB.of_rd h3)
  have HAW := Lib.hid (fun W => awake_any W)
  have HN3 := Lib.hid hn3
  have hn3b : n3 ≤ 200 := by omega
  clear h1 h2 h3 hn3 hm
  rcases hmore with ⟨rfl, hk⟩ | ⟨k, rfl, hk1, hk2, rfl⟩
  · have hdk : decide (200 < n3) = false := by simp; omega
    go_enter Try.func8, Try.ntmps8
    go_wp2_with fail
    refine HM1.out.mono ?_
    rintro e w1 ⟨v1, s, rfl, ho1, h12, hval1, hb1⟩
    obtain ⟨As, cs, rfl, hcs, hat1⟩ := ho1.at_
    have HV1 := Lib.hid hval1
    have HT1 := Lib.hid hat1
    clear hval1 hat1 ho1
    go_wp2_with fail
    refine (HM2.out _ hb1).mono ?_
    rintro e w2 ⟨v2, t, rfl, ho2, h12', hval2, hb2⟩
    obtain ⟨At, ct, rfl, hct, hat2⟩ := ho2.at_
    have HV2 := Lib.hid hval2
    have HT2 := Lib.hid hat2
    have hS2 := HT1.out.below hb2
    have HS2 := Lib.hid (hS2.mono hb2.size)
    clear hval2 hat2 ho2 hS2
    have HE1 := Lib.hid (encode_any As cs s w2 HS2.out (by omega) (fits_few (by omega)))
    have HE2 := Lib.hid (fun W (hb : Below w2.heap.size w2 W) => encode_any At ct t W ((HT2.out.below hb).mono hb.size) (by omega) (fits_few (by omega)))
    have HZ1 : Hid (encE? s = 0) := encE?_zero.2 HV1.out
    have HZ2 : Hid (encE? t = 0) := encE?_zero.2 HV2.out
    have HZ3 : Hid (encE? ([] ++ s ++ t) = 0) := encE?_zero.2 (by intro x hx; rw [List.nil_append] at hx; rcases List.mem_append.1 hx with hx | hx; exact HV1.out x hx; exact HV2.out x hx)
    have HA3 : Hid (encAll ([] ++ s ++ t) = encAll s ++ encAll t) := by show _ = _; rw [List.nil_append, encAll_append]
    have hl1 : (encAll s).length ≤ 300000000 := by have := encAll_len s HV1.out; omega
    have hl2 : (encAll t).length ≤ 300000000 := by have := encAll_len t HV2.out; omega
    go_wp2_with fail
    refine HE1.out.mono ?_
    rintro e w3 ⟨hb3, h⟩
    rcases h with ⟨_, va, rfl, hoa⟩ | ⟨h, _⟩
    · obtain ⟨Aa, ca, rfl, hra, hca, _⟩ := hoa.shape
      have hrA := RdB.of_rd hra
      clear hoa hra
      go_wp2_with fail
      refine (HE2.out _ hb3).mono ?_
      rintro e w4 ⟨hb4, h⟩
      rcases h with ⟨_, vb, rfl, hob⟩ | ⟨h, _⟩
      · obtain ⟨Ab, cb, rfl, hrb, hcb, _⟩ := hob.shape
        have hrB := RdB.of_rd hrb
        clear hob hrb
        have hB4 := hb3.trans (hb4.mono hb3.size)
        have hb5 := (Below.refl w4.heap.size w4).alloc (Nat.le_refl _) (.cells #[] 24)
        have hX5 := SegsX.empty w4 w4.heap.size w2.heap.size (Nat.le_refl _)
        have hS5 := (HS2.out.below hB4).below (hb5.mono hB4.size)
        have hT5 := (HT2.out.below hB4).below (hb5.mono hB4.size)
        have hst : s.length + t.length ≤ 24 := by omega
        generalize hW5 : w4.alloc (.cells #[] 24) = W5 at hb5 hX5 hS5 hT5
        have hsz5 := hb5.size
        go_wp2_with (first
          | (at_builtin; refine wpList_append_segs W5 rfl (.tmp 41) (.tmp 42) rfl w4.heap.size w2.heap.size _ [] rfl hX5 As _ cs s rfl rfl hS5 (by simp; omega) hsz5 hB4.size ?_; intro v6 w6 hX6 hb6; have hT6 := hT5.below (hb6.mono hB4.size); have hsz6 := Nat.le_trans hsz5 hb6.size)
          | (at_builtin; refine wpList_append_segs w6 rfl (.tmp 43) (.tmp 44) rfl w4.heap.size w2.heap.size _ ([] ++ s) rfl hX6 At _ ct t rfl rfl hT6 (by simp; omega) hsz6 hB4.size ?_; intro v7 w7 hX7 hb7; have hsz7 := Nat.le_trans hsz6 hb7.size; obtain ⟨A7, c7, rfl, hc7, hat7⟩ := hX7.at_ (Nat.le_trans hB4.size hsz7)))
        have hl7 : ([] ++ s ++ t).length = s.length + t.length := by simp
        have HE3 := encode_any A7 c7 ([] ++ s ++ t) w7 hat7 (by rw [hl7]; omega) (fits_few (by rw [hl7]; omega))
        rw [hl7] at HE3
        have HE3 := Lib.hid HE3
        clear hl7 hX5 hX6 hX7 hat7 hS5 hT5 hT6 hW5
        have hB7 : Below w2.heap.size w2 w7 := hB4.trans ((hb5.trans ((hb6.trans hb7))).mono hB4.size)
        have hrA7 := hrA.below (((hb4.trans ((hb5.trans (hb6.trans hb7)).mono hb4.size))))
        have hrB7 := hrB.below (hb5.trans (hb6.trans hb7))
        refine HE3.out.mono ?_
        rintro e w8 ⟨hb8, h⟩
        rcases h with ⟨_, vc, rfl, hoc⟩ | ⟨h, _⟩
        · rw [HA3.out] at hoc
          obtain ⟨Ac, cc, rfl, hrc, hcc, _⟩ := hoc.shape
          have hcv1 := conv_back w8 Ac cc (encAll s ++ encAll t) hrc
          rw [List.length_append] at hcv1
          have hs34 : w3.heap.size ≤ w7.heap.size := Nat.le_trans hb4.size (Nat.le_trans hb5.size (Nat.le_trans hb6.size hb7.size))
          have hs47 : w4.heap.size ≤ w7.heap.size := Nat.le_trans hb5.size (Nat.le_trans hb6.size hb7.size)
          have hrA8 := hrA7.below (hb8.mono hs34)
          have hrB8 := hrB7.below (hb8.mono hs47)
          have hcv2 := conv_back w8 Aa ca (encAll s) hrA8.rd
          have hcv3 := conv_back w8 Ab cb (encAll t) hrB8.rd
          have hB8 := hB7.trans (hb8.mono hB7.size)
          have hB08 : Below w.heap.size w w8 := (hb1.trans (hb2.mono hb1.size)).trans (hB8.mono (hb1.trans (hb2.mono hb1.size)).size)
          rw [List.length_append]
          clear hoc hrc hrA hrB hrA7 hrB7 hrB8
          have HR8 := Lib.hid hrA8
          clear hrA8
          by_cases hs0 : s.length = 0
          · have hsb : ((s.length : Int) == 0) = true := by rw [beq_iff_eq]; omega
            clear hs0
            generalize encAll s = xa at *
            generalize encAll t = xb at *
            have hcat := cat_bytes xa xb
            go_wp2_with (go_at_call 11; refine (HAW.out _).mono ?_; rintro e w9 ⟨rfl, hb9⟩)
            go_ret
            exact ⟨rfl, hB08.trans (hb9.mono hB08.size)⟩
          · have hsb : ((s.length : Int) == 0) = false := by rw [beq_eq_false_iff_ne]; omega
            obtain ⟨s0, rest, hsr⟩ : ∃ s0 rest, s = s0 :: rest := by
              cases s with
              | nil => exact absurd rfl hs0
              | cons a b => exact ⟨a, b, rfl⟩
            have hv0 : validF s0 = 0 := HV1.out s0 (by rw [hsr]; simp)
            have HX1 : Hid (∀ m : Bs, nextF (encAll s ++ m) = (s0, (encS s0).length, 0)) := fun m => by rw [hsr]; show nextF (encS s0 ++ encAll rest ++ m) = _; rw [List.append_assoc, next_enc hv0]
            have hvs := Lib.hid (valid_small hv0)
            clear hs0 hsr hv0
            generalize encAll s = xa at *
            generalize encAll t = xb at *
            have hcat := cat_bytes xa xb
            have hb9 := (Below.refl w8.heap.size w8).alloc (Nat.le_refl _) (.cells #[] 5)
            have hX9 := OwnXB.empty w8 w8.heap.size (Nat.le_refl _)
            have hs3w : w3.heap.size ≤ w8.heap.size := Nat.le_trans (Nat.le_trans hb4.size (Nat.le_trans hb5.size (Nat.le_trans hb6.size hb7.size))) hb8.size
            have hrA9 := HR8.out.below (hb9.mono hs3w)
            have hr39 := (HR3.out.below hB08).below (hb9.mono hB08.size)
            generalize hW9 : w8.alloc (.cells #[] 5) = W9 at hb9 hX9 hrA9 hr39
            have hsz9 := hb9.size
            have hB09 := hB08.trans (hb9.mono hB08.size)
            go_wp2_with (first
              | (at_builtin; refine wpList_append_bytes W9 rfl (.tmp 98) (.tmp 99) rfl w8.heap.size _ [] rfl hX9 Aa _ ca xa rfl rfl hrA9.rd (by simp; omega) hsz9 ?_; intro v10 w10 hX10 hb10; have hr310 := hr39.below (hb10.mono hB08.size); have hsz10 := Nat.le_trans hsz9 hb10.size)
              | (at_builtin; refine wpList_append_bytes w10 rfl (.tmp 100) (.tmp 101) rfl w8.heap.size _ ([] ++ xa) rfl hX10 A3 _ c3 m HN3.out rfl hr310.rd (by have := HN3.out; simp; omega) hsz10 ?_; intro v11 w11 hX11 hb11; have hsz11 := Nat.le_trans hsz10 hb11.size; obtain ⟨A11, c11, rfl, hr11, hc11, _⟩ := hX11.shape))
            have hl11 : ([] ++ xa ++ m).length = xa.length + m.length := by simp
            have hm200 := HN3.out
            have HX := next_any A11 c11 ([] ++ xa ++ m) w11 (RdB.of_rd hr11) hc11 (by rw [hl11]; omega)
            rw [hl11, List.nil_append, HX1.out] at HX
            have HX := Lib.hid HX
            have hB11 : Below w8.heap.size w8 w11 := hb9.trans (hb10.trans hb11)
            have hB011 := hB08.trans (hB11.mono hB08.size)
            have hrA11 := HR8.out.below (hB11.mono hs3w)
            clear hl11 hm200 hX9 hX10 hX11 hr11 hr39 hr310 hrA9 hW9 hc11
            have hee : (((encS s0).length : Int) == ((encS s0).length : Int)) = true := by simp
            obtain ⟨tg, els⟩ := s0
            generalize encS ⟨tg, els⟩ = xs at *
            refine HX.out.mono ?_
            rintro e w12 ⟨u12, rfl, he12, hb12⟩
            obtain ⟨Au, cu, rfl, hea12⟩ := he12.at_
            have hb12a := (Below.refl w12.heap.size w12).alloc (Nat.le_refl _) (.cells #[.string ⟨tg.toArray⟩, .slice Au els.length cu] 24)
            have hm0 : (w12.alloc (.cells #[.string ⟨tg.toArray⟩, .slice Au els.length cu] 24)).cell? ⟨w12.heap.size, 0, none⟩ = some (.string ⟨tg.toArray⟩) := by simp
            have hm1 : (w12.alloc (.cells #[.string ⟨tg.toArray⟩, .slice Au els.length cu] 24)).cell? ⟨w12.heap.size, 1, none⟩ = some (.slice Au els.length cu) := by simp
            have hmz : w12.heap.size < (w12.alloc (.cells #[.string ⟨tg.toArray⟩, .slice Au els.length cu] 24)).heap.size := by simp
            generalize hW12 : w12.alloc (.cells #[.string ⟨tg.toArray⟩, .slice Au els.length cu] 24) = W12 at hb12a hm0 hm1 hmz
            have hs311 : w3.heap.size ≤ w11.heap.size := Nat.le_trans hs3w hB11.size
            have hs312 : w3.heap.size ≤ w12.heap.size := Nat.le_trans hs311 hb12.size
            have hrA12 := (hrA11.below (hb12.mono hs311)).below (hb12a.mono hs312)
            have HXX := next_any Aa ca xa W12 (hrA12.mono (Nat.le_trans hs312 (Nat.le_of_lt hmz))) hca (by omega)
            have HXE := HX1.out []
            rw [List.append_nil] at HXE
            rw [HXE] at HXX
            have HXX := Lib.hid HXX
            clear HXE hrA12 hrA11 he12
            have hB012 := (hB011.trans (hb12.mono hB011.size)).trans (hb12a.mono (hB011.trans (hb12.mono hB011.size)).size)
            go_wp2_with fail
            refine HXX.out.mono ?_
            rintro e w13 ⟨u13, rfl, he13, hb13⟩
            obtain ⟨Aw, cw, rfl, hea13⟩ := he13.at_
            have hb13a := (Below.refl w13.heap.size w13).alloc (Nat.le_refl _) (.cells #[.string ⟨tg.toArray⟩, .slice Aw els.length cw] 24)
            have hp0 : (w13.alloc (.cells #[.string ⟨tg.toArray⟩, .slice Aw els.length cw] 24)).cell? ⟨w13.heap.size, 0, none⟩ = some (.string ⟨tg.toArray⟩) := by simp
            have hp1 : (w13.alloc (.cells #[.string ⟨tg.toArray⟩, .slice Aw els.length cw] 24)).cell? ⟨w13.heap.size, 1, none⟩ = some (.slice Aw els.length cw) := by simp
            have hpz : w13.heap.size < (w13.alloc (.cells #[.string ⟨tg.toArray⟩, .slice Aw els.length cw] 24)).heap.size := by simp
            generalize hW13 : w13.alloc (.cells #[.string ⟨tg.toArray⟩, .slice Aw els.length cw] 24) = W13 at hb13a hp0 hp1 hpz
            have hz12 : w12.heap.size < w13.heap.size := Nat.lt_of_lt_of_le hmz hb13.size
            have hb1213 : Below W12.heap.size W12 W13 := hb13.trans (hb13a.mono hb13.size)
            have hn0 : W13.cell? ⟨w12.heap.size, 0, none⟩ = some (.string ⟨tg.toArray⟩) := (hb1213.cell (p := ⟨w12.heap.size, 0, none⟩) hmz).trans hm0
            have hn1 : W13.cell? ⟨w12.heap.size, 1, none⟩ = some (.slice Au els.length cu) := (hb1213.cell (p := ⟨w12.heap.size, 1, none⟩) hmz).trans hm1
            have hea1 : ElsAt W13 w12.heap.size Au els := (hea12.below hb12a).below (hb1213.mono (Nat.le_of_lt hmz))
            have hea2 : ElsAt W13 w13.heap.size Aw els := hea13.below hb13a
            have hd1 := SegsAt.one W13 tg Au cu els w12.heap.size (Nat.le_trans (Nat.le_of_lt hz12) hb13a.size) hea1
            have hq1 := (Below.refl W13.heap.size W13).alloc (Nat.le_refl _) (.cells #[.string ⟨tg.toArray⟩, .slice Au els.length cu] 24)
            have hd2 := SegsAt.one (W13.alloc (.cells #[.string ⟨tg.toArray⟩, .slice Au els.length cu] 24)) tg Aw cw els w13.heap.size (Nat.le_trans (Nat.le_of_lt hpz) hq1.size) (hea2.below (hq1.mono (Nat.le_of_lt hpz)))
            have hq2 := (Below.refl (W13.heap.size + 1) (W13.alloc (.cells #[.string ⟨tg.toArray⟩, .slice Au els.length cu] 24))).alloc (by simp) (.cells #[.string ⟨tg.toArray⟩, .slice Aw els.length cw] 24)
            have hd1' := hd1.below hq2
            have hsz : (W13.alloc (.cells #[.string ⟨tg.toArray⟩, .slice Au els.length cu] 24)).heap.size = W13.heap.size + 1 := by simp
            rw [hsz] at hd2
            have HSM := Lib.hid (same_any _ _ 1 1 [⟨tg, els⟩] _ _ _ hd1' hd2 (by simp) (by simpa using hvs.out))
            have hB013 := hB012.trans (hb1213.mono hB012.size)
            have hB015 := (hB013.alloc hB013.size (.cells #[.string ⟨tg.toArray⟩, .slice Au els.length cu] 24)).alloc (by rw [hsz]; have := hB013.size; omega) (.cells #[.string ⟨tg.toArray⟩, .slice Aw els.length cw] 24)
            clear hd1 hd2 hd1' hq1 hq2 hsz hea1 hea2 hea12 hea13 he13 hW12 hm0 hm1
            go_wp2_with fail
            refine HSM.out.mono ?_
            rintro e w16 ⟨rfl, hq16⟩
            have hB016 := hB015.trans (hq16.below _)
            go_wp2_with (go_at_call 11; refine (HAW.out _).mono ?_; rintro e w17 ⟨rfl, hb17⟩)
            go_ret
            exact ⟨rfl, hB016.trans (hb17.mono hB016.size)⟩
        · exact absurd HZ3.out h
      · exact absurd HZ2.out h
    · exact absurd HZ1.out h
  · have hdk : decide (200 < k) = true := by simpa using hk1
    have hrc : ∀ W, (Instr.slice 32 (.slice A3 k c3) none (some (.int .i64 200)) none).run Try.prog W = .ok (.slice A3 200 c3) W := fun W => head_run W A3 k c3 200 (by omega)
    go_enter Try.func8, Try.ntmps8
    go_wp2_with fail
    refine HM1.out.mono ?_
    rintro e w1 ⟨v1, s, rfl, ho1, h12, hval1, hb1⟩
    obtain ⟨As, cs, rfl, hcs, hat1⟩ := ho1.at_
    have HV1 := Lib.hid hval1
    have HT1 := Lib.hid hat1
    clear hval1 hat1 ho1
    go_wp2_with fail
    refine (HM2.out _ hb1).mono ?_
    rintro e w2 ⟨v2, t, rfl, ho2, h12', hval2, hb2⟩
    obtain ⟨At, ct, rfl, hct, hat2⟩ := ho2.at_
    have HV2 := Lib.hid hval2
    have HT2 := Lib.hid hat2
    have hS2 := HT1.out.below hb2
    have HS2 := Lib.hid (hS2.mono hb2.size)
    clear hval2 hat2 ho2 hS2
    have HE1 := Lib.hid (encode_any As cs s w2 HS2.out (by omega) (fits_few (by omega)))
    have HE2 := Lib.hid (fun W (hb : Below w2.heap.size w2 W) => encode_any At ct t W ((HT2.out.below hb).mono hb.size) (by omega) (fits_few (by omega)))
    have HZ1 : Hid (encE? s = 0) := encE?_zero.2 HV1.out
    have HZ2 : Hid (encE? t = 0) := encE?_zero.2 HV2.out
    have HZ3 : Hid (encE? ([] ++ s ++ t) = 0) := encE?_zero.2 (by intro x hx; rw [List.nil_append] at hx; rcases List.mem_append.1 hx with hx | hx; exact HV1.out x hx; exact HV2.out x hx)
    have HA3 : Hid (encAll ([] ++ s ++ t) = encAll s ++ encAll t) := by show _ = _; rw [List.nil_append, encAll_append]
    have hl1 : (encAll s).length ≤ 300000000 := by have := encAll_len s HV1.out; omega
    have hl2 : (encAll t).length ≤ 300000000 := by have := encAll_len t HV2.out; omega
    go_wp2_with fail
    refine HE1.out.mono ?_
    rintro e w3 ⟨hb3, h⟩
    rcases h with ⟨_, va, rfl, hoa⟩ | ⟨h, _⟩
    · obtain ⟨Aa, ca, rfl, hra, hca, _⟩ := hoa.shape
      have hrA := RdB.of_rd hra
      clear hoa hra
      go_wp2_with fail
      refine (HE2.out _ hb3).mono ?_
      rintro e w4 ⟨hb4, h⟩
      rcases h with ⟨_, vb, rfl, hob⟩ | ⟨h, _⟩
      · obtain ⟨Ab, cb, rfl, hrb, hcb, _⟩ := hob.shape
        have hrB := RdB.of_rd hrb
        clear hob hrb
        have hB4 := hb3.trans (hb4.mono hb3.size)
        have hb5 := (Below.refl w4.heap.size w4).alloc (Nat.le_refl _) (.cells #[] 24)
        have hX5 := SegsX.empty w4 w4.heap.size w2.heap.size (Nat.le_refl _)
        have hS5 := (HS2.out.below hB4).below (hb5.mono hB4.size)
        have hT5 := (HT2.out.below hB4).below (hb5.mono hB4.size)
        have hst : s.length + t.length ≤ 24 := by omega
        generalize hW5 : w4.alloc (.cells #[] 24) = W5 at hb5 hX5 hS5 hT5
        have hsz5 := hb5.size
        go_wp2_with (first
          | (at_builtin; refine wpList_append_segs W5 rfl (.tmp 41) (.tmp 42) rfl w4.heap.size w2.heap.size _ [] rfl hX5 As _ cs s rfl rfl hS5 (by simp; omega) hsz5 hB4.size ?_; intro v6 w6 hX6 hb6; have hT6 := hT5.below (hb6.mono hB4.size); have hsz6 := Nat.le_trans hsz5 hb6.size)
          | (at_builtin; refine wpList_append_segs w6 rfl (.tmp 43) (.tmp 44) rfl w4.heap.size w2.heap.size _ ([] ++ s) rfl hX6 At _ ct t rfl rfl hT6 (by simp; omega) hsz6 hB4.size ?_; intro v7 w7 hX7 hb7; have hsz7 := Nat.le_trans hsz6 hb7.size; obtain ⟨A7, c7, rfl, hc7, hat7⟩ := hX7.at_ (Nat.le_trans hB4.size hsz7)))
        have hl7 : ([] ++ s ++ t).length = s.length + t.length := by simp
        have HE3 := encode_any A7 c7 ([] ++ s ++ t) w7 hat7 (by rw [hl7]; omega) (fits_few (by rw [hl7]; omega))
        rw [hl7] at HE3
        have HE3 := Lib.hid HE3
        clear hl7 hX5 hX6 hX7 hat7 hS5 hT5 hT6 hW5
        have hB7 : Below w2.heap.size w2 w7 := hB4.trans ((hb5.trans ((hb6.trans hb7))).mono hB4.size)
        have hrA7 := hrA.below (((hb4.trans ((hb5.trans (hb6.trans hb7)).mono hb4.size))))
        have hrB7 := hrB.below (hb5.trans (hb6.trans hb7))
        refine HE3.out.mono ?_
        rintro e w8 ⟨hb8, h⟩
        rcases h with ⟨_, vc, rfl, hoc⟩ | ⟨h, _⟩
        · rw [HA3.out] at hoc
          obtain ⟨Ac, cc, rfl, hrc, hcc, _⟩ := hoc.shape
          have hcv1 := conv_back w8 Ac cc (encAll s ++ encAll t) hrc
          rw [List.length_append] at hcv1
          have hs34 : w3.heap.size ≤ w7.heap.size := Nat.le_trans hb4.size (Nat.le_trans hb5.size (Nat.le_trans hb6.size hb7.size))
          have hs47 : w4.heap.size ≤ w7.heap.size := Nat.le_trans hb5.size (Nat.le_trans hb6.size hb7.size)
          have hrA8 := hrA7.below (hb8.mono hs34)
          have hrB8 := hrB7.below (hb8.mono hs47)
          have hcv2 := conv_back w8 Aa ca (encAll s) hrA8.rd
          have hcv3 := conv_back w8 Ab cb (encAll t) hrB8.rd
          have hB8 := hB7.trans (hb8.mono hB7.size)
          have hB08 : Below w.heap.size w w8 := (hb1.trans (hb2.mono hb1.size)).trans (hB8.mono (hb1.trans (hb2.mono hb1.size)).size)
          rw [List.length_append]
          clear hoc hrc hrA hrB hrA7 hrB7 hrB8
          have HR8 := Lib.hid hrA8
          clear hrA8
          by_cases hs0 : s.length = 0
          · have hsb : ((s.length : Int) == 0) = true := by rw [beq_iff_eq]; omega
            clear hs0
            generalize encAll s = xa at *
            generalize encAll t = xb at *
            have hcat := cat_bytes xa xb
            go_wp2_with (go_at_call 11; refine (HAW.out _).mono ?_; rintro e w9 ⟨rfl, hb9⟩)
            go_ret
            exact ⟨rfl, hB08.trans (hb9.mono hB08.size)⟩
          · have hsb : ((s.length : Int) == 0) = false := by rw [beq_eq_false_iff_ne]; omega
            obtain ⟨s0, rest, hsr⟩ : ∃ s0 rest, s = s0 :: rest := by
              cases s with
              | nil => exact absurd rfl hs0
              | cons a b => exact ⟨a, b, rfl⟩
            have hv0 : validF s0 = 0 := HV1.out s0 (by rw [hsr]; simp)
            have HX1 : Hid (∀ m : Bs, nextF (encAll s ++ m) = (s0, (encS s0).length, 0)) := fun m => by rw [hsr]; show nextF (encS s0 ++ encAll rest ++ m) = _; rw [List.append_assoc, next_enc hv0]
            have hvs := Lib.hid (valid_small hv0)
            clear hs0 hsr hv0
            generalize encAll s = xa at *
            generalize encAll t = xb at *
            have hcat := cat_bytes xa xb
            have hb9 := (Below.refl w8.heap.size w8).alloc (Nat.le_refl _) (.cells #[] 5)
            have hX9 := OwnXB.empty w8 w8.heap.size (Nat.le_refl _)
            have hs3w : w3.heap.size ≤ w8.heap.size := Nat.le_trans (Nat.le_trans hb4.size (Nat.le_trans hb5.size (Nat.le_trans hb6.size hb7.size))) hb8.size
            have hrA9 := HR8.out.below (hb9.mono hs3w)
            have hr39 := (HR3.out.below hB08).below (hb9.mono hB08.size)
            generalize hW9 : w8.alloc (.cells #[] 5) = W9 at hb9 hX9 hrA9 hr39
            have hsz9 := hb9.size
            have hB09 := hB08.trans (hb9.mono hB08.size)
            go_wp2_with (first
              | (at_builtin; refine wpList_append_bytes W9 rfl (.tmp 98) (.tmp 99) rfl w8.heap.size _ [] rfl hX9 Aa _ ca xa rfl rfl hrA9.rd (by simp; omega) hsz9 ?_; intro v10 w10 hX10 hb10; have hr310 := hr39.below (hb10.mono hB08.size); have hsz10 := Nat.le_trans hsz9 hb10.size)
              | (at_builtin; refine wpList_append_bytes w10 rfl (.tmp 100) (.tmp 101) rfl w8.heap.size _ ([] ++ xa) rfl hX10 A3 _ c3 m HN3.out rfl hr310.rd (by have := HN3.out; simp; omega) hsz10 ?_; intro v11 w11 hX11 hb11; have hsz11 := Nat.le_trans hsz10 hb11.size; obtain ⟨A11, c11, rfl, hr11, hc11, _⟩ := hX11.shape))
            have hl11 : ([] ++ xa ++ m).length = xa.length + m.length := by simp
            have hm200 := HN3.out
            have HX := next_any A11 c11 ([] ++ xa ++ m) w11 (RdB.of_rd hr11) hc11 (by rw [hl11]; omega)
            rw [hl11, List.nil_append, HX1.out] at HX
            have HX := Lib.hid HX
            have hB11 : Below w8.heap.size w8 w11 := hb9.trans (hb10.trans hb11)
            have hB011 := hB08.trans (hB11.mono hB08.size)
            have hrA11 := HR8.out.below (hB11.mono hs3w)
            clear hl11 hm200 hX9 hX10 hX11 hr11 hr39 hr310 hrA9 hW9 hc11
            have hee : (((encS s0).length : Int) == ((encS s0).length : Int)) = true := by simp
            obtain ⟨tg, els⟩ := s0
            generalize encS ⟨tg, els⟩ = xs at *
            refine HX.out.mono ?_
            rintro e w12 ⟨u12, rfl, he12, hb12⟩
            obtain ⟨Au, cu, rfl, hea12⟩ := he12.at_
            have hb12a := (Below.refl w12.heap.size w12).alloc (Nat.le_refl _) (.cells #[.string ⟨tg.toArray⟩, .slice Au els.length cu] 24)
            have hm0 : (w12.alloc (.cells #[.string ⟨tg.toArray⟩, .slice Au els.length cu] 24)).cell? ⟨w12.heap.size, 0, none⟩ = some (.string ⟨tg.toArray⟩) := by simp
            have hm1 : (w12.alloc (.cells #[.string ⟨tg.toArray⟩, .slice Au els.length cu] 24)).cell? ⟨w12.heap.size, 1, none⟩ = some (.slice Au els.length cu) := by simp
            have hmz : w12.heap.size < (w12.alloc (.cells #[.string ⟨tg.toArray⟩, .slice Au els.length cu] 24)).heap.size := by simp
            generalize hW12 : w12.alloc (.cells #[.string ⟨tg.toArray⟩, .slice Au els.length cu] 24) = W12 at hb12a hm0 hm1 hmz
            have hs311 : w3.heap.size ≤ w11.heap.size := Nat.le_trans hs3w hB11.size
            have hs312 : w3.heap.size ≤ w12.heap.size := Nat.le_trans hs311 hb12.size
            have hrA12 := (hrA11.below (hb12.mono hs311)).below (hb12a.mono hs312)
            have HXX := next_any Aa ca xa W12 (hrA12.mono (Nat.le_trans hs312 (Nat.le_of_lt hmz))) hca (by omega)
            have HXE := HX1.out []
            rw [List.append_nil] at HXE
            rw [HXE] at HXX
            have HXX := Lib.hid HXX
            clear HXE hrA12 hrA11 he12
            have hB012 := (hB011.trans (hb12.mono hB011.size)).trans (hb12a.mono (hB011.trans (hb12.mono hB011.size)).size)
            go_wp2_with fail
            refine HXX.out.mono ?_
            rintro e w13 ⟨u13, rfl, he13, hb13⟩
            obtain ⟨Aw, cw, rfl, hea13⟩ := he13.at_
            have hb13a := (Below.refl w13.heap.size w13).alloc (Nat.le_refl _) (.cells #[.string ⟨tg.toArray⟩, .slice Aw els.length cw] 24)
            have hp0 : (w13.alloc (.cells #[.string ⟨tg.toArray⟩, .slice Aw els.length cw] 24)).cell? ⟨w13.heap.size, 0, none⟩ = some (.string ⟨tg.toArray⟩) := by simp
            have hp1 : (w13.alloc (.cells #[.string ⟨tg.toArray⟩, .slice Aw els.length cw] 24)).cell? ⟨w13.heap.size, 1, none⟩ = some (.slice Aw els.length cw) := by simp
            have hpz : w13.heap.size < (w13.alloc (.cells #[.string ⟨tg.toArray⟩, .slice Aw els.length cw] 24)).heap.size := by simp
            generalize hW13 : w13.alloc (.cells #[.string ⟨tg.toArray⟩, .slice Aw els.length cw] 24) = W13 at hb13a hp0 hp1 hpz
            have hz12 : w12.heap.size < w13.heap.size := Nat.lt_of_lt_of_le hmz hb13.size
            have hb1213 : Below W12.heap.size W12 W13 := hb13.trans (hb13a.mono hb13.size)
            have hn0 : W13.cell? ⟨w12.heap.size, 0, none⟩ = some (.string ⟨tg.toArray⟩) := (hb1213.cell (p := ⟨w12.heap.size, 0, none⟩) hmz).trans hm0
            have hn1 : W13.cell? ⟨w12.heap.size, 1, none⟩ = some (.slice Au els.length cu) := (hb1213.cell (p := ⟨w12.heap.size, 1, none⟩) hmz).trans hm1
            have hea1 : ElsAt W13 w12.heap.size Au els := (hea12.below hb12a).below (hb1213.mono (Nat.le_of_lt hmz))
            have hea2 : ElsAt W13 w13.heap.size Aw els := hea13.below hb13a
            have hd1 := SegsAt.one W13 tg Au cu els w12.heap.size (Nat.le_trans (Nat.le_of_lt hz12) hb13a.size) hea1
            have hq1 := (Below.refl W13.heap.size W13).alloc (Nat.le_refl _) (.cells #[.string ⟨tg.toArray⟩, .slice Au els.length cu] 24)
            have hd2 := SegsAt.one (W13.alloc (.cells #[.string ⟨tg.toArray⟩, .slice Au els.length cu] 24)) tg Aw cw els w13.heap.size (Nat.le_trans (Nat.le_of_lt hpz) hq1.size) (hea2.below (hq1.mono (Nat.le_of_lt hpz)))
            have hq2 := (Below.refl (W13.heap.size + 1) (W13.alloc (.cells #[.string ⟨tg.toArray⟩, .slice Au els.length cu] 24))).alloc (by simp) (.cells #[.string ⟨tg.toArray⟩, .slice Aw els.length cw] 24)
            have hd1' := hd1.below hq2
            have hsz : (W13.alloc (.cells #[.string ⟨tg.toArray⟩, .slice Au els.length cu] 24)).heap.size = W13.heap.size + 1 := by simp
            rw [hsz] at hd2
            have HSM := Lib.hid (same_any _ _ 1 1 [⟨tg, els⟩] _ _ _ hd1' hd2 (by simp) (by simpa using hvs.out))
            have hB013 := hB012.trans (hb1213.mono hB012.size)
            have hB015 := (hB013.alloc hB013.size (.cells #[.string ⟨tg.toArray⟩, .slice Au els.length cu] 24)).alloc (by rw [hsz]; have := hB013.size; omega) (.cells #[.string ⟨tg.toArray⟩, .slice Aw els.length cw] 24)
            clear hd1 hd2 hd1' hq1 hq2 hsz hea1 hea2 hea12 hea13 he13 hW12 hm0 hm1
            go_wp2_with fail
            refine HSM.out.mono ?_
            rintro e w16 ⟨rfl, hq16⟩
            have hB016 := hB015.trans (hq16.below _)
            go_wp2_with (go_at_call 11; refine (HAW.out _).mono ?_; rintro e w17 ⟨rfl, hb17⟩)
            go_ret
            exact ⟨rfl, hB016.trans (hb17.mono hB016.size)⟩
        · exact absurd HZ3.out h
      · exact absurd HZ2.out h
    · exact absurd HZ1.out h
theorem walkSegmentConcatenation (A1 : Option Addr) (c1 : Nat) (l1 : List Int) (A2 : Option Addr) (c2 : Nat) (l2 : List Int) (A3 : Option Addr) (c3 : Nat) (b : Bs) (w : World) (h1 : SlI w A1 c1 l1) (h2 : SlI w A2 c2 l2) (h3 : SlB w A3 c3 b) :
    Calls Try.prog 8 #[.slice A1 l1.length c1, .slice A2 l2.length c2, .slice A3 b.length c3] w fun e w' => e = .returned (.bool true) ∧ Below w.heap.size w w' := by
  by_cases h : b.length ≤ 200
  · exact law A1 A2 A3 c1 c2 c3 l1 l2 b b.length rfl h w h1 h2 h3.rd _ (.inl ⟨rfl, h⟩)
  · have ht : (b.take 200).length = 200 := by rw [List.length_take]; omega
    exact law A1 A2 A3 c1 c2 c3 l1 l2 (b.take 200) 200 ht.symm (by omega) w h1 h2 (((RdB.of_rd h3.rd).takeB 200).rd) _ (.inr ⟨b.length, rfl, by omega, h3.le, rfl⟩)
end segmentConcatenation
end Go.Proofs.Ytmnflbgejagpmaa
