/- Contract of the reference's Path: the walk. -/
import Derived.Test.YtchclfdkknlifaaDoorWk
namespace Go.Proofs.YtchclfdkknlifaaDoor
open Go.RowKit
set_option linter.unusedVariables false

def R1 (f to : Int) (w : World) (g : Nat) (ev pv nn : Value) (wr : World) : Prop :=
  ∃ n A c B d, n + g = 15 ∧ n ≤ 14 ∧ nn = .int .i64 (n : Int) ∧ ev = .slice A (lv f n).length c ∧ pv = .slice B (lv f n).length d ∧ LevelAt wr A B (lv f n) ∧ findR f to (14 - n) n = refPathF f to ∧ Below w.heap.size w wr
def R2 (L : Lvl) (to : Int) (w : World) (g : Nat) (ii : Value) (wr : World) : Prop := ∃ i, i + g = L.length ∧ ii = .int .i64 (i : Int) ∧ NoneTo L to i ∧ wr = w
def R3 (L : Lvl) (w : World) (g : Nat) (nv mv ii : Value) (wr : World) : Prop := ∃ i, i + g = L.length ∧ ii = .int .i64 (i : Int) ∧ NextAt wr w.heap.size nv mv (lvlR L i) ∧ Below w.heap.size w wr
def R4 (x : Int × List Int) (N : Lvl) (w : World) (g : Nat) (nv mv aa : Value) (wr : World) : Prop := ∃ j, j + g = 15 ∧ j ≤ 14 ∧ aa = .int .i64 ((j : Int) + 1) ∧ NextAt wr w.heap.size nv mv (rowR x N j) ∧ Below w.heap.size w wr

set_option maxRecDepth 100000 in
set_option maxHeartbeats 4000000 in
theorem refPath_in (f to : Int) (w : World) (h0 : 0 ≤ f) (h1 : f ≤ 13) (h2 : 0 ≤ to) (h3 : to ≤ 13) :
    Calls Tryd.prog 16 #[.int .i64 f, .int .i64 to] w (PathRet w (refPathF f to)) := by
  have hp0 : Hid (findR f to 14 0 = refPathF f to) := by unfold refPathF; rw [if_pos ⟨h0, h1, h2, h3⟩]; rfl
  have k1 : decide (f < 0) = false := by simp; omega
  have k2 : decide (13 < f) = false := by simp; omega
  have k3 : decide (to < 0) = false := by simp; omega
  have k4 : decide (13 < to) = false := by simp; omega
  have hst := LevelAt.start w f 3 29
  go_enter Tryd.func16, Tryd.ntmps16
  go_wp2
  go_loopg [6, 7, 8] 15 (fun g ev pv nn wr => R1 f to w g ev pv nn wr)
  case atStart => exact ⟨0, _, 1, _, 1, rfl, by omega, rfl, rfl, rfl, hst, hp0.out, ((Below.refl _ _).alloc (Nat.le_refl _) _).alloc (by simp) _⟩
  case round =>
    clear hst
    obtain ⟨n, A, c, B, d, hn, hn14, rfl, rfl, rfl, hlev, hfind, hb⟩ := hrel
    have HN := Lib.hid hn
    have HF := Lib.hid hfind
    clear hn hfind
    by_cases hlt : n < 14
    · have HHIT := Lib.hid (fun i => findR_hit (f := f) (to := to) (i := i) hlt)
      have HMISS := Lib.hid (findR_miss (f := f) (to := to) hlt)
      have HPL := Lib.hid (fun i j => part_len h0 h1 (n := n) (i := i) (j := j) (by omega))
      have HPP := Lib.hid (lv_path f n)
      have hL := lv_len h0 h1 (n := n) (by omega)
      have HNX : Hid (lv f (n + 1) = lvlR (lv f n) (lv f n).length) := rfl
      obtain ⟨L, hLe⟩ : ∃ L, L = lv f n := ⟨_, rfl⟩
      rw [← hLe] at HHIT HMISS HPL HPP hL HNX hlev
      rw [← hLe]
      clear hLe
      obtain ⟨wo, hwo⟩ : ∃ wo : World, wo = wr := ⟨_, rfl⟩
      rw [← hwo]
      rw [← hwo] at hlev hb
      clear hwo
      have hdn : decide ((n : Int) ≤ 13) = true := by simp; omega
      go_wp2
      go_loopg [11] L.length (fun g ii wr => R2 L to wo g ii wr)
      case atStart => exact ⟨0, by omega, rfl, fun j hj => absurd hj (by omega), rfl⟩
      case round =>
        obtain ⟨i, hi, rfl, hnone, rfl⟩ := hrel
        have HI := Lib.hid hi
        have hi2 : i ≤ L.length := by omega
        clear hi
        by_cases hil : i < L.length
        · obtain ⟨b, off, b2, off2, A', d', rfl, hc, rfl, hc2, hrd⟩ := hlev.at_ hil
          have HH := Lib.hid (fun h => HHIT.out i hil hnone h)
          have HX : Hid (¬ (L.getD i (0, [])).1 = to → NoneTo L to (i + 1)) := fun h j hj => by
            by_cases e : j = i
            · subst e; exact h
            · exact hnone j (by omega)
          generalize L.getD i (0, []) = x at *
          obtain ⟨x1, x2⟩ := x
          by_cases he : x1 = to
          · have hbe : (x1 == to) = true := by simpa using he
            have H3 := Lib.hid (HH.out he)
            clear he HH HX
            go_wp2
            go_ret2
            refine ⟨hb, ?_⟩
            rw [← HF.out, H3.out]
            exact ⟨_, _, rfl, hrd⟩
          · have hbe : (x1 == to) = false := by simpa using he
            have H3 := Lib.hid (HX.out he)
            clear he HH HX
            go_wp2
            go_roundg (L.length - (i + 1))
            case measure => have := HI.out; omega
            case rel => exact ⟨i + 1, by omega, by go_num, H3.out, rfl⟩
        · have hge : L.length ≤ i := by omega
          have HM : Hid (findR f to (14 - n) n = findR f to (14 - (n + 1)) (n + 1)) := HMISS.out (by rw [show L.length = i by omega]; exact hnone)
          clear hil hnone HHIT HMISS
          have hdi : decide (i < L.length) = false := by simp; omega
          go_wp2
          obtain ⟨w3, hw3⟩ : ∃ w3 : World, w3 = wr := ⟨_, rfl⟩
          rw [← hw3]
          rw [← hw3] at hlev hb
          clear hw3
          have hnx := NextAt.start w3
          go_loopg [9, 10, 12] L.length (fun g nv mv ii wx => R3 L w3 g nv mv ii wx)
          case atStart => exact ⟨0, by omega, rfl, hnx, Below.refl _ _⟩
          case round =>
            clear hnx
            obtain ⟨k, hk, rfl, hnext, hb3⟩ := hrel
            have HKK := Lib.hid hk
            have hk2 : k ≤ L.length := by omega
            clear hk
            by_cases hkl : k < L.length
            · obtain ⟨b, off, b2, off2, A', d', rfl, hc, rfl, hc2, hrd⟩ := hlev.at_ hkl
              have hpl : Hid (∀ j, j ≤ 14 → (rowR (L.getD k (0, [])) (lvlR L k) j).length ≤ 14) := fun j hj => HPL.out k j hkl hj
              have hxl : (L.getD k (0, [])).2.length = n := by
                rw [List.getD, List.getElem?_eq_getElem hkl]
                exact HPP.out _ (List.getElem_mem _)
              have HRS : Hid (lvlR L (k + 1) = rowR (L.getD k (0, [])) (lvlR L k) 14) := rfl
              obtain ⟨x, hx⟩ : ∃ x, x = L.getD k (0, []) := ⟨_, rfl⟩
              rw [← hx] at hpl hxl HRS hc hc2 hrd
              clear hx
              obtain ⟨N0, hN0⟩ : ∃ N0, N0 = lvlR L k := ⟨_, rfl⟩
              rw [← hN0] at hpl HRS hnext
              clear hN0
              have hxl2 : x.2.length ≤ 14 := by omega
              clear hxl
              obtain ⟨w4, hw4⟩ : ∃ w4 : World, w4 = wr := ⟨_, rfl⟩
              rw [← hw4]
              rw [← hw4] at hnext hb3
              clear hw4
              have hdk : decide (k < L.length) = true := by simp; omega
              go_wp2
              go_loopg [9, 10, 13] 15 (fun g nv mv aa wx => R4 x N0 w3 g nv mv aa wx)
              case atStart => exact ⟨0, rfl, by omega, rfl, hnext, hb3⟩
              case round =>
                clear hnext hb3
                obtain ⟨j, hj, hj14, rfl, hnext, hb4⟩ := hrel
                have HJ := Lib.hid hj
                clear hj
                by_cases hjl : j < 14
                · have hc' : wr.cell? ⟨b, off + k, none⟩ = some (.int .i64 x.1) := (hb4.cell (p := ⟨b, off + k, none⟩) (cell_lt hc)).trans hc
                  have hbb2 : b2 < w3.heap.size := cell_lt hc2
                  have hrd' := hrd.below hb4
                  have hpl2 := hpl.out j (by omega)
                  obtain ⟨N, hN⟩ : ∃ N, N = rowR x N0 j := ⟨_, rfl⟩
                  rw [← hN] at hnext hpl2
                  have HT : Hid (rowR x N0 (j + 1) = stepR x N ((j : Int) + 1)) := by rw [hN]; rfl
                  clear hN
                  have hn := fun w => refNext_any x.1 ((j : Int) + 1) w
                  obtain ⟨r1, hr1⟩ : ∃ y, y = (nextF x.1 ((j : Int) + 1)).1 := ⟨_, rfl⟩
                  obtain ⟨r2, hr2⟩ : ∃ y, y = (nextF x.1 ((j : Int) + 1)).2 := ⟨_, rfl⟩
                  rw [← hr1, ← hr2] at hn
                  have HNX2 := Lib.hid hn
                  have HR1 := Lib.hid hr1
                  have HR2 := Lib.hid hr2
                  clear hn hr1 hr2
                  by_cases he : r2 = 0
                  · have hz : (r2 != 0) = false := by simpa using he
                    have HE := Lib.hid he
                    clear he
                    have hnextS := hnext
                    obtain ⟨ho, cs, hs, hrows⟩ := hnext
                    have hml : (N.map (fun e => e.1)).length ≤ 14 := by rw [List.length_map]; exact hpl2
                    have HHB := Lib.hid (fun b (h : hasF (N.map (fun e => e.1)) r1 = b) => h)
                    obtain ⟨E, hE⟩ : ∃ E, E = N.map (fun e => e.1) := ⟨_, rfl⟩
                    rw [← hE] at ho hml
                    have HEE := Lib.hid hE
                    clear hE HHB
                    obtain ⟨A9, c9, rfl, hr9, _, _⟩ := ho.shape
                    have HHAS := Lib.hid (fun w hs => has_any A9 c9 E r1 w hs (by omega))
                    cases hh : hasF E r1 with
                    | true =>
                      have HB := Lib.hid hh
                      clear hh
                      have HHAS2 : Hid (∀ w, Rd w A9 (ints E) → Calls Tryd.prog 27 #[.slice A9 E.length c9, .int .i64 r1] w fun e w' => e = .returned (.bool true) ∧ w = w') := fun w hw => by have := HHAS.out w hw; rwa [HB.out] at this
                      go_wp2_with (first
                        | (go_at_call 11; refine (HNX2.out _).mono ?_; rintro e w' ⟨rfl, rfl⟩)
                        | (go_at_call 27; refine (HHAS2.out _ hr9).mono ?_; rintro e w' ⟨rfl, rfl⟩))
                      go_roundg (14 - j)
                      case measure => have := HJ.out; omega
                      case rel =>
                        refine ⟨j + 1, by omega, by omega, by go_num, ?_, hb4⟩
                        rw [HT.out, stepR_seen (by rw [← HR1.out, ← HEE.out]; exact HB.out)]
                        exact hnextS
                    | false =>
                      have HB := Lib.hid hh
                      clear hh
                      have HHAS2 : Hid (∀ w, Rd w A9 (ints E) → Calls Tryd.prog 27 #[.slice A9 E.length c9, .int .i64 r1] w fun e w' => e = .returned (.bool false) ∧ w = w') := fun w hw => by have := HHAS.out w hw; rwa [HB.out] at this
                      have hsz4 := hb4.size
                      have hcl : cs.length ≤ 14 := by have := hrows.1; omega
                      have ho1 := OwnX.alloc ho (.cells #[.int .i64 r1] 3)
                      go_wp2_with (first
                        | (go_at_call 11; refine (HNX2.out _).mono ?_; rintro e w' ⟨rfl, rfl⟩)
                        | (go_at_call 27; refine (HHAS2.out _ hr9).mono ?_; rintro e w' ⟨rfl, rfl⟩)
                        | (at_builtin; refine wpList_append_int _ rfl (.tmp 79) (.tmp 81) rfl w3.heap.size _ E rfl ho1 (some ⟨wr.heap.size, 0, none⟩) 1 1 [r1] rfl rfl (Rd.one wr _ _) (by simp only [List.length_singleton]; omega) (by simp; omega) ?_; intro nv2 W2 ho2 hg2 hat2; have hb2 : Below w3.heap.size w3 W2 := (hb4.alloc hb4.size _).grown hg2 (by simp; omega) (fun g hg => (OwnX.block_lt ho hg).1); have hb2a := hb2.alloc hb2.size (.cells #[] 3); have hc2' : (W2.alloc (.cells #[] 3)).cell? ⟨b2, off2 + k, none⟩ = some (.slice A' x.2.length d') := (hb2a.cell (p := ⟨b2, off2 + k, none⟩) hbb2).trans hc2; have hrd2 := hrd.below hb2a; have hnew := OwnI.new W2 [] (by simp) #[] rfl 0 rfl)
                        | (at_builtin; refine wpList_append_int _ rfl (.tmp 84) (.tmp 88) rfl W2.heap.size (.slice (some ⟨W2.heap.size, 0, none⟩) 0 0) [] rfl hnew A' x.2.length d' x.2 rfl rfl hrd2 (by simp; omega) (by simp) ?_; intro v4 W4 ho4 hg4 hat4; have hb24 : Below W2.heap.size W2 W4 := ((Below.refl _ _).alloc (Nat.le_refl _) _).grown hg4 (by simp) (fun g hg => by simp [Value.ownBlock] at hg; omega); have ho4a := OwnX.alloc ho4 (.cells #[.int .i64 ((j : Int) + 1)] 3))
                        | (at_builtin; refine wpList_append_int _ rfl (.tmp 89) (.tmp 91) rfl W2.heap.size v4 ([] ++ x.2) rfl ho4a (some ⟨W4.heap.size, 0, none⟩) 1 1 [(j : Int) + 1] rfl rfl (Rd.one W4 _ _) (by simp; omega) (by have := hb24.size; simp; omega) ?_; intro v6 W6 ho6 hg6 hat6; obtain ⟨A6, c6, hv6, r6, _⟩ := ho6.shape; rw [show (([] : List Int) ++ x.2 ++ [(j : Int) + 1]).length = x.2.length + 1 from by simp] at hv6; subst hv6; have hb26 : Below W2.heap.size W2 W6 := (hb24.alloc hb24.size _).grown hg6 (by have := hb24.size; simp; omega) (fun g hg => (OwnX.block_lt ho4 hg).1); have hs1 := OwnX.alloc hs (.cells #[.int .i64 r1] 3); have hs2 : OwnS W2 w3.heap.size u10 cs := OwnX.kept hs1 hg2 (OwnX.ne_type hs1 ho1 (by decide)); have hs6 := OwnX.alloc (OwnX.below hs2 hb26) (.cells #[.slice A6 (x.2.length + 1) c6] 29))
                        | (at_builtin; refine wpList_append_sl _ rfl (.tmp 83) (.tmp 93) rfl w3.heap.size u10 cs rfl hs6 (some ⟨W6.heap.size, 0, none⟩) 1 1 [.slice A6 (x.2.length + 1) c6] rfl rfl (Rd.one W6 _ _) (by intro u hu; simp only [List.mem_singleton] at hu; subst hu; rfl) (by simp only [List.length_singleton]; omega) (by have := hb2.size; have := hb26.size; simp; omega) ?_; intro mv8 W8 ho8 hg8 hat8))
                      go_roundg (14 - j)
                      case measure => have := HJ.out; omega
                      case rel =>
                        have hb6 := hb2.trans (hb26.mono hb2.size)
                        have hb8 : Below w3.heap.size w3 W8 := (hb6.alloc hb6.size _).grown hg8 (by have := hb6.size; simp; omega) (fun g hg => (OwnX.block_lt hs hg).1)
                        refine ⟨j + 1, by omega, by omega, by go_num, ?_, hb8⟩
                        rw [HT.out, stepR_new (by rw [← HR2.out]; exact HE.out) (by rw [← HR1.out, ← HEE.out]; exact HB.out), ← HR1.out]
                        have ho6' := OwnX.alloc (OwnX.below ho2 hb26) (.cells #[.slice A6 (x.2.length + 1) c6] 29)
                        refine ⟨?_, cs ++ [.slice A6 (x.2.length + 1) c6], ho8, ?_⟩
                        · rw [List.map_append, ← HEE.out]
                          exact OwnX.kept ho6' hg8 (OwnX.ne_type ho6' hs6 (by decide))
                        · have q1 := (hrows.below ((Below.refl _ _).alloc (Nat.le_refl _) (.cells #[.int .i64 r1] 3))).ends hg2 hat2
                          have q2 := q1.below hb26
                          have q3 := q2.snoc (A := A6) (c := c6) (y := r1) r6 (fun a ha => by
                            have z1 := OwnX.block_lt ho6 (g := a.block) (by subst ha; rfl)
                            refine ⟨z1.2, fun e => ?_, fun e => ?_⟩
                            · have z2 := (OwnX.block_lt ho2 e.symm).2
                              omega
                            · have z2 := (OwnX.block_lt hs2 e.symm).2
                              omega)
                          have q4 := (q3.below ((Below.refl _ _).alloc (Nat.le_refl _) (.cells #[.slice A6 (x.2.length + 1) c6] 29))).paths hg8 hat8
                          simpa using q4
                  · have hz : (r2 != 0) = true := by simpa using he
                    have HE := Lib.hid he
                    clear he
                    go_wp2_with (go_at_call 11; refine (HNX2.out _).mono ?_; rintro e w' ⟨rfl, rfl⟩)
                    go_roundg (14 - j)
                    case measure => have := HJ.out; omega
                    case rel =>
                      refine ⟨j + 1, by omega, by omega, by go_num, ?_, hb4⟩
                      rw [HT.out, stepR_err (by rw [← HR2.out]; exact HE.out)]
                      exact hnext
                · have hge4 : 14 ≤ j := by omega
                  clear hjl
                  go_wp2
                  go_roundg (L.length - (k + 1))
                  case measure => have := HKK.out; omega
                  case rel =>
                    obtain rfl : j = 14 := by omega
                    exact ⟨k + 1, by omega, by go_num, by rw [HRS.out]; exact hnext, hb4⟩
            · have hge3 : L.length ≤ k := by omega
              clear hkl
              go_wp2
              go_roundg (14 - n)
              case measure => have := HN.out; omega
              case rel =>
                obtain rfl : k = L.length := by omega
                obtain ⟨A5, c5, B5, d5, rfl, rfl, hl5⟩ := hnext.level
                refine ⟨n + 1, A5, c5, B5, d5, by omega, by omega, by go_num, ?_, ?_, ?_, HM.out.symm.trans HF.out, hb.trans (hb3.mono hb.size)⟩
                · rw [HNX.out]
                · rw [HNX.out]
                · rw [HNX.out]; exact hl5
    · have hge : 14 ≤ n := by omega
      clear hlt
      go_wp2
      go_ret2
      refine ⟨hb, ?_⟩
      rw [← HF.out, show 14 - n = 0 by omega]
      rfl
end Go.Proofs.YtchclfdkknlifaaDoor
