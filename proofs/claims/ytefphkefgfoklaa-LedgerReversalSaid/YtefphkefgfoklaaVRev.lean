/- The law LedgerReversal: the walk. -/
import Derived.Test.YtefphkefgfoklaaHp
import Derived.Test.YtefphkefgfoklaaHq
import Derived.Deep.CutBlock
namespace Go.Proofs.Ytefphkefgfoklaa
open Go.RowKit
set_option linter.unusedVariables false

/-- the state behind a made ledger and a made entry, which lies in block g -/
theorem SA.start {w w1 w2 : World} {g : Nat} {A : Option Addr} {c : Nat} {L : List En} {x : En} (hE : EnsAt w.heap.size w1 (.slice A L.length c) L) (hl : L.length ≤ 30) (hb1 : Below w.heap.size w w1) (hb2 : Below w1.heap.size w1 w2) (hg : g = w2.heap.size) :
    SA w (w2.alloc (.cells #[.int .i64 x.num, .int .i64 x.day, .int .i64 x.kind, .int .i64 x.lot, .int .i64 x.amt, .int .i64 x.cause] 26)) g (.slice A L.length c) x L := by
  subst hg
  obtain ⟨A', c', e, h1, h2, h3, _⟩ := hE
  injection e with e1 _ e3
  subst e1; subst e3
  have q := (Below.refl w2.heap.size w2).alloc (Nat.le_refl _) (.cells #[.int .i64 x.num, .int .i64 x.day, .int .i64 x.kind, .int .i64 x.lot, .int .i64 x.amt, .int .i64 x.cause] 26)
  have hb : Below w.heap.size w w2 := hb1.trans (hb2.mono hb1.size)
  exact SA.mk0 ((RdN.of_rd (h1.below hb2)).below q) h2 h3 (by omega) (heap_alloc_new w2 _) (hb.trans (q.mono hb.size)) hb.size
theorem SA.slA {w wx : World} {g n c : Nat} {A : Option Addr} {y : En} {L : List En} (h : SA w wx g (.slice A n c) y L) (hl : L.length ≤ 1000000000) : SlE wx A L := by
  obtain ⟨A', c', e, h1, _⟩ := h.ens
  injection e with e1 _ _
  subst e1
  exact ⟨h1.rd, hl⟩
theorem Quiet.below_to {B : Nat} {w w' : World} (h : Below B w w') : Below B w w'.drew := ⟨h.os, h.tape, h.output, h.size, h.block⟩
theorem SA.of_ens {w w1 : World} {g : Nat} {y : En} {L : List En} {A : Option Addr} {c : Nat} (hr : SlE w1 A L) (hc : L.length ≤ c) (hcm : c ≤ maxLen) (hl : L.length ≤ 5000000000000)
    (hb : w1.heap[g]? = some (.cells (enArr y) 26 (0, 0))) (hw : Below w.heap.size w w1) (hk : ∀ a, A = some a → g < a.block) (hg : w.heap.size ≤ g) : SA w w1 g (.slice A L.length c) y L :=
  SA.mk0 (fun j u hu => by
    obtain ⟨ad, ha, hc⟩ := hr.rd j u hu
    exact ⟨ad, ha, by have := hk ad ha; omega, hc⟩) hc hcm hl hb hw hg
theorem app_err {w W : World} {g n c : Nat} {A : Option Addr} {y : En} {L : List En} {m : Int} (h : SA w W g (.slice A L.length c) y L) (hl : L.length ≤ 1000000) (hm : ledF (L ++ [y]) = m) (h0 : m ≠ 0) :
    Calls Try.prog 11 #[.slice A L.length c, enV y] W fun e w' => e = .returned (.tuple #[.slice none 0 0, .int .i64 m]) ∧ Below W.heap.size W w' :=
  (append_any A c L y W (h.slA (by omega))).mono fun e w' ha => by
    obtain ⟨v, h1, h2, h3, _⟩ := ha
    rw [hm] at h1 h3
    rw [h3 h0] at h1
    exact ⟨h1, h2⟩
namespace ledgerReversal
def OkE (L : List En) (y : En) : Prop := rangeB y = true ∧ y.num = (L.length : Int) + 1 ∧ y.kind ≠ 9
set_option maxRecDepth 100000 in
set_option maxHeartbeats 2000000 in
theorem law (A Am : Option Addr) (c cm : Nat) (l m : List Int) (w : World) (h : SlI w A c l) (hm : SlI w Am cm m) :
    Calls Try.prog 4 #[.slice A l.length c, .slice Am m.length cm] w fun e w' => e = .returned (.bool true) ∧ Below w.heap.size w w' := by
  have HLG := Lib.hid (ledger_any A c l w h)
  have HM := Lib.hid hm
  have HML := Lib.hid hm.lt
  have HAW := Lib.hid (fun W => awake_any W)
  clear h hm
  go_enter Try.func4, Try.ntmps4
  go_wp2_with fail
  refine HLG.out.mono ?_
  rintro e w1 ⟨v, L, rfl, hE, hv, hL, hb⟩
  have HE := Lib.hid hE
  obtain ⟨A1, c1, rfl, _, hlc, hcm, _⟩ := hE
  have HC := Lib.hid (And.intro hlc (show c1 ≤ 9223372036854775807 by unfold maxLen at hcm; omega))
  have HV := Lib.hid hv
  have HB := Lib.hid hb
  have HEN := Lib.hid (srcEntry_any w1.heap.size Am cm m 0 L.length _ (src_new HM.out hb (by have := HML.out; omega)) (by omega) (by omega))
  have HQ := Lib.hid ((Below.refl w1.heap.size w1).alloc (Nat.le_refl _) (.cells #[.slice Am m.length cm, .int .i64 0] 30))
  clear hv hb hlc hcm HLG
  go_wp2_with fail
  refine HEN.out.mono ?_
  rintro e w2 ⟨x, i2, rfl, hmd, hS2, hT2, hF2⟩
  have hb2 := HQ.out.trans (hT2.below (Nat.le_refl _) HQ.out.size)
  have S3 := SA.start (x := x) HE.out (by omega) HB.out hb2 rfl
  have HMR := Lib.hid (made_range hmd)
  have HMN := Lib.hid hmd.1
  clear HEN hmd hS2 hT2 hF2 HQ
  have HE2 := Lib.hid hb2
  clear hb2
  unfold enV at *
  have HSS := Lib.hid S3
  clear S3
  go_upto_if 26 with (fail)
  have S3 := HSS.out
  generalize w2.alloc (.cells #[.int .i64 x.num, .int .i64 x.day, .int .i64 x.kind, .int .i64 x.lot, .int .i64 x.amt, .int .i64 x.cause] 26) = w3 at S3 ⊢
  clear HSS HE2
  generalize w2.heap.size = g at S3 ⊢
  have hgl := S3.lt
  obtain ⟨⟨k0, k1, k2, k3, k4, k5⟩, f0, f1, f2, f3, f4, f5⟩ := S3.cells
  have S3 := Lib.hid S3
  go_cut [] (fun wx => ∃ y, SA w wx g (.slice A1 L.length c1) y L ∧ OkE L y)
  case first =>
    by_cases h9 : x.kind = 9
    · have h9' : (x.kind == 9) = true := by simpa using h9
      have H9 := Lib.hid h9
      clear h9
      go_wp2_with fail
      go_meet
      refine ⟨⟨x.num, x.day, 1, x.lot, 7, x.cause⟩, (S3.out.set 2 (.int .i64 1) (z := { x with kind := 1 }) rfl).set 4 (.int .i64 7) rfl, ?_, HMN.out, by simp⟩
      obtain ⟨a, b, cc, d, ee⟩ := range_iff.1 HMR.out
      exact range_iff.2 ⟨a, ⟨by simp, by simp⟩, cc, ⟨by simp, by simp⟩, ee⟩
    · have h9' : (x.kind == 9) = false := by simpa using h9
      have H9 := Lib.hid h9
      clear h9
      go_wp2_with fail
      go_meet
      exact ⟨x, S3.out, HMR.out, HMN.out, H9.out⟩
  case rest =>
    obtain ⟨w4, rfl⟩ : ∃ x, x = wc := ⟨_, rfl⟩
    obtain ⟨y, hS, hy⟩ := hcut
    obtain ⟨A', c', he, hsl, _, _⟩ := hS.sl (by omega)
    injection he with he _ he2
    subst he; subst he2
    have HAP := Lib.hid ((append_any A1 c1 L y w4 hsl).mono fun e w' (ha : AppRet L y w4 e w') => ha.x)
    have hcase := app_plain HV.out (by omega) hy.1 hy.2.1 hy.2.2
    have HY := Lib.hid hy
    have HSL := Lib.hid hsl
    clear k0 k1 k2 k3 k4 k5 f0 f1 f2 f3 f4 f5 hgl
    obtain ⟨⟨k0, k1, k2, k3, k4, k5⟩, f0, f1, f2, f3, f4, f5⟩ := hS.cells
    have HSS := Lib.hid hS
    clear hy hsl hS S3 HMR HMN
    unfold enV at *
    go_wp2_with fail
    refine HAP.out.mono ?_
    rintro e w5 ⟨v5, rfl, hb5, hbad, hgood⟩
    have HB5 := Lib.hid hb5
    have HSS5 := Lib.hid (HSS.out.below hb5)
    rcases hcase with hz | hz
    · rw [hz]
      obtain ⟨A5, c5, rfl, hr5, hlc5, hcm5, _⟩ := hgood hz
      have h9 := HY.out.2.2
      have hok := rev_ok hz (by omega) h9
      have hbl := rev_bal hz (by omega) h9
      have hrng := range_iff.1 HY.out.1
      have HT1 := Lib.hid (rev_twice hz (by omega) h9 _ (.inl rfl))
      have HT2 := Lib.hid (rev_twice hz (by omega) h9 _ (.inr rfl))
      have HLT := Lib.hid (And.intro (show -9223372036854775808 ≤ y.lot by omega) (show y.lot ≤ 9223372036854775807 by omega))
      have HYL := Lib.hid (show (L ++ [y]).length ≤ 31 by simp; omega)
      have HAP2 : Hid (Calls Try.prog 11 #[.slice A5 (L ++ [y]).length c5, .agg #[.int .i64 ((L.length : Int) + 2), .int .i64 y.day, .int .i64 9, .int .i64 y.lot, .int .i64 ((L.length : Int) + 1), .int .i64 0]] (w5.alloc (.cells #[.int .i64 ((L.length : Int) + 2), .int .i64 y.day, .int .i64 9, .int .i64 y.lot, .int .i64 ((L.length : Int) + 1), .int .i64 0] 26)) (AppX (L ++ [y]) (revOf L y) (w5.alloc (.cells #[.int .i64 ((L.length : Int) + 2), .int .i64 y.day, .int .i64 9, .int .i64 y.lot, .int .i64 ((L.length : Int) + 1), .int .i64 0] 26)))) :=
        (append_any A5 c5 (L ++ [y]) (revOf L y) _ ⟨hr5.below ((Below.refl _ _).alloc (Nat.le_refl _) _), by simp; omega⟩).mono fun e w' ha => ha.x
      have HQ := Lib.hid ((Below.refl w5.heap.size w5).alloc (Nat.le_refl _) (.cells #[.int .i64 ((L.length : Int) + 2), .int .i64 y.day, .int .i64 9, .int .i64 y.lot, .int .i64 ((L.length : Int) + 1), .int .i64 0] 26))
      have HG := Lib.hid (heap_alloc_new w5 (.cells #[.int .i64 ((L.length : Int) + 2), .int .i64 y.day, .int .i64 9, .int .i64 y.lot, .int .i64 ((L.length : Int) + 1), .int .i64 0] 26))
      have HBL : Hid (∀ W A c, SlE W A L → Calls Try.prog 14 #[.slice A L.length c, .int .i64 y.lot] W fun e w' => e = .returned (baV y.lot (balF L y.lot)) ∧ Below W.heap.size W w') := Lib.hid fun W A c hs => by
        have := balanceOf_any A c L y.lot W hs HLT.out.1 HLT.out.2
        unfold bofF at this
        rw [if_pos HV.out] at this
        exact this
      have HBZ : Hid (∀ W A c, SlE W A (L ++ [y] ++ [revOf L y]) → Calls Try.prog 14 #[.slice A (L ++ [y] ++ [revOf L y]).length c, .int .i64 y.lot] W fun e w' => e = .returned (baV y.lot (balF L y.lot)) ∧ Below W.heap.size W w') := Lib.hid fun W A c hs => by
        have := balanceOf_any A c _ y.lot W hs HLT.out.1 HLT.out.2
        unfold bofF at this
        rw [if_pos hok, hbl] at this
        exact this
      have HOK := Lib.hid hok
      unfold baV at HBL HBZ
      generalize balF L y.lot = bb at HBL HBZ
      clear hz hgood hb5 hbad hr5 hlc5 hcm5 hok hbl hrng h9 HLT k0 k1 k2 k3 k4 k5 f0 f1 f2 f3 f4 f5 HAP
      obtain ⟨⟨k0, k1, k2, k3, k4, k5⟩, f0, f1, f2, f3, f4, f5⟩ := HSS5.out.cells
      generalize hY : L ++ [y] = Y at *
      clear hY
      go_wp2_with fail
      refine HAP2.out.mono ?_
      rintro e w6 ⟨v6, rfl, hb6, hbad, hgood⟩
      rw [HOK.out]
      obtain ⟨A6, c6, rfl, hr6, hlc6, hcm6, hbk6⟩ := hgood HOK.out
      clear hbad hgood k0 k1 k2 k3 k4 k5 f0 f1 f2 f3 f4 f5
      have HSS6 := Lib.hid (HSS5.out.below (HQ.out.trans (hb6.mono HQ.out.size)))
      have HR6 := Lib.hid (show SlE w6 A6 (Y ++ [revOf L y]) from ⟨hr6, by simp; have := HYL.out; omega⟩)
      have HBK := Lib.hid hbk6
      have HC6 := Lib.hid (And.intro hlc6 hcm6)
      have HZL := Lib.hid (show (Y ++ [revOf L y]).length ≤ 32 by simp; have := HYL.out; omega)
      have HWG := Lib.hid (HSS5.out.bel.size)
      have HG6 := Lib.hid ((hb6.block w5.heap.size (by simp)).trans HG.out)
      have HGL := Lib.hid (show w5.heap.size < w6.heap.size by have := hb6.size; simp at this; omega)
      clear hr6 hlc6 hcm6 hbk6 hb6 HAP2 HG HQ
      obtain ⟨⟨k0, k1, k2, k3, k4, k5⟩, f0, f1, f2, f3, f4, f5⟩ := HSS6.out.cells
      generalize hZ : Y ++ [revOf L y] = Z at *
      clear hZ
      have HSS6D : Hid (SA w w6.drew g (.slice A1 L.length c1) y L) := ⟨HSS6.out.ens, HSS6.out.len, HSS6.out.box, Quiet.below_to HSS6.out.bel, HSS6.out.ge⟩
      have HR6D : Hid (SlE w6.drew A6 Z) := Lib.hid ⟨HR6.out.rd, HR6.out.len⟩
      have hgs : w5.heap.size < w6.drew.heap.size := HGL.out
      go_wp2_with fail
      refine wp_region_x 13 (by kernel_rfl) (fun W => W.cell? ⟨g, 3, none⟩ = some (.int .i64 y.lot)) ?_
      refine wpAnyX_take (i := 0) (v := .int .i64 0) rfl (by kernel_rfl) (by kernel_rfl) (by kernel_rfl) (by kernel_rfl) (fun _ _ _ h => h) k3 (Or.inl ⟨by rfl, fun w hS => by go_simp⟩) ?_
      go_simp
      refine wpAnyX_take (i := 1) (v := .bool false) rfl (by kernel_rfl) (by kernel_rfl) (by kernel_rfl) (by kernel_rfl) (fun _ _ _ h => h) k3 (Or.inl ⟨by rfl, fun w hS => by go_simp⟩) ?_
      go_simp
      refine wpAnyX_take (i := 2) (v := .bool false) rfl (by kernel_rfl) (by kernel_rfl) (by kernel_rfl) (by kernel_rfl) (fun _ _ _ h => h) k3 (Or.inl ⟨by rfl, fun w hS => by go_simp⟩) ?_
      go_simp
      refine wpAnyX_take (i := 3) (v := .slice A6 Z.length c6) rfl (by kernel_rfl) (by kernel_rfl) (by kernel_rfl) (by kernel_rfl) (fun _ _ _ h => h) k3 (Or.inl ⟨by rfl, fun w hS => by go_simp⟩) ?_
      go_simp
      refine wpAnyX_take (i := 4) (v := .pointer (some ⟨g, 3, none⟩)) rfl (by kernel_rfl) (by kernel_rfl) (by kernel_rfl) (by kernel_rfl) (fun _ _ _ h => h) k3 (Or.inl ⟨by rfl, fun w hS => by go_simp⟩) ?_
      go_simp
      refine wpAnyX_take (i := 5) (v := .int .i64 y.lot) rfl (by kernel_rfl) (by kernel_rfl) (by kernel_rfl) (by kernel_rfl) (fun _ _ _ h => h) k3 (Or.inl ⟨by rfl, fun w hS => by go_simp⟩) ?_
      go_simp
      refine wpAnyX_take (i := 7) (v := .slice A1 L.length c1) rfl (by kernel_rfl) (by kernel_rfl) (by kernel_rfl) (by kernel_rfl) (fun _ _ _ h => h) k3 (Or.inl ⟨by rfl, fun w hS => by go_simp⟩) ?_
      go_simp
      refine wpAnyX_take (i := 8) (v := .pointer (some ⟨g, 3, none⟩)) rfl (by kernel_rfl) (by kernel_rfl) (by kernel_rfl) (by kernel_rfl) (fun _ _ _ h => h) k3 (Or.inl ⟨by rfl, fun w hS => by go_simp⟩) ?_
      go_simp
      refine wpAnyX_take (i := 9) (v := .int .i64 y.lot) rfl (by kernel_rfl) (by kernel_rfl) (by kernel_rfl) (by kernel_rfl) (fun _ _ _ h => h) k3 (Or.inl ⟨by rfl, fun w hS => by go_simp⟩) ?_
      go_simp
      refine wpAnyX_one (i := 6) (by kernel_rfl) rfl (fun K hK => ?_)
      go_simp
      go_wp2_with (go_at_call 14; refine (HBZ.out _ A6 c6 HR6D.out).mono ?_; rintro e w7 ⟨rfl, hb7⟩)
      refine hK.out _ _ (fun _ => (HSS6D.out.below hb7).cells.1.2.2.2.1) ?_
      clear hK K
      have k3 := (HSS6D.out.below hb7).cells.1.2.2.2.1
      have HSS7 := Lib.hid (HSS6D.out.below hb7)
      have HR7 := Lib.hid (HR6D.out.below hb7)
      have HG7 := Lib.hid ((hb7.block _ hgs).trans HG6.out)
      have HSZ7 := Lib.hid hb7.size
      clear hb7
      refine wpAnyX_one (i := 10) (by kernel_rfl) rfl (fun K hK => ?_)
      go_simp
      go_wp2_with (go_at_call 14; refine (HBL.out _ A1 c1 (HSS7.out.slA (by omega))).mono ?_; rintro e w8 ⟨rfl, hb8⟩)
      refine hK.out _ _ (fun _ => (HSS7.out.below hb8).cells.1.2.2.2.1) ?_
      clear hK K
      have k3 := (HSS7.out.below hb8).cells.1.2.2.2.1
      have HSS8 := Lib.hid (HSS7.out.below hb8)
      have HR8 := Lib.hid (HR7.out.below hb8)
      have HG8 := Lib.hid ((hb8.block _ (Nat.lt_of_lt_of_le hgs HSZ7.out)).trans HG7.out)
      clear hb8
      refine wpAnyX_take (i := 11) (v := .bool false) rfl (by kernel_rfl) (by kernel_rfl) (by kernel_rfl) (by kernel_rfl) (fun _ _ _ h => h) k3 (Or.inl ⟨by rfl, fun w hS => by go_simp⟩) ?_
      go_simp
      refine wpAnyX_take (i := 12) (v := .bool false) rfl (by kernel_rfl) (by kernel_rfl) (by kernel_rfl) (by kernel_rfl) (fun _ _ _ h => h) k3 (Or.inl ⟨by rfl, fun w hS => by go_simp⟩) ?_
      go_simp
      refine wpAnyX_done (by kernel_rfl) ?_
      have HZS := Lib.hid (SA.of_ens (w := w) (y := revOf L y) (g := w5.heap.size) HR8.out (show Z.length ≤ c6 from HC6.out.1) HC6.out.2 (by have := HZL.out; omega) HG8.out HSS8.out.bel (fun a ha => by have := HBK.out a ha; simp at this; omega) HWG.out)
      clear k0 k1 k2 k3 k4 k5 f0 f1 f2 f3 f4 f5 HSS6 HSS7 HSS8 HR6 HR7 HR8 HG6 HG7 HG8 HBL HBZ HSS6D HR6D
      have S9 := HZS.out.set 0 (.int .i64 ((L.length : Int) + 3)) (z := ⟨(L.length : Int) + 3, y.day, 9, y.lot, (L.length : Int) + 1, 0⟩) rfl
      have HAP3 := Lib.hid (app_err (n := 0) S9 (by have := HZL.out; omega) HT1.out (by decide))
      have HS9 := Lib.hid S9
      obtain ⟨⟨k0, k1, k2, k3, k4, k5⟩, f0, f1, f2, f3, f4, f5⟩ := HZS.out.cells
      have hgl := HZS.out.lt
      unfold enV at *
      clear S9 hgs
      go_wp2_with fail
      refine HAP3.out.mono ?_
      rintro e w10 ⟨rfl, hb10⟩
      have S10 := HS9.out.below hb10
      have S11 := S10.set 4 (.int .i64 ((L.length : Int) + 2)) (z := ⟨(L.length : Int) + 3, y.day, 9, y.lot, (L.length : Int) + 2, 0⟩) rfl
      have HAP4 := Lib.hid (app_err (n := 0) S11 (by have := HZL.out; omega) HT2.out (by decide))
      have HS11 := Lib.hid S11
      clear k0 k1 k2 k3 k4 k5 f0 f1 f2 f3 f4 f5 hgl
      obtain ⟨⟨k0, k1, k2, k3, k4, k5⟩, f0, f1, f2, f3, f4, f5⟩ := S10.cells
      have hgl := S10.lt
      unfold enV at *
      clear S10 S11 hb10
      go_wp2_with fail
      refine HAP4.out.mono ?_
      rintro e w11 ⟨rfl, hb11⟩
      have HS12 := Lib.hid (HS11.out.below hb11)
      clear hb11
      go_wp2_with fail
      refine (HAW.out w11).mono ?_
      rintro e w12 ⟨rfl, hb12⟩
      have HB12 := Lib.hid (HS12.out.below hb12).bel
      go_wp2_with fail
      go_ret
      exact ⟨rfl, HB12.out⟩
    · rw [hz]
      have hbad := hbad (by rw [hz]; decide)
      subst hbad
      have HZ := Lib.hid hz
      clear hz hgood hb5
      go_wp2_with fail
      refine (HAW.out w5).mono ?_
      rintro e w8 ⟨rfl, hb8⟩
      have HB8 := Lib.hid (HSS5.out.below hb8).bel
      go_wp2_with fail
      go_ret
      exact ⟨rfl, HB8.out⟩
theorem walkLedgerReversal (A : Option Addr) (c : Nat) (l : List Int) (Am : Option Addr) (cm : Nat) (m : List Int) (w : World) (h : SlI w A c l) (hm : SlI w Am cm m) :
    Calls Try.prog 4 #[.slice A l.length c, .slice Am m.length cm] w fun e w' => e = .returned (.bool true) ∧ Below w.heap.size w w' := law A Am c cm l m w h hm
end ledgerReversal
end Go.Proofs.Ytefphkefgfoklaa
