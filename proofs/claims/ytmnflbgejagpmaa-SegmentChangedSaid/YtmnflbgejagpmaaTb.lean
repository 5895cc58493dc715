/- Contract of the reference's read: the walk. -/
import Derived.Test.YtmnflbgejagpmaaTa
import Derived.Deep.CutRange
import Derived.Test.YtmnflbgejagpmaaLast
namespace Go.Proofs.Ytmnflbgejagpmaa
open Go.RowKit
set_option linter.unusedVariables false

set_option maxRecDepth 100000 in
set_option maxHeartbeats 4000000 in
theorem read_any (A : Option Addr) (c : Nat) (b : Bs) (w : World) (hr : Rd w A (u8s b)) (hl : b.length ≤ 1000000000) :
    Calls Try.prog 33 #[.slice A b.length c] w (ReadRet b w) := by
  have hrB := RdB.of_rd hr
  go_enter Try.func33, Try.ntmps33
  go_wp2
  go_loopg [4, 5, 6] (b.length + 1) (fun g v o i wr => ReadRel b w g v o i wr)
  case atStart =>
    refine ⟨0, [], none, by omega, rfl, ?_, by simp, ⟨rfl, ?_⟩, True.intro, ?_, ?_, .inl ⟨by omega, rfl⟩⟩
    · exact OwnB.alloc (by have := World.ownsRow_made (e := 5) (size := 1) (base := w.heap.size) (w.alloc (.cells #[.string ⟨#[]⟩, .slice none 0 0] 24)) #[] 0 (by simp) (by unfold maxLen; omega) rfl; unfold OwnB; simpa [u8s] using this) _
    · have := heap_alloc_new ((w.alloc (.cells #[.string ⟨#[]⟩, .slice none 0 0] 24)).alloc (.cells #[] 5)) (.cells #[.string ⟨#[]⟩, .slice none 0 0] 24)
      have hs : ((w.alloc (.cells #[.string ⟨#[]⟩, .slice none 0 0] 24)).alloc (.cells #[] 5)).heap.size = w.heap.size + 1 + 1 := by simp
      rw [hs] at this
      exact this
    · have h0 : GAt (w.alloc (.cells #[.string ⟨#[]⟩, .slice none 0 0] 24)) w.heap.size ⟨#[]⟩ (.slice none 0 0) := heap_alloc_new w _
      exact (h0.below ((Below.refl _ _).alloc (Nat.le_refl _) _)).below ((Below.refl _ _).alloc (Nat.le_refl _) _)
    · exact (((Below.refl _ _).alloc (Nat.le_refl _) _).alloc (by simp) _).alloc (by simp; omega) _
  case round =>
    obtain ⟨k, wd, ph, hk, rfl, hown, hwl, hm, hpl, hR0, hb, hh⟩ := hrel
    have HR0 := Lib.hid hR0
    clear hR0
    have HK := Lib.hid hk
    have hk2 : k ≤ b.length + 1 := by omega
    have hBr := hb.size
    clear hk
    rcases hh with ⟨hkl, hinv⟩ | ⟨hkl, t, ini, last, rfl, hfin⟩
    · have HI := Lib.hid hinv
      have HM := Lib.hid hm
      obtain ⟨z, rfl⟩ := hm.open_
      clear hinv hm
      have hdl : decide ((k : Int) ≤ (b.length : Int)) = true := by simp; omega
      by_cases hlt : k < b.length
      · have hdl2 : decide ((k : Int) < (b.length : Int)) = true := by simp; omega
        have hb1 := u8_ne b[k] 63 (by omega)
        have hb2 := u8_ne b[k] 43 (by omega)
        have hb3 := u8_ne b[k] 58 (by omega)
        by_cases e1 : b[k] = 63 ∧ k + 1 < b.length
        · obtain ⟨e0, e2⟩ := e1
          have t1 : ((b[k].toNat : Int) == 63) = true := by rw [show (63 : Int) = ((63 : Nat) : Int) from rfl, hb1]; simpa using e0
          have HI2 := Lib.hid (RInv.pair e2 e0 HI.out)
          obtain ⟨b0, off, rfl, hc⟩ := (hrB.below hb).rd.at_lit (u8s_at hlt)
          have hc2 : wr.cell? ⟨b0, off + (k + 1), none⟩ = some (.int .u8 (b[k + 1].toNat : Int)) := by
            obtain ⟨b0', off', e, hc'⟩ := (hrB.below hb).rd.at_lit (u8s_at e2)
            injection e with e
            injection e with e3 e4
            subst e3; subst e4
            exact hc'
          have hdk : decide ((k : Int) + 1 < (b.length : Int)) = true := by simp; omega
          clear hb1 hb2 hb3 e0 HI
          generalize b[k] = y at hc t1
          generalize b[k + 1] = x at hc2 HI2
          go_wp2_with (at_builtin; refine wpList_append_byte wr rfl (.tmp 35) (.tmp 40) rfl w.heap.size _ wd x _ rfl rfl hown rfl (by omega) hBr ?_; intro v2 w2 hown2 hb2 _ hg2)
          go_roundg (b.length + 1 - (k + 2))
          case measure => have := HK.out; omega
          case rel => exact ⟨k + 2, _, ph, by omega, by go_num, hown2, by simp; omega, HM.out.grown hown hg2, hpl.mono (by omega), HR0.out.grown hg2 (own_ne_g hown HR0.out (by decide)), hb.trans hb2, .inl ⟨by omega, HI2.out⟩⟩
        · have hor : b[k] ≠ 63 ∨ b.length ≤ k + 1 := by
            by_cases h : b[k] = 63
            · exact .inr (by have : ¬ (k + 1 < b.length) := fun h2 => e1 ⟨h, h2⟩; omega)
            · exact .inl h
          by_cases e2 : b[k] ≠ 43 ∧ b[k] ≠ 58
          · obtain ⟨e3, e4⟩ := e2
            have HI2 := Lib.hid (RInv.one hlt hor e3 e4 HI.out)
            obtain ⟨b0, off, rfl, hc⟩ := (hrB.below hb).rd.at_lit (u8s_at hlt)
            have t2 : ((b[k].toNat : Int) == 43) = false := by rw [show (43 : Int) = ((43 : Nat) : Int) from rfl, hb2]; simpa using e3
            have t3 : ((b[k].toNat : Int) == 58) = false := by rw [show (58 : Int) = ((58 : Nat) : Int) from rfl, hb3]; simpa using e4
            have t2' : ((b[k].toNat : Int) != 43) = true := by rw [bne, t2]; rfl
            have t3' : ((b[k].toNat : Int) != 58) = true := by rw [bne, t3]; rfl
            by_cases e5 : b[k] = 63
            · have t1 : ((b[k].toNat : Int) == 63) = true := by rw [show (63 : Int) = ((63 : Nat) : Int) from rfl, hb1]; simpa using e5
              have hdk : decide ((k : Int) + 1 < (b.length : Int)) = false := by have : ¬ (k + 1 < b.length) := fun h2 => e1 ⟨e5, h2⟩; simp; omega
              clear hb1 hb2 hb3 e1 e3 e4 e5 hor HI
              generalize b[k] = y at hc t1 t2 t3 t2' t3' HI2
              go_wp2_with (at_builtin; refine wpList_append_byte wr rfl (.tmp 60) (.tmp 65) rfl w.heap.size _ wd y _ rfl rfl hown rfl (by omega) hBr ?_; intro v2 w2 hown2 hb2 _ hg2)
              go_roundg (b.length + 1 - (k + 1))
              case measure => have := HK.out; omega
              case rel => exact ⟨k + 1, _, ph, by omega, by go_num, hown2, by simp; omega, HM.out.grown hown hg2, hpl.mono (by omega), HR0.out.grown hg2 (own_ne_g hown HR0.out (by decide)), hb.trans hb2, .inl ⟨by omega, HI2.out⟩⟩
            · have t1 : ((b[k].toNat : Int) == 63) = false := by rw [show (63 : Int) = ((63 : Nat) : Int) from rfl, hb1]; simpa using e5
              clear hb1 hb2 hb3 e1 e3 e4 e5 hor HI
              generalize b[k] = y at hc t1 t2 t3 t2' t3' HI2
              go_wp2_with (at_builtin; refine wpList_append_byte wr rfl (.tmp 60) (.tmp 65) rfl w.heap.size _ wd y _ rfl rfl hown rfl (by omega) hBr ?_; intro v2 w2 hown2 hb2 _ hg2)
              go_roundg (b.length + 1 - (k + 1))
              case measure => have := HK.out; omega
              case rel => exact ⟨k + 1, _, ph, by omega, by go_num, hown2, by simp; omega, HM.out.grown hown hg2, hpl.mono (by omega), HR0.out.grown hg2 (own_ne_g hown HR0.out (by decide)), hb.trans hb2, .inl ⟨by omega, HI2.out⟩⟩
          · have hy : b[k] = 43 ∨ b[k] = 58 := by
              by_cases h : b[k] = 43
              · exact .inl h
              · exact .inr (by by_cases h' : b[k] = 58; exact h'; exact absurd ⟨h, h'⟩ e2)
            have t1 : ((b[k].toNat : Int) == 63) = false := by rcases hy with hy | hy <;> rw [hy] <;> decide
            obtain ⟨b0, off, rfl, hc⟩ := (hrB.below hb).rd.at_lit (u8s_at hlt)
            obtain ⟨Aw, cw, rfl, hrw, _, _⟩ := hown.shape
            have hcw := fun W (hB : Below wr.heap.size wr W) => conv_back W Aw cw wd (hrw.below hB)
            rcases ph with _ | ⟨t, ini, last⟩
            · obtain ⟨e, hG⟩ := HM.out
              injection e with _ e
              subst e
              obtain ⟨An, hAn⟩ : ∃ An : Option Addr, An = none := ⟨none, rfl⟩
              rw [← hAn] at hG
              have hAN := Lib.hid hAn
              clear hAn
              have hcw0 := conv_back wr Aw cw wd hrw
              have hc0 := hG.c0
              have hc1 := hG.c1
              have hf0 := hG.f0
              have hlt0 : b0 < w.heap.size := by
                obtain ⟨b0', off', e, hc'⟩ := hr.at_lit (u8s_at hlt)
                injection e with e
                injection e with e3 e4
                subst e3
                exact cell_lt hc'
              have hG2 := hG.set0 ⟨wd.toArray⟩
              have hcs : (wr.setCell ⟨w.heap.size + 1 + 1, 0, none⟩ (.string ⟨wd.toArray⟩)).cell? ⟨b0, off + k, none⟩ = some (.int .u8 (b[k].toNat : Int)) := by
                rw [World.cell?_of_block (Below.heap_setCell _ _ _ _ (by simp; omega))]; exact hc
              have hbs := hb.trans ((Below.refl w.heap.size wr).setCell (p := ⟨w.heap.size + 1 + 1, 0, none⟩) (by simp; omega) (.string ⟨wd.toArray⟩))
              have hRW := HR0.out.setO (g' := w.heap.size + 1 + 1) (by omega) 0 (.string ⟨wd.toArray⟩)
              generalize hW : wr.setCell ⟨w.heap.size + 1 + 1, 0, none⟩ (.string ⟨wd.toArray⟩) = W at hG2 hcs hbs hRW
              have HRW := Lib.hid hRW
              have hs1 := hG2.c1
              have hs0 := hG2.c0
              have hsf := hG2.f1
              rcases hy with hy | hy
              · have HI2 := Lib.hid (RInv.tag_plus HI.out hlt hy)
                rw [hy] at hc hcs
                obtain ⟨i1, hi1, hy0, hy1, hy2⟩ := info_parts strsInfo
                clear hb1 hb2 hb3 e1 e2 hor HI hy t1 hcw hrw
                go_wp2_with (at_builtin; go_loud (refine wpList_append_new W rfl (.tmp 122) (.tmp 123) 22 rfl w.heap.size 48 i1 _ 1 24 Try.underlying22 hi1 hy0 hy1 hy2 rfl (by omega) (.slice An 0 0) 0 [] [.slice none 0 0] rfl (by simp [Value.oneCell']) rfl (by rw [hAN.out]; exact World.ownsRow_nil _ _ _ _) rfl (by unfold maxLen; omega) (by omega) hbs.size ?_); intro v2 w2 hown2 hb2 _ hg2; have hG3 := hG2.grown hg2 (by rw [hAN.out]; simp [Value.ownBlock]); have hkf := hG3.f1; have hk1 := hG3.c1; have hEH := ElsHeld.setG (ElsHeld.first hown2 (Nat.le_trans hbs.size hb2.size)) hG3 1 v2; have hG4 := hG3.set1 v2; obtain ⟨Av, cv, rfl, _, _⟩ := own_shape hown2)
                go_roundg (b.length + 1 - (k + 1))
                case measure => have := HK.out; omega
                case rel =>
                  refine ⟨k + 1, [], some (wd, [], []), by omega, by go_num, OwnB.nil_ _ _, by simp, ⟨rfl, _, _, hG4, hEH⟩, ⟨by simp, by simp⟩, ?_, ?_, .inl ⟨by omega, HI2.out⟩⟩
                  · exact (HRW.out.grown hg2 (by rw [hAN.out]; simp [Value.ownBlock])).setO (by omega) _ _
                  · exact (hbs.trans hb2).setCell (by simp; omega) _
              · have HI2 := Lib.hid (RInv.tag_colon HI.out hlt hy)
                rw [hy] at hc hcs
                have hr0 := hRW.c0
                have hr1 := hRW.c1
                have hrf := hRW.f0
                have hrf1 := hRW.f1
                clear hb1 hb2 hb3 e1 e2 hor HI hy t1 hcw hrw hRW
                go_wp2_with fail
                refine bodyPost_ret (v := .agg #[.string ⟨wd.toArray⟩, .slice An 0 0]) (by simp [results, Try.results33, go_sem, hr0, hr1]) rfl ?_
                refine ⟨_, by rw [HI2.out], by rw [HI2.out, hAN.out]; exact ElsOwn.nil_ _ _, ?_⟩
                exact (hbs.setCell (Nat.le_refl _) _).setCell (Nat.le_refl _) _
            · rcases hy with hy | hy
              · obtain ⟨e, ev, M, hG, hE⟩ := HM.out
                injection e with _ e
                subst e
                obtain ⟨hpl1, hpl2⟩ := hpl
                have HE := Lib.hid hE
                have hBM : w.heap.size ≤ M := hE.1
                obtain ⟨gb, cap, Au, cu, rfl, hgB, hgl, hMs, hce, hfe, hq, hgn, hP⟩ := held_open hE
                have HP := Lib.hid hP
                have HGN := Lib.hid hgn
                have hne := hgn _ _ _ hG
                have hc1 := hG.c1
                have hGa : GAt (wr.alloc (.cells #[.string ⟨wd.toArray⟩] 9)).drew (w.heap.size + 1 + 1) ⟨t.toArray⟩ (.slice (some ⟨gb, 0, none⟩) (ini.length + 1) cap) := hG.below ((Below.refl _ _).alloc (Nat.le_refl _) (.cells #[.string ⟨wd.toArray⟩] 9)).drew
                have hcea : (wr.alloc (.cells #[.string ⟨wd.toArray⟩] 9)).drew.cell? ⟨gb, ini.length, none⟩ = some (.slice Au last.length cu) := (((Below.refl _ _).alloc (Nat.le_refl _) (.cells #[.string ⟨wd.toArray⟩] 9)).drew.cell (p := ⟨gb, ini.length, none⟩) hgl).trans hce
                have hcw1 := conv_back wr.drew Aw cw wd hrw
                have hi0 : (0 : Int) ≤ (ini.length : Int) := by omega
                have hi1 : (ini.length : Int) < (ini.length : Int) + 1 := by omega
                have hi3 : decide ((ini.length : Int) < 0) = false := by simp
                obtain ⟨i2, hi2, hz0, hz1, hz2⟩ := info_parts strInfo
                rw [hy] at hc
                have hyy := Lib.hid hy
                clear hE hP hcw hrw HM hgn hb1 hb2 hb3 e1 e2 hor t1 hy
                go_upto_if 68 with (fail)
                go_cut [68] from 9 to 129 (fun s68 wx => CutR w t wd ini last (.slice (some ⟨gb, 0, none⟩) (ini.length + 1) cap) M false wx)
                case first =>
                  rcases hcc : (decide (0 < wd.length) || decide (0 < last.length) || false) with _ | _
                  · have HC := Lib.hid hcc
                    clear hcc
                    have hd0 : decide (0 < wd.length) = false := by have := HC.out; rw [Bool.or_eq_false_iff, Bool.or_eq_false_iff] at this; exact this.1.1
                    have hd1 : decide (0 < last.length) = false := by have := HC.out; rw [Bool.or_eq_false_iff, Bool.or_eq_false_iff] at this; exact this.1.2
                    go_wp2_with fail
                    go_meet
                    exact ⟨last, hG, HE.out, wordEnd_no HC.out, by omega, HR0.out, hb⟩
                  · have HC := Lib.hid hcc
                    clear hcc
                    go_upto_region 12 with (fail)
                    go_cut [96] from 9 to 129 (fun s96 wx => s96 = .bool true ∧ wr = wx)
                    case first =>
                      rcases hA : decide (0 < wd.length) with _ | _
                      · rcases hB : decide (0 < last.length) with _ | _
                        · exact absurd HC.out (by rw [hA, hB]; decide)
                        · go_wp2_with fail
                          go_meet
                          exact ⟨rfl, rfl⟩
                      · go_wp2_with fail
                        go_meet
                        exact ⟨rfl, rfl⟩
                    case rest =>
                      obtain ⟨rfl, rfl⟩ := hcut
                      go_wp2_with fail
                      refine wp_region_x 13 (by kernel_rfl) (fun w' => w'.cell? ⟨w.heap.size + 1 + 1, 1, none⟩ = some (.slice (some ⟨gb, 0, none⟩) (ini.length + 1) cap) ∧ w'.cell? ⟨gb, ini.length, none⟩ = some (.slice Au last.length cu)) ?_
                      have HS : Hid (wr.drew.cell? ⟨w.heap.size + 1 + 1, 1, none⟩ = some (.slice (some ⟨gb, 0, none⟩) (ini.length + 1) cap) ∧ wr.drew.cell? ⟨gb, ini.length, none⟩ = some (.slice Au last.length cu)) := ⟨hc1, hce⟩
                      refine wpAnyX_take (i := 0) (v := .pointer (some ⟨w.heap.size + 1 + 1, 1, none⟩)) rfl (by kernel_rfl) (by kernel_rfl) (by kernel_rfl) (by kernel_rfl) (fun _ _ _ h => h) HS.out (Or.inl ⟨by rfl, fun w hS => by obtain ⟨hS1, hS2⟩ := hS; go_simp⟩) ?_
                      go_simp
                      refine wpAnyX_take (i := 1) (v := (.slice (some ⟨gb, 0, none⟩) (ini.length + 1) cap)) rfl (by kernel_rfl) (by kernel_rfl) (by kernel_rfl) (by kernel_rfl) (fun _ _ _ h => h) HS.out (Or.inl ⟨by rfl, fun w hS => by obtain ⟨hS1, hS2⟩ := hS; go_simp⟩) ?_
                      go_simp
                      refine wpAnyX_take (i := 2) (v := .int .i64 (ini.length : Int)) rfl (by kernel_rfl) (by kernel_rfl) (by kernel_rfl) (by kernel_rfl) (fun _ _ _ h => h) HS.out (Or.inl ⟨by rfl, fun w hS => by obtain ⟨hS1, hS2⟩ := hS; go_simp⟩) ?_
                      go_simp
                      refine wpAnyX_take (i := 3) (v := .pointer (some ⟨w.heap.size + 1 + 1, 1, none⟩)) rfl (by kernel_rfl) (by kernel_rfl) (by kernel_rfl) (by kernel_rfl) (fun _ _ _ h => h) HS.out (Or.inl ⟨by rfl, fun w hS => by obtain ⟨hS1, hS2⟩ := hS; go_simp⟩) ?_
                      go_simp
                      refine wpAnyX_take (i := 4) (v := (.slice (some ⟨gb, 0, none⟩) (ini.length + 1) cap)) rfl (by kernel_rfl) (by kernel_rfl) (by kernel_rfl) (by kernel_rfl) (fun _ _ _ h => h) HS.out (Or.inl ⟨by rfl, fun w hS => by obtain ⟨hS1, hS2⟩ := hS; go_simp⟩) ?_
                      go_simp
                      refine wpAnyX_take (i := 5) (v := .int .i64 (ini.length : Int)) rfl (by kernel_rfl) (by kernel_rfl) (by kernel_rfl) (by kernel_rfl) (fun _ _ _ h => h) HS.out (Or.inl ⟨by rfl, fun w hS => by obtain ⟨hS1, hS2⟩ := hS; go_simp⟩) ?_
                      go_simp
                      refine wpAnyX_take (i := 6) (v := .pointer (some ⟨gb, ini.length, none⟩)) rfl (by kernel_rfl) (by kernel_rfl) (by kernel_rfl) (by kernel_rfl) (fun _ _ _ h => h) HS.out (Or.inl ⟨by rfl, fun w hS => by obtain ⟨hS1, hS2⟩ := hS; go_simp⟩) ?_
                      go_simp
                      refine wpAnyX_take (i := 7) (v := .slice Au last.length cu) rfl (by kernel_rfl) (by kernel_rfl) (by kernel_rfl) (by kernel_rfl) (fun _ _ _ h => h) HS.out (Or.inl ⟨by rfl, fun w hS => by obtain ⟨hS1, hS2⟩ := hS; go_simp⟩) ?_
                      go_simp
                      refine wpAnyX_take (i := 8) (v := .slice Aw wd.length cw) rfl (by kernel_rfl) (by kernel_rfl) (by kernel_rfl) (by kernel_rfl) (fun _ _ _ h => h) HS.out (Or.inl ⟨by rfl, fun w hS => by obtain ⟨hS1, hS2⟩ := hS; go_simp⟩) ?_
                      go_simp
                      refine wpAnyX_one (i := 9) (by kernel_rfl) rfl (fun K hK => ?_)
                      go_simp
                      refine hK.out _ _ (fun _ => HS.out) ?_
                      clear hK K
                      refine wpAnyX_one (i := 10) (by kernel_rfl) rfl (fun K hK => ?_)
                      go_simp
                      refine hK.out _ _ (fun _ => ⟨hGa.c1, hcea⟩) ?_
                      clear hK K
                      refine wpAnyX_one (i := 11) (by kernel_rfl) rfl (fun K hK => ?_)
                      refine step_append_new wr (by rfl) (.tmp 104) (.tmp 107) 48 (by rfl) M 9 i2 _ 1 16 Try.underlying48 hi2 hz0 hz1 hz2 rfl (by omega) (.slice Au last.length cu) last.length (strs last) [.string ⟨wd.toArray⟩] rfl (by simp [Value.oneCell']) (by rfl) hq (by rfl) (by unfold maxLen; omega) (by omega) hMs ?_
                      intro v2 w2 hown2 hb2 hg2
                      have hown3 : OwnStr w2 M v2 (last ++ [wd]) := by unfold OwnStr; simpa [strs, str] using hown2
                      have hGw2 := hG.grown hg2 (own_ne_g hq hG (by decide))
                      obtain ⟨Av, cv, rfl, _, _⟩ := own_shape hown2
                      have HGs := Lib.hid (hGw2.setO hne ini.length (.slice Av (last.length + 1) cv))
                      have HRs := Lib.hid ((HR0.out.grown hg2 (own_ne_g hq HR0.out (by decide))).setO (HGN.out _ _ _ HR0.out) ini.length (.slice Av (last.length + 1) cv))
                      obtain ⟨p1, p2, p3⟩ := HP.out w2 _ (last ++ [wd]) hg2 hown3
                      have HP3 := Lib.hid p3
                      have HB3 := Lib.hid ((hb.trans (hb2.mono hBM)).setCell (p := ⟨gb, ini.length, none⟩) hgB (.slice Av (last.length + 1) cv))
                      clear p3 hown3 hown2
                      refine hK.out _ _ (fun _ => ⟨hGw2.c1, p1⟩) ?_
                      clear hK K
                      go_simp
                      refine wpAnyX_one (i := 12) (by kernel_rfl) rfl (fun K hK => ?_)
                      go_simp
                      refine hK.out _ _ (fun _ => ⟨hGw2.c1, p1⟩) ?_
                      clear hK K
                      refine wpAnyX_one (i := 13) (by kernel_rfl) rfl (fun K hK => ?_)
                      go_simp
                      refine hK.out _ _ (fun h => absurd rfl h) ?_
                      clear hK K
                      refine wpAnyX_done (by kernel_rfl) ?_
                      go_wp2_with fail
                      go_meet
                      exact ⟨last ++ [wd], HGs.out, HP3.out, wordEnd_yes HC.out, by simp, HRs.out, HB3.out⟩
                case rest =>
                  obtain ⟨last', hG', hE', hwe, hll, hR', hb'⟩ := hcut
                  have HR' := Lib.hid hR'
                  have hBc := hb'.size
                  have hcs1 := hG'.c1
                  have HI2 := Lib.hid (RInv.el_plus HI.out hlt hyy.out hwe)
                  have hcb : wc.cell? ⟨b0, off + k, none⟩ = some (.int .u8 ((43 : UInt8).toNat : Int)) := by
                    obtain ⟨b0', off', e, hc'⟩ := (hrB.below hb').rd.at_lit (u8s_at hlt)
                    injection e with e
                    injection e with e3 e4
                    subst e3; subst e4
                    rw [hyy.out] at hc'
                    exact hc'
                  obtain ⟨hB1, hM1, cs1, u1, k1, k2, k3⟩ := hE'
                  have K3 := Lib.hid k3
                  obtain ⟨i1, hi1, hy0, hy1, hy2⟩ := info_parts strsInfo
                  clear hwe hR' k3 HI hyy HE HP HGN hc hce hfe hq hGa hcea hcw1 hG hc1 i2 hi2 hz0 hz1 hz2
                  go_wp2_with (at_builtin; refine wpList_append_new wc rfl (.tmp 122) (.tmp 123) 22 rfl w.heap.size 48 i1 _ 1 24 Try.underlying22 hi1 hy0 hy1 hy2 rfl (by omega) (.slice (some ⟨gb, 0, none⟩) (ini.length + 1) cap) (ini.length + 1) (cs1 ++ [u1]) [.slice none 0 0] rfl (by simp [Value.oneCell']) rfl k1 rfl (by unfold maxLen; omega) (by omega) hBc ?_; intro v2 w2 hown2 hb2 _ hg2; have hG3 := hG'.grown hg2 (own_ne_g k1 hG' (by decide)); have hkf := hG3.f1; have hk1 := hG3.c1; have hEH := Lib.hid (ElsHeld.setG (ElsHeld.push hB1 hM1 k1 k2 K3.out hg2 hown2) hG3 1 v2); have hG4 := Lib.hid (hG3.set1 v2); obtain ⟨Av, cv, rfl, _, _⟩ := own_shape hown2)
                  go_roundg (b.length + 1 - (k + 1))
                  case measure => have := HK.out; omega
                  case rel =>
                    refine ⟨k + 1, [], some (t, ini ++ [last'], []), by omega, by go_num, OwnB.nil_ _ _, by simp, ⟨by simp, _, _, hG4.out, hEH.out⟩, ⟨by simp; omega, by simp⟩, ?_, ?_, .inl ⟨by omega, HI2.out⟩⟩
                    · exact (HR'.out.grown hg2 (own_ne_g k1 HR'.out (by decide))).setO (by omega) _ _
                    · exact (hb'.trans hb2).setCell (by simp; omega) _
              · obtain ⟨e, ev, M, hG, hE⟩ := HM.out
                injection e with _ e
                subst e
                obtain ⟨hpl1, hpl2⟩ := hpl
                have HE := Lib.hid hE
                have hBM : w.heap.size ≤ M := hE.1
                obtain ⟨gb, cap, Au, cu, rfl, hgB, hgl, hMs, hce, hfe, hq, hgn, hP⟩ := held_open hE
                have HP := Lib.hid hP
                have HGN := Lib.hid hgn
                have hne := hgn _ _ _ hG
                have hc1 := hG.c1
                have hGa : GAt (wr.alloc (.cells #[.string ⟨wd.toArray⟩] 9)).drew (w.heap.size + 1 + 1) ⟨t.toArray⟩ (.slice (some ⟨gb, 0, none⟩) (ini.length + 1) cap) := hG.below ((Below.refl _ _).alloc (Nat.le_refl _) (.cells #[.string ⟨wd.toArray⟩] 9)).drew
                have hcea : (wr.alloc (.cells #[.string ⟨wd.toArray⟩] 9)).drew.cell? ⟨gb, ini.length, none⟩ = some (.slice Au last.length cu) := (((Below.refl _ _).alloc (Nat.le_refl _) (.cells #[.string ⟨wd.toArray⟩] 9)).drew.cell (p := ⟨gb, ini.length, none⟩) hgl).trans hce
                have hcw1 := conv_back wr.drew Aw cw wd hrw
                have hi0 : (0 : Int) ≤ (ini.length : Int) := by omega
                have hi1 : (ini.length : Int) < (ini.length : Int) + 1 := by omega
                have hi3 : decide ((ini.length : Int) < 0) = false := by simp
                obtain ⟨i2, hi2, hz0, hz1, hz2⟩ := info_parts strInfo
                rw [hy] at hc
                have hyy := Lib.hid hy
                clear hE hP hcw hrw HM hgn hb1 hb2 hb3 e1 e2 hor t1 hy
                go_upto_if 68 with (fail)
                go_cut [68] from 9 to 129 (fun s68 wx => CutR w t wd ini last (.slice (some ⟨gb, 0, none⟩) (ini.length + 1) cap) M true wx)
                case first =>
                  rcases hcc : (decide (0 < wd.length) || decide (0 < last.length) || true) with _ | _
                  · have HC := Lib.hid hcc
                    clear hcc
                    exact absurd HC.out (by simp)
                  · have HC := Lib.hid hcc
                    clear hcc
                    go_upto_region 12 with (fail)
                    go_cut [96] from 9 to 129 (fun s96 wx => s96 = .bool true ∧ wr = wx)
                    case first =>
                      rcases hA : decide (0 < wd.length) with _ | _
                      · rcases hB : decide (0 < last.length) with _ | _
                        · go_wp2_with fail
                          go_meet
                          exact ⟨rfl, rfl⟩
                        · go_wp2_with fail
                          go_meet
                          exact ⟨rfl, rfl⟩
                      · go_wp2_with fail
                        go_meet
                        exact ⟨rfl, rfl⟩
                    case rest =>
                      obtain ⟨rfl, rfl⟩ := hcut
                      go_wp2_with fail
                      refine wp_region_x 13 (by kernel_rfl) (fun w' => w'.cell? ⟨w.heap.size + 1 + 1, 1, none⟩ = some (.slice (some ⟨gb, 0, none⟩) (ini.length + 1) cap) ∧ w'.cell? ⟨gb, ini.length, none⟩ = some (.slice Au last.length cu)) ?_
                      have HS : Hid (wr.drew.cell? ⟨w.heap.size + 1 + 1, 1, none⟩ = some (.slice (some ⟨gb, 0, none⟩) (ini.length + 1) cap) ∧ wr.drew.cell? ⟨gb, ini.length, none⟩ = some (.slice Au last.length cu)) := ⟨hc1, hce⟩
                      refine wpAnyX_take (i := 0) (v := .pointer (some ⟨w.heap.size + 1 + 1, 1, none⟩)) rfl (by kernel_rfl) (by kernel_rfl) (by kernel_rfl) (by kernel_rfl) (fun _ _ _ h => h) HS.out (Or.inl ⟨by rfl, fun w hS => by obtain ⟨hS1, hS2⟩ := hS; go_simp⟩) ?_
                      go_simp
                      refine wpAnyX_take (i := 1) (v := (.slice (some ⟨gb, 0, none⟩) (ini.length + 1) cap)) rfl (by kernel_rfl) (by kernel_rfl) (by kernel_rfl) (by kernel_rfl) (fun _ _ _ h => h) HS.out (Or.inl ⟨by rfl, fun w hS => by obtain ⟨hS1, hS2⟩ := hS; go_simp⟩) ?_
                      go_simp
                      refine wpAnyX_take (i := 2) (v := .int .i64 (ini.length : Int)) rfl (by kernel_rfl) (by kernel_rfl) (by kernel_rfl) (by kernel_rfl) (fun _ _ _ h => h) HS.out (Or.inl ⟨by rfl, fun w hS => by obtain ⟨hS1, hS2⟩ := hS; go_simp⟩) ?_
                      go_simp
                      refine wpAnyX_take (i := 3) (v := .pointer (some ⟨w.heap.size + 1 + 1, 1, none⟩)) rfl (by kernel_rfl) (by kernel_rfl) (by kernel_rfl) (by kernel_rfl) (fun _ _ _ h => h) HS.out (Or.inl ⟨by rfl, fun w hS => by obtain ⟨hS1, hS2⟩ := hS; go_simp⟩) ?_
                      go_simp
                      refine wpAnyX_take (i := 4) (v := (.slice (some ⟨gb, 0, none⟩) (ini.length + 1) cap)) rfl (by kernel_rfl) (by kernel_rfl) (by kernel_rfl) (by kernel_rfl) (fun _ _ _ h => h) HS.out (Or.inl ⟨by rfl, fun w hS => by obtain ⟨hS1, hS2⟩ := hS; go_simp⟩) ?_
                      go_simp
                      refine wpAnyX_take (i := 5) (v := .int .i64 (ini.length : Int)) rfl (by kernel_rfl) (by kernel_rfl) (by kernel_rfl) (by kernel_rfl) (fun _ _ _ h => h) HS.out (Or.inl ⟨by rfl, fun w hS => by obtain ⟨hS1, hS2⟩ := hS; go_simp⟩) ?_
                      go_simp
                      refine wpAnyX_take (i := 6) (v := .pointer (some ⟨gb, ini.length, none⟩)) rfl (by kernel_rfl) (by kernel_rfl) (by kernel_rfl) (by kernel_rfl) (fun _ _ _ h => h) HS.out (Or.inl ⟨by rfl, fun w hS => by obtain ⟨hS1, hS2⟩ := hS; go_simp⟩) ?_
                      go_simp
                      refine wpAnyX_take (i := 7) (v := .slice Au last.length cu) rfl (by kernel_rfl) (by kernel_rfl) (by kernel_rfl) (by kernel_rfl) (fun _ _ _ h => h) HS.out (Or.inl ⟨by rfl, fun w hS => by obtain ⟨hS1, hS2⟩ := hS; go_simp⟩) ?_
                      go_simp
                      refine wpAnyX_take (i := 8) (v := .slice Aw wd.length cw) rfl (by kernel_rfl) (by kernel_rfl) (by kernel_rfl) (by kernel_rfl) (fun _ _ _ h => h) HS.out (Or.inl ⟨by rfl, fun w hS => by obtain ⟨hS1, hS2⟩ := hS; go_simp⟩) ?_
                      go_simp
                      refine wpAnyX_one (i := 9) (by kernel_rfl) rfl (fun K hK => ?_)
                      go_simp
                      refine hK.out _ _ (fun _ => HS.out) ?_
                      clear hK K
                      refine wpAnyX_one (i := 10) (by kernel_rfl) rfl (fun K hK => ?_)
                      go_simp
                      refine hK.out _ _ (fun _ => ⟨hGa.c1, hcea⟩) ?_
                      clear hK K
                      refine wpAnyX_one (i := 11) (by kernel_rfl) rfl (fun K hK => ?_)
                      refine step_append_new wr (by rfl) (.tmp 104) (.tmp 107) 48 (by rfl) M 9 i2 _ 1 16 Try.underlying48 hi2 hz0 hz1 hz2 rfl (by omega) (.slice Au last.length cu) last.length (strs last) [.string ⟨wd.toArray⟩] rfl (by simp [Value.oneCell']) (by rfl) hq (by rfl) (by unfold maxLen; omega) (by omega) hMs ?_
                      intro v2 w2 hown2 hb2 hg2
                      have hown3 : OwnStr w2 M v2 (last ++ [wd]) := by unfold OwnStr; simpa [strs, str] using hown2
                      have hGw2 := hG.grown hg2 (own_ne_g hq hG (by decide))
                      obtain ⟨Av, cv, rfl, _, _⟩ := own_shape hown2
                      have HGs := Lib.hid (hGw2.setO hne ini.length (.slice Av (last.length + 1) cv))
                      have HRs := Lib.hid ((HR0.out.grown hg2 (own_ne_g hq HR0.out (by decide))).setO (HGN.out _ _ _ HR0.out) ini.length (.slice Av (last.length + 1) cv))
                      obtain ⟨p1, p2, p3⟩ := HP.out w2 _ (last ++ [wd]) hg2 hown3
                      have HP3 := Lib.hid p3
                      have HB3 := Lib.hid ((hb.trans (hb2.mono hBM)).setCell (p := ⟨gb, ini.length, none⟩) hgB (.slice Av (last.length + 1) cv))
                      clear p3 hown3 hown2
                      refine hK.out _ _ (fun _ => ⟨hGw2.c1, p1⟩) ?_
                      clear hK K
                      go_simp
                      refine wpAnyX_one (i := 12) (by kernel_rfl) rfl (fun K hK => ?_)
                      go_simp
                      refine hK.out _ _ (fun _ => ⟨hGw2.c1, p1⟩) ?_
                      clear hK K
                      refine wpAnyX_one (i := 13) (by kernel_rfl) rfl (fun K hK => ?_)
                      go_simp
                      refine hK.out _ _ (fun h => absurd rfl h) ?_
                      clear hK K
                      refine wpAnyX_done (by kernel_rfl) ?_
                      go_wp2_with fail
                      go_meet
                      exact ⟨last ++ [wd], HGs.out, HP3.out, wordEnd_yes HC.out, by simp, HRs.out, HB3.out⟩
                case rest =>
                  obtain ⟨last', hG', hE', hwe, hll, hR', hb'⟩ := hcut
                  have HR' := Lib.hid hR'
                  have hBc := hb'.size
                  have hcs1 := hG'.c1
                  have HI2 := Lib.hid (RInv.el_colon' HI.out hlt hyy.out hwe)
                  have hcb : wc.cell? ⟨b0, off + k, none⟩ = some (.int .u8 ((58 : UInt8).toNat : Int)) := by
                    obtain ⟨b0', off', e, hc'⟩ := (hrB.below hb').rd.at_lit (u8s_at hlt)
                    injection e with e
                    injection e with e3 e4
                    subst e3; subst e4
                    rw [hyy.out] at hc'
                    exact hc'
                  have HE2 := Lib.hid hE'
                  have HG2 := Lib.hid hG'
                  clear hwe hR' hE' hG' HI hyy HE HP HGN hc hce hfe hq hGa hcea hcw1 hG hc1 i2 hi2 hz0 hz1 hz2
                  go_wp2_with fail
                  go_roundg (b.length + 1 - (k + 1))
                  case measure => have := HK.out; omega
                  case rel => exact ⟨k + 1, [], some (t, ini, last'), by omega, by go_num, OwnB.nil_ _ _, by simp, ⟨rfl, _, _, HG2.out, HE2.out⟩, ⟨by omega, by omega⟩, HR'.out, hb', .inl ⟨by omega, HI2.out⟩⟩
      · have hkb : b.length ≤ k := by omega
        have hdl2 : decide ((k : Int) < (b.length : Int)) = false := by simp; omega
        obtain ⟨Aw, cw, rfl, hrw, _, _⟩ := hown.shape
        have hcw := fun W (hB : Below wr.heap.size wr W) => conv_back W Aw cw wd (hrw.below hB)
        rcases ph with _ | ⟨t, ini, last⟩
        · obtain ⟨e, hG⟩ := HM.out
          injection e with _ e
          subst e
          obtain ⟨An, hAn⟩ : ∃ An : Option Addr, An = none := ⟨none, rfl⟩
          rw [← hAn] at hG
          have hAN := Lib.hid hAn
          clear hAn
          have hcw0 := conv_back wr Aw cw wd hrw
          have hc0 := hG.c0
          have hc1 := hG.c1
          have hf0 := hG.f0
          have hG2 := hG.set0 ⟨wd.toArray⟩
          have hbs := hb.trans ((Below.refl w.heap.size wr).setCell (p := ⟨w.heap.size + 1 + 1, 0, none⟩) (by simp; omega) (.string ⟨wd.toArray⟩))
          have hRW := HR0.out.setO (g' := w.heap.size + 1 + 1) (by omega) 0 (.string ⟨wd.toArray⟩)
          generalize hW : wr.setCell ⟨w.heap.size + 1 + 1, 0, none⟩ (.string ⟨wd.toArray⟩) = W at hG2 hbs hRW
          have hs1 := hG2.c1
          have hs0 := hG2.c0
          have hsf := hG2.f1
          have HI2 := Lib.hid (RInv.tag_end HI.out hkb)
          have hr0 := hRW.c0
          have hr1 := hRW.c1
          have hrf := hRW.f0
          have hrf1 := hRW.f1
          clear HI hcw hrw hRW hlt
          go_wp2_with fail
          refine bodyPost_ret (v := .agg #[.string ⟨wd.toArray⟩, .slice An 0 0]) (by simp [results, Try.results33, go_sem, hr0, hr1]) rfl ?_
          refine ⟨_, by rw [HI2.out], by rw [HI2.out, hAN.out]; exact ElsOwn.nil_ _ _, ?_⟩
          exact (hbs.setCell (Nat.le_refl _) _).setCell (Nat.le_refl _) _
        · obtain ⟨e, ev, M, hG, hE⟩ := HM.out
          injection e with _ e
          subst e
          obtain ⟨hpl1, hpl2⟩ := hpl
          have HE := Lib.hid hE
          have hBM : w.heap.size ≤ M := hE.1
          obtain ⟨gb, cap, Au, cu, rfl, hgB, hgl, hMs, hce, hfe, hq, hgn, hP⟩ := held_open hE
          have HP := Lib.hid hP
          have HGN := Lib.hid hgn
          have hne := hgn _ _ _ hG
          have hc1 := hG.c1
          have hGa : GAt (wr.alloc (.cells #[.string ⟨wd.toArray⟩] 9)).drew (w.heap.size + 1 + 1) ⟨t.toArray⟩ (.slice (some ⟨gb, 0, none⟩) (ini.length + 1) cap) := hG.below ((Below.refl _ _).alloc (Nat.le_refl _) (.cells #[.string ⟨wd.toArray⟩] 9)).drew
          have hcea : (wr.alloc (.cells #[.string ⟨wd.toArray⟩] 9)).drew.cell? ⟨gb, ini.length, none⟩ = some (.slice Au last.length cu) := (((Below.refl _ _).alloc (Nat.le_refl _) (.cells #[.string ⟨wd.toArray⟩] 9)).drew.cell (p := ⟨gb, ini.length, none⟩) hgl).trans hce
          have hcw1 := conv_back wr.drew Aw cw wd hrw
          have hi0 : (0 : Int) ≤ (ini.length : Int) := by omega
          have hi1 : (ini.length : Int) < (ini.length : Int) + 1 := by omega
          have hi3 : decide ((ini.length : Int) < 0) = false := by simp
          obtain ⟨i2, hi2, hz0, hz1, hz2⟩ := info_parts strInfo
          clear hE hP hcw hrw HM hgn
          go_upto_if 68 with (fail)
          go_cut [68] from 9 to 129 (fun s68 wx => CutR w t wd ini last (.slice (some ⟨gb, 0, none⟩) (ini.length + 1) cap) M false wx)
          case first =>
            rcases hcc : (decide (0 < wd.length) || decide (0 < last.length) || false) with _ | _
            · have HC := Lib.hid hcc
              clear hcc
              have hd0 : decide (0 < wd.length) = false := by have := HC.out; rw [Bool.or_eq_false_iff, Bool.or_eq_false_iff] at this; exact this.1.1
              have hd1 : decide (0 < last.length) = false := by have := HC.out; rw [Bool.or_eq_false_iff, Bool.or_eq_false_iff] at this; exact this.1.2
              go_wp2_with fail
              go_meet
              exact ⟨last, hG, HE.out, wordEnd_no HC.out, by omega, HR0.out, hb⟩
            · have HC := Lib.hid hcc
              clear hcc
              go_upto_region 12 with (fail)
              go_cut [96] from 9 to 129 (fun s96 wx => s96 = .bool true ∧ wr = wx)
              case first =>
                rcases hA : decide (0 < wd.length) with _ | _
                · rcases hB : decide (0 < last.length) with _ | _
                  · exact absurd HC.out (by rw [hA, hB]; decide)
                  · go_wp2_with fail
                    go_meet
                    exact ⟨rfl, rfl⟩
                · go_wp2_with fail
                  go_meet
                  exact ⟨rfl, rfl⟩
              case rest =>
                obtain ⟨rfl, rfl⟩ := hcut
                go_wp2_with fail
                refine wp_region_x 13 (by kernel_rfl) (fun w' => w'.cell? ⟨w.heap.size + 1 + 1, 1, none⟩ = some (.slice (some ⟨gb, 0, none⟩) (ini.length + 1) cap) ∧ w'.cell? ⟨gb, ini.length, none⟩ = some (.slice Au last.length cu)) ?_
                have HS : Hid (wr.drew.cell? ⟨w.heap.size + 1 + 1, 1, none⟩ = some (.slice (some ⟨gb, 0, none⟩) (ini.length + 1) cap) ∧ wr.drew.cell? ⟨gb, ini.length, none⟩ = some (.slice Au last.length cu)) := ⟨hc1, hce⟩
                refine wpAnyX_take (i := 0) (v := .pointer (some ⟨w.heap.size + 1 + 1, 1, none⟩)) rfl (by kernel_rfl) (by kernel_rfl) (by kernel_rfl) (by kernel_rfl) (fun _ _ _ h => h) HS.out (Or.inl ⟨by rfl, fun w hS => by obtain ⟨hS1, hS2⟩ := hS; go_simp⟩) ?_
                go_simp
                refine wpAnyX_take (i := 1) (v := (.slice (some ⟨gb, 0, none⟩) (ini.length + 1) cap)) rfl (by kernel_rfl) (by kernel_rfl) (by kernel_rfl) (by kernel_rfl) (fun _ _ _ h => h) HS.out (Or.inl ⟨by rfl, fun w hS => by obtain ⟨hS1, hS2⟩ := hS; go_simp⟩) ?_
                go_simp
                refine wpAnyX_take (i := 2) (v := .int .i64 (ini.length : Int)) rfl (by kernel_rfl) (by kernel_rfl) (by kernel_rfl) (by kernel_rfl) (fun _ _ _ h => h) HS.out (Or.inl ⟨by rfl, fun w hS => by obtain ⟨hS1, hS2⟩ := hS; go_simp⟩) ?_
                go_simp
                refine wpAnyX_take (i := 3) (v := .pointer (some ⟨w.heap.size + 1 + 1, 1, none⟩)) rfl (by kernel_rfl) (by kernel_rfl) (by kernel_rfl) (by kernel_rfl) (fun _ _ _ h => h) HS.out (Or.inl ⟨by rfl, fun w hS => by obtain ⟨hS1, hS2⟩ := hS; go_simp⟩) ?_
                go_simp
                refine wpAnyX_take (i := 4) (v := (.slice (some ⟨gb, 0, none⟩) (ini.length + 1) cap)) rfl (by kernel_rfl) (by kernel_rfl) (by kernel_rfl) (by kernel_rfl) (fun _ _ _ h => h) HS.out (Or.inl ⟨by rfl, fun w hS => by obtain ⟨hS1, hS2⟩ := hS; go_simp⟩) ?_
                go_simp
                refine wpAnyX_take (i := 5) (v := .int .i64 (ini.length : Int)) rfl (by kernel_rfl) (by kernel_rfl) (by kernel_rfl) (by kernel_rfl) (fun _ _ _ h => h) HS.out (Or.inl ⟨by rfl, fun w hS => by obtain ⟨hS1, hS2⟩ := hS; go_simp⟩) ?_
                go_simp
                refine wpAnyX_take (i := 6) (v := .pointer (some ⟨gb, ini.length, none⟩)) rfl (by kernel_rfl) (by kernel_rfl) (by kernel_rfl) (by kernel_rfl) (fun _ _ _ h => h) HS.out (Or.inl ⟨by rfl, fun w hS => by obtain ⟨hS1, hS2⟩ := hS; go_simp⟩) ?_
                go_simp
                refine wpAnyX_take (i := 7) (v := .slice Au last.length cu) rfl (by kernel_rfl) (by kernel_rfl) (by kernel_rfl) (by kernel_rfl) (fun _ _ _ h => h) HS.out (Or.inl ⟨by rfl, fun w hS => by obtain ⟨hS1, hS2⟩ := hS; go_simp⟩) ?_
                go_simp
                refine wpAnyX_take (i := 8) (v := .slice Aw wd.length cw) rfl (by kernel_rfl) (by kernel_rfl) (by kernel_rfl) (by kernel_rfl) (fun _ _ _ h => h) HS.out (Or.inl ⟨by rfl, fun w hS => by obtain ⟨hS1, hS2⟩ := hS; go_simp⟩) ?_
                go_simp
                refine wpAnyX_one (i := 9) (by kernel_rfl) rfl (fun K hK => ?_)
                go_simp
                refine hK.out _ _ (fun _ => HS.out) ?_
                clear hK K
                refine wpAnyX_one (i := 10) (by kernel_rfl) rfl (fun K hK => ?_)
                go_simp
                refine hK.out _ _ (fun _ => ⟨hGa.c1, hcea⟩) ?_
                clear hK K
                refine wpAnyX_one (i := 11) (by kernel_rfl) rfl (fun K hK => ?_)
                refine step_append_new wr (by rfl) (.tmp 104) (.tmp 107) 48 (by rfl) M 9 i2 _ 1 16 Try.underlying48 hi2 hz0 hz1 hz2 rfl (by omega) (.slice Au last.length cu) last.length (strs last) [.string ⟨wd.toArray⟩] rfl (by simp [Value.oneCell']) (by rfl) hq (by rfl) (by unfold maxLen; omega) (by omega) hMs ?_
                intro v2 w2 hown2 hb2 hg2
                have hown3 : OwnStr w2 M v2 (last ++ [wd]) := by unfold OwnStr; simpa [strs, str] using hown2
                have hGw2 := hG.grown hg2 (own_ne_g hq hG (by decide))
                obtain ⟨Av, cv, rfl, _, _⟩ := own_shape hown2
                have HGs := Lib.hid (hGw2.setO hne ini.length (.slice Av (last.length + 1) cv))
                have HRs := Lib.hid ((HR0.out.grown hg2 (own_ne_g hq HR0.out (by decide))).setO (HGN.out _ _ _ HR0.out) ini.length (.slice Av (last.length + 1) cv))
                obtain ⟨p1, p2, p3⟩ := HP.out w2 _ (last ++ [wd]) hg2 hown3
                have HP3 := Lib.hid p3
                have HB3 := Lib.hid ((hb.trans (hb2.mono hBM)).setCell (p := ⟨gb, ini.length, none⟩) hgB (.slice Av (last.length + 1) cv))
                clear p3 hown3 hown2
                refine hK.out _ _ (fun _ => ⟨hGw2.c1, p1⟩) ?_
                clear hK K
                go_simp
                refine wpAnyX_one (i := 12) (by kernel_rfl) rfl (fun K hK => ?_)
                go_simp
                refine hK.out _ _ (fun _ => ⟨hGw2.c1, p1⟩) ?_
                clear hK K
                refine wpAnyX_one (i := 13) (by kernel_rfl) rfl (fun K hK => ?_)
                go_simp
                refine hK.out _ _ (fun h => absurd rfl h) ?_
                clear hK K
                refine wpAnyX_done (by kernel_rfl) ?_
                go_wp2_with fail
                go_meet
                exact ⟨last ++ [wd], HGs.out, HP3.out, wordEnd_yes HC.out, by simp, HRs.out, HB3.out⟩
          case rest =>
            obtain ⟨last', hG', hE', hwe, hll, hR', hb'⟩ := hcut
            have HR' := Lib.hid hR'
            have hBc := hb'.size
            have hcs1 := hG'.c1
            have HI2 := Lib.hid ((RInv.el_end HI.out hkb).trans (by rw [hwe]))
            have HE2 := Lib.hid hE'
            have HG2 := Lib.hid hG'
            clear hwe hR' hE' hG' HI HE HP HGN hce hfe hq hGa hcea hcw1 hG hc1 i2 hi2 hz0 hz1 hz2
            go_wp2_with fail
            go_roundg (b.length + 1 - (k + 1))
            case measure => have := HK.out; omega
            case rel => exact ⟨k + 1, [], some (t, ini, last'), by omega, by go_num, OwnB.nil_ _ _, by simp, ⟨rfl, _, _, HG2.out, HE2.out⟩, ⟨by omega, by omega⟩, HR'.out, hb', .inr ⟨by omega, t, ini, last', rfl, HI2.out⟩⟩
    · have HF := Lib.hid hfin
      obtain ⟨rfl, ev, M, hG, hE⟩ := hm
      have hO := ((hE.setG HR0.out 0 (.string ⟨t.toArray⟩)).setG (HR0.out.set0 ⟨t.toArray⟩) 1 ev).own
      obtain ⟨Ae, ce, hev0, hat⟩ := hE.own.at_
      have hev : ev = .slice Ae (ini.length + 1) ce := by rw [hev0, List.length_append]; rfl
      clear hev0
      subst hev
      have hc0 := hG.c0
      have hc1 := hG.c1
      have hr0 := HR0.out.c0
      have hr1 := HR0.out.c1
      have hrf := HR0.out.f0
      have hrf1 := HR0.out.f1
      have HO := Lib.hid hO
      have hdl : decide ((k : Int) ≤ (b.length : Int)) = false := by simp; omega
      clear hfin hE hG hO hat hpl hown hwl
      go_wp2_with fail
      refine bodyPost_ret (v := .agg #[.string ⟨t.toArray⟩, .slice Ae (ini.length + 1) ce]) (by simp [results, Try.results33, go_sem, hr0, hr1]) rfl ?_
      exact ⟨_, by rw [HF.out], by rw [HF.out]; exact HO.out, (hb.setCell (Nat.le_refl _) _).setCell (Nat.le_refl _) _⟩
end Go.Proofs.Ytmnflbgejagpmaa
