/- SameSegments of any two slices of segments. -/
import Derived.Test.YtmjlnckmhdgoiaaGreatDoorQf
import Derived.Test.YtmjlnckmhdgoiaaGreatDoorPg
import Derived.Test.YtmjlnckmhdgoiaaGreatDoorQg
import Derived.Test.YtmjlnckmhdgoiaaGreatDoorQa
import Derived.Test.YtmjlnckmhdgoiaaGreatDoorQd
import Derived.Test.YtmjlnckmhdgoiaaGreatDoorQe
namespace Go.Proofs.YtmjlnckmhdgoiaaGreatDoor
open Go.RowKit
set_option linter.unusedVariables false

def SmRel {α : Type} (l l' : List α) (w : World) (g : Nat) (i : Value) (wr : World) : Prop := ∃ k : Nat, k + g = l.length ∧ i = .int .i64 (k : Int) ∧ l.take k = l'.take k ∧ Quiet w wr
def SameRet (w : World) (p : Prop) (e : Ending) (w' : World) : Prop := ∃ r : Bool, e = .returned (.bool r) ∧ (r = true ↔ p) ∧ Quiet w w'
theorem same_no {w w' : World} {p : Prop} (hp : ¬ p) (q : Quiet w w') : SameRet w p (.returned (.bool false)) w' := ⟨false, rfl, ⟨fun h => (by cases h), fun h => absurd h hp⟩, q⟩
theorem take_all {α : Type} {l l' : List α} {k : Nat} (h : l.take k = l'.take k) (hl : l.length = l'.length) (hk : l.length ≤ k) : l = l' := by
  rwa [List.take_of_length_le hk, List.take_of_length_le (by omega)] at h
theorem neq_differ {α : Type} {l l' : List α} {k : Nat} (h1 : k < l.length) (h2 : k < l'.length) (he : ¬ l[k] = l'[k]) : ¬ l = l' := take_differ h1 h2 he
structure SSz (l : List Seg) : Prop where
  n : l.length ≤ 1000000000
  f : ∀ s ∈ l, s.els.length ≤ 140737488355328 ∧ ∀ e ∈ s.els, e.length ≤ 140737488355328
set_option maxRecDepth 100000 in
set_option maxHeartbeats 8000000 in
theorem sameG_any (A A' : Option Addr) (c c' : Nat) (l l' : List Seg) (B B' : Nat) (w : World) (h : SegsAt w B A l) (h' : SegsAt w B' A' l') (hz : SSz l) (hz' : SSz l') :
    Calls Tryz.prog 38 #[.slice A l.length c, .slice A' l'.length c'] w (SameRet w (l = l')) := by
  by_cases hll : l.length = l'.length
  · have HZ := Lib.hid hz.f
    have HZ' := Lib.hid hz'.f
    have hln := hz.n
    have HLL := Lib.hid hll
    have HH := Lib.hid h
    have HH' := Lib.hid h'
    rw [← hll]
    generalize hnn : l.length = n at *
    have HN := Lib.hid hnn
    have hnn2 : ((n : Int) != (n : Int)) = false := by simp
    clear hz hz' hll h h' hnn
    go_enter Tryz.func38, Tryz.ntmps38
    go_wp2
    go_loopg [5] n (fun g i wr => SmRel l l' w g i wr)
    case atStart => exact ⟨0, by have := HN.out; omega, rfl, rfl, Quiet.refl _⟩
    case round =>
      obtain ⟨k, hk, rfl, hpre, hq⟩ := hrel
      have HK := Lib.hid hk
      have HP := Lib.hid hpre
      have hk2 : k ≤ n := by have := HN.out; omega
      clear hk hpre
      by_cases hlt : k < n
      · have hk1 : k < l.length := by have := HN.out; omega
        have hk1' : k < l'.length := by have := HLL.out; omega
        obtain ⟨b, off, Ae, ce, rfl, _, hc0, hc1, hE⟩ := (HH.out.quiet hq).get hk1
        obtain ⟨b', off', Ae', ce', rfl, _, hc0', hc1', hE'⟩ := (HH'.out.quiet hq).get hk1'
        unfold str at hc0 hc0'
        replace hc1 : wr.cell? ⟨b, off + k * 2 + 1, none⟩ = some (.slice Ae l[k].els.length ce) := hc1
        replace hc1' : wr.cell? ⟨b', off' + k * 2 + 1, none⟩ = some (.slice Ae' l'[k].els.length ce') := hc1'
        have hzz := HZ.out l[k] (List.getElem_mem hk1)
        have hzz' := HZ'.out l'[k] (List.getElem_mem hk1')
        have hel := hzz.1
        have hel' := hzz'.1
        have HZ2 := Lib.hid hzz.2
        have HZ2' := Lib.hid hzz'.2
        have HNEXT := Lib.hid (fun he => take_next HP.out hk1 hk1' he)
        have HDIFF := Lib.hid (neq_differ hk1 hk1')
        clear hzz hzz'
        generalize l[k] = s at *
        generalize l'[k] = s' at *
        clear hk1 hk1'
        obtain ⟨tg, els⟩ := s
        obtain ⟨tg', els'⟩ := s'
        simp only at hc0 hc0' hc1 hc1' hE hE' hel hel' HZ2 HZ2'
        by_cases ht : tg = tg'
        · subst ht
          have hn1 : (tg != tg) = false := bytes_neq tg
          by_cases hen : els.length = els'.length
          · have HEN := Lib.hid hen
            rw [← hen] at hc1' hel'
            generalize hne : els.length = ne at *
            have HNE := Lib.hid hne
            have hn2 : ((ne : Int) != (ne : Int)) = false := by simp
            clear hen hne
            go_wp2
            go_quiet (fail)
            go_wp2
            have q2 : Quiet wr (wr.drewN nq) := ⟨nq, rfl⟩
            generalize wr.drewN nq = W2 at q2 ⊢
            have hd1 := (q2.cell _).trans hc1
            have hd1' := (q2.cell _).trans hc1'
            have HE2 := Lib.hid (hE.below (q2.below _))
            have HE2' := Lib.hid (hE'.below (q2.below _))
            have hqw := hq.trans q2
            clear hc0 hc0' hc1 hc1' hE hE' hq hn1 q2
            go_loopg [6] ne (fun g i wr => SmRel els els' W2 g i wr)
            case atStart => exact ⟨0, by have := HNE.out; omega, rfl, rfl, Quiet.refl _⟩
            case round =>
              obtain ⟨j, hj, rfl, hpre2, hq⟩ := hrel
              have HJ := Lib.hid hj
              have HP2 := Lib.hid hpre2
              have hj2 : j ≤ ne := by have := HNE.out; omega
              have hf1 := (hq.cell _).trans hd1
              have hf1' := (hq.cell _).trans hd1'
              clear hj hpre2
              by_cases hlt2 : j < ne
              · have hj1 : j < els.length := by have := HNE.out; omega
                have hj1' : j < els'.length := by have := HEN.out; omega
                obtain ⟨b2, off2, As, cs, rfl, _, hg, hr⟩ := (HE2.out.below (hq.below _)).get hj1
                obtain ⟨b2', off2', As', cs', rfl, _, hg', hr'⟩ := (HE2'.out.below (hq.below _)).get hj1'
                have hel2 := HZ2.out els[j] (List.getElem_mem hj1)
                have hel2' := HZ2'.out els'[j] (List.getElem_mem hj1')
                have HNEXT2 := Lib.hid (fun he => take_next HP2.out hj1 hj1' he)
                have HDIFF2 := Lib.hid (neq_differ hj1 hj1')
                generalize els[j] = e at *
                generalize els'[j] = e' at *
                clear hj1 hj1'
                by_cases hm : e.length = e'.length
                · have HM := Lib.hid hm
                  rw [← hm] at hg'
                  generalize hme : e.length = me at *
                  have HME := Lib.hid hme
                  have hn3 : ((me : Int) != (me : Int)) = false := by simp
                  clear hm hme hel2'
                  go_wp2
                  go_quiet (fail)
                  go_wp2
                  have q3 : Quiet wr (wr.drewN nq) := ⟨nq, rfl⟩
                  generalize wr.drewN nq = W3 at q3 ⊢
                  have HR3 := Lib.hid (hr.below (q3.below _))
                  have HR3' := Lib.hid (hr'.below (q3.below _))
                  have hqw3 := hq.trans q3
                  clear hf1 hf1' hg hg' hr hr' hq hn3 q3
                  go_loopg [9] me (fun g i wr => SmRel e e' W3 g i wr)
                  case atStart => exact ⟨0, by have := HME.out; omega, rfl, rfl, Quiet.refl _⟩
                  case round =>
                    obtain ⟨m, hm, rfl, hpre3, hq⟩ := hrel
                    have HMM := Lib.hid hm
                    have HP3 := Lib.hid hpre3
                    have hm2 : m ≤ me := by have := HME.out; omega
                    clear hm hpre3
                    by_cases hlt3 : m < me
                    · have hm1 : m < e.length := by have := HME.out; omega
                      have hm1' : m < e'.length := by have := HM.out; omega
                      obtain ⟨b3, off3, rfl, hs⟩ := (HR3.out.below (hq.below _)).rd.at_lit (strs_get hm1)
                      obtain ⟨b3', off3', rfl, hs'⟩ := (HR3'.out.below (hq.below _)).rd.at_lit (strs_get hm1')
                      have HNEXT3 := Lib.hid (fun he => take_next HP3.out hm1 hm1' he)
                      have HDIFF3 := Lib.hid (neq_differ hm1 hm1')
                      unfold str at hs hs'
                      generalize e[m] = x at *
                      generalize e'[m] = x' at *
                      clear hm1 hm1'
                      by_cases hx : x = x'
                      · subst hx
                        have hn4 : (x != x) = false := bytes_neq x
                        go_wp2
                        go_quiet (fail)
                        go_wp2
                        go_roundg (me - (m + 1))
                        case measure => have := HMM.out; have := HME.out; omega
                        case rel => exact ⟨m + 1, by have := HMM.out; have := HME.out; omega, by go_num, (by first | exact HNEXT3.out rfl | exact HNEXT3.out trivial | exact HNEXT3.out), hq.drewN _⟩
                      · have hn4 : (x != x') = true := by simpa using hx
                        have hn5 : (x == x') = false := by simpa using hx
                        go_wp2
                        go_quiet (fail)
                        go_wp2
                        go_ret
                        refine same_no (fun hl => ?_) (hqw.trans (hqw3.trans (hq.drewN _)))
                        exact HDIFF.out (fun h1 => by
                          injection h1 with _ h1
                          exact HDIFF2.out (fun h2 => HDIFF3.out hx h2) h1) hl
                    · have hge : me ≤ m := by omega
                      have HEQ := Lib.hid (take_all HP3.out (HME.out.trans HM.out) (by have := HME.out; omega))
                      clear hlt3
                      go_wp2
                      go_roundg (ne - (j + 1))
                      case measure => have := HJ.out; have := HNE.out; omega
                      case rel => exact ⟨j + 1, by have := HJ.out; have := HNE.out; omega, by go_num, HNEXT2.out HEQ.out, hqw3.trans hq⟩
                · have hn3 : ((e.length : Int) != (e'.length : Int)) = true := by simp; omega
                  have HD : Hid (¬ e = e') := fun h => hm (by rw [h])
                  clear hm hr hr'
                  generalize e.length = me at *
                  generalize e'.length = me' at *
                  go_wp2
                  go_quiet (fail)
                  go_wp2
                  go_ret
                  refine same_no (fun hl => ?_) (hqw.trans (hq.drewN _))
                  exact HDIFF.out (fun h1 => by
                    injection h1 with _ h1
                    exact HDIFF2.out HD.out h1) hl
              · have hge : ne ≤ j := by omega
                have HEQ := Lib.hid (take_all HP2.out (HNE.out.trans HEN.out) (by have := HNE.out; omega))
                clear hlt2
                go_wp2
                go_roundg (n - (k + 1))
                case measure => have := HK.out; have := HN.out; omega
                case rel => exact ⟨k + 1, by have := HK.out; have := HN.out; omega, by go_num, HNEXT.out (by rw [HEQ.out]), hqw.trans hq⟩
          · have hn2 : ((els.length : Int) != (els'.length : Int)) = true := by simp; omega
            have HD : Hid (¬ els = els') := fun h => hen (by rw [h])
            clear hen hE hE'
            generalize els.length = ne at *
            generalize els'.length = ne' at *
            go_wp2
            go_quiet (fail)
            go_wp2
            go_ret
            refine same_no (fun hl => HDIFF.out (fun h1 => by injection h1 with _ h1; exact HD.out h1) hl) (hq.drewN _)
        · have hn1 : (tg != tg') = true := by simpa using ht
          have HD : Hid (¬ tg = tg') := ht
          clear ht hE hE'
          have hn5 : (tg == tg') = false := by simpa using HD.out
          generalize els.length = ne at *
          generalize els'.length = ne' at *
          go_upto_region 6 with (fail)
          refine wp_region_x 99 (by kernel_rfl) (fun W => W.cell? ⟨b, off + k * 2, none⟩ = some (.string ⟨tg.toArray⟩) ∧ W.cell? ⟨b', off' + k * 2, none⟩ = some (.string ⟨tg'.toArray⟩)) ?_
          have hst : wr.drew.cell? ⟨b, off + k * 2, none⟩ = some (.string ⟨tg.toArray⟩) ∧ wr.drew.cell? ⟨b', off' + k * 2, none⟩ = some (.string ⟨tg'.toArray⟩) := ⟨hc0, hc0'⟩
          refine wpAnyX_take (i := 0) (v := .slice (some ⟨b, off, none⟩) n c) rfl (by kernel_rfl) (by kernel_rfl) (by kernel_rfl) (by kernel_rfl) (fun _ _ _ h => h) hst (Or.inl ⟨by rfl, fun w hS => by (obtain ⟨q0, q1⟩ := hS; go_simp)⟩) ?_
          go_simp
          refine wpAnyX_take (i := 1) (v := .int .i64 (k : Int)) rfl (by kernel_rfl) (by kernel_rfl) (by kernel_rfl) (by kernel_rfl) (fun _ _ _ h => h) hst (Or.inl ⟨by rfl, fun w hS => by (obtain ⟨q0, q1⟩ := hS; go_simp)⟩) ?_
          go_simp
          refine wpAnyX_take (i := 2) (v := .pointer (some ⟨b, off + k * 2, none⟩)) rfl (by kernel_rfl) (by kernel_rfl) (by kernel_rfl) (by kernel_rfl) (fun _ _ _ h => h) hst (Or.inl ⟨by rfl, fun w hS => by (obtain ⟨q0, q1⟩ := hS; go_simp)⟩) ?_
          go_simp
          refine wpAnyX_take (i := 3) (v := .pointer (some ⟨b, off + k * 2, none⟩)) rfl (by kernel_rfl) (by kernel_rfl) (by kernel_rfl) (by kernel_rfl) (fun _ _ _ h => h) hst (Or.inl ⟨by rfl, fun w hS => by (obtain ⟨q0, q1⟩ := hS; go_simp)⟩) ?_
          go_simp
          refine wpAnyX_take (i := 4) (v := .string ⟨tg.toArray⟩) rfl (by kernel_rfl) (by kernel_rfl) (by kernel_rfl) (by kernel_rfl) (fun _ _ _ h => h) hst (Or.inl ⟨by rfl, fun w hS => by (obtain ⟨q0, q1⟩ := hS; go_simp)⟩) ?_
          go_simp
          refine wpAnyX_take (i := 5) (v := .slice (some ⟨b', off', none⟩) n c') rfl (by kernel_rfl) (by kernel_rfl) (by kernel_rfl) (by kernel_rfl) (fun _ _ _ h => h) hst (Or.inl ⟨by rfl, fun w hS => by (obtain ⟨q0, q1⟩ := hS; go_simp)⟩) ?_
          go_simp
          refine wpAnyX_take (i := 6) (v := .int .i64 (k : Int)) rfl (by kernel_rfl) (by kernel_rfl) (by kernel_rfl) (by kernel_rfl) (fun _ _ _ h => h) hst (Or.inl ⟨by rfl, fun w hS => by (obtain ⟨q0, q1⟩ := hS; go_simp)⟩) ?_
          go_simp
          refine wpAnyX_take (i := 7) (v := .pointer (some ⟨b', off' + k * 2, none⟩)) rfl (by kernel_rfl) (by kernel_rfl) (by kernel_rfl) (by kernel_rfl) (fun _ _ _ h => h) hst (Or.inl ⟨by rfl, fun w hS => by (obtain ⟨q0, q1⟩ := hS; go_simp)⟩) ?_
          go_simp
          refine wpAnyX_take (i := 8) (v := .pointer (some ⟨b', off' + k * 2, none⟩)) rfl (by kernel_rfl) (by kernel_rfl) (by kernel_rfl) (by kernel_rfl) (fun _ _ _ h => h) hst (Or.inl ⟨by rfl, fun w hS => by (obtain ⟨q0, q1⟩ := hS; go_simp)⟩) ?_
          go_simp
          refine wpAnyX_take (i := 9) (v := .string ⟨tg'.toArray⟩) rfl (by kernel_rfl) (by kernel_rfl) (by kernel_rfl) (by kernel_rfl) (fun _ _ _ h => h) hst (Or.inl ⟨by rfl, fun w hS => by (obtain ⟨q0, q1⟩ := hS; go_simp)⟩) ?_
          go_simp
          refine wpAnyX_take (i := 10) (v := .bool true) rfl (by kernel_rfl) (by kernel_rfl) (by kernel_rfl) (by kernel_rfl) (fun _ _ _ h => h) hst (Or.inl ⟨by rfl, fun w hS => by (obtain ⟨q0, q1⟩ := hS; go_simp)⟩) ?_
          go_simp
          refine wpAnyX_take (i := 11) (v := .bool true) rfl (by kernel_rfl) (by kernel_rfl) (by kernel_rfl) (by kernel_rfl) (fun _ _ _ h => h) hst (Or.inl ⟨by rfl, fun w hS => by (obtain ⟨q0, q1⟩ := hS; go_simp)⟩) ?_
          go_simp
          refine wpAnyX_take (i := 12) (v := undef) rfl (by kernel_rfl) (by kernel_rfl) (by kernel_rfl) (by kernel_rfl) (fun _ _ _ h => h) hst (Or.inr ⟨by rfl, rfl⟩) ?_
          go_simp
          refine wpAnyX_take (i := 13) (v := undef) rfl (by kernel_rfl) (by kernel_rfl) (by kernel_rfl) (by kernel_rfl) (fun _ _ _ h => h) hst (Or.inr ⟨by rfl, rfl⟩) ?_
          go_simp
          refine wpAnyX_take (i := 14) (v := undef) rfl (by kernel_rfl) (by kernel_rfl) (by kernel_rfl) (by kernel_rfl) (fun _ _ _ h => h) hst (Or.inr ⟨by rfl, rfl⟩) ?_
          go_simp
          refine wpAnyX_take (i := 15) (v := undef) rfl (by kernel_rfl) (by kernel_rfl) (by kernel_rfl) (by kernel_rfl) (fun _ _ _ h => h) hst (Or.inr ⟨by rfl, rfl⟩) ?_
          go_simp
          refine wpAnyX_take (i := 16) (v := undef) rfl (by kernel_rfl) (by kernel_rfl) (by kernel_rfl) (by kernel_rfl) (fun _ _ _ h => h) hst (Or.inr ⟨by rfl, rfl⟩) ?_
          go_simp
          refine wpAnyX_take (i := 17) (v := undef) rfl (by kernel_rfl) (by kernel_rfl) (by kernel_rfl) (by kernel_rfl) (fun _ _ _ h => h) hst (Or.inr ⟨by rfl, rfl⟩) ?_
          go_simp
          refine wpAnyX_take (i := 18) (v := undef) rfl (by kernel_rfl) (by kernel_rfl) (by kernel_rfl) (by kernel_rfl) (fun _ _ _ h => h) hst (Or.inr ⟨by rfl, rfl⟩) ?_
          go_simp
          refine wpAnyX_take (i := 19) (v := undef) rfl (by kernel_rfl) (by kernel_rfl) (by kernel_rfl) (by kernel_rfl) (fun _ _ _ h => h) hst (Or.inr ⟨by rfl, rfl⟩) ?_
          go_simp
          refine wpAnyX_take (i := 20) (v := undef) rfl (by kernel_rfl) (by kernel_rfl) (by kernel_rfl) (by kernel_rfl) (fun _ _ _ h => h) hst (Or.inr ⟨by rfl, rfl⟩) ?_
          go_simp
          refine wpAnyX_take (i := 21) (v := undef) rfl (by kernel_rfl) (by kernel_rfl) (by kernel_rfl) (by kernel_rfl) (fun _ _ _ h => h) hst (Or.inr ⟨by rfl, rfl⟩) ?_
          go_simp
          refine wpAnyX_take (i := 22) (v := undef) rfl (by kernel_rfl) (by kernel_rfl) (by kernel_rfl) (by kernel_rfl) (fun _ _ _ h => h) hst (Or.inr ⟨by rfl, rfl⟩) ?_
          go_simp
          refine wpAnyX_take (i := 23) (v := undef) rfl (by kernel_rfl) (by kernel_rfl) (by kernel_rfl) (by kernel_rfl) (fun _ _ _ h => h) hst (Or.inr ⟨by rfl, rfl⟩) ?_
          go_simp
          refine wpAnyX_take (i := 24) (v := undef) rfl (by kernel_rfl) (by kernel_rfl) (by kernel_rfl) (by kernel_rfl) (fun _ _ _ h => h) hst (Or.inr ⟨by rfl, rfl⟩) ?_
          go_simp
          refine wpAnyX_take (i := 25) (v := .bool true) rfl (by kernel_rfl) (by kernel_rfl) (by kernel_rfl) (by kernel_rfl) (fun _ _ _ h => h) hst (Or.inl ⟨by rfl, fun w hS => by go_simp⟩) ?_
          go_simp
          refine wpAnyX_done (by kernel_rfl) ?_
          go_wp2
          go_ret
          refine same_no (fun hl => HDIFF.out (fun h1 => by injection h1 with h1 _; exact HD.out h1) hl) (hq.trans ⟨1, rfl⟩)
      · have hge : n ≤ k := by omega
        have HEQ := Lib.hid (take_all HP.out (HN.out.trans HLL.out) (by have := HN.out; omega))
        clear hlt
        go_wp2
        go_ret
        exact ⟨true, rfl, ⟨fun _ => HEQ.out, fun _ => rfl⟩, hq⟩
  · have h1 : ((l.length : Int) != (l'.length : Int)) = true := by simp; omega
    have HD : Hid (¬ l = l') := fun h => hll (by rw [h])
    have h2 := hz.n
    have h3 := hz'.n
    clear hll h h' hz hz'
    generalize l.length = n at *
    generalize l'.length = n' at *
    go_enter Tryz.func38, Tryz.ntmps38
    go_wp2
    go_ret
    exact same_no HD.out (Quiet.refl _)
end Go.Proofs.YtmjlnckmhdgoiaaGreatDoor

/-! A row of segments in one block g, all of their parts in other blocks: what stores into the row leave. -/
namespace Go.Proofs.YtmjlnckmhdgoiaaGreatDoor
open Go.RowKit
set_option linter.unusedVariables false

/-- the cells cs lie at A, in a block other than g -/
def RdG (w : World) (g : Nat) (A : Option Addr) (cs : List Value) : Prop := ∀ j u, cs[j]? = some u → ∃ ad, A = some ad ∧ ad.block ≠ g ∧ w.cell? (ad.add j) = some u
/-- elements, all of whose cells lie in blocks other than g -/
def ElsG (w : World) (g : Nat) (A : Option Addr) (l : List (List Bs)) : Prop := ∃ cs : List Value, cs.length = l.length ∧ RdG w g A cs ∧ ∀ (i : Nat) (e : List Bs), l[i]? = some e → ∃ A' c', cs[i]? = some (.slice A' e.length c') ∧ RdG w g A' (strs e)
/-- segments in block g -/
def SegsG (w : World) (g : Nat) (l : List Seg) : Prop := ∃ cur : Array Value, w.heap[g]? = some (.cells cur 57 (0, 0)) ∧ ∀ (i : Nat) (s : Seg), l[i]? = some s → cur[i * 2]? = some (str s.tag) ∧ ∃ A c, cur[i * 2 + 1]? = some (.slice A s.els.length c) ∧ ElsG w g A s.els
section
variable {w w' : World} {g : Nat} {A : Option Addr} {cs : List Value}
theorem RdG.rd (h : RdG w g A cs) : Rd w A cs := fun j u hu => by
  obtain ⟨ad, h1, _, h2⟩ := h j u hu
  exact ⟨ad, h1, h2⟩
theorem RdG.of_B {B : Nat} (h : RdB w B A cs) (hg : B ≤ g) : RdG w g A cs := fun j u hu => by
  obtain ⟨ad, h1, h3, h2⟩ := h j u hu
  exact ⟨ad, h1, by omega, h2⟩
theorem RdG.below (h : RdG w g A cs) (hb : Below w.heap.size w w') : RdG w' g A cs := fun j u hu => by
  obtain ⟨ad, h1, h3, h2⟩ := h j u hu
  exact ⟨ad, h1, h3, (hb.cell (cell_lt h2)).trans h2⟩
theorem RdG.set (h : RdG w g A cs) (k : Nat) (v : Value) : RdG (w.setCell ⟨g, k, none⟩ v) g A cs := fun j u hu => by
  obtain ⟨ad, h1, h3, h2⟩ := h j u hu
  refine ⟨ad, h1, h3, ?_⟩
  rw [← h2]
  unfold World.cell?
  rw [Below.heap_setCell w ⟨g, k, none⟩ v _ (by rw [add_block]; exact h3)]
theorem RdG.of_own {B n : Nat} {e T : TypeId} {v : Value} {cur : Array Value} {c : Nat} (h : w.ownsRow B e 1 v n cs) (hv : v = .slice A n c) (hg : w.heap[g]? = some (.cells cur T (0, 0))) (hT : T ≠ e) : RdG w g A cs := by
  intro j u hu
  rcases h.2 with ⟨h2, h3⟩ | ⟨b, cap, cu, h2, _, hh, _, _, _, h6⟩
  · have := h.1
    rw [h3] at this
    have : cs = [] := List.eq_nil_of_length_eq_zero (by simpa using this)
    rw [this] at hu
    simp at hu
  · rw [hv] at h2
    injection h2 with h2 _ _
    refine ⟨_, h2, ?_, ?_⟩
    · intro e2
      simp only at e2
      rw [e2, hg] at hh
      injection hh with hh
      injection hh with _ hh
      exact hT hh
    · rw [Addr.add_lit, cell_of_row _ _ _ _ _ _ hh]
      rw [← h6] at hu
      by_cases hj : j < n * 1
      · rw [List.getElem?_take_of_lt hj] at hu
        simpa using hu
      · rw [List.getElem?_take_eq_none (by omega)] at hu; cases hu
theorem RdG.of_ownB {B n : Nat} {e : TypeId} {v : Value} {c : Nat} (h : w.ownsRow B e 1 v n cs) (hv : v = .slice A n c) (hg : g < B) : RdG w g A cs := by
  intro j u hu
  rcases h.2 with ⟨h2, h3⟩ | ⟨b, cap, cu, h2, hB, hh, _, _, _, h6⟩
  · have := h.1
    rw [h3] at this
    have : cs = [] := List.eq_nil_of_length_eq_zero (by simpa using this)
    rw [this] at hu
    simp at hu
  · rw [hv] at h2
    injection h2 with h2 _ _
    refine ⟨_, h2, by simp only; omega, ?_⟩
    rw [Addr.add_lit, cell_of_row _ _ _ _ _ _ hh]
    rw [← h6] at hu
    by_cases hj : j < n * 1
    · rw [List.getElem?_take_of_lt hj] at hu
      simpa using hu
    · rw [List.getElem?_take_eq_none (by omega)] at hu; cases hu
theorem RdG.of_ownX {B n size : Nat} {e : TypeId} {v : Value} {c : Nat} (h : OwnX w B e size v n cs) (hv : v = .slice A n c) (hg : g < B) : RdG w g A cs := by
  intro j u hu
  rcases h.2 with ⟨_, h3⟩ | ⟨b, off, cap, cu, h2, hB, hh, _, _, _, h6⟩
  · have := h.1
    rw [h3] at this
    have : cs = [] := List.eq_nil_of_length_eq_zero (by omega)
    rw [this] at hu
    simp at hu
  · rw [hv] at h2
    injection h2 with h2 _ _
    refine ⟨_, h2, by simp only; omega, ?_⟩
    rw [Addr.add_lit, cell_of_row _ _ _ _ _ _ hh]
    exact h6 j u hu
theorem ElsG.below {l : List (List Bs)} (h : ElsG w g A l) (hb : Below w.heap.size w w') : ElsG w' g A l := by
  obtain ⟨cs, h1, h2, h3⟩ := h
  exact ⟨cs, h1, h2.below hb, fun i e he => by obtain ⟨A', c', a, b⟩ := h3 i e he; exact ⟨A', c', a, b.below hb⟩⟩
theorem ElsG.set {l : List (List Bs)} (h : ElsG w g A l) (k : Nat) (v : Value) : ElsG (w.setCell ⟨g, k, none⟩ v) g A l := by
  obtain ⟨cs, h1, h2, h3⟩ := h
  exact ⟨cs, h1, h2.set k v, fun i e he => by obtain ⟨A', c', a, b⟩ := h3 i e he; exact ⟨A', c', a, b.set k v⟩⟩
theorem ElsG.of_at {B : Nat} {l : List (List Bs)} (h : ElsAt w B A l) (hg : B ≤ g) : ElsG w g A l := by
  obtain ⟨cs, h1, h2, h3⟩ := h
  exact ⟨cs, h1, RdG.of_B h2 hg, fun i e he => by obtain ⟨v, a, A', c', rfl, b⟩ := h3 i e he; exact ⟨A', c', a, RdG.of_B b hg⟩⟩
theorem ElsG.els {l : List (List Bs)} (h : ElsG w g A l) : ElsAt w w.heap.size A l := by
  obtain ⟨cs, h1, h2, h3⟩ := h
  exact ⟨cs, h1, RdB.of_rd h2.rd, fun i e he => by obtain ⟨A', c', a, b⟩ := h3 i e he; exact ⟨_, a, A', c', rfl, RdB.of_rd b.rd⟩⟩
theorem ElsG.of_own {B : Nat} {v : Value} {l : List (List Bs)} {cur : Array Value} (h : ElsOwn w B v l) (hg : w.heap[g]? = some (.cells cur 57 (0, 0))) : ∃ A c, v = .slice A l.length c ∧ ElsG w g A l := by
  obtain ⟨cs, h1, h2⟩ := h
  obtain ⟨A, c, e, _, _⟩ := own_shape h1
  refine ⟨A, c, e, cs, by have := h1.1; omega, RdG.of_own h1 e hg (by decide), fun i x hx => ?_⟩
  obtain ⟨u, a, b⟩ := h2 i x hx
  obtain ⟨A', c', e', _, _⟩ := own_shape b
  exact ⟨A', c', by rw [a, e'], RdG.of_own b e' hg (by decide)⟩
theorem SegsG.of_own {B : Nat} {v : Value} {l : List Seg} (h : SegsOwn w B v l) (hl : 0 < l.length) : ∃ g cap, v = .slice (some ⟨g, 0, none⟩) l.length cap ∧ B ≤ g ∧ l.length ≤ cap ∧ SegsG w g l := by
  obtain ⟨cs, h1, h2⟩ := h
  rcases h1.2 with ⟨h3, h4⟩ | ⟨b, cap, cu, h3, hB, hh, h7, _, _, h6⟩
  · rw [h4] at hl
    omega
  · refine ⟨b, cap, h3, hB, h7, cu, hh, fun i s hs => ?_⟩
    have hi := (List.getElem?_eq_some_iff.1 hs).1
    obtain ⟨a, u, c, d⟩ := h2 i s hs
    obtain ⟨A, c', e, f⟩ := ElsG.of_own d hh
    rw [← h6] at a c
    rw [List.getElem?_take_of_lt (by omega)] at a c
    exact ⟨by simpa using a, A, c', by rw [← e]; simpa using c, f⟩
theorem SegsG.below {l : List Seg} (h : SegsG w g l) (hb : Below w.heap.size w w') : SegsG w' g l := by
  obtain ⟨cur, h1, h2⟩ := h
  refine ⟨cur, (hb.block g (lt_of_block h1)).trans h1, fun i s hs => ?_⟩
  obtain ⟨a, A, c, b, d⟩ := h2 i s hs
  exact ⟨a, A, c, b, d.below hb⟩
theorem SegsG.cells {l : List Seg} (h : SegsG w g l) {k : Nat} (hk : k < l.length) : g < w.heap.size ∧ w.cell? ⟨g, k * 2, none⟩ = some (str l[k].tag) ∧ w.frozen? ⟨g, k * 2, none⟩ = false ∧ w.frozen? ⟨g, k * 2 + 1, none⟩ = false ∧ ∃ A c, w.cell? ⟨g, k * 2 + 1, none⟩ = some (.slice A l[k].els.length c) ∧ ElsG w g A l[k].els := by
  obtain ⟨cur, h1, h2⟩ := h
  obtain ⟨a, A, c, b, d⟩ := h2 k _ (List.getElem?_eq_getElem hk)
  exact ⟨lt_of_block h1, by rw [cell_of_row _ _ _ _ _ _ h1]; exact a, frozen_of_row _ _ _ _ _ h1, frozen_of_row _ _ _ _ _ h1, A, c, by rw [cell_of_row _ _ _ _ _ _ h1]; exact b, d⟩
theorem SegsG.set1 {l : List Seg} (h : SegsG w g l) {k : Nat} (hk : k < l.length) {els : List (List Bs)} (he : ElsG w g A els) (c : Nat) : SegsG (w.setCell ⟨g, k * 2 + 1, none⟩ (.slice A els.length c)) g (l.set k ⟨l[k].tag, els⟩) := by
  obtain ⟨cur, h1, h2⟩ := h
  refine ⟨_, heap_setCell_same w g (k * 2 + 1) cur _ _ h1, fun i s hs => ?_⟩
  obtain ⟨ka, kA, kc, kb, kd⟩ := h2 k _ (List.getElem?_eq_getElem hk)
  have hsz := (Array.getElem?_eq_some_iff.1 kb).1
  by_cases hi : i = k
  · subst hi
    rw [List.getElem?_set_self hk] at hs
    injection hs with hs
    subst hs
    refine ⟨by rw [Array.getElem?_setIfInBounds, if_neg (by omega)]; exact ka, A, c, ?_, he.set _ _⟩
    rw [Array.getElem?_setIfInBounds, if_pos rfl, if_pos hsz]
  · rw [List.getElem?_set_ne (fun e => hi e.symm)] at hs
    obtain ⟨a, A', c', b, d⟩ := h2 i s hs
    refine ⟨by rw [Array.getElem?_setIfInBounds, if_neg (by omega)]; exact a, A', c', by rw [Array.getElem?_setIfInBounds, if_neg (by omega)]; exact b, d.set _ _⟩
theorem SegsG.set0 {l : List Seg} (h : SegsG w g l) {k : Nat} (hk : k < l.length) (t : Bs) : SegsG (w.setCell ⟨g, k * 2, none⟩ (str t)) g (l.set k ⟨t, l[k].els⟩) := by
  obtain ⟨cur, h1, h2⟩ := h
  refine ⟨_, heap_setCell_same w g (k * 2) cur _ _ h1, fun i s hs => ?_⟩
  obtain ⟨ka, kA, kc, kb, kd⟩ := h2 k _ (List.getElem?_eq_getElem hk)
  have hsz := (Array.getElem?_eq_some_iff.1 ka).1
  by_cases hi : i = k
  · subst hi
    rw [List.getElem?_set_self hk] at hs
    injection hs with hs
    subst hs
    refine ⟨by rw [Array.getElem?_setIfInBounds, if_pos rfl, if_pos hsz], kA, kc, by rw [Array.getElem?_setIfInBounds, if_neg (by omega)]; exact kb, kd.set _ _⟩
  · rw [List.getElem?_set_ne (fun e => hi e.symm)] at hs
    obtain ⟨a, A', c', b, d⟩ := h2 i s hs
    refine ⟨by rw [Array.getElem?_setIfInBounds, if_neg (by omega)]; exact a, A', c', by rw [Array.getElem?_setIfInBounds, if_neg (by omega)]; exact b, d.set _ _⟩
/-- segment k stored whole -/
theorem SegsG.put {l : List Seg} (h : SegsG w g l) {k : Nat} (hk : k < l.length) (s : Seg) (he : ElsG w g A s.els) (c : Nat) : SegsG ((w.setCell ⟨g, k * 2, none⟩ (str s.tag)).setCell ⟨g, k * 2 + 1, none⟩ (.slice A s.els.length c)) g (l.set k s) := by
  have h1 := (h.set0 hk s.tag).set1 (k := k) (by rw [List.length_set]; exact hk) (he.set (k * 2) (str s.tag)) c
  have e : ∀ (x : List Seg) (y : Seg), x = l.set k y → ∀ hx : k < x.length, x.set k ⟨x[k].tag, s.els⟩ = l.set k ⟨y.tag, s.els⟩ := by
    intro x y hx hk2
    subst hx
    rw [List.getElem_set_self, List.set_set]
  rw [e _ _ rfl] at h1
  exact h1
theorem SegsG.at_ {l : List Seg} (h : SegsG w g l) : SegsAt w w.heap.size (some ⟨g, 0, none⟩) l := by
  obtain ⟨cur, h1, h2⟩ := h
  have hsz : l.length * 2 ≤ cur.size := by
    rcases Nat.eq_zero_or_pos l.length with h0 | h0
    · omega
    · obtain ⟨_, A, c, b, _⟩ := h2 (l.length - 1) _ (List.getElem?_eq_getElem (by omega))
      have := (Array.getElem?_eq_some_iff.1 b).1
      omega
  refine ⟨cur.toList.take (l.length * 2), (by rw [List.length_take]; have e : cur.toList.length = cur.size := (by simp); omega), RdB.of_rd fun j u hu => ⟨_, rfl, ?_⟩, fun i s hs => ?_⟩
  · have hj : j < l.length * 2 := by
      have := (List.getElem?_eq_some_iff.1 hu).1
      rw [List.length_take] at this
      omega
    rw [List.getElem?_take_of_lt hj] at hu
    rw [Addr.add_lit, cell_of_row _ _ _ _ _ _ h1, Nat.zero_add]
    simpa using hu
  · have hi := (List.getElem?_eq_some_iff.1 hs).1
    obtain ⟨a, A, c, b, d⟩ := h2 i s hs
    refine ⟨_, _, by rw [List.getElem?_take_of_lt (by omega)]; simpa using a, by rw [List.getElem?_take_of_lt (by omega)]; simpa using b, rfl, A, c, rfl, d.els⟩
/-- elements in a row of the call's own -/
theorem ElsG.fresh {B n : Nat} {v : Value} {l : List (List Bs)} (ho : OwnX w B 60 1 v n cs) (hg : g < B) (hn : n = l.length) (h : ∀ (i : Nat) (e : List Bs), l[i]? = some e → ∃ A' c', cs[i]? = some (.slice A' e.length c') ∧ RdG w g A' (strs e)) : ∃ A c, v = .slice A l.length c ∧ ElsG w g A l := by
  subst hn
  obtain ⟨A, c, e, _, _, _⟩ := ho.shape
  exact ⟨A, c, e, cs, by have := ho.1; omega, RdG.of_ownX ho e hg, h⟩
end
end Go.Proofs.YtmjlnckmhdgoiaaGreatDoor

/-! The list with its last segment END counted anew, in memory; the sizes that SameSegments asks. -/
namespace Go.Proofs.YtmjlnckmhdgoiaaGreatDoor
open Go.RowKit
set_option linter.unusedVariables false

theorem right_mem {w W' : World} {l : List Seg} {K : Nat} {s : Seg} {cs : List Value} {g off cap g2 c2 : Nat} {e0 e1 : List Bs}
    (hK : K + 1 = l.length) (hd : l = l.dropLast ++ [s]) (hcl : cs.length = l.length * 2) (hcs : SegsCs w w.heap.size cs l)
    (hb : Below w.heap.size w W')
    (ho : OwnX W' w.heap.size 57 2 (.slice (some ⟨g, off, none⟩) l.length cap) l.length ((cs.set (K * 2) (str tEND)).set (K * 2 + 1) (.slice (some ⟨g2, 0, none⟩) 2 c2)))
    (hn : ElsAt W' W'.heap.size (some ⟨g2, 0, none⟩) [e0, e1]) :
    SegsAt W' W'.heap.size (some ⟨g, off, none⟩) (l.dropLast ++ [⟨tEND, [e0, e1]⟩]) := by
  have hdl : l.dropLast.length = K := by simp; omega
  obtain ⟨_, _, e, hr, _, _⟩ := ho.shape
  injection e with e _ _
  subst e
  refine ⟨(cs.set (K * 2) (str tEND)).set (K * 2 + 1) (.slice (some ⟨g2, 0, none⟩) 2 c2), by rw [List.length_set, List.length_set, hcl, List.length_append, hdl, List.length_singleton]; omega, RdB.of_rd hr, fun i x hx => ?_⟩
  by_cases hi : i < K
  · rw [List.getElem?_append_left (by omega)] at hx
    have hx2 : l[i]? = some x := by
      rw [hd, List.getElem?_append_left (by omega)]
      exact hx
    obtain ⟨t, u, h1, h2, h3⟩ := hcs i x hx2
    refine ⟨t, u, ?_, ?_, (h3.below hb).mono hb.size⟩
    · rw [List.getElem?_set_ne (by omega), List.getElem?_set_ne (by omega)]; exact h1
    · rw [List.getElem?_set_ne (by omega), List.getElem?_set_ne (by omega)]; exact h2
  · have hiK : i = K := by
      have := (List.getElem?_eq_some_iff.1 hx).1
      rw [List.length_append, hdl, List.length_singleton] at this
      omega
    subst hiK
    rw [List.getElem?_append_right (by omega), hdl, Nat.sub_self] at hx
    simp only [List.getElem?_cons_zero, Option.some.injEq] at hx
    subst hx
    refine ⟨str tEND, .slice (some ⟨g2, 0, none⟩) 2 c2, ?_, List.getElem?_set_self (by rw [List.length_set]; omega), rfl, some ⟨g2, 0, none⟩, c2, rfl, hn⟩
    rw [List.getElem?_set_ne (by omega), List.getElem?_set_self (by omega)]
theorem els_two {W : World} {gv : Nat} {A0 A1 : Option Addr} {c0 c1 : Nat} {e0 e1 : List Bs} (hv : W.heap[gv]? = some (.cells #[.slice A0 e0.length c0, .slice A1 e1.length c1] 60 (0, 0))) (h0 : Rd W A0 (strs e0)) (h1 : Rd W A1 (strs e1)) : ElsAt W W.heap.size (some ⟨gv, 0, none⟩) [e0, e1] := by
  refine ⟨[.slice A0 e0.length c0, .slice A1 e1.length c1], rfl, RdB.of_rd fun j u hu => ⟨_, rfl, ?_⟩, fun i e he => ?_⟩
  · rw [Addr.add_lit, cell_of_row _ _ _ _ _ _ hv, Nat.zero_add]
    simpa using hu
  · match i, he with
    | 0, he =>
      simp only [List.getElem?_cons_zero, Option.some.injEq] at he
      subst he
      exact ⟨_, rfl, A0, c0, rfl, RdB.of_rd h0⟩
    | 1, he =>
      simp only [List.getElem?_cons_succ, List.getElem?_cons_zero, Option.some.injEq] at he
      subst he
      exact ⟨_, rfl, A1, c1, rfl, RdB.of_rd h1⟩
    | i + 2, he => simp at he
/-- the last segment stored anew -/
theorem right_fin {W6 V : World} {l : List Seg} {K : Nat} {s : Seg} {cs : List Value} {g off cap gv : Nat} {A0 A1 : Option Addr} {c0 c1 : Nat} {e0 e1 : List Bs}
    (hK : K + 1 = l.length) (hd : l = l.dropLast ++ [s]) (hcl : cs.length = l.length * 2) (hcs : SegsCs W6 W6.heap.size cs l) (hb : Below W6.heap.size W6 V) (hg : W6.heap.size ≤ g)
    (ho : OwnX V W6.heap.size 57 2 (.slice (some ⟨g, off, none⟩) l.length cap) l.length cs)
    (hv : V.heap[gv]? = some (.cells #[.slice A0 e0.length c0, .slice A1 e1.length c1] 60 (0, 0))) (hgv : gv ≠ g) (h0 : RdG V g A0 (strs e0)) (h1 : RdG V g A1 (strs e1)) :
    SegsAt ((V.setCell ⟨g, off + K * 2, none⟩ (.string ⟨#[69, 78, 68]⟩)).setCell ⟨g, off + K * 2 + 1, none⟩ (.slice (some ⟨gv, 0, none⟩) 2 2)) ((V.setCell ⟨g, off + K * 2, none⟩ (.string ⟨#[69, 78, 68]⟩)).setCell ⟨g, off + K * 2 + 1, none⟩ (.slice (some ⟨gv, 0, none⟩) 2 2)).heap.size (some ⟨g, off, none⟩) (l.dropLast ++ [⟨tEND, [e0, e1]⟩]) ∧
      Below W6.heap.size W6 ((V.setCell ⟨g, off + K * 2, none⟩ (.string ⟨#[69, 78, 68]⟩)).setCell ⟨g, off + K * 2 + 1, none⟩ (.slice (some ⟨gv, 0, none⟩) 2 2)) := by
  have hb9 := (hb.setCell (p := ⟨g, off + K * 2, none⟩) hg (.string ⟨#[69, 78, 68]⟩)).setCell (p := ⟨g, off + K * 2 + 1, none⟩) hg (.slice (some ⟨gv, 0, none⟩) 2 2)
  have o1 := ho.setIn (k := K * 2) (by rw [hcl]; omega) (.string ⟨#[69, 78, 68]⟩)
  have o2 := o1.setIn (k := K * 2 + 1) (by rw [List.length_set, hcl]; omega) (.slice (some ⟨gv, 0, none⟩) 2 2)
  refine ⟨right_mem hK hd hcl hcs hb9 o2 (els_two (c0 := c0) (c1 := c1) ?_ ((h0.set _ _).set _ _).rd ((h1.set _ _).set _ _).rd), hb9⟩
  rw [Below.heap_setCell _ ⟨g, off + K * 2 + 1, none⟩ _ gv hgv, Below.heap_setCell _ ⟨g, off + K * 2, none⟩ _ gv hgv]
  exact hv
theorem SSz.of {l : List Seg} (hl : l.length ≤ 1000000000) (hf : ∀ s ∈ l, SFit s) : SSz l := ⟨hl, fun s hs => ⟨by have := (hf s hs).n; omega, (hf s hs).e⟩⟩
theorem SSz.right {l : List Seg} {s : Seg} {e : List Bs} (hl : l.length ≤ 1000000000) (hf : ∀ s ∈ l, SFit s) (hs : s ∈ l) (he : e.length ≤ 1) : SSz (l.dropLast ++ [⟨tEND, [e, elAt s 1]⟩]) := by
  refine ⟨by rw [List.length_append, List.length_dropLast, List.length_singleton]; omega, fun x hx => ?_⟩
  rcases List.mem_append.1 hx with h | h
  · exact (SSz.of hl hf).f x (List.dropLast_subset l h)
  · simp only [List.mem_singleton] at h
    subst h
    refine ⟨by simp, fun y hy => ?_⟩
    simp only [List.mem_cons, List.not_mem_nil, or_false] at hy
    rcases hy with rfl | rfl
    · omega
    · exact (hf s hs).len 1
theorem right_yes {l : List Seg} {s : Seg} (hl : l.getLast? = some s) (h1 : s.tag = tEND) (h2 : s.els.length = 2) : rightF l = l.dropLast ++ [⟨tEND, [elT (Lib.decDigits l.length), elAt s 1]⟩] := by
  unfold rightF
  rw [hl]
  simp only
  rw [if_pos ⟨h1, h2⟩]
theorem right_no {l : List Seg} {s : Seg} (hl : l.getLast? = some s) (h : ¬ (s.tag = tEND ∧ s.els.length = 2)) : rightF l = [] := by
  unfold rightF
  rw [hl]
  simp only
  rw [if_neg h]
theorem segsM_ne (m : Msg) : segsM m ≠ [] := by unfold segsM; simp
end Go.Proofs.YtmjlnckmhdgoiaaGreatDoor

/-! Contract of the reference's Parse. -/
namespace Go.Proofs.YtmjlnckmhdgoiaaGreatDoor
open Go.RowKit
set_option linter.unusedVariables false

theorem guess_fit {l : List Seg} (hf : ∀ s ∈ l, SFit s) (hc : cntL l ≤ 10000000000000) : MBd (guessL zeroM l) := by
  have h := guess_bd hf l.length (Nat.le_refl _)
  rw [List.take_length] at h
  exact h.bd hc
/-- the result's block (zero), the message in block gm, its list in a row of the call's own -/
structure RPS (w0 : World) (gm : Nat) (m : Msg) (A : Option Addr) (c : Nat) (W : World) : Prop where
  res : MBlk W w0.heap.size zeroM none 0
  blk : MBlk W gm m A c
  own : W.ownsRow (w0.heap.size + 1) 3 1 (.slice A m.list.length c) m.list.length (ints m.list)
  below : Below w0.heap.size w0 W
section
variable {w0 W W' : World} {gm : Nat} {m : Msg} {A : Option Addr} {c : Nat}
theorem RPS.step (h : RPS w0 gm m A c W) (hb : Below W.heap.size W W') : RPS w0 gm m A c W' := ⟨h.res.below hb, h.blk.below hb, own_below h.own hb, h.below.trans (hb.mono h.below.size)⟩
theorem RPS.rd (h : RPS w0 gm m A c W) : Rd W A (ints m.list) := by
  obtain ⟨A', c', e, hr, _⟩ := own_shape h.own
  injection e with e1 _ _
  subst e1
  exact hr.rd
theorem RPS.start {m0 : Msg} (hr : MBlk W w0.heap.size m0 none 0) (hz : m0 = zeroM) (hb : Below w0.heap.size w0 W) {B : Nat} (hB : w0.heap.size + 1 ≤ B) (ho : W.ownsRow B 3 1 (.slice A m.list.length c) m.list.length (ints m.list)) : RPS w0 W.heap.size m A c (W.alloc (.cells (msgC m A c) 30)) := by
  subst hz
  have q := (Below.refl W.heap.size W).alloc (Nat.le_refl _) (.cells (msgC m A c) 30)
  exact ⟨hr.below q, heap_alloc_new W _, World.ownsRow.mono (own_below ho q) hB, hb.trans (q.mono hb.size)⟩
end
theorem seg_parts {W : World} {A : Option Addr} {l : List Seg} (h : SegsAt W W.heap.size A l) {K : Nat} {s : Seg} (hs : l[K]? = some s) : ∃ b off A' c', A = some ⟨b, off, none⟩ ∧ b < W.heap.size ∧ W.cell? ⟨b, off + K * 2, none⟩ = some (str s.tag) ∧ W.cell? ⟨b, off + K * 2 + 1, none⟩ = some (.slice A' s.els.length c') ∧ ElsAt W W.heap.size A' s.els := by
  obtain ⟨hk, e⟩ := List.getElem?_eq_some_iff.1 hs
  obtain ⟨b, off, A', c', e1, e2, e3, e4, e5⟩ := h.get hk
  rw [e] at e3 e4 e5
  exact ⟨b, off, A', c', e1, e2, e3, e4, e5⟩
theorem el_one {W : World} {A : Option Addr} {s : Seg} (h : ElsAt W W.heap.size A s.els) (hn : s.els.length = 2) : ∃ b off A1 c1, A = some ⟨b, off, none⟩ ∧ b < W.heap.size ∧ W.cell? ⟨b, off + 1, none⟩ = some (.slice A1 (elAt s 1).length c1) ∧ RdB W W.heap.size A1 (strs (elAt s 1)) := by
  have h1 : 1 < s.els.length := by omega
  obtain ⟨b, off, A1, c1, e1, e2, e3, e4⟩ := h.get h1
  have e : elAt s 1 = s.els[1] := by unfold elAt; rw [List.getElem?_eq_getElem h1]; rfl
  rw [e]
  exact ⟨b, off, A1, c1, e1, e2, e3, e4⟩
theorem elT_len (x : Bs) : (elT x).length ≤ 1 := by unfold elT; split <;> simp
set_option maxRecDepth 100000 in
set_option maxHeartbeats 40000000 in
theorem refParse_any (A : Option Addr) (c : Nat) (l : List Seg) (w : World) (h : SegsAt w w.heap.size A l) (hl : l.length ≤ 1000000000) (hf : ∀ s ∈ l, SFit s) (hc : cntL l ≤ 10000000000000) :
    Calls Tryz.prog 13 #[.slice A l.length c] w (PRet w (parseR l)) := by
  have q0 := (Below.refl w.heap.size w).alloc (Nat.le_refl _) (.cells #[.int .i64 0, .int .i64 0, .int .i64 0, .int .i64 0, .int .i64 0, .int .i64 0, .int .i64 0, .string ⟨#[]⟩, .string ⟨#[]⟩, .int .i64 0, .int .i64 0, .slice none 0 0, .string ⟨#[]⟩] 30)
  have hres : MBlk (w.alloc (.cells #[.int .i64 0, .int .i64 0, .int .i64 0, .int .i64 0, .int .i64 0, .int .i64 0, .int .i64 0, .string ⟨#[]⟩, .string ⟨#[]⟩, .int .i64 0, .int .i64 0, .slice none 0 0, .string ⟨#[]⟩] 30)) w.heap.size zeroM none 0 := heap_alloc_new w _
  have hs1 : w.heap.size + 1 ≤ (w.alloc (.cells #[.int .i64 0, .int .i64 0, .int .i64 0, .int .i64 0, .int .i64 0, .int .i64 0, .int .i64 0, .string ⟨#[]⟩, .string ⟨#[]⟩, .int .i64 0, .int .i64 0, .slice none 0 0, .string ⟨#[]⟩] 30)).heap.size := by simp
  have HGU := Lib.hid (guess_any A c l (w.alloc (.cells #[.int .i64 0, .int .i64 0, .int .i64 0, .int .i64 0, .int .i64 0, .int .i64 0, .int .i64 0, .string ⟨#[]⟩, .string ⟨#[]⟩, .int .i64 0, .int .i64 0, .slice none 0 0, .string ⟨#[]⟩] 30)) ((h.below q0).mono q0.size) hl hf hc)
  have HQ0 := Lib.hid q0
  have HRES := Lib.hid hres
  have HS1 := Lib.hid hs1
  have HH := Lib.hid h
  have HF := Lib.hid hf
  have HLL := Lib.hid hl
  have HBD := Lib.hid (guess_fit hf hc)
  have HJ : Hid (parseR l = judge (guessL zeroM l) l (rightF l)) := rfl
  have HSZ := Lib.hid (SSz.of hl hf)
  unfold GuessRet at HGU
  clear h hl hf hc q0 hres hs1
  generalize guessL zeroM l = m at *
  generalize hnn : l.length = n at *
  have HNN := Lib.hid hnn
  have hnb : n ≤ 1000000000 := HLL.out
  clear hnn
  go_enter Tryz.func13, Tryz.ntmps13
  go_wp2_with fail
  refine HGU.out.mono ?_
  rintro e W2 ⟨Am, cm, rfl, ho2, hb2⟩
  have HS3 := Lib.hid (RPS.start (HRES.out.below hb2) rfl (HQ0.out.trans (hb2.mono HQ0.out.size)) HS1.out ho2)
  clear ho2 hb2 HGU HRES HQ0 HS1
  go_upto_region 2 with (fail)
  generalize hW3 : W2.alloc (.cells (msgC m Am cm) 30) = W3 at HS3 ⊢
  generalize W2.heap.size = gm at HS3 ⊢
  clear hW3
  obtain ⟨d0, d1, d2, d3, d4, d5, d6, d7, d8, d9, d10, d11, d12⟩ := HS3.out.blk.all
  go_wp2_with fail
  refine (refMessage_any m Am cm W3 HS3.out.rd HBD.out).mono ?_
  rintro e W4 ⟨rfl, hb4⟩
  have HS4 := Lib.hid (HS3.out.step hb4)
  clear d0 d1 d2 d3 d4 d5 d6 d7 d8 d9 d10 d11 d12 hb4 HS3
  by_cases hv : validM m = 0
  · have HJA := Lib.hid (judge_cases hv HJ.out)
    have ok := okM_iff.1 hv
    have HOK := Lib.hid ok
    have hv0 : (validM m != 0) = false := by rw [hv]; rfl
    have HSF := Lib.hid (sok_made ok)
    clear HJ ok hv
    obtain ⟨d0, d1, d2, d3, d4, d5, d6, d7, d8, d9, d10, d11, d12⟩ := HS4.out.blk.all
    go_wp2_with fail
    refine (refSegments_any m Am cm W4 HS4.out.rd HOK.out).mono ?_
    rintro e W5 ⟨v5, rfl, ho5, hb5⟩
    have HS5 := Lib.hid (HS4.out.step hb5)
    obtain ⟨A5, c5, rfl, _, hat5⟩ := ho5.at_
    have HAT5 := Lib.hid hat5
    have HSS : Hid (SSz (segsM m)) := SSz.of (by have := HSF.out.n; omega) HSF.out.f
    have HL5 := Lib.hid ((HH.out.below HS5.out.below).mono HS5.out.below.size)
    have hsm := sameG_any A5 A c5 c (segsM m) l _ _ W5 HAT5.out HL5.out HSS.out HSZ.out
    rw [HNN.out] at hsm
    have HSM := Lib.hid hsm
    unfold SameRet at HSM
    have HNE := Lib.hid (segsM_ne m)
    clear d0 d1 d2 d3 d4 d5 d6 d7 d8 d9 d10 d11 d12 ho5 hat5 hb5 hsm HS4 HBD HOK HSF hv0
    generalize segsM m = sg at *
    generalize hgn : sg.length = gn at *
    have HGN := Lib.hid hgn
    clear hgn
    go_wp2_with fail
    refine HSM.out.mono ?_
    rintro e W6 ⟨r, rfl, hr, hq6⟩
    have hb6 := hq6.below W5.heap.size
    have HS6 := Lib.hid (HS5.out.step hb6)
    have HAT6 := Lib.hid ((HAT5.out.below hb6).mono hb6.size)
    have HL6 := Lib.hid ((HL5.out.below hb6).mono hb6.size)
    clear HSM HS5 HAT5 HL5 hq6 hb6
    cases r
    · have HJB := Lib.hid (HJA.out.2 (fun h => by have := hr.2 h.symm; cases this))
      clear hr HJA
      by_cases h0 : n = 0
      · have hl0 : l = [] := List.eq_nil_of_length_eq_zero (by rw [HNN.out]; exact h0)
        have HJC : Hid (parseR l = (zeroM, 4)) := HJB.out.2 (fun h => HNE.out (h.symm.trans (by rw [hl0]; rfl)))
        have HRZ := Lib.hid HS6.out
        clear hl0 HJB HNN HSZ HH HF HAT6 HL6
        subst h0
        go_wp2_with (refine at_store 30 (.tmp 2) (.tmp 65) rfl ?_; refine wpList_store_box rfl 30 (.tmp 2) (.tmp 65) rfl w.heap.size 0 (.agg #[.int .i64 0, .int .i64 0, .int .i64 0, .int .i64 0, .int .i64 0, .int .i64 0, .int .i64 0, .string ⟨#[]⟩, .string ⟨#[]⟩, .int .i64 0, .int .i64 0, .slice none 0 0, .string ⟨#[]⟩]) (#[.int .i64 0, .int .i64 0, .int .i64 0, .int .i64 0, .int .i64 0, .int .i64 0, .int .i64 0, .string ⟨#[]⟩, .string ⟨#[]⟩, .int .i64 0, .int .i64 0, .slice none 0 0, .string ⟨#[]⟩]) rfl rfl rfl [.int .i64 0, .int .i64 0, .int .i64 0, .int .i64 0, .int .i64 0, .int .i64 0, .int .i64 0, .string ⟨#[]⟩, .string ⟨#[]⟩, .int .i64 0, .int .i64 0, .slice none 0 0, .string ⟨#[]⟩] [.int .i64 0, .int .i64 0, .int .i64 0, .int .i64 0, .int .i64 0, .int .i64 0, .int .i64 0, .string ⟨#[]⟩, .string ⟨#[]⟩, .int .i64 0, .int .i64 0, .slice none 0 0, .string ⟨#[]⟩] _ HS6.out.res (Nat.le_of_ble_eq_true rfl) rfl (by kernel_rfl) rfl ?_; intro W9 hb9 hP9; have HR9 := Lib.hid hb9; have HP9 := Lib.hid hP9; clear hb9 hP9)
        exact ret2 (k := 2) (j := 3) (g := w.heap.size) (T := 30) (cs := msgC zeroM none 0) Tryz.results13 rfl HR9.out Tryz.underlying30 (by kernel_rfl) rfl (par_ret (p := (zeroM, 4)) HJC.out ⟨none, 0, rfl, World.ownsRow_nil _ _ _ _, Below.but HS6.out.below HP9.out (Nat.le_refl _)⟩)
      · have hz : l.length ≠ 0 := by rw [HNN.out]; exact h0
        obtain ⟨K, s, hK, hs, hlast, hd, hdl⟩ := last_of hz
        obtain ⟨b, off, Ae, ce, rfl, hbl, hct, hcu, hels⟩ := seg_parts HL6.out hs
        have hsub : (n : Int) - 1 = (K : Int) := by have := HNN.out; omega
        have hKn : K < n := by have := HNN.out; omega
        have hKn2 : (K : Int) < (n : Int) := by omega
        have hK0 : (0 : Int) ≤ (K : Int) := by omega
        have HLAST := Lib.hid hlast
        have HKK := Lib.hid hK
        have HS := Lib.hid hs
        have HD := Lib.hid hd
        have HELS := Lib.hid hels
        have HCT := Lib.hid hct
        have HCU := Lib.hid hcu
        have hsn := (HF.out s (List.mem_of_getElem? hs)).n
        unfold str at hct
        clear hz hK hs hlast hd hdl hels h0
        by_cases hT : s.tag = tEND
        · have hct2 : W6.cell? ⟨b, off + K * 2, none⟩ = some (.string ⟨#[69, 78, 68]⟩) := by
            have := hct
            rw [hT] at this
            exact this
          by_cases hE : s.els.length = 2
          · have HY := Lib.hid (right_yes HLAST.out hT hE)
            have HZY := Lib.hid (SSz.right (l := l) (s := s) (by have := HLL.out; rw [← HNN.out] at this; exact this) HF.out (List.mem_of_getElem? HS.out) (elT_len (Lib.decDigits l.length)))
            clear hT hct
            rw [hE] at hcu hsn
            clear hsn
            obtain ⟨cs, hcl, hcr, hone, hparts⟩ := HL6.out.cellsOne
            obtain ⟨eb, eo, A1, c1, rfl, heb, hce1, hr1⟩ := el_one HELS.out hE
            have HCL := Lib.hid hcl
            have HCS : Hid (SegsCs W6 W6.heap.size cs l) := hparts
            have HCR := Lib.hid hcr
            have HONE := Lib.hid hone
            have HR1 := Lib.hid hr1
            have HE2 := Lib.hid hE
            have HCE1 := Lib.hid hce1
            obtain ⟨i0, hi0, hz0, hz1, hz2⟩ := info_parts segInfo
            have q7 := (Below.refl W6.heap.size W6).alloc (Nat.le_refl _) (.cells #[] 57)
            have HL7 := Lib.hid (OwnX.lit00 W6 W6.heap.size 57 2 (Nat.le_refl _))
            have HR7 := Lib.hid (hcr.below q7).rd
            have HQ7 := Lib.hid q7
            clear hcl hcr hone hparts hr1 hE q7
            have hlen1 : (elAt s 1).length = (elAt s 1).length := rfl
            generalize hE1 : elAt s 1 = e1 at *
            have HE1 := Lib.hid hE1
            clear hE1 hlen1
            go_wp2_with (at_builtin; refine wpList_append_x (W6.alloc (.cells #[] 57)) rfl (.tmp 42) (.tmp 43) 27 rfl W6.heap.size 57 i0 _ 2 40 Tryz.underlying27 hi0 hz0 hz1 hz2 rfl (by omega) _ 0 [] rfl HL7.out (some ⟨b, off, none⟩) n c cs rfl (by rw [HCL.out, HNN.out]) HR7.out HONE.out (by unfold maxLen; omega) (by omega) (by simp) ?_; intro v7 W7 hown7 hgr7 _)
            have ho7 : OwnX W7 W6.heap.size 57 2 v7 n cs := by simpa using hown7
            have hb7 : Below W6.heap.size W6 W7 := HQ7.out.trans ((Below.refl _ _).grown hgr7 (by simp) (fun k e => (HL7.out.block_lt e).1))
            obtain ⟨g, goff, cap, rfl, hg1, hg2, hcap, hcell⟩ := ho7.place (by omega)
            have HO7 := Lib.hid ho7
            have HB7 := Lib.hid hb7
            have hd1 := (hb7.cell (p := ⟨b, off + K * 2 + 1, none⟩) hbl).trans hcu
            have hd2 := (hb7.cell (p := ⟨eb, eo + 1, none⟩) heb).trans hce1
            clear hown7 hgr7 ho7 hb7 hcell HL7 HR7 HQ7 hct2 hcu hce1 hi0 hz0 hz1 hz2
            clear i0
            go_upto_region 10 with (fail)
            generalize hl1 : e1.length = l1 at *
            have HL1 := Lib.hid hl1
            clear hl1
            refine wp_region_x 16 (by kernel_rfl) (fun W => W.cell? ⟨b, off + K * 2 + 1, none⟩ = some (.slice (some ⟨eb, eo, none⟩) 2 ce) ∧ W.cell? ⟨eb, eo + 1, none⟩ = some (.slice A1 l1 c1)) ?_
            have hst : W7.drew.cell? ⟨b, off + K * 2 + 1, none⟩ = some (.slice (some ⟨eb, eo, none⟩) 2 ce) ∧ W7.drew.cell? ⟨eb, eo + 1, none⟩ = some (.slice A1 l1 c1) := ⟨hd1, hd2⟩
            have HB8 : Hid (Below W6.heap.size W6 W7.drew) := HB7.out.drew
            have HO8 : Hid (OwnX W7.drew W6.heap.size 57 2 (.slice (some ⟨g, goff, none⟩) n cap) n cs) := HO7.out
            have hg3 : g < W7.drew.heap.size := hg2
            generalize hV : W7.drew = V0 at hst HB8 HO8 hg3 ⊢
            clear hV hd1 hd2 HB7 HO7 hg2
            refine wpAnyX_take (i := 0) (v := .slice (some ⟨g, goff, none⟩) n cap) rfl (by kernel_rfl) (by kernel_rfl) (by kernel_rfl) (by kernel_rfl) (fun _ _ _ h => h) hst (Or.inl ⟨by rfl, fun w hS => by (obtain ⟨q0, q1⟩ := hS; go_simp)⟩) ?_
            go_simp
            refine wpAnyX_take (i := 1) (v := .int .i64 (K : Int)) rfl (by kernel_rfl) (by kernel_rfl) (by kernel_rfl) (by kernel_rfl) (fun _ _ _ h => h) hst (Or.inl ⟨by rfl, fun w hS => by (obtain ⟨q0, q1⟩ := hS; go_simp)⟩) ?_
            go_simp
            refine wpAnyX_take (i := 2) (v := .slice (some ⟨b, off, none⟩) n c) rfl (by kernel_rfl) (by kernel_rfl) (by kernel_rfl) (by kernel_rfl) (fun _ _ _ h => h) hst (Or.inl ⟨by rfl, fun w hS => by (obtain ⟨q0, q1⟩ := hS; go_simp)⟩) ?_
            go_simp
            refine wpAnyX_take (i := 3) (v := .int .i64 (n : Int)) rfl (by kernel_rfl) (by kernel_rfl) (by kernel_rfl) (by kernel_rfl) (fun _ _ _ h => h) hst (Or.inl ⟨by rfl, fun w hS => by (obtain ⟨q0, q1⟩ := hS; go_simp)⟩) ?_
            go_simp
            refine wpAnyX_take (i := 6) (v := .slice (some ⟨b, off, none⟩) n c) rfl (by kernel_rfl) (by kernel_rfl) (by kernel_rfl) (by kernel_rfl) (fun _ _ _ h => h) hst (Or.inl ⟨by rfl, fun w hS => by (obtain ⟨q0, q1⟩ := hS; go_simp)⟩) ?_
            go_simp
            refine wpAnyX_take (i := 7) (v := .int .i64 (K : Int)) rfl (by kernel_rfl) (by kernel_rfl) (by kernel_rfl) (by kernel_rfl) (fun _ _ _ h => h) hst (Or.inl ⟨by rfl, fun w hS => by (obtain ⟨q0, q1⟩ := hS; go_simp)⟩) ?_
            go_simp
            refine wpAnyX_take (i := 8) (v := .pointer (some ⟨b, off + K * 2, none⟩)) rfl (by kernel_rfl) (by kernel_rfl) (by kernel_rfl) (by kernel_rfl) (fun _ _ _ h => h) hst (Or.inl ⟨by rfl, fun w hS => by (obtain ⟨q0, q1⟩ := hS; go_simp)⟩) ?_
            go_simp
            refine wpAnyX_take (i := 9) (v := .pointer (some ⟨b, off + K * 2 + 1, none⟩)) rfl (by kernel_rfl) (by kernel_rfl) (by kernel_rfl) (by kernel_rfl) (fun _ _ _ h => h) hst (Or.inl ⟨by rfl, fun w hS => by (obtain ⟨q0, q1⟩ := hS; go_simp)⟩) ?_
            go_simp
            refine wpAnyX_take (i := 10) (v := .slice (some ⟨eb, eo, none⟩) 2 ce) rfl (by kernel_rfl) (by kernel_rfl) (by kernel_rfl) (by kernel_rfl) (fun _ _ _ h => h) hst (Or.inl ⟨by rfl, fun w hS => by (obtain ⟨q0, q1⟩ := hS; go_simp)⟩) ?_
            go_simp
            refine wpAnyX_take (i := 11) (v := .pointer (some ⟨eb, eo + 1, none⟩)) rfl (by kernel_rfl) (by kernel_rfl) (by kernel_rfl) (by kernel_rfl) (fun _ _ _ h => h) hst (Or.inl ⟨by rfl, fun w hS => by (obtain ⟨q0, q1⟩ := hS; go_simp)⟩) ?_
            go_simp
            refine wpAnyX_take (i := 12) (v := .slice A1 l1 c1) rfl (by kernel_rfl) (by kernel_rfl) (by kernel_rfl) (by kernel_rfl) (fun _ _ _ h => h) hst (Or.inl ⟨by rfl, fun w hS => by (obtain ⟨q0, q1⟩ := hS; go_simp)⟩) ?_
            go_simp
            refine wpAnyX_one (i := 4) (by kernel_rfl) rfl (fun J hJ => ?_)
            go_simp
            go_wp2_with (go_at_call 39; refine (digits_any n V0 (by omega)).mono ?_; rintro e V1 ⟨rfl, hb⟩)
            have hst2 := (⟨(hb.cell (p := ⟨b, off + K * 2 + 1, none⟩) (Nat.lt_of_lt_of_le hbl HB8.out.size)).trans hst.1, (hb.cell (p := ⟨eb, eo + 1, none⟩) (Nat.lt_of_lt_of_le heb HB8.out.size)).trans hst.2⟩ : V1.cell? ⟨b, off + K * 2 + 1, none⟩ = some (.slice (some ⟨eb, eo, none⟩) 2 ce) ∧ V1.cell? ⟨eb, eo + 1, none⟩ = some (.slice A1 l1 c1))
            replace HO8 := Lib.hid (own_belowX HO8.out hb)
            replace HB8 := Lib.hid (HB8.out.trans (hb.mono HB8.out.size))
            replace hg3 := Nat.lt_of_lt_of_le hg3 hb.size
            clear hst
            have hst := hst2
            clear hst2
            refine hJ.out _ _ (fun _ => hst) ?_
            clear hJ J hb
            generalize hdg : Lib.decDigits n = dg at *
            have HDG := Lib.hid hdg
            clear hdg
            refine wpAnyX_one (i := 5) (by kernel_rfl) rfl (fun J hJ => ?_)
            go_simp
            go_wp2_with (go_at_call 26; refine (element_any dg V1).mono ?_; rintro e V2 ⟨An, cn, rfl, hon, hb⟩)
            have HON : Hid (RdG V2 g An (strs (elT dg))) := RdG.of_ownB hon rfl hg3
            have hst2 := (⟨(hb.cell (p := ⟨b, off + K * 2 + 1, none⟩) (Nat.lt_of_lt_of_le hbl HB8.out.size)).trans hst.1, (hb.cell (p := ⟨eb, eo + 1, none⟩) (Nat.lt_of_lt_of_le heb HB8.out.size)).trans hst.2⟩ : V2.cell? ⟨b, off + K * 2 + 1, none⟩ = some (.slice (some ⟨eb, eo, none⟩) 2 ce) ∧ V2.cell? ⟨eb, eo + 1, none⟩ = some (.slice A1 l1 c1))
            replace HO8 := Lib.hid (own_belowX HO8.out hb)
            replace HB8 := Lib.hid (HB8.out.trans (hb.mono HB8.out.size))
            replace hg3 := Nat.lt_of_lt_of_le hg3 hb.size
            clear hst
            have hst := hst2
            clear hst2
            refine hJ.out _ _ (fun _ => hst) ?_
            clear hJ J hb hon
            generalize hle0 : (elT dg).length = l0 at *
            have HLE0 := Lib.hid hle0
            clear hle0
            have qz := (Below.refl V2.heap.size V2).alloc (Nat.le_refl _) (.cells #[.slice An l0 cn, .slice A1 l1 c1] 60)
            have hvn : (V2.alloc (.cells #[.slice An l0 cn, .slice A1 l1 c1] 60)).heap[V2.heap.size]? = some (.cells #[.slice An l0 cn, .slice A1 l1 c1] 60 (0, 0)) := heap_alloc_new V2 _
            have HON3 := Lib.hid (HON.out.below qz)
            have hgv : V2.heap.size ≠ g := by omega
            refine wpAnyX_one (i := 13) (by kernel_rfl) rfl (fun J hJ => ?_)
            go_simp
            have hst2 := (⟨(qz.cell (p := ⟨b, off + K * 2 + 1, none⟩) (Nat.lt_of_lt_of_le hbl HB8.out.size)).trans hst.1, (qz.cell (p := ⟨eb, eo + 1, none⟩) (Nat.lt_of_lt_of_le heb HB8.out.size)).trans hst.2⟩ : (V2.alloc (.cells #[.slice An l0 cn, .slice A1 l1 c1] 60)).cell? ⟨b, off + K * 2 + 1, none⟩ = some (.slice (some ⟨eb, eo, none⟩) 2 ce) ∧ (V2.alloc (.cells #[.slice An l0 cn, .slice A1 l1 c1] 60)).cell? ⟨eb, eo + 1, none⟩ = some (.slice A1 l1 c1))
            replace HO8 := Lib.hid (own_belowX HO8.out qz)
            replace HB8 := Lib.hid (HB8.out.trans (qz.mono HB8.out.size))
            replace hg3 := Nat.lt_of_lt_of_le hg3 qz.size
            clear hst
            have hst := hst2
            clear hst2
            refine hJ.out _ _ (fun _ => hst) ?_
            clear hJ J qz HON
            generalize hgvv : V2.heap.size = gv at hvn hgv ⊢
            generalize hVV : V2.alloc (.cells #[.slice An l0 cn, .slice A1 l1 c1] 60) = V3 at hst HB8 HO8 hg3 hvn HON3 ⊢
            clear hgvv hVV
            refine wpAnyX_take (i := 14) (v := .agg #[.string ⟨#[69, 78, 68]⟩, .slice (some ⟨gv, 0, none⟩) 2 2]) rfl (by kernel_rfl) (by kernel_rfl) (by kernel_rfl) (by kernel_rfl) (fun _ _ _ h => h) hst (Or.inl ⟨by rfl, fun w hS => by (obtain ⟨q0, q1⟩ := hS; go_simp)⟩) ?_
            go_simp
            refine wpAnyX_take (i := 15) (v := .pointer (some ⟨g, goff + K * 2, none⟩)) rfl (by kernel_rfl) (by kernel_rfl) (by kernel_rfl) (by kernel_rfl) (fun _ _ _ h => h) hst (Or.inl ⟨by rfl, fun w hS => by (obtain ⟨q0, q1⟩ := hS; go_simp)⟩) ?_
            go_simp
            have hpl := HO8.out.placed.2
            have hcl := HCL.out
            have hnn := HNN.out
            have hx1 := hpl (K * 2) _ (List.getElem?_eq_getElem (show K * 2 < cs.length by omega))
            have hx2 := hpl (K * 2 + 1) _ (List.getElem?_eq_getElem (show K * 2 + 1 < cs.length by omega))
            obtain ⟨x1, hx11, hx12⟩ : ∃ x, V3.cell? ⟨g, goff + K * 2, none⟩ = some x ∧ V3.frozen? ⟨g, goff + K * 2, none⟩ = false := ⟨_, hx1.1, hx1.2⟩
            obtain ⟨x2, hx21, hx22⟩ : ∃ x, V3.cell? ⟨g, goff + K * 2 + 1, none⟩ = some x ∧ V3.frozen? ⟨g, goff + K * 2 + 1, none⟩ = false := ⟨_, hx2.1, hx2.2⟩
            have hfin : SegsAt ((V3.setCell ⟨g, goff + K * 2, none⟩ (.string ⟨#[69, 78, 68]⟩)).setCell ⟨g, goff + K * 2 + 1, none⟩ (.slice (some ⟨gv, 0, none⟩) 2 2)) ((V3.setCell ⟨g, goff + K * 2, none⟩ (.string ⟨#[69, 78, 68]⟩)).setCell ⟨g, goff + K * 2 + 1, none⟩ (.slice (some ⟨gv, 0, none⟩) 2 2)).heap.size (some ⟨g, goff, none⟩) (l.dropLast ++ [⟨tEND, [elT dg, e1]⟩]) ∧ Below W6.heap.size W6 ((V3.setCell ⟨g, goff + K * 2, none⟩ (.string ⟨#[69, 78, 68]⟩)).setCell ⟨g, goff + K * 2 + 1, none⟩ (.slice (some ⟨gv, 0, none⟩) 2 2)) := by
              have h8 := HO8.out
              rw [← hnn] at h8
              rw [← HLE0.out, ← HL1.out] at hvn
              exact right_fin HKK.out HD.out HCL.out HCS.out HB8.out hg1 h8 hvn hgv HON3.out ((RdG.of_B HR1.out hg1).below HB8.out)
            have HFIN := Lib.hid hfin
            clear hfin hpl hcl hnn hx1 hx2
            refine wpAnyX_one (i := 16) (by kernel_rfl) rfl (fun J hJ => ?_)
            go_simp
            go_wp2
            refine hJ.out _ _ (fun h => absurd rfl h) ?_
            clear hJ J
            refine wpAnyX_done (by kernel_rfl) ?_
            clear hst hx11 hx12 hx21 hx22
            generalize (V3.setCell ⟨g, goff + K * 2, none⟩ (.string ⟨#[69, 78, 68]⟩)).setCell ⟨g, goff + K * 2 + 1, none⟩ (.slice (some ⟨gv, 0, none⟩) 2 2) = W9 at HFIN ⊢
            have HS9 := Lib.hid (HS6.out.step HFIN.out.2)
            have HYE : Hid (rightF l = l.dropLast ++ [⟨tEND, [elT dg, e1]⟩]) := by show _ = _; rw [HY.out, HNN.out, HDG.out]
            have hszy := HZY.out
            rw [HNN.out, HDG.out] at hszy
            have hsm := sameG_any A5 (some ⟨g, goff, none⟩) c5 cap sg (l.dropLast ++ [⟨tEND, [elT dg, e1]⟩]) _ _ W9 ((HAT6.out.below HFIN.out.2).mono HFIN.out.2.size) HFIN.out.1 HSS.out hszy
            have hln : (l.dropLast ++ [(⟨tEND, [elT dg, e1]⟩ : Seg)]).length = n := by rw [List.length_append, List.length_dropLast, List.length_singleton]; have := HNN.out; omega
            rw [hln, HGN.out] at hsm
            have HSM := Lib.hid hsm
            unfold SameRet at HSM
            clear hszy hsm hln HAT6 HFIN
            go_wp2_with fail
            refine HSM.out.mono ?_
            rintro e W10 ⟨r2, rfl, hr2, hq10⟩
            have HS10 := Lib.hid (HS9.out.step (hq10.below _))
            cases r2
            · have HJC : Hid (parseR l = (zeroM, 4)) := HJB.out.2 (fun h => by have := hr2.2 (h.symm.trans HYE.out); cases this)
              clear hr2 hq10 HSM
              go_wp2_with (refine at_store 30 (.tmp 2) (.tmp 65) rfl ?_; refine wpList_store_box rfl 30 (.tmp 2) (.tmp 65) rfl w.heap.size 0 (.agg #[.int .i64 0, .int .i64 0, .int .i64 0, .int .i64 0, .int .i64 0, .int .i64 0, .int .i64 0, .string ⟨#[]⟩, .string ⟨#[]⟩, .int .i64 0, .int .i64 0, .slice none 0 0, .string ⟨#[]⟩]) (#[.int .i64 0, .int .i64 0, .int .i64 0, .int .i64 0, .int .i64 0, .int .i64 0, .int .i64 0, .string ⟨#[]⟩, .string ⟨#[]⟩, .int .i64 0, .int .i64 0, .slice none 0 0, .string ⟨#[]⟩]) rfl rfl rfl [.int .i64 0, .int .i64 0, .int .i64 0, .int .i64 0, .int .i64 0, .int .i64 0, .int .i64 0, .string ⟨#[]⟩, .string ⟨#[]⟩, .int .i64 0, .int .i64 0, .slice none 0 0, .string ⟨#[]⟩] [.int .i64 0, .int .i64 0, .int .i64 0, .int .i64 0, .int .i64 0, .int .i64 0, .int .i64 0, .string ⟨#[]⟩, .string ⟨#[]⟩, .int .i64 0, .int .i64 0, .slice none 0 0, .string ⟨#[]⟩] _ HS10.out.res (Nat.le_of_ble_eq_true rfl) rfl (by kernel_rfl) rfl ?_; intro W9 hb9 hP9; have HR9 := Lib.hid hb9; have HP9 := Lib.hid hP9; clear hb9 hP9)
              exact ret2 (k := 2) (j := 3) (g := w.heap.size) (T := 30) (cs := msgC zeroM none 0) Tryz.results13 rfl HR9.out Tryz.underlying30 (by kernel_rfl) rfl (par_ret (p := (zeroM, 4)) HJC.out ⟨none, 0, rfl, World.ownsRow_nil _ _ _ _, Below.but HS10.out.below HP9.out (Nat.le_refl _)⟩)
            · have HJC : Hid (parseR l = (zeroM, 11)) := HJB.out.1 (HYE.out.trans (hr2.1 rfl).symm)
              clear hr2 hq10 HSM
              go_wp2_with (refine at_store 30 (.tmp 2) (.tmp 64) rfl ?_; refine wpList_store_box rfl 30 (.tmp 2) (.tmp 64) rfl w.heap.size 0 (.agg #[.int .i64 0, .int .i64 0, .int .i64 0, .int .i64 0, .int .i64 0, .int .i64 0, .int .i64 0, .string ⟨#[]⟩, .string ⟨#[]⟩, .int .i64 0, .int .i64 0, .slice none 0 0, .string ⟨#[]⟩]) (#[.int .i64 0, .int .i64 0, .int .i64 0, .int .i64 0, .int .i64 0, .int .i64 0, .int .i64 0, .string ⟨#[]⟩, .string ⟨#[]⟩, .int .i64 0, .int .i64 0, .slice none 0 0, .string ⟨#[]⟩]) rfl rfl rfl [.int .i64 0, .int .i64 0, .int .i64 0, .int .i64 0, .int .i64 0, .int .i64 0, .int .i64 0, .string ⟨#[]⟩, .string ⟨#[]⟩, .int .i64 0, .int .i64 0, .slice none 0 0, .string ⟨#[]⟩] [.int .i64 0, .int .i64 0, .int .i64 0, .int .i64 0, .int .i64 0, .int .i64 0, .int .i64 0, .string ⟨#[]⟩, .string ⟨#[]⟩, .int .i64 0, .int .i64 0, .slice none 0 0, .string ⟨#[]⟩] _ HS10.out.res (Nat.le_of_ble_eq_true rfl) rfl (by kernel_rfl) rfl ?_; intro W9 hb9 hP9; have HR9 := Lib.hid hb9; have HP9 := Lib.hid hP9; clear hb9 hP9)
              exact ret2 (k := 2) (j := 3) (g := w.heap.size) (T := 30) (cs := msgC zeroM none 0) Tryz.results13 rfl HR9.out Tryz.underlying30 (by kernel_rfl) rfl (par_ret (p := (zeroM, 11)) HJC.out ⟨none, 0, rfl, World.ownsRow_nil _ _ _ _, Below.but HS10.out.below HP9.out (Nat.le_refl _)⟩)
          · have HJC : Hid (parseR l = (zeroM, 4)) := HJB.out.2 (fun h => HNE.out (h.symm.trans (right_no HLAST.out (fun h2 => hE h2.2))))
            have hE2 : ((s.els.length : Int) == 2) = false := by simp; omega
            clear hT hE hct HJB HCT HCU HELS HS HD HLAST
            generalize s.els.length = ne at *
            go_wp2_with (refine at_store 30 (.tmp 2) (.tmp 65) rfl ?_; refine wpList_store_box rfl 30 (.tmp 2) (.tmp 65) rfl w.heap.size 0 (.agg #[.int .i64 0, .int .i64 0, .int .i64 0, .int .i64 0, .int .i64 0, .int .i64 0, .int .i64 0, .string ⟨#[]⟩, .string ⟨#[]⟩, .int .i64 0, .int .i64 0, .slice none 0 0, .string ⟨#[]⟩]) (#[.int .i64 0, .int .i64 0, .int .i64 0, .int .i64 0, .int .i64 0, .int .i64 0, .int .i64 0, .string ⟨#[]⟩, .string ⟨#[]⟩, .int .i64 0, .int .i64 0, .slice none 0 0, .string ⟨#[]⟩]) rfl rfl rfl [.int .i64 0, .int .i64 0, .int .i64 0, .int .i64 0, .int .i64 0, .int .i64 0, .int .i64 0, .string ⟨#[]⟩, .string ⟨#[]⟩, .int .i64 0, .int .i64 0, .slice none 0 0, .string ⟨#[]⟩] [.int .i64 0, .int .i64 0, .int .i64 0, .int .i64 0, .int .i64 0, .int .i64 0, .int .i64 0, .string ⟨#[]⟩, .string ⟨#[]⟩, .int .i64 0, .int .i64 0, .slice none 0 0, .string ⟨#[]⟩] _ HS6.out.res (Nat.le_of_ble_eq_true rfl) rfl (by kernel_rfl) rfl ?_; intro W9 hb9 hP9; have HR9 := Lib.hid hb9; have HP9 := Lib.hid hP9; clear hb9 hP9)
            exact ret2 (k := 2) (j := 3) (g := w.heap.size) (T := 30) (cs := msgC zeroM none 0) Tryz.results13 rfl HR9.out Tryz.underlying30 (by kernel_rfl) rfl (par_ret (p := (zeroM, 4)) HJC.out ⟨none, 0, rfl, World.ownsRow_nil _ _ _ _, Below.but HS6.out.below HP9.out (Nat.le_refl _)⟩)
        · have HJC : Hid (parseR l = (zeroM, 4)) := HJB.out.2 (fun h => HNE.out (h.symm.trans (right_no HLAST.out (fun h2 => hT h2.1))))
          have hT2 : (s.tag == [69, 78, 68]) = false := by simpa [tEND] using hT
          clear hT HJB HCT HCU HELS HS HD HLAST
          generalize s.tag = tg at *
          generalize s.els.length = ne at *
          go_wp2_with (refine at_store 30 (.tmp 2) (.tmp 65) rfl ?_; refine wpList_store_box rfl 30 (.tmp 2) (.tmp 65) rfl w.heap.size 0 (.agg #[.int .i64 0, .int .i64 0, .int .i64 0, .int .i64 0, .int .i64 0, .int .i64 0, .int .i64 0, .string ⟨#[]⟩, .string ⟨#[]⟩, .int .i64 0, .int .i64 0, .slice none 0 0, .string ⟨#[]⟩]) (#[.int .i64 0, .int .i64 0, .int .i64 0, .int .i64 0, .int .i64 0, .int .i64 0, .int .i64 0, .string ⟨#[]⟩, .string ⟨#[]⟩, .int .i64 0, .int .i64 0, .slice none 0 0, .string ⟨#[]⟩]) rfl rfl rfl [.int .i64 0, .int .i64 0, .int .i64 0, .int .i64 0, .int .i64 0, .int .i64 0, .int .i64 0, .string ⟨#[]⟩, .string ⟨#[]⟩, .int .i64 0, .int .i64 0, .slice none 0 0, .string ⟨#[]⟩] [.int .i64 0, .int .i64 0, .int .i64 0, .int .i64 0, .int .i64 0, .int .i64 0, .int .i64 0, .string ⟨#[]⟩, .string ⟨#[]⟩, .int .i64 0, .int .i64 0, .slice none 0 0, .string ⟨#[]⟩] _ HS6.out.res (Nat.le_of_ble_eq_true rfl) rfl (by kernel_rfl) rfl ?_; intro W9 hb9 hP9; have HR9 := Lib.hid hb9; have HP9 := Lib.hid hP9; clear hb9 hP9)
          exact ret2 (k := 2) (j := 3) (g := w.heap.size) (T := 30) (cs := msgC zeroM none 0) Tryz.results13 rfl HR9.out Tryz.underlying30 (by kernel_rfl) rfl (par_ret (p := (zeroM, 4)) HJC.out ⟨none, 0, rfl, World.ownsRow_nil _ _ _ _, Below.but HS6.out.below HP9.out (Nat.le_refl _)⟩)
    · have HJB : Hid (parseR l = (m, 0)) := HJA.out.1 (hr.1 rfl).symm
      clear hr HJA
      obtain ⟨d0, d1, d2, d3, d4, d5, d6, d7, d8, d9, d10, d11, d12⟩ := HS6.out.blk.all
      go_wp2_with (refine at_store 30 (.tmp 2) (.tmp 19) rfl ?_; refine wpList_store_box rfl 30 (.tmp 2) (.tmp 19) rfl w.heap.size 0 (msgV m Am cm) (msgC m Am cm) rfl rfl rfl [.int .i64 0, .int .i64 0, .int .i64 0, .int .i64 0, .int .i64 0, .int .i64 0, .int .i64 0, .string ⟨#[]⟩, .string ⟨#[]⟩, .int .i64 0, .int .i64 0, .slice none 0 0, .string ⟨#[]⟩] [.int .i64 m.kind, .int .i64 m.src, .int .i64 m.dst, .int .i64 m.number, .int .i64 m.day, .int .i64 m.lot, .int .i64 m.other, .string ⟨m.code.toArray⟩, .string ⟨m.country.toArray⟩, .int .i64 m.quantity, .int .i64 m.amount, .slice Am m.list.length cm, .string ⟨m.text.toArray⟩] _ HS6.out.res (Nat.le_of_ble_eq_true rfl) rfl (by kernel_rfl) rfl ?_; intro W9 hb9 hP9; have HR9 := Lib.hid hb9; have HP9 := Lib.hid hP9; clear hb9 hP9)
      exact ret2 (k := 2) (j := 3) (g := w.heap.size) (T := 30) (cs := msgC m Am cm) Tryz.results13 rfl HR9.out Tryz.underlying30 (by kernel_rfl) rfl (par_ret (p := (m, 0)) HJB.out ⟨Am, cm, rfl, World.ownsRow.mono (own_but HS6.out.own HP9.out (Nat.lt_succ_self _)) (Nat.le_succ _), Below.but HS6.out.below HP9.out (Nat.le_refl _)⟩)
  · have HJB : Hid (parseR l = (zeroM, 4)) := HJ.out.trans (if_neg hv)
    have hne : (validM m != 0) = true := by simpa using hv
    clear hv HJ
    go_wp2_with (refine at_store 30 (.tmp 2) (.tmp 13) rfl ?_; refine wpList_store_box rfl 30 (.tmp 2) (.tmp 13) rfl w.heap.size 0 (.agg #[.int .i64 0, .int .i64 0, .int .i64 0, .int .i64 0, .int .i64 0, .int .i64 0, .int .i64 0, .string ⟨#[]⟩, .string ⟨#[]⟩, .int .i64 0, .int .i64 0, .slice none 0 0, .string ⟨#[]⟩]) (#[.int .i64 0, .int .i64 0, .int .i64 0, .int .i64 0, .int .i64 0, .int .i64 0, .int .i64 0, .string ⟨#[]⟩, .string ⟨#[]⟩, .int .i64 0, .int .i64 0, .slice none 0 0, .string ⟨#[]⟩]) rfl rfl rfl [.int .i64 0, .int .i64 0, .int .i64 0, .int .i64 0, .int .i64 0, .int .i64 0, .int .i64 0, .string ⟨#[]⟩, .string ⟨#[]⟩, .int .i64 0, .int .i64 0, .slice none 0 0, .string ⟨#[]⟩] [.int .i64 0, .int .i64 0, .int .i64 0, .int .i64 0, .int .i64 0, .int .i64 0, .int .i64 0, .string ⟨#[]⟩, .string ⟨#[]⟩, .int .i64 0, .int .i64 0, .slice none 0 0, .string ⟨#[]⟩] _ HS4.out.res (Nat.le_of_ble_eq_true rfl) rfl (by kernel_rfl) rfl ?_; intro W9 hb9 hP9; have HR9 := Lib.hid hb9; have HP9 := Lib.hid hP9; clear hb9 hP9)
    exact ret2 (k := 2) (j := 3) (g := w.heap.size) (T := 30) (cs := msgC zeroM none 0) Tryz.results13 rfl HR9.out Tryz.underlying30 (by kernel_rfl) rfl (par_ret (p := (zeroM, 4)) HJB.out ⟨none, 0, rfl, World.ownsRow_nil _ _ _ _, Below.but HS4.out.below HP9.out (Nat.le_refl _)⟩)
end Go.Proofs.YtmjlnckmhdgoiaaGreatDoor
