/- SameSegments of two slices that read as one list. -/
import Derived.Test.YtmjlnckmhdgoiaaDoorSv
namespace Go.Proofs.YtmjlnckmhdgoiaaDoor
open Go.RowKit
set_option linter.unusedVariables false

theorem SegsAt.quiet {w w' : World} {B : Nat} {A : Option Addr} {l : List Seg} (h : SegsAt w B A l) (q : Quiet w w') : SegsAt w' B A l := h.below (q.below _)
def CntRel (n : Nat) (w : World) (g : Nat) (i : Value) (wr : World) : Prop := ∃ k : Nat, k + g = n ∧ i = .int .i64 (k : Int) ∧ Quiet w wr
theorem bytes_neq (x : Bs) : (x != x) = false := by simp
set_option maxRecDepth 100000 in
set_option maxHeartbeats 4000000 in
theorem same_any (A A' : Option Addr) (c c' : Nat) (l : List Seg) (B B' : Nat) (w : World) (h : SegsAt w B A l) (h' : SegsAt w B' A' l) (hl : l.length ≤ 1000000) (hz : ∀ s ∈ l, s.els.length ≤ 1000000 ∧ ∀ e ∈ s.els, e.length ≤ 1000000) :
    Calls Tryd.prog 19 #[.slice A l.length c, .slice A' l.length c'] w fun e w' => e = .returned (.bool true) ∧ Quiet w w' := by
  have HZ := Lib.hid hz
  have hnn : ((l.length : Int) != (l.length : Int)) = false := by simp
  clear hz
  go_enter Tryd.func19, Tryd.ntmps19
  go_wp2
  go_loopg [5] l.length (fun g i wr => CntRel l.length w g i wr)
  case atStart => exact ⟨0, by omega, rfl, Quiet.refl _⟩
  case round =>
    obtain ⟨k, hk, rfl, hq⟩ := hrel
    have HK := Lib.hid hk
    have hk2 : k ≤ l.length := by omega
    clear hk
    by_cases hlt : k < l.length
    · obtain ⟨b, off, Ae, ce, rfl, _, hc0, hc1, hE⟩ := (h.quiet hq).get hlt
      obtain ⟨b', off', Ae', ce', rfl, _, hc0', hc1', hE'⟩ := (h'.quiet hq).get hlt
      unfold str at hc0 hc0'
      have hc1 : wr.cell? ⟨b, off + k * 2 + 1, none⟩ = some (.slice Ae l[k].els.length ce) := hc1
      have hc1' : wr.cell? ⟨b', off' + k * 2 + 1, none⟩ = some (.slice Ae' l[k].els.length ce') := hc1'
      have hzz := HZ.out l[k] (List.getElem_mem hlt)
      have hel := hzz.1
      have HZ2 := Lib.hid hzz.2
      clear hzz
      generalize l[k] = s at *
      obtain ⟨tg, els⟩ := s
      simp only at hc0 hc0' hc1 hc1' hE hE' hel HZ2
      have hn1 : (tg != tg) = false := bytes_neq tg
      have hn2 : ((els.length : Int) != (els.length : Int)) = false := by simp
      go_wp2
      go_quiet (fail)
      go_wp2
      have q2 : Quiet wr (wr.drewN nq) := ⟨nq, rfl⟩
      generalize wr.drewN nq = W2 at q2 ⊢
      have hd1 := (q2.cell _).trans hc1
      have hd1' := (q2.cell _).trans hc1'
      have hE2 := hE.below (q2.below _)
      have hE2' := hE'.below (q2.below _)
      have hqw := hq.trans q2
      clear hc0 hc0' hc1 hc1' hE hE' hq hn1
      go_loopg [6] els.length (fun g i wr => CntRel els.length W2 g i wr)
      case atStart => exact ⟨0, by omega, rfl, Quiet.refl _⟩
      case round =>
        obtain ⟨j, hj, rfl, hq⟩ := hrel
        have HJ := Lib.hid hj
        have hj2 : j ≤ els.length := by omega
        have hf1 := (hq.cell _).trans hd1
        have hf1' := (hq.cell _).trans hd1'
        clear hj
        by_cases hlt2 : j < els.length
        · obtain ⟨b2, off2, As, cs, rfl, _, hg, hr⟩ := (hE2.below (hq.below _)).get hlt2
          obtain ⟨b2', off2', As', cs', rfl, _, hg', hr'⟩ := (hE2'.below (hq.below _)).get hlt2
          have hel2 := HZ2.out els[j] (List.getElem_mem hlt2)
          generalize els[j] = e at *
          have hn3 : ((e.length : Int) != (e.length : Int)) = false := by simp
          go_wp2
          go_quiet (fail)
          go_wp2
          have q3 : Quiet wr (wr.drewN nq) := ⟨nq, rfl⟩
          generalize wr.drewN nq = W3 at q3 ⊢
          have hr3 := hr.below (q3.below _)
          have hr3' := hr'.below (q3.below _)
          have hqw3 := hq.trans q3
          clear hf1 hf1' hg hg' hr hr' hq hn3
          go_loopg [9] e.length (fun g i wr => CntRel e.length W3 g i wr)
          case atStart => exact ⟨0, by omega, rfl, Quiet.refl _⟩
          case round =>
            obtain ⟨m, hm, rfl, hq⟩ := hrel
            have HM := Lib.hid hm
            have hm2 : m ≤ e.length := by omega
            clear hm
            by_cases hlt3 : m < e.length
            · obtain ⟨b3, off3, rfl, hs⟩ := (hr3.below (hq.below _)).rd.at_lit (strs_get hlt3)
              obtain ⟨b3', off3', rfl, hs'⟩ := (hr3'.below (hq.below _)).rd.at_lit (strs_get hlt3)
              unfold str at hs hs'
              generalize e[m] = x at hs hs'
              have hn4 : (x != x) = false := bytes_neq x
              go_wp2
              go_quiet (fail)
              go_wp2
              go_roundg (e.length - (m + 1))
              case measure => have := HM.out; omega
              case rel => exact ⟨m + 1, by omega, by go_num, hq.drewN _⟩
            · have hge : e.length ≤ m := by omega
              clear hlt3
              go_wp2
              go_roundg (els.length - (j + 1))
              case measure => have := HJ.out; omega
              case rel => exact ⟨j + 1, by omega, by go_num, hqw3.trans hq⟩
        · have hge : els.length ≤ j := by omega
          clear hlt2
          go_wp2
          go_roundg (l.length - (k + 1))
          case measure => have := HK.out; omega
          case rel => exact ⟨k + 1, by omega, by go_num, hqw.trans hq⟩
    · have hge : l.length ≤ k := by omega
      clear hlt
      go_wp2
      go_ret
      exact ⟨rfl, hq⟩
end Go.Proofs.YtmjlnckmhdgoiaaDoor
