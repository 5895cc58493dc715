/- Contract of the reference's Decode. -/
import Derived.Test.YtmnflbgejagpmaaTc
namespace Go.Proofs.Ytmnflbgejagpmaa
open Go.RowKit
set_option linter.unusedVariables false

set_option maxHeartbeats 4000000 in
theorem refDecode_any (A : Option Addr) (c : Nat) (b : Bs) (w : World) (hr : RdB w w.heap.size A (u8s b)) (hc : b.length ≤ c) (hl : b.length ≤ 1000000000) :
    Calls Try.prog 19 #[.slice A b.length c] w (DecRet w (decodeF b)) := by
  obtain ⟨i0, hi0, hz0, hz1, hz2⟩ := info_parts segInfo
  go_enter Try.func19, Try.ntmps19
  go_wp2
  go_loopg [5, 6] b.length (fun g v i wr => DecRel b w g v i wr)
  case atStart => exact ⟨0, [], by omega, rfl, SegsOwn.nil_ _ _, by unfold decodeF decAt; simp, Below.refl _ _, Nat.le_refl _⟩
  case round =>
    obtain ⟨o, l, hg, rfl, hsegs, hdec, hb, hlo⟩ := hrel
    have HG := Lib.hid hg
    have HD := Lib.hid hdec
    have hBr := hb.size
    have ho2 : o ≤ b.length := by omega
    clear hg hdec
    by_cases hlt : o < b.length
    · obtain ⟨A', htl, hr'⟩ := tail_at (k := o) (hr.below hb) hc ho2
      have HOK := Lib.hid (fun (s : Seg) (n : Nat) => decAt_ok (l := l) (s := s) (n := n) hlt)
      have HER := Lib.hid (fun (e : Int) (he : e ≠ 0) (s : Seg) (n : Nat) => decAt_err (l := l) hlt he (s := s) (n := n))
      have HNX := Lib.hid (refNext_any A' (c - o) (b.drop o) wr (hr'.mono hBr) (by rw [List.length_drop]; omega) (by rw [List.length_drop]; omega))
      generalize b.drop o = bd at *
      obtain ⟨ecs, ho1, hoo⟩ := hsegs
      rcases hnf : nextF bd with ⟨s, n, e⟩
      rw [hnf] at HNX HOK HER
      clear hnf
      by_cases he : e = 0
      · subst he
        obtain ⟨hd2, hn1, hn2⟩ := HOK.out s n rfl
        have HD2 := Lib.hid (HD.out.trans hd2)
        clear HOK HER HD hd2
        go_wp2_with fail
        refine HNX.out.mono ?_
        rintro e w2 ⟨u, rfl, hels, hb2⟩
        obtain ⟨Au, cu, rfl, _⟩ := hels.at_
        have hsb := Nat.le_trans hBr hb2.size
        have q2 := hb.trans (hb2.mono hBr)
        have q3 := q2.alloc hsb (.cells #[.string ⟨s.tag.toArray⟩, .slice Au s.els.length cu] 24)
        have hb3 := (Below.refl w2.heap.size w2).alloc (Nat.le_refl _) (.cells #[.string ⟨s.tag.toArray⟩, .slice Au s.els.length cu] 24)
        have hm0 : (w2.alloc (.cells #[.string ⟨s.tag.toArray⟩, .slice Au s.els.length cu] 24)).cell? ⟨w2.heap.size, 0, none⟩ = some (.string ⟨s.tag.toArray⟩) := by simp
        have hm1 : (w2.alloc (.cells #[.string ⟨s.tag.toArray⟩, .slice Au s.els.length cu] 24)).cell? ⟨w2.heap.size, 1, none⟩ = some (.slice Au s.els.length cu) := by simp
        generalize hW3 : w2.alloc (.cells #[.string ⟨s.tag.toArray⟩, .slice Au s.els.length cu] 24) = W3 at q3 hb3 hm0 hm1
        have ho3 := own_below (own_below ho1 hb2) hb3
        have he3 := (hels.mono (B' := w.heap.size) hBr).below hb3
        have hoo3 : ∀ (i : Nat) (s : Seg), l[i]? = some s → ecs[i * 2]? = some (str s.tag) ∧ ∃ u, ecs[i * 2 + 1]? = some u ∧ ElsOwn W3 w.heap.size u s.els := fun i s hs => by
          obtain ⟨a, u, b, c⟩ := hoo i s hs
          exact ⟨a, u, b, (c.below hb2).below hb3⟩
        have HOO := Lib.hid hoo3
        have hBr3 := q3.size
        clear hoo hoo3 hels
        go_wp2_with (at_builtin; refine wpList_append_new W3 rfl (.tmp 26) (.tmp 28) 30 rfl w.heap.size 24 i0 _ 2 40 Try.underlying30 hi0 hz0 hz1 hz2 rfl (by omega) _ l.length ecs [.string ⟨s.tag.toArray⟩, .slice Au s.els.length cu] rfl (by simp [Value.oneCell']) rfl ho3 rfl (by unfold maxLen; omega) (by omega) hBr3 ?_; intro v5 w5 hown5 hb5 _ hg5)
        have hsn := SegsOwn.push ho3 HOO.out he3 hg5 hown5
        go_roundg (b.length - (o + n))
        case measure => have := HG.out; omega
        case rel => exact ⟨o + n, _, by omega, by go_num, hsn, HD2.out, q3.trans hb5, by simp; omega⟩
      · have hne : (e != 0) = true := by simpa using he
        have HD2 := Lib.hid (HD.out.trans (HER.out e he s n rfl))
        clear HOK HER HD he
        go_wp2_with fail
        refine HNX.out.mono ?_
        rintro e w2 ⟨u, rfl, hels, hb2⟩
        obtain ⟨Au, cu, rfl, _⟩ := hels.at_
        go_wp2
        go_ret3
        refine ⟨_, by rw [HD2.out]; rfl, ?_, ?_⟩
        · rw [HD2.out]; exact SegsOwn.nil_ _ _
        · exact (hb.trans (hb2.mono hBr)).alloc (Nat.le_trans hBr hb2.size) _
    · have hge : b.length ≤ o := by omega
      have HD2 := Lib.hid (HD.out.trans (decAt_end hge))
      clear hlt HD
      go_wp2
      go_ret3
      exact ⟨_, by rw [HD2.out]; rfl, by rw [HD2.out]; exact hsegs, hb⟩
end Go.Proofs.Ytmnflbgejagpmaa
