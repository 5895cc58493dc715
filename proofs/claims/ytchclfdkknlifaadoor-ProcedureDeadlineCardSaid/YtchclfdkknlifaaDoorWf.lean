/- Contract of procedure.Path: the walk. -/
import Derived.Test.YtchclfdkknlifaaDoorWe
namespace Go.Proofs.YtchclfdkknlifaaDoor
open Go.RowKit

/-- what Path returns -/
def PathRet (w0 : World) (r : Option (List Int)) (e : Ending) (w' : World) : Prop :=
  Below w0.heap.size w0 w' ∧ match r with
    | none => e = .returned (.tuple #[.slice none 0 0, .bool false])
    | some l => ∃ A c, e = .returned (.tuple #[.slice A l.length c, .bool true]) ∧ Rd w' A (ints l)
/-- between two turns of the outer loop, g turns at most to come -/
def OuterRel (f to : Int) (w : World) (g : Nat) (q : Value) (wr : World) : Prop := ∃ k, k + g = 15 ∧ k ≤ 14 ∧ PInv w wr w.heap.size q (st f k) ∧ findA f to (14 - k) k = pathF f to
def InnerRel (p : Int) (s : Bfs) (w : World) (g : Nat) (q i : Value) (wr : World) : Prop := ∃ j, j + g = 15 ∧ j ≤ 14 ∧ i = .int .i64 ((j : Int) + 1) ∧ PInv w wr w.heap.size q (roundA p s j)

set_option maxHeartbeats 2000000 in
theorem path_in (f to : Int) (w : World) (ht : Tab w) (h0 : 0 ≤ f) (h1 : f ≤ 13) (h2 : 0 ≤ to) (h3 : to ≤ 13) :
    Calls Tryd.prog 15 #[.int .i64 f, .int .i64 to] w (PathRet w (pathF f to)) := by
  have hmm := @run_makeMap Tryd.prog
  have hmade := MapIs.made Tryd.prog 3 w
  have hp0 : Hid (findA f to 14 0 = pathF f to) := by unfold pathF; rw [if_pos ⟨h0, h1, h2, h3⟩]; rfl
  go_enter Tryd.func15, Tryd.ntmps15
  go_wp2_with (first
    | (go_at_call 25; first | (refine (valid_yes f _ h0 h1).mono ?_; rintro e w' ⟨rfl, rfl⟩) | (refine (valid_yes to _ h2 h3).mono ?_; rintro e w' ⟨rfl, rfl⟩))
    | (refine wpList_insert_x _ rfl _ _ _ 46 rfl 3 29 Tryd.underlying3 Tryd.underlying46 w.heap.size 0 _ rfl hmade (by decide) f rfl (wf_small h0 h1) _ rfl ?_; intro w1 hm1 hg1))
  have hst := PInv.start w w1 f hm1 hg1
  clear hm1 hg1 hmade hmm
  go_loopg [7] 15 (fun g q wr => OuterRel f to w g q wr)
  case atStart => exact ⟨0, rfl, by omega, hst, hp0.out⟩
  case round =>
    clear hst
    obtain ⟨k, hk, hk14, hinv, hfind⟩ := hrel
    have HK := Lib.hid hk
    have HF := Lib.hid hfind
    clear hk hfind
    obtain ⟨hb, _, hown, n, Mv, hmap, hn, hpaths⟩ := hinv
    have hgood := Good.st f k
    have hnl := hgood.m
    cases hq : (st f k).1 with
    | nil =>
      have HQ := Lib.hid hq
      rw [hq] at hown
      clear hq
      obtain ⟨A, cap, rfl, hrd, _, _⟩ := hown.shape
      go_wp2
      go_ret2
      refine ⟨hb, ?_⟩
      rw [← HF.out, find_empty HQ.out]
      rfl
    | cons p q =>
      have hbp := st_head h0 h1 hk14 hq
      have hlt := st_lt h0 h1 hk14 hq
      obtain ⟨hp0', hp1⟩ := hbp
      have HQ := Lib.hid hq
      rw [hq] at hown
      clear hq
      have hql := hgood.q
      rw [HQ.out] at hql
      simp only [List.length_cons] at hql
      obtain ⟨g, off, cap, v2, rfl, hcap, hcell, hown2, hblk, hrun⟩ := hown.pop
      rw [← hblk] at hpaths
      clear hblk
      by_cases hpt : p = to
      · subst hpt
        obtain ⟨A, c, hv, hrd, hA⟩ := hpaths.get p
        have HV := Lib.hid hv
        clear hv
        go_wp2_with (at_lookup; refine wpList_look_v _ rfl _ _ rfl w.heap.size n Mv rfl hmap p rfl (wf_small hp0' hp1) _ HV.out ?_)
        go_ret2
        refine ⟨hb, ?_⟩
        rw [← HF.out, find_hit hlt HQ.out]
        exact ⟨A, c, rfl, hrd⟩
      · have hne : (p == to) = false := by simpa using hpt
        go_wp2
        have hin : PInv w wr w.heap.size v2 (q, (st f k).2) := ⟨hb, Nat.le_refl _, hown2, n, Mv, hmap, hn, hpaths⟩
        have hgd : Good (q, (st f k).2) (1 + 14 * k) := ⟨by show q.length ≤ _; omega, hgood.m, hgood.p⟩
        have HN := Lib.hid (st_next HQ.out)
        have HM := Lib.hid (find_miss hlt HQ.out hpt)
        obtain ⟨s, hs⟩ : ∃ s, s = (q, (st f k).2) := ⟨_, rfl⟩
        rw [← hs] at hin hgd
        have HN2 : Hid (st f (k + 1) = roundA p s 14) := by rw [hs]; exact HN.out
        clear hown2 hmap hpaths hrun hcell hb hn hnl hql hcap hgood HN hs HQ
        obtain ⟨wo, hwo⟩ : ∃ wo : World, wo = wr := ⟨_, rfl⟩
        rw [← hwo]
        rw [← hwo] at hin
        clear hwo
        go_loopg [7, 9] 15 (fun g q i wr => InnerRel p s w g q i wr)
        case atStart => exact ⟨0, rfl, by omega, rfl, hin⟩
        case round =>
          clear hin
          obtain ⟨j, hj, hj14, rfl, hinv⟩ := hrel
          have HJ := Lib.hid hj
          clear hj
          by_cases hjl : j < 14
          · obtain ⟨hb, _, hown, n, Mv, hmap, hn, hpaths⟩ := hinv
            have hgd2 := hgd.round p j
            obtain ⟨t, ht2⟩ : ∃ t, t = roundA p s j := ⟨_, rfl⟩
            rw [← ht2] at hown hn hpaths hgd2
            have HT : Hid (roundA p s (j + 1) = stepA p t ((j : Int) + 1)) := by rw [ht2]; rfl
            clear ht2
            have hnl := hgd2.m
            have hql := hgd2.q
            have hbd := nextF_bd p ((j : Int) + 1)
            have hnext := next_any p ((j : Int) + 1) wr (ht.below hb)
            obtain ⟨r1, hr1⟩ : ∃ x, x = (nextF p ((j : Int) + 1)).1 := ⟨_, rfl⟩
            obtain ⟨r2, hr2⟩ : ∃ x, x = (nextF p ((j : Int) + 1)).2 := ⟨_, rfl⟩
            rw [← hr1, ← hr2] at hnext
            rw [← hr1] at hbd
            obtain ⟨hb1, hb2⟩ := hbd
            have HNX := Lib.hid hnext
            have HR1 := Lib.hid hr1
            have HR2 := Lib.hid hr2
            clear hnext hr1 hr2
            by_cases he : r2 = 0
            · have hne0 : (r2 != 0) = false := by simpa using he
              have HE := Lib.hid he
              clear he
              cases hl : look t.2 r1 with
              | some l =>
                have HL := Lib.hid hl
                have hso : Hid ((Mv r1).isSome = true) := by show _ = _; rw [hpaths.isSome, hl]; rfl
                clear hl
                go_wp2_with (first
                  | (go_at_call 10; refine HNX.out.mono ?_; rintro e w2 ⟨rfl, hbw⟩; have hmap2 := hmap.below hbw)
                  | (at_lookup; refine wpList_lookOk_v _ rfl _ _ rfl w.heap.size n Mv rfl hmap2 r1 rfl (wf_small hb1 hb2) true hso.out ?_; intro v))
                go_roundg (14 - j)
                case measure => have := HJ.out; omega
                case rel =>
                  refine ⟨j + 1, by omega, by omega, by go_num, ?_⟩
                  rw [HT.out, step_seen (l := l) (by rw [← HR1.out]; exact HL.out)]
                  exact ⟨hb.trans (hbw.mono hb.size), Nat.le_refl _, hown.below hbw, n, Mv, hmap2, hn, hpaths.below hbw⟩
              | none =>
                have HL := Lib.hid hl
                have hso : Hid ((Mv r1).isSome = false) := by show _ = _; rw [hpaths.isSome, hl]; rfl
                clear hl
                obtain ⟨A, c, hv, hrd, hA⟩ := hpaths.get p
                have hll : ((look t.2 p).getD []).length ≤ 1000 := by
                  cases hl2 : look t.2 p with
                  | none => simp
                  | some l => have := hgd2.p p l hl2; simp; omega
                obtain ⟨l, hl3⟩ : ∃ l, l = (look t.2 p).getD [] := ⟨_, rfl⟩
                rw [← hl3] at hv hrd hll
                have HV := Lib.hid hv
                have HL3 := Lib.hid hl3
                clear hv hl3
                go_wp2_with (first
                  | (go_at_call 10; refine HNX.out.mono ?_; rintro e w2 ⟨rfl, hbw⟩; have hmap2 := hmap.below hbw; have hrd2 := hrd.below hbw)
                  | (at_lookup; refine wpList_lookOk_v _ rfl _ _ rfl w.heap.size n Mv rfl hmap2 r1 rfl (wf_small hb1 hb2) false hso.out ?_; intro v)
                  | (at_lookup; refine wpList_look_v _ rfl _ _ rfl w.heap.size n Mv rfl hmap2 p rfl (wf_small hp0' hp1) _ HV.out ?_)
                  | (go_at_call 26; refine (clone_any A l c _ hrd2 (by omega) hA).mono ?_; rintro e w3 ⟨v1, rfl, hc1, hc2⟩; have hc1a := OwnX.alloc hc1 (.cells #[.int .i64 ((j : Int) + 1)] 3))
                  | (at_builtin; refine wpList_append_int _ rfl (.tmp 66) (.tmp 68) rfl w2.heap.size v1 l rfl hc1a (some ⟨w3.heap.size, 0, none⟩) 1 1 [(j : Int) + 1] rfl rfl (Rd.one w3 _ _) (by simp; omega) (by have := hc2.size; simp; omega) ?_; intro v3 w5 ho5 hg5 hat5; have hb25 : Below w2.heap.size w2 w5 := (hc2.alloc hc2.size _).grown hg5 (by have := hc2.size; simp; omega) (fun g hg => (OwnX.block_lt hc1 hg).1); have hmap5 := hmap2.below hb25)
                  | (at_mapUpdate; refine wpList_store_v _ rfl _ _ _ rfl w.heap.size n Mv rfl hmap5 (by omega) r1 rfl (wf_small hb1 hb2) v3 rfl ?_; intro w6 hmap6 hg6; have hown5 := (hown.below hbw).below hb25; have hown6 := (OwnX.mapStore hown5 hmap5 hg6).alloc (.cells #[.int .i64 r1] 3); have hb06 : Below w.heap.size w w6 := ((hb.trans (hbw.mono hb.size)).trans (hb25.mono (Nat.le_trans hb.size hbw.size))).grown hg6 (Nat.le_trans hb.size (Nat.le_trans hbw.size hb25.size)) (fun g hg => by injection hg with hg; omega))
                  | (at_builtin; refine wpList_append_int _ rfl (.tmp 70) (.tmp 72) rfl w.heap.size u7 t.1 rfl hown6 (some ⟨w6.heap.size, 0, none⟩) 1 1 [r1] rfl rfl (Rd.one w6 _ _) (by simp; omega) (by have := hb06.size; simp; omega) ?_; intro q8 w8 ho8 hg8 hat8))
                go_roundg (14 - j)
                case measure => have := HJ.out; omega
                case rel =>
                  refine ⟨j + 1, by omega, by omega, by go_num, ?_⟩
                  rw [HT.out, step_new (by rw [← HR2.out]; exact HE.out) (by rw [← HR1.out]; exact HL.out), ← HR1.out, ← HL3.out]
                  have hb68 : Below w.heap.size w w8 := (hb06.alloc hb06.size _).grown hg8 (by have := hb06.size; simp; omega) (fun g hg => (OwnX.block_lt hown hg).1)
                  obtain ⟨A3, c3, rfl, hrd3, hc3, _⟩ := ho5.shape
                  have hblk : ∀ a, A3 = some a → a.block < w5.heap.size ∧ some a.block ≠ u7.ownBlock := fun a ha => by
                    have h5 := OwnX.block_lt ho5 (g := a.block) (by subst ha; rfl)
                    refine ⟨h5.2, fun e => ?_⟩
                    have h6 := (OwnX.block_lt hown e.symm).2
                    have h7 := hbw.size
                    omega
                  have hp6 := ((hpaths.below hbw).below hb25).store hmap5 hg6 (l := l ++ [(j : Int) + 1]) (c := c3) HL.out hrd3 (fun h => by
                    subst h
                    rcases ho5.2 with ⟨_, h0⟩ | ⟨_, _, _, _, h0, _⟩
                    · simp at h0
                    · cases h0) hblk
                  have hp7 := hp6.below ((Below.refl _ _).alloc (Nat.le_refl _) (.cells #[.int .i64 r1] 3))
                  refine ⟨hb68, Nat.le_refl _, ho8, n + 1, _, ?_, ?_, hp7.queue hg8 hat8⟩
                  · exact (hmap6.alloc _).rowStore hown6 hg8
                  · simpa using hn
            · have hne0 : (r2 != 0) = true := by simpa using he
              have HE := Lib.hid he
              clear he
              go_wp2_with (go_at_call 10; refine HNX.out.mono ?_; rintro e w2 ⟨rfl, hbw⟩)
              go_roundg (14 - j)
              case measure => have := HJ.out; omega
              case rel =>
                refine ⟨j + 1, by omega, by omega, by go_num, ?_⟩
                rw [HT.out, step_err (by rw [← HR2.out]; exact HE.out)]
                exact ⟨hb.trans (hbw.mono hb.size), Nat.le_refl _, hown.below hbw, n, Mv, hmap.below hbw, hn, hpaths.below hbw⟩
          · have hge : 14 ≤ j := by omega
            clear hjl
            go_wp2
            go_roundg (14 - k)
            case measure => have := HK.out; omega
            case rel =>
              obtain rfl : j = 14 := by omega
              exact ⟨k + 1, by omega, by omega, by rw [HN2.out]; exact hinv, by rw [← HM.out]; exact HF.out⟩
end Go.Proofs.YtchclfdkknlifaaDoor
