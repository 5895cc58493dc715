/- Contract of Decode. -/
import Derived.Test.YtmjlnckmhdgoiaaGreatDoorSo
namespace Go.Proofs.YtmjlnckmhdgoiaaGreatDoor
open Go.RowKit
set_option linter.unusedVariables false

set_option maxRecDepth 100000 in
theorem decF_fuel : ∀ (n : Nat) (b : Bs) (l : List Seg) (o f g : Nat), b.length ≤ n → b.length ≤ f → b.length ≤ g → decF f b l o = decF g b l o
  | 0, b, l, o, f, g, hn, hf, hg => by
    have : b = [] := List.eq_nil_of_length_eq_zero (by omega)
    subst this
    cases f <;> cases g <;> simp [decF]
  | n + 1, b, l, o, f, g, hn, hf, hg => by
    by_cases hb : b = []
    · subst hb
      cases f <;> cases g <;> simp [decF]
    · have hl : 0 < b.length := by cases b <;> simp at hb ⊢
      cases f with
      | zero => omega
      | succ f =>
        cases g with
        | zero => omega
        | succ g =>
          unfold decF
          rw [if_neg hb, if_neg hb]
          by_cases he : (nextF b).2.2 = 0
          · rw [if_pos he, if_pos he]
            have hp := next_pos he
            exact decF_fuel n _ _ _ f g (by rw [List.length_drop]; omega) (by rw [List.length_drop]; omega) (by rw [List.length_drop]; omega)
          · rw [if_neg he, if_neg he]
def decAt (b : Bs) (l : List Seg) (o : Nat) : List Seg × Nat × Int := decF (b.drop o).length (b.drop o) l o
set_option maxRecDepth 100000 in
theorem decAt_ok {b : Bs} {l : List Seg} {o : Nat} (h : o < b.length) {s : Seg} {n : Nat} (hn : nextF (b.drop o) = (s, n, 0)) : decAt b l o = decAt b (l ++ [s]) (o + n) ∧ 0 < n ∧ o + n ≤ b.length := by
  have hp := next_pos (b := b.drop o) (by rw [hn])
  rw [hn] at hp
  simp only [List.length_drop] at hp
  have hne : b.drop o ≠ [] := by
    intro hh
    have := congrArg List.length hh
    simp at this
    omega
  refine ⟨?_, hp.1, by omega⟩
  unfold decAt
  obtain ⟨f, hf⟩ : ∃ f, (b.drop o).length = f + 1 := ⟨(b.drop o).length - 1, by rw [List.length_drop]; omega⟩
  rw [hf]
  conv => lhs; unfold decF
  rw [if_neg hne, hn, if_pos rfl]
  simp only
  rw [List.drop_drop]
  exact decF_fuel (b.drop (o + n)).length _ _ _ _ _ (Nat.le_refl _) (by rw [List.length_drop] at hf ⊢; omega) (Nat.le_refl _)
set_option maxRecDepth 100000 in
theorem decAt_err {b : Bs} {l : List Seg} {o : Nat} (h : o < b.length) {e : Int} (he : e ≠ 0) {s : Seg} {n : Nat} (hn : nextF (b.drop o) = (s, n, e)) : decAt b l o = ([], o, e) := by
  have hne : b.drop o ≠ [] := by
    intro hh
    have := congrArg List.length hh
    simp at this
    omega
  unfold decAt
  obtain ⟨f, hf⟩ : ∃ f, (b.drop o).length = f + 1 := ⟨(b.drop o).length - 1, by rw [List.length_drop]; omega⟩
  rw [hf]
  conv => lhs; unfold decF
  rw [if_neg hne, hn, if_neg he]
theorem decAt_end {b : Bs} {l : List Seg} {o : Nat} (h : b.length ≤ o) : decAt b l o = (l, o, 0) := by
  unfold decAt
  rw [List.drop_eq_nil_of_le h]
  rfl
/-- a row of segments of the call's own -/
def SegsOwn (w : World) (B : Nat) (v : Value) (l : List Seg) : Prop :=
  ∃ cs : List Value, w.ownsRow B 57 2 v l.length cs ∧ ∀ (i : Nat) (s : Seg), l[i]? = some s → cs[i * 2]? = some (str s.tag) ∧ ∃ u, cs[i * 2 + 1]? = some u ∧ ElsOwn w B u s.els
section
variable {w w' : World} {B B' : Nat} {v : Value}
theorem SegsOwn.nil_ (w : World) (B : Nat) : SegsOwn w B (.slice none 0 0) [] := ⟨[], World.ownsRow_nil _ _ _ _, fun i e h => by simp at h⟩
theorem SegsOwn.below {l : List Seg} (h : SegsOwn w B v l) (hb : Below w.heap.size w w') : SegsOwn w' B v l := by
  obtain ⟨cs, h1, h2⟩ := h
  exact ⟨cs, own_below h1 hb, fun i s hs => by obtain ⟨a, u, b, c⟩ := h2 i s hs; exact ⟨a, u, b, c.below hb⟩⟩
theorem SegsOwn.mono {l : List Seg} (h : SegsOwn w B v l) (hb : B' ≤ B) : SegsOwn w B' v l := by
  obtain ⟨cs, h1, h2⟩ := h
  exact ⟨cs, World.ownsRow.mono h1 hb, fun i s hs => by obtain ⟨a, u, b, c⟩ := h2 i s hs; exact ⟨a, u, b, c.mono hb⟩⟩
theorem ElsOwn.grown {l : List (List Bs)} {u : Value} (h : ElsOwn w B u l) {n : Nat} {xs : List Value} {B2 : Nat} {e : TypeId} {size : Nat} (hv : w.ownsRow B2 e size v n xs) (hg : w.grownBy w' v.ownBlock) (h1 : e ≠ 60) (h2 : e ≠ 9) : ElsOwn w' B u l := by
  obtain ⟨cs, h3, h4⟩ := h
  exact ⟨cs, World.ownsRow.kept h3 hg (own_ne hv h3 h1), fun i e he => by obtain ⟨y, a, b⟩ := h4 i e he; exact ⟨y, a, World.ownsRow.kept b hg (own_ne hv b h2)⟩⟩
set_option maxRecDepth 100000 in
theorem SegsOwn.push {l : List Seg} {cs : List Value} {s : Seg} {u v' : Value} (h1 : w.ownsRow B 57 2 v l.length cs) (h2 : ∀ (i : Nat) (s : Seg), l[i]? = some s → cs[i * 2]? = some (str s.tag) ∧ ∃ u, cs[i * 2 + 1]? = some u ∧ ElsOwn w B u s.els) (hu : ElsOwn w B u s.els)
    (hg : w.grownBy w' v.ownBlock) (h3 : w'.ownsRow B 57 2 v' (l.length + 1) (cs ++ [str s.tag, u])) : SegsOwn w' B v' (l ++ [s]) := by
  have hcl : cs.length = l.length * 2 := h1.1
  refine ⟨cs ++ [str s.tag, u], by rw [List.length_append]; exact h3, fun i x hx => ?_⟩
  by_cases hi : i < l.length
  · rw [List.getElem?_append_left hi] at hx
    obtain ⟨a, y, b, c⟩ := h2 i x hx
    exact ⟨by rw [List.getElem?_append_left (by omega)]; exact a, y, by rw [List.getElem?_append_left (by omega)]; exact b, c.grown h1 hg (by decide) (by decide)⟩
  · rw [List.getElem?_append_right (by omega)] at hx
    have h0 : i - l.length = 0 := by
      rcases Nat.eq_zero_or_pos (i - l.length) with h | h
      · exact h
      · rw [List.getElem?_eq_none (by simp; omega)] at hx; cases hx
    rw [h0] at hx
    simp at hx
    subst hx
    have hi2 : i = l.length := by omega
    subst hi2
    exact ⟨by rw [List.getElem?_append_right (by omega), hcl, Nat.sub_self]; rfl, u, by rw [List.getElem?_append_right (by omega), hcl, Nat.add_sub_cancel_left]; rfl, hu.grown h1 hg (by decide) (by decide)⟩
theorem SegsOwn.at_ {l : List Seg} (h : SegsOwn w B v l) : ∃ A c, v = .slice A l.length c ∧ l.length ≤ c ∧ SegsAt w w.heap.size A l := by
  obtain ⟨cs, h1, h2⟩ := h
  obtain ⟨A, c, h3, h4, h5⟩ := own_shape h1
  refine ⟨A, c, h3, h5, cs, h1.1, h4, fun i s hs => ?_⟩
  obtain ⟨a, u, b, e⟩ := h2 i s hs
  obtain ⟨A', c', h6, h7⟩ := e.at_
  exact ⟨_, _, a, b, rfl, A', c', h6, h7⟩
end
def DecRet (w : World) (r : List Seg × Nat × Int) (e : Ending) (w' : World) : Prop :=
  ∃ v, e = .returned (.tuple #[v, .int .i64 (r.2.1 : Int), .int .i64 r.2.2]) ∧ SegsOwn w' w.heap.size v r.1 ∧ Below w.heap.size w w'
def DecRel (b : Bs) (w : World) (g : Nat) (v i : Value) (wr : World) : Prop :=
  ∃ (o : Nat) (l : List Seg), o + g = b.length ∧ i = .int .i64 (o : Int) ∧ SegsOwn wr w.heap.size v l ∧ decodeF b = decAt b l o ∧ Below w.heap.size w wr ∧ l.length ≤ o
set_option maxRecDepth 100000 in
set_option maxHeartbeats 4000000 in
theorem decode_any (A : Option Addr) (c : Nat) (b : Bs) (w : World) (hr : RdB w w.heap.size A (u8s b)) (hc : b.length ≤ c) (hl : b.length ≤ 1000000000) :
    Calls Tryz.prog 33 #[.slice A b.length c] w (DecRet w (decodeF b)) := by
  obtain ⟨i0, hi0, hz0, hz1, hz2⟩ := info_parts segInfo
  go_enter Tryz.func33, Tryz.ntmps33
  go_wp2
  go_loopg [5, 6] b.length (fun g v i wr => DecRel b w g v i wr)
  case atStart => exact ⟨0, [], by omega, rfl, SegsOwn.nil_ _ _, by unfold decodeF decAt; simp, Below.refl _ _, Nat.le_refl _⟩
  case round =>
    obtain ⟨o, l, hg, rfl, hsegs, hdec, hb, hlo⟩ := hrel
    have HG := Lib.hid hg
    have HD := Lib.hid hdec
    have hBr := hb.size
    have ho2 : o ≤ b.length := by omega
    clear hg hdec
    by_cases hlt : o < b.length
    · obtain ⟨A', htl, hr'⟩ := tail_at (k := o) (hr.below hb) hc ho2
      have HOK := Lib.hid (fun (s : Seg) (n : Nat) => decAt_ok (l := l) (s := s) (n := n) hlt)
      have HER := Lib.hid (fun (e : Int) (he : e ≠ 0) (s : Seg) (n : Nat) => decAt_err (l := l) hlt he (s := s) (n := n))
      have HNX := Lib.hid (next_any A' (c - o) (b.drop o) wr (hr'.mono hBr) (by rw [List.length_drop]; omega) (by rw [List.length_drop]; omega))
      generalize b.drop o = bd at *
      obtain ⟨ecs, ho1, hoo⟩ := hsegs
      rcases hnf : nextF bd with ⟨s, n, e⟩
      rw [hnf] at HNX HOK HER
      clear hnf
      by_cases he : e = 0
      · subst he
        obtain ⟨hd2, hn1, hn2⟩ := HOK.out s n rfl
        have HD2 := Lib.hid (HD.out.trans hd2)
        clear HOK HER HD hd2
        go_wp2_with fail
        refine HNX.out.mono ?_
        rintro e w2 ⟨u, rfl, hels, hb2⟩
        obtain ⟨Au, cu, rfl, _⟩ := hels.at_
        have hsb := Nat.le_trans hBr hb2.size
        have q2 := hb.trans (hb2.mono hBr)
        have q3 := q2.alloc hsb (.cells #[.string ⟨s.tag.toArray⟩, .slice Au s.els.length cu] 57)
        have hb3 := (Below.refl w2.heap.size w2).alloc (Nat.le_refl _) (.cells #[.string ⟨s.tag.toArray⟩, .slice Au s.els.length cu] 57)
        have hm0 : (w2.alloc (.cells #[.string ⟨s.tag.toArray⟩, .slice Au s.els.length cu] 57)).cell? ⟨w2.heap.size, 0, none⟩ = some (.string ⟨s.tag.toArray⟩) := by simp
        have hm1 : (w2.alloc (.cells #[.string ⟨s.tag.toArray⟩, .slice Au s.els.length cu] 57)).cell? ⟨w2.heap.size, 1, none⟩ = some (.slice Au s.els.length cu) := by simp
        generalize hW3 : w2.alloc (.cells #[.string ⟨s.tag.toArray⟩, .slice Au s.els.length cu] 57) = W3 at q3 hb3 hm0 hm1
        have ho3 := own_below (own_below ho1 hb2) hb3
        have he3 := (hels.mono (B' := w.heap.size) hBr).below hb3
        have hoo3 : ∀ (i : Nat) (s : Seg), l[i]? = some s → ecs[i * 2]? = some (str s.tag) ∧ ∃ u, ecs[i * 2 + 1]? = some u ∧ ElsOwn W3 w.heap.size u s.els := fun i s hs => by
          obtain ⟨a, u, b, c⟩ := hoo i s hs
          exact ⟨a, u, b, (c.below hb2).below hb3⟩
        have HOO := Lib.hid hoo3
        have hBr3 := q3.size
        clear hoo hoo3 hels
        go_wp2_with (at_builtin; refine wpList_append_new W3 rfl (.tmp 26) (.tmp 28) 27 rfl w.heap.size 57 i0 _ 2 40 Tryz.underlying27 hi0 hz0 hz1 hz2 rfl (by omega) _ l.length ecs [.string ⟨s.tag.toArray⟩, .slice Au s.els.length cu] rfl (by simp [Value.oneCell']) rfl ho3 rfl (by unfold maxLen; omega) (by omega) hBr3 ?_; intro v5 w5 hown5 hb5 _ hg5)
        have hsn := SegsOwn.push ho3 HOO.out he3 hg5 hown5
        go_roundg (b.length - (o + n))
        case measure => have := HG.out; omega
        case rel => exact ⟨o + n, _, by omega, by go_num, hsn, HD2.out, q3.trans hb5, by simp; omega⟩
      · have hne : (e != 0) = true := by simpa using he
        have HD2 := Lib.hid (HD.out.trans (HER.out e he s n rfl))
        clear HOK HER HD he
        go_wp2_with fail
        refine HNX.out.mono ?_
        rintro e w2 ⟨u, rfl, hels, hb2⟩
        obtain ⟨Au, cu, rfl, _⟩ := hels.at_
        go_wp2
        go_ret3
        refine ⟨_, by rw [HD2.out]; rfl, ?_, ?_⟩
        · rw [HD2.out]; exact SegsOwn.nil_ _ _
        · exact (hb.trans (hb2.mono hBr)).alloc (Nat.le_trans hBr hb2.size) _
    · have hge : b.length ≤ o := by omega
      have HD2 := Lib.hid (HD.out.trans (decAt_end hge))
      clear hlt HD
      go_wp2
      go_ret3
      exact ⟨_, by rw [HD2.out]; rfl, by rw [HD2.out]; exact hsegs, hb⟩
end Go.Proofs.YtmjlnckmhdgoiaaGreatDoor
