/- Contract of message.equal: slices.Equal of components, slices.EqualFunc of elements and of segments. -/
import Derived.Test.YtmjlnckmhdgoiaaGreatDoorQa
import Derived.Test.YtmjlnckmhdgoiaaGreatDoorShelf
import Derived.Laws.EntriesVeiled
namespace Go.Proofs.YtmjlnckmhdgoiaaGreatDoor
open Go.RowKit
set_option linter.unusedVariables false

abbrev eqFn : Value := .func (.func 83) #[] #[]
abbrev segFn : Value := .func (.func 81) #[] #[]
theorem bytes_inj : ∀ {x y : List Bs}, x.map (fun l => (⟨l.toArray⟩ : ByteArray)) = y.map (fun l => (⟨l.toArray⟩ : ByteArray)) ↔ x = y := fun {x y} => by
  constructor
  · intro h
    have hi : Function.Injective (fun l : Bs => (⟨l.toArray⟩ : ByteArray)) := fun a b h => by
      have h2 := congrArg (fun z : ByteArray => z.data.toList) h
      simpa using h2
    exact (List.map_inj_right (fun a b h => hi h)).1 h
  · intro h; rw [h]
theorem strEq_any (A A' : Option Addr) (c c' : Nat) (x y : List Bs) (w : World) (h : Rd w A (strs x)) (h' : Rd w A' (strs y)) (hx : x.length ≤ 140737488355328) (hy : y.length ≤ 140737488355328) :
    Calls Tryz.prog 83 #[.slice A x.length c, .slice A' y.length c'] w fun e w' => e = .returned (.bool (decide (x = y))) ∧ Below w.heap.size w w' := by
  by_cases hl : x.length = y.length
  · by_cases h0 : x.length = 0
    · have e1 : x = [] := List.eq_nil_of_length_eq_zero h0
      have e2 : y = [] := List.eq_nil_of_length_eq_zero (by omega)
      subst e1 e2
      refine (Tryz.slices_Equal_string_empty A A' c 0 c' w (by omega)).mono ?_
      rintro e w' ⟨h1, h2⟩
      exact ⟨by rw [h1]; simp, by rw [h2]; exact Below.refl _ _⟩
    · obtain ⟨b, off, rfl, _⟩ := h.at_lit (k := 0) (strs_get (show 0 < x.length by omega))
      obtain ⟨b', off', rfl, _⟩ := h'.at_lit (k := 0) (strs_get (show 0 < y.length by omega))
      have key : ∀ (l : List Bs) (b off : Nat), Rd w (some ⟨b, off, none⟩) (strs l) → ∀ j, j < (l.map (fun z => (⟨z.toArray⟩ : ByteArray))).length → w.cell? ⟨b, off + j, none⟩ = some (.string ((l.map (fun z => (⟨z.toArray⟩ : ByteArray))).getD j ByteArray.empty)) := by
        intro l b off hr j hj
        rw [List.length_map] at hj
        obtain ⟨b2, off2, e, hc⟩ := hr.at_lit (strs_get hj)
        injection e with e
        injection e with e1 e2
        subst e1; subst e2
        rw [hc, List.getD, List.getElem?_map, List.getElem?_eq_getElem hj]
        rfl
      refine (Tryz.slices_Equal_string b off x.length c b' off' y.length c' (x.map fun z => ⟨z.toArray⟩) (y.map fun z => ⟨z.toArray⟩) w (by simp) (by simp) (by omega) (by omega) (key x b off h) (key y b' off' h')).mono ?_
      rintro e w' ⟨h1, q, h2⟩
      refine ⟨?_, (show Quiet w w' from ⟨q, h2⟩).below _⟩
      rw [h1, List.take_of_length_le (by simp), List.take_of_length_le (by simp)]
      congr 2
      exact decide_eq_decide.2 bytes_inj
  · refine (Tryz.slices_Equal_string_lens A A' x.length c y.length c' w hl).mono ?_
    rintro e w' ⟨h1, h2⟩
    refine ⟨?_, by rw [h2]; exact Below.refl _ _⟩
    rw [h1, decide_eq_false (fun e => hl (by rw [e]))]
/-- two lists, alike up to k -/
theorem take_next {α : Type} {l l' : List α} {k : Nat} (h : l.take k = l'.take k) (h1 : k < l.length) (h2 : k < l'.length) (he : l[k] = l'[k]) : l.take (k + 1) = l'.take (k + 1) := by
  rw [List.take_succ_eq_append_getElem h1, List.take_succ_eq_append_getElem h2, h, he]
theorem take_differ {α : Type} {l l' : List α} {k : Nat} (h1 : k < l.length) (h2 : k < l'.length) (he : l[k] ≠ l'[k]) : l ≠ l' := by
  intro e
  subst e
  exact he rfl
def EqRel {α : Type} (l l' : List α) (w : World) (g : Nat) (i : Value) (wr : World) : Prop := ∃ k : Nat, k + g = l.length ∧ i = .int .i64 (k : Int) ∧ l.take k = l'.take k ∧ Below w.heap.size w wr
def EqRet (w : World) (p : Prop) (e : Ending) (w' : World) : Prop := ∃ r : Bool, e = .returned (.bool r) ∧ (r = true ↔ p) ∧ Below w.heap.size w w'
set_option maxRecDepth 100000 in
set_option maxHeartbeats 2000000 in
theorem elsEq_any (A A' : Option Addr) (c c' : Nat) (x y : List (List Bs)) (w : World) (h : ElsAt w w.heap.size A x) (h' : ElsAt w w.heap.size A' y) (hx : x.length ≤ 140737488355328) (hy : y.length ≤ 140737488355328) (hxe : ∀ e ∈ x, e.length ≤ 140737488355328) (hye : ∀ e ∈ y, e.length ≤ 140737488355328) :
    Calls Tryz.prog 82 #[.slice A x.length c, .slice A' y.length c', eqFn] w (EqRet w (x = y)) := by
  by_cases hl : x.length = y.length
  · have hll : ((x.length : Int) != (y.length : Int)) = false := by simp; omega
    have HXE := Lib.hid hxe
    have HYE := Lib.hid hye
    have HH := Lib.hid h
    have HH' := Lib.hid h'
    have HL := Lib.hid hl
    clear h h' hxe hye hl
    generalize hyl : y.length = ny at *
    have HYL := Lib.hid hyl
    clear hyl
    go_enter Tryz.func82, Tryz.ntmps82
    go_wp2
    go_loopg [17] x.length (fun g i wr => EqRel x y w g i wr)
    case atStart => exact ⟨0, by omega, rfl, by simp, Below.refl _ _⟩
    case round =>
      obtain ⟨k, hk, rfl, ht, hb⟩ := hrel
      have HK := Lib.hid hk
      have HT := Lib.hid ht
      have HB := Lib.hid hb
      have hk2 : k ≤ x.length := by omega
      clear hk ht hb hll
      by_cases hlt : k < x.length
      · have hlt' : k < y.length := by have := HL.out; have := HYL.out; omega
        obtain ⟨b, off, Ae, ce, rfl, _, hg, hr⟩ := (HH.out.below HB.out).get hlt
        obtain ⟨b', off', Ae', ce', rfl, _, hg', hr'⟩ := (HH'.out.below HB.out).get hlt'
        have HEQ := Lib.hid (strEq_any Ae Ae' ce ce' x[k] y[k] wr hr.rd hr'.rd (HXE.out _ (List.getElem_mem _)) (HYE.out _ (List.getElem_mem _)))
        have HN : Hid (x[k] = y[k] → x.take (k + 1) = y.take (k + 1)) := take_next HT.out hlt hlt'
        have HD : Hid (x[k] ≠ y[k] → x ≠ y) := take_differ hlt hlt'
        have hnk : k < ny := by have := HYL.out; omega
        clear hr hr'
        generalize x[k] = e1 at *
        generalize y[k] = e2 at *
        clear hlt'
        go_wp2_with fail
        refine HEQ.out.mono ?_
        rintro e w2 ⟨rfl, hb2⟩
        have HB2 := Lib.hid (HB.out.trans (hb2.mono HB.out.size))
        clear hb2 HEQ hg hg'
        by_cases he : e1 = e2
        · have hd : decide (e1 = e2) = true := by simpa using he
          have HE := Lib.hid he
          rw [hd]
          clear he hd
          go_wp2
          go_roundg (x.length - (k + 1))
          case measure => have := HK.out; omega
          case rel => exact ⟨k + 1, by omega, by go_num, HN.out HE.out, HB2.out⟩
        · have hd : decide (e1 = e2) = false := by simpa using he
          have HE := Lib.hid he
          rw [hd]
          clear he hd
          go_wp2
          go_ret
          exact ⟨false, rfl, ⟨fun h => (by cases h), fun h => absurd h (HD.out HE.out)⟩, HB2.out⟩
      · have hge : x.length ≤ k := by omega
        have HX : Hid (x = y) := by
          have h1 := HT.out
          rw [List.take_of_length_le hge, List.take_of_length_le (by have := HL.out; have := HYL.out; omega)] at h1
          exact h1
        clear hlt
        go_wp2
        go_ret
        exact ⟨true, rfl, ⟨fun _ => HX.out, fun _ => rfl⟩, HB.out⟩
  · have hll : ((x.length : Int) != (y.length : Int)) = true := by simp; omega
    have HL := Lib.hid hl
    clear h h' hxe hye hl
    have HN : Hid (x ≠ y) := fun e => HL.out (by rw [e])
    generalize x.length = nx at *
    generalize y.length = ny at *
    go_enter Tryz.func82, Tryz.ntmps82
    go_wp2
    go_ret
    exact ⟨false, rfl, ⟨fun h => (by cases h), fun h => absurd h HN.out⟩, Below.refl _ _⟩
def EFit (l : List (List Bs)) : Prop := l.length ≤ 140737488355328 ∧ ∀ e ∈ l, e.length ≤ 140737488355328
theorem SFit.ef {s : Seg} (h : SFit s) : EFit s.els := ⟨by have := h.n; omega, h.e⟩
set_option maxRecDepth 100000 in
set_option maxHeartbeats 2000000 in
theorem segEq_any (A A' : Option Addr) (c c' : Nat) (s t : Seg) (w : World) (h : ElsAt w w.heap.size A s.els) (h' : ElsAt w w.heap.size A' t.els) (hs : EFit s.els) (ht : EFit t.els) :
    Calls Tryz.prog 81 #[.agg #[str s.tag, .slice A s.els.length c], .agg #[str t.tag, .slice A' t.els.length c']] w (EqRet w (s = t)) := by
  obtain ⟨t1, x⟩ := s
  obtain ⟨t2, y⟩ := t
  simp only at *
  unfold str
  have q0 := (Below.refl w.heap.size w).alloc (Nat.le_refl _) (.cells #[.string ⟨t1.toArray⟩, .slice A x.length c] 57)
  have q1 := q0.trans (((Below.refl _ (w.alloc (.cells #[.string ⟨t1.toArray⟩, .slice A x.length c] 57))).alloc (Nat.le_refl _) (.cells #[.string ⟨t2.toArray⟩, .slice A' y.length c'] 57)).mono q0.size)
  by_cases hT : t1 = t2
  · have ht12 : (t1 == t2) = true := by simpa using hT
    have HT := Lib.hid hT
    have HEL := Lib.hid (elsEq_any A A' c c' x y _ ((h.below q1).mono q1.size) ((h'.below q1).mono q1.size) hs.1 ht.1 hs.2 ht.2)
    have Q1 := Lib.hid q1
    clear hT h h' q0 q1 hs ht
    generalize x.length = nx at *
    generalize y.length = ny at *
    go_enter Tryz.func81, Tryz.ntmps81
    go_wp2_with fail
    refine HEL.out.mono ?_
    rintro e w2 ⟨r, rfl, hr, hb2⟩
    have HB2 := Lib.hid (Q1.out.trans (hb2.mono Q1.out.size))
    have HR := Lib.hid hr
    clear hb2 hr HEL
    go_wp2
    go_ret
    exact ⟨r, rfl, ⟨fun h => by rw [HT.out, HR.out.1 h], fun h => HR.out.2 (Seg.mk.inj h).2⟩, HB2.out⟩
  · have ht12 : (t1 == t2) = false := by simpa using hT
    have HT := Lib.hid hT
    have Q1 := Lib.hid q1
    clear hT h h' q0 q1 hs ht
    generalize x.length = nx at *
    generalize y.length = ny at *
    go_enter Tryz.func81, Tryz.ntmps81
    go_wp2
    go_ret
    exact ⟨false, rfl, ⟨fun h => (by cases h), fun h => absurd (Seg.mk.inj h).1 HT.out⟩, Q1.out⟩
def LFit (l : List Seg) : Prop := l.length ≤ 1000000000 ∧ ∀ s ∈ l, EFit s.els
set_option maxRecDepth 100000 in
set_option maxHeartbeats 4000000 in
theorem segsEq_any (A A' : Option Addr) (c c' : Nat) (x y : List Seg) (w : World) (h : SegsAt w w.heap.size A x) (h' : SegsAt w w.heap.size A' y) (hx : LFit x) (hy : LFit y) :
    Calls Tryz.prog 80 #[.slice A x.length c, .slice A' y.length c', segFn] w (EqRet w (x = y)) := by
  have hx0 := hx.1
  have hy0 := hy.1
  by_cases hl : x.length = y.length
  · have hll : ((x.length : Int) != (y.length : Int)) = false := by simp; omega
    have HXE := Lib.hid hx.2
    have HYE := Lib.hid hy.2
    have HH := Lib.hid h
    have HH' := Lib.hid h'
    have HL := Lib.hid hl
    clear h h' hx hy hl
    generalize hyl : y.length = ny at *
    have HYL := Lib.hid hyl
    clear hyl
    go_enter Tryz.func80, Tryz.ntmps80
    go_wp2
    go_loopg [17] x.length (fun g i wr => EqRel x y w g i wr)
    case atStart => exact ⟨0, by omega, rfl, by simp, Below.refl _ _⟩
    case round =>
      obtain ⟨k, hk, rfl, ht, hb⟩ := hrel
      have HK := Lib.hid hk
      have HT := Lib.hid ht
      have HB := Lib.hid hb
      have hk2 : k ≤ x.length := by omega
      clear hk ht hb hll
      by_cases hlt : k < x.length
      · have hlt' : k < y.length := by have := HL.out; have := HYL.out; omega
        obtain ⟨b, off, Ae, ce, rfl, hbl, hg0, hg1, hr⟩ := (HH.out.below HB.out).get hlt
        obtain ⟨b', off', Ae', ce', rfl, hbl', hg0', hg1', hr'⟩ := (HH'.out.below HB.out).get hlt'
        have hsz := HB.out.size
        have q0 := (Below.refl wr.heap.size wr).alloc (Nat.le_refl _) (.cells #[str x[k].tag, .slice Ae x[k].els.length ce] 57)
        have q1 := q0.trans (((Below.refl _ (wr.alloc (.cells #[str x[k].tag, .slice Ae x[k].els.length ce] 57))).alloc (Nat.le_refl _) (.cells #[str y[k].tag, .slice Ae' y[k].els.length ce'] 57)).mono q0.size)
        have HEQ := Lib.hid (segEq_any Ae Ae' ce ce' x[k] y[k] _ ((hr.mono hsz |>.below q1).mono q1.size) ((hr'.mono hsz |>.below q1).mono q1.size) (HXE.out _ (List.getElem_mem _)) (HYE.out _ (List.getElem_mem _)))
        have Q1 := Lib.hid (HB.out.trans (q1.mono hsz))
        have HN : Hid (x[k] = y[k] → x.take (k + 1) = y.take (k + 1)) := take_next HT.out hlt hlt'
        have HD : Hid (x[k] ≠ y[k] → x ≠ y) := take_differ hlt hlt'
        have hnk : k < ny := by have := HYL.out; omega
        clear hr hr' q0 q1
        generalize x[k] = e1 at *
        generalize y[k] = e2 at *
        clear hlt'
        obtain ⟨t1, l1⟩ := e1
        obtain ⟨t2, l2⟩ := e2
        simp only at hg0 hg1 hg0' hg1' HEQ Q1
        unfold str at hg0 hg0' HEQ Q1
        have hlb' : b' < wr.heap.size := by omega
        have hg2' := (((Below.refl wr.heap.size wr).alloc (Nat.le_refl _) (.cells #[.string ⟨t1.toArray⟩, .slice Ae l1.length ce] 57)).cell (p := ⟨b', off' + k * 2, none⟩) hlb').trans hg0'
        have hg3' := (((Below.refl wr.heap.size wr).alloc (Nat.le_refl _) (.cells #[.string ⟨t1.toArray⟩, .slice Ae l1.length ce] 57)).cell (p := ⟨b', off' + k * 2 + 1, none⟩) hlb').trans hg1'
        have hg1 : wr.cell? ⟨b, off + k * 2 + 1, none⟩ = some (.slice Ae l1.length ce) := hg1
        have hg1' : wr.cell? ⟨b', off' + k * 2 + 1, none⟩ = some (.slice Ae' l2.length ce') := hg1'
        generalize l1.length = n1 at *
        generalize l2.length = n2 at *
        go_wp2_with fail
        refine HEQ.out.mono ?_
        rintro e w2 ⟨r, rfl, hr, hb2⟩
        have HB2 := Lib.hid (Q1.out.trans (hb2.mono Q1.out.size))
        have HR := Lib.hid hr
        clear hr hb2 HEQ hg0 hg1 hg0' hg1' hg2' hg3' Q1
        cases r
        · have HNX := Lib.hid (HD.out (fun e => by have := HR.out.2 e; cases this))
          go_wp2
          go_ret
          exact ⟨false, rfl, ⟨fun h => (by cases h), fun h => absurd h HNX.out⟩, HB2.out⟩
        · have HNX := Lib.hid (HN.out (HR.out.1 rfl))
          go_wp2
          go_roundg (x.length - (k + 1))
          case measure => have := HK.out; omega
          case rel => exact ⟨k + 1, by omega, by go_num, HNX.out, HB2.out⟩
      · have hge : x.length ≤ k := by omega
        have HX : Hid (x = y) := by
          have h1 := HT.out
          rw [List.take_of_length_le hge, List.take_of_length_le (by have := HL.out; have := HYL.out; omega)] at h1
          exact h1
        clear hlt
        go_wp2
        go_ret
        exact ⟨true, rfl, ⟨fun _ => HX.out, fun _ => rfl⟩, HB.out⟩
  · have hll : ((x.length : Int) != (y.length : Int)) = true := by simp; omega
    have HL := Lib.hid hl
    clear h h' hx hy hl
    have HN : Hid (x ≠ y) := fun e => HL.out (by rw [e])
    generalize x.length = nx at *
    generalize y.length = ny at *
    go_enter Tryz.func80, Tryz.ntmps80
    go_wp2
    go_ret
    exact ⟨false, rfl, ⟨fun h => (by cases h), fun h => absurd h HN.out⟩, Below.refl _ _⟩
theorem equalL_any (A A' : Option Addr) (c c' : Nat) (x y : List Seg) (w : World) (h : SegsAt w w.heap.size A x) (h' : SegsAt w w.heap.size A' y) (hx : LFit x) (hy : LFit y) :
    Calls Tryz.prog 60 #[.slice A x.length c, .slice A' y.length c'] w (EqRet w (x = y)) := by
  have HS := Lib.hid (segsEq_any A A' c c' x y w h h' hx hy)
  clear h h' hx hy
  generalize x.length = nx at *
  generalize y.length = ny at *
  go_enter Tryz.func60, Tryz.ntmps60
  go_wp2_with fail
  refine HS.out.mono ?_
  rintro e w2 ⟨r, rfl, hr, hb2⟩
  have HB2 := Lib.hid hb2
  have HR := Lib.hid hr
  clear hr hb2 HS
  go_wp2
  go_ret
  exact ⟨r, rfl, HR.out, HB2.out⟩
end Go.Proofs.YtmjlnckmhdgoiaaGreatDoor
