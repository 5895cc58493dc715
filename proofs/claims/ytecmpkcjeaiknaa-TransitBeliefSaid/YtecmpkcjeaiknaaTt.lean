/- Incidents in memory; slices.DeleteFunc at Seals' own predicate; the contract of Seals. -/
import Derived.Test.YtecmpkcjeaiknaaTo
import Derived.Test.YtecmpkcjeaiknaaFlat
import Derived.Laws.EntriesVeiled
namespace Go.Proofs.Ytecmpkcjeaiknaa
open Go.RowKit Go.Sort Go.Lib
set_option linter.unusedVariables false

def incCs (x : Inc) : List Value := [.int .i64 x.frm, .int .i64 x.num, .int .i64 x.lot, .int .i64 x.rem, .int .i64 x.aff]
def incsCs (l : List Inc) : List Value := l.flatMap incCs
theorem incsCs_len (l : List Inc) : (incsCs l).length = l.length * 5 := flat_len incCs 5 (fun _ => rfl) l
theorem incsCs_get {l : List Inc} {k j : Nat} {x : Inc} (h : l[k]? = some x) (hj : j < 5) : (incsCs l)[k * 5 + j]? = (incCs x)[j]? := flat_get incCs 5 (fun _ => rfl) l k j x h hj
/-- seals that can be keys -/
def WfI (l : List Inc) : Prop := ∀ x ∈ l, (Lit.int .i64 x.rem).wf = true ∧ (Lit.int .i64 x.aff).wf = true
/-- a slice of incidents, to be read -/
def IncsAt (w : World) (v : Value) (l : List Inc) : Prop := ∃ A c, v = .slice A l.length c ∧ Rd w A (incsCs l) ∧ l.length ≤ c ∧ c ≤ maxLen ∧ l.length * 40 ≤ 140737488351232
theorem IncsAt.below {w w' : World} {v : Value} {l : List Inc} (h : IncsAt w v l) (hb : Below w.heap.size w w') : IncsAt w' v l := by
  obtain ⟨A, c, h1, h2, h3⟩ := h
  exact ⟨A, c, h1, h2.below hb, h3⟩
theorem inc_get {w : World} {A : Option Addr} {l : List Inc} (h : Rd w A (incsCs l)) {k : Nat} (hk : k < l.length) : ∃ b off, A = some ⟨b, off, none⟩ ∧ w.cell? ⟨b, off + k * 5, none⟩ = some (.int .i64 l[k].frm) ∧ w.cell? ⟨b, off + k * 5 + 1, none⟩ = some (.int .i64 l[k].num) ∧ w.cell? ⟨b, off + k * 5 + 2, none⟩ = some (.int .i64 l[k].lot) ∧ w.cell? ⟨b, off + k * 5 + 3, none⟩ = some (.int .i64 l[k].rem) ∧ w.cell? ⟨b, off + k * 5 + 4, none⟩ = some (.int .i64 l[k].aff) := by
  have hg : ∀ j, j < 5 → (incsCs l)[k * 5 + j]? = (incCs l[k])[j]? := fun j hj => incsCs_get (List.getElem?_eq_getElem hk) hj
  cases hc : incsCs l with
  | nil => have := incsCs_len l; rw [hc] at this; simp at this; omega
  | cons u us =>
    rw [hc] at h hg
    obtain ⟨b, off, rfl, h2⟩ := Rd.lit h
    refine ⟨b, off, rfl, h2 _ _ (hg 0 (by omega)), ?_, ?_, ?_, ?_⟩
    · rw [Nat.add_assoc]; exact h2 _ _ (hg 1 (by omega))
    · rw [Nat.add_assoc]; exact h2 _ _ (hg 2 (by omega))
    · rw [Nat.add_assoc]; exact h2 _ _ (hg 3 (by omega))
    · rw [Nat.add_assoc]; exact h2 _ _ (hg 4 (by omega))

/-- the predicate of Seals -/
theorem pred_any (x : Int) (w : World) : Calls Try.prog 41 #[.int .i64 x] w fun e w' => e = .returned (.bool (decide (x < 1))) ∧ w' = w := by
  go_enter Try.func41, Try.ntmps41
  go_wp2
  go_ret
  exact ⟨rfl, rfl⟩
abbrev predV : Value := .func (.func 41) #[] #[]
theorem pred_gives (W : World) (x : Int) : FnGives Try.prog 41 #[] #[.int .i64 x] (.bool (decide (x < 1))) W :=
  (pred_any x W).mono fun _ _ ⟨h1, h2⟩ => ⟨h1, 0, h2⟩
def DelRet (B : Nat) (v : Value) (L : List Int) (w : World) (e : Ending) (w' : World) : Prop := ∃ v', e = .returned v' ∧ IntsAt w' v' (L.filter fun x => !decide (x < 1)) ∧ w.grownBy w' v.ownBlock
theorem delete_any (B : Nat) (v : Value) (L : List Int) (w : World) (h : OwnX w B 3 1 v L.length (ints L)) (hlb : L.length * 8 ≤ 140737488351232) :
    Calls Try.prog 40 #[v, predV] w (DelRet B v L w) := by
  rcases h.2 with ⟨rfl, h0⟩ | ⟨g, off, cap, cur, rfl, hB, hh, h1, h2, h3, h4⟩
  · have : L = [] := List.eq_nil_of_length_eq_zero h0
    subst this
    go_enter Try.func40, Try.ntmps40
    go_wp2_with (go_at_call 49; refine (Try.slices_IndexFunc_empty (α := Int) none 0 predV w).mono ?_; rintro e w' ⟨rfl, rfl⟩)
    go_ret
    exact ⟨_, rfl, IntsAt.nil_ _, ⟨rfl, rfl, rfl, Nat.le_refl _, fun _ _ _ => rfl⟩⟩
  · have hH : Holds (Value.int .i64) w g off L.toArray := fun j hj => by
      have hj' : j < L.length := by simpa using hj
      refine ⟨?_, frozen_of_row w g _ _ _ hh⟩
      rw [cell_of_row w g _ _ _ _ hh, h4 j (.int .i64 L[j]) (by simp [ints, List.getElem?_eq_getElem hj']), getElem!_pos _ j hj]
      simp
    have hd := Try.slices_DeleteFunc (Value.int .i64) (fun _ => rfl) (fun x => decide (x < 1)) 41 #[] (fun args w => enters_of Try.func41 (by kernel_rfl) rfl args w) 0 (fun w => by kernel_rfl) g off cap L.toArray w
      (fun W x _ => pred_gives W x) (fun n os dk x _ => pred_gives _ x) hH (by simp; omega) (by simpa using h1)
    rw [List.size_toArray] at hd
    refine hd.mono ?_
    rintro e w' ⟨rfl, n, rfl⟩
    have hle : (L.filter fun x => !decide (x < 1)).length ≤ L.length := List.length_filter_le _ _
    obtain ⟨k1, cur', k2, k3, k4⟩ := row_put (off := off) hh n ((L.filter fun x => !decide (x < 1)) ++ List.replicate (L.length - (L.filter fun x => !decide (x < 1)).length) 0) #[] (by rw [List.length_append, List.length_replicate]; omega)
    rw [grow_empty] at k1 k2
    refine ⟨_, rfl, ⟨_, cap, rfl, fun j u hu => ⟨_, rfl, ?_⟩, by omega, h2, by omega⟩, k1⟩
    rw [Addr.add_lit, cell_of_row _ _ _ _ _ _ k2]
    refine k4 j u ?_
    have hj : j < (L.filter fun x => !decide (x < 1)).length := by have := (List.getElem?_eq_some_iff.1 hu).1; simpa [ints] using this
    simp only [ints, List.map_append] at hu ⊢
    rw [List.getElem?_append_left (by simpa using hj)]
    exact hu
/-- what the loop of Seals keeps -/
structure SealsIn (a : List Int) (lot : Int) (l : List Inc) (w : World) (k : Nat) (H R : List Int) (vh vr : Value) (wr : World) : Prop where
  he : H = a ++ affOf lot (l.take k)
  re : R = remOf lot (l.take k)
  ho : OwnX wr w.heap.size 3 1 vh H.length (ints H)
  ro : OwnX wr w.heap.size 3 1 vr R.length (ints R)
  ne : vh.ownBlock = none ∨ vr.ownBlock = none ∨ vh.ownBlock ≠ vr.ownBlock
  bel : Below w.heap.size w wr
def SealsRel (a : List Int) (lot : Int) (l : List Inc) (w : World) (m : Nat) (vh vr i : Value) (wr : World) : Prop := ∃ (k : Nat) (H R : List Int), k + m = l.length ∧ i = .int .i64 (k : Int) ∧ SealsIn a lot l w k H R vh vr wr
theorem take_snocG {α : Type} {l : List α} {k : Nat} (h : k < l.length) : l.take (k + 1) = l.take k ++ [l[k]] := by
  rw [List.take_add_one, List.getElem?_eq_getElem h]; rfl
theorem aff_snoc (lot : Int) (l : List Inc) (x : Inc) : affOf lot (l ++ [x]) = affOf lot l ++ (if x.lot = lot then [x.aff] else []) := by
  unfold affOf; rw [List.filter_append, List.map_append]; by_cases h : x.lot = lot <;> simp [h]
theorem rem_snoc (lot : Int) (l : List Inc) (x : Inc) : remOf lot (l ++ [x]) = remOf lot l ++ (if x.lot = lot then [x.rem] else []) := by
  unfold remOf; rw [List.filter_append, List.map_append]; by_cases h : x.lot = lot <;> simp [h]
theorem aff_len (lot : Int) (l : List Inc) : (affOf lot l).length ≤ l.length := by unfold affOf; rw [List.length_map]; exact List.length_filter_le _ _
theorem rem_len (lot : Int) (l : List Inc) : (remOf lot l).length ≤ l.length := by unfold remOf; rw [List.length_map]; exact List.length_filter_le _ _
theorem rows_new {v v' u : Value} {W : World} {B : Nat} {e : TypeId} {s n : Nat} {xs : List Value} (hn : v.ownBlock = none ∨ u.ownBlock = none ∨ v.ownBlock ≠ u.ownBlock) (hbl : v'.ownBlock = v.ownBlock ∨ ∃ g, v'.ownBlock = some g ∧ W.heap.size ≤ g) (hu : OwnX W B e s u n xs) : v'.ownBlock = none ∨ u.ownBlock = none ∨ v'.ownBlock ≠ u.ownBlock := by
  rcases hbl with h | ⟨g, h, hg⟩
  · rw [h]; exact hn
  · refine .inr (.inr fun e => ?_)
    have := (hu.block_lt (g := g) (by rw [← e]; exact h)).2
    omega
theorem rows_or {a b : Option Nat} (h : a = none ∨ b = none ∨ a ≠ b) : b = none ∨ b ≠ a := by
  rcases h with h | h | h
  · cases b with
    | none => exact .inl rfl
    | some k => exact .inr (by rw [h]; simp)
  · exact .inl h
  · exact .inr (Ne.symm h)
theorem rows_sym {a b : Option Nat} (h : a = none ∨ b = none ∨ a ≠ b) : b = none ∨ a = none ∨ b ≠ a := by
  rcases h with h | h | h
  · exact .inr (.inl h)
  · exact .inl h
  · exact .inr (.inr (Ne.symm h))
def SealsRet (a : List Int) (lot : Int) (l : List Inc) (w : World) (e : Ending) (w' : World) : Prop := ∃ v, e = .returned v ∧ IntsAt w' v (sealsF a lot l) ∧ Below w.heap.size w w'
theorem wf_aff {lot : Int} {l : List Inc} (h : WfI l) : WfL (affOf lot l) := fun x hx => by
  obtain ⟨y, hy, rfl⟩ := List.mem_map.1 hx
  exact (h y (List.mem_filter.1 hy).1).2
theorem wf_rem {lot : Int} {l : List Inc} (h : WfI l) : WfL (remOf lot l) := fun x hx => by
  obtain ⟨y, hy, rfl⟩ := List.mem_map.1 hx
  exact (h y (List.mem_filter.1 hy).1).1
set_option maxRecDepth 100000 in
set_option maxHeartbeats 4000000 in
theorem seals_any (va vl : Value) (a : List Int) (lot : Int) (l : List Inc) (w : World) (ha : IntsAt w va a) (hl : IncsAt w vl l) (wa : WfL a) (wl : WfI l) (ha8 : a.length ≤ 1000000) (hl8 : l.length ≤ 1000000) :
    Calls Try.prog 22 #[va, .int .i64 lot, vl] w (SealsRet a lot l w) := by
  obtain ⟨A2, c2, rfl, rl, lb1, lb2, lb3⟩ := hl
  obtain ⟨i0, hi0, hz0, hz1, hz2⟩ := info_parts intInfo
  have HVA := Lib.hid ha
  have HRL := Lib.hid rl
  have HWA := Lib.hid wa
  have HWL := Lib.hid wl
  have HL8 := Lib.hid (And.intro ha8 hl8)
  clear ha rl wa wl ha8 hl8 lb1 lb2 lb3
  go_enter Try.func22, Try.ntmps22
  go_wp2_with (go_at_call 28; refine (cloneI HVA.out).mono ?_; rintro e w1 ⟨v1, rfl, ho, -, hb⟩; have HO1 := Lib.hid ho; have HB1 := Lib.hid hb; clear ho hb)
  go_loopg [7, 8, 15] l.length (fun m vh vr i wr => SealsRel a lot l w m vh vr i wr)
  case atStart => exact ⟨0, a, [], by omega, rfl, by simp [affOf], by simp [remOf], HO1.out, OwnX.nil_ _ _ _ _, .inr (.inl rfl), HB1.out⟩
  case round =>
    obtain ⟨k, H, R, hk, rfl, hin⟩ := hrel
    have HK := Lib.hid hk
    have HIN := Lib.hid hin
    have hk2 : k ≤ l.length := by omega
    have HLN : Hid (H.length ≤ 2000000 ∧ R.length ≤ 2000000) := Lib.hid (by
      have h1 := aff_len lot (l.take k); have h2 := rem_len lot (l.take k); rw [List.length_take] at h1 h2
      have := HL8.out
      rw [hin.he, hin.re, List.length_append]; omega)
    obtain ⟨Ah, ch, rfl, -, -, -⟩ := hin.ho.shape
    obtain ⟨Ar, cr, rfl, -, -, -⟩ := hin.ro.shape
    clear hk hin HO1 HB1
    by_cases hlt : k < l.length
    · obtain ⟨b, off, he, m0, m1, m2, m3, m4⟩ := inc_get (HRL.out.below HIN.out.bel) hlt
      subst he
      have HTK := Lib.hid (take_snocG hlt)
      have hbk := block_lt_of_cell m0
      generalize l[k] = x at *
      obtain ⟨x0, x1, x2, x3, x4⟩ := x
      simp only at m0 m1 m2 m3 m4
      have s1 : (k : Int) < l.length := by omega
      have HBW := Lib.hid HIN.out.bel.size
      have hl8 := HL8.out.2
      by_cases hxl : x2 = lot
      · subst hxl
        go_wp2_with (first
          | (refine at_store 53 (.tmp 10) (.tmp 18) rfl ?_; refine wpList_store_box rfl 53 (.tmp 10) (.tmp 18) rfl wr.heap.size 0 (.agg #[.int .i64 x0, .int .i64 x1, .int .i64 x2, .int .i64 x3, .int .i64 x4]) #[.int .i64 x0, .int .i64 x1, .int .i64 x2, .int .i64 x3, .int .i64 x4] rfl rfl rfl [.int .i64 0, .int .i64 0, .int .i64 0, .int .i64 0, .int .i64 0] [.int .i64 x0, .int .i64 x1, .int .i64 x2, .int .i64 x3, .int .i64 x4] _ (heap_alloc_new wr (.cells #[.int .i64 0, .int .i64 0, .int .i64 0, .int .i64 0, .int .i64 0] 53)) (Nat.le_of_ble_eq_true rfl) rfl (by kernel_rfl) rfl ?_; intro w3 hb hP; have hQ := hP.fresh; have HBX := Lib.hid hb; have HO3 := Lib.hid (HIN.out.ho.below hQ); have HR3 := Lib.hid (HIN.out.ro.below hQ); have HB3 := Lib.hid (HIN.out.bel.trans (hQ.mono HIN.out.bel.size)); have HS3 := Lib.hid HB3.out.size; have HX3 := Lib.hid hQ.size; clear hb hP hQ m0 m1 m2 m3 m4)
          | (refine at_load 3 (.tmp 19) rfl ?_; refine wpList_load_one rfl 3 (.tmp 19) rfl wr.heap.size 2 rfl [.int .i64 x0, .int .i64 x1, .int .i64 x2, .int .i64 x3, .int .i64 x4] (.int .i64 x2) _ HBX.out rfl _ Try.underlying3 rfl ?_)
          | (refine at_load 3 (.tmp 24) rfl ?_; refine wpList_load_one rfl 3 (.tmp 24) rfl wr.heap.size 4 rfl [.int .i64 x0, .int .i64 x1, .int .i64 x2, .int .i64 x3, .int .i64 x4] (.int .i64 x4) _ HBX.out rfl _ Try.underlying3 rfl ?_)
          | (refine at_load 3 (.tmp 29) rfl ?_; refine wpList_load_one rfl 3 (.tmp 29) rfl wr.heap.size 3 rfl [.int .i64 x0, .int .i64 x1, .int .i64 x2, .int .i64 x3, .int .i64 x4] (.int .i64 x3) _ HBX.out rfl _ Try.underlying3 rfl ?_)
          | (at_builtin; refine wpList_append_one w3 rfl (.tmp 23) (.tmp 26) 25 rfl w.heap.size 3 i0 _ 1 8 Try.underlying25 hi0 hz0 hz1 hz2 rfl (by omega) _ H.length (ints H) [.int .i64 x4] rfl (by intro u hu; rw [List.mem_singleton] at hu; subst hu; rfl) rfl HO3.out rfl (by have := HLN.out; unfold maxLen; omega) (by have := HLN.out; omega) HS3.out ?_; intro v4 w4 hown2 hg2 hbl; have HO4 := Lib.hid (own_snoc' hown2); have HR4 := Lib.hid (HR3.out.kept hg2 (rows_or HIN.out.ne)); have HN4 := Lib.hid (rows_new HIN.out.ne hbl HR3.out); have HBX := Lib.hid ((hg2.block wr.heap.size (box_lt HBX.out) (Ne.symm (HO3.out.apart HBX.out (by decide)))).trans HBX.out); have HB4 := Lib.hid (HB3.out.trans (Below.of_grown hg2 w.heap.size HS3.out (fun g e => (HO3.out.block_lt e).1))); have HS4 := Lib.hid HB4.out.size; have HF1 := HX3; clear hown2 hg2 hbl)
          | (at_builtin; refine wpList_append_one w4 rfl (.tmp 28) (.tmp 31) 25 rfl w.heap.size 3 i0 _ 1 8 Try.underlying25 hi0 hz0 hz1 hz2 rfl (by omega) _ R.length (ints R) [.int .i64 x3] rfl (by intro u hu; rw [List.mem_singleton] at hu; subst hu; rfl) rfl HR4.out rfl (by have := HLN.out; unfold maxLen; omega) (by have := HLN.out; omega) HS4.out ?_; intro v5 w5 hown2 hg2 hbl; have HR5 := Lib.hid (own_snoc' hown2); have HO5 := Lib.hid (HO4.out.kept hg2 (rows_or (rows_sym HN4.out))); have HN5 := Lib.hid (rows_sym (rows_new (rows_sym HN4.out) hbl HO4.out)); have HB5 := Lib.hid (HB4.out.trans (Below.of_grown hg2 w.heap.size HS4.out (fun g e => (HR4.out.block_lt e).1))); clear hown2 hg2 hbl))
        go_roundg (l.length - (k + 1))
        case measure => have := HK.out; omega
        case rel => exact ⟨k + 1, H ++ [x4], R ++ [x3], by have := HK.out; omega, by go_num, by rw [HTK.out, aff_snoc, if_pos rfl, ← List.append_assoc, ← HIN.out.he], by rw [HTK.out, rem_snoc, if_pos rfl, ← HIN.out.re], HO5.out, HR5.out, HN5.out, HB5.out⟩
      · have b1 : (x2 == lot) = false := by simpa using hxl
        have HXL := Lib.hid hxl
        clear hxl
        go_wp2_with (first
          | (refine at_store 53 (.tmp 10) (.tmp 18) rfl ?_; refine wpList_store_box rfl 53 (.tmp 10) (.tmp 18) rfl wr.heap.size 0 (.agg #[.int .i64 x0, .int .i64 x1, .int .i64 x2, .int .i64 x3, .int .i64 x4]) #[.int .i64 x0, .int .i64 x1, .int .i64 x2, .int .i64 x3, .int .i64 x4] rfl rfl rfl [.int .i64 0, .int .i64 0, .int .i64 0, .int .i64 0, .int .i64 0] [.int .i64 x0, .int .i64 x1, .int .i64 x2, .int .i64 x3, .int .i64 x4] _ (heap_alloc_new wr (.cells #[.int .i64 0, .int .i64 0, .int .i64 0, .int .i64 0, .int .i64 0] 53)) (Nat.le_of_ble_eq_true rfl) rfl (by kernel_rfl) rfl ?_; intro w3 hb hP; have hQ := hP.fresh; have HBX := Lib.hid hb; have HO3 := Lib.hid (HIN.out.ho.below hQ); have HR3 := Lib.hid (HIN.out.ro.below hQ); have HB3 := Lib.hid (HIN.out.bel.trans (hQ.mono HIN.out.bel.size)); have HS3 := Lib.hid HB3.out.size; have HX3 := Lib.hid hQ.size; clear hb hP hQ m0 m1 m2 m3 m4)
          | (refine at_load 3 (.tmp 19) rfl ?_; refine wpList_load_one rfl 3 (.tmp 19) rfl wr.heap.size 2 rfl [.int .i64 x0, .int .i64 x1, .int .i64 x2, .int .i64 x3, .int .i64 x4] (.int .i64 x2) _ HBX.out rfl _ Try.underlying3 rfl ?_))
        go_roundg (l.length - (k + 1))
        case measure => have := HK.out; omega
        case rel => exact ⟨k + 1, H, R, by have := HK.out; omega, by go_num, by rw [HTK.out, aff_snoc, if_neg HXL.out, List.append_nil, ← HIN.out.he], by rw [HTK.out, rem_snoc, if_neg HXL.out, List.append_nil, ← HIN.out.re], HO3.out, HR3.out, HIN.out.ne, HB3.out⟩
    · have s1 : ¬ (k : Int) < l.length := by omega
      have hke : k = l.length := by omega
      have HE : Hid (H = a ++ affOf lot l) := Lib.hid (by rw [HIN.out.he, hke, List.take_length])
      have RE : Hid (R = remOf lot l) := Lib.hid (by rw [HIN.out.re, hke, List.take_length])
      clear hke
      go_wp2_with (first
        | (go_at_call 40; refine (delete_any w.heap.size _ H _ HIN.out.ho (by have := HLN.out; omega)).mono ?_; rintro e w6 ⟨v6, rfl, h6, hg6⟩; obtain ⟨A6, c6, rfl⟩ := h6.shape; have H6 := Lib.hid h6; have HR6 := Lib.hid (HIN.out.ro.kept hg6 (rows_or HIN.out.ne)); have HB6 := Lib.hid (HIN.out.bel.trans (Below.of_grown hg6 w.heap.size HIN.out.bel.size (fun g e => (HIN.out.ho.block_lt e).1))); clear h6 hg6)
        | (go_at_call 38; refine (without_any _ _ (H.filter fun x => !decide (x < 1)) R _ H6.out (IntsAt.of_own HR6.out (by have := HLN.out; omega)) (fun x hx => by have hx := (List.mem_filter.1 hx).1; rw [HE.out] at hx; rcases List.mem_append.1 hx with hx | hx; exact HWA.out x hx; exact wf_aff HWL.out x hx) (by rw [RE.out]; exact wf_rem HWL.out)).mono ?_; rintro e w7 ⟨v7, rfl, h7, hb7⟩; have H7 := Lib.hid h7; have HB7 := Lib.hid (HB6.out.trans (hb7.mono HB6.out.size)); clear h7 hb7))
      go_ret
      refine ⟨_, rfl, ?_, HB7.out⟩
      unfold sealsF
      rw [← HE.out, ← RE.out]
      exact H7.out
end Go.Proofs.Ytecmpkcjeaiknaa
