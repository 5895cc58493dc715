/- Contracts of slices.Clone at segments and at elements. -/
import Derived.Test.YtmjlnckmhdgoiaaGreatDoorQa
import Derived.Test.YtmjlnckmhdgoiaaGreatDoorLast
import Derived.Deep.DeepCutAuto
namespace Go.Proofs.YtmjlnckmhdgoiaaGreatDoor
open Go.RowKit
set_option linter.unusedVariables false

theorem OwnX.lit00 (w : World) (B : Nat) (e : TypeId) (size : Nat) (hB : B ≤ w.heap.size) : OwnX (w.alloc (.cells #[] e)) B e size (.slice (some ⟨w.heap.size, 0, none⟩) 0 0) 0 [] :=
  ⟨by simp, .inr ⟨w.heap.size, 0, 0, #[], rfl, hB, heap_alloc_new w _, Nat.le_refl _, Nat.zero_le _, by simp, fun j u h => by simp at h⟩⟩
theorem SegsAt.cellsOne {w : World} {B : Nat} {A : Option Addr} {l : List Seg} (h : SegsAt w B A l) : ∃ cs : List Value, cs.length = l.length * 2 ∧ RdB w B A cs ∧ (∀ u ∈ cs, u.oneCell' = true) ∧ ∀ (i : Nat) (s : Seg), l[i]? = some s → ∃ t v, cs[i * 2]? = some t ∧ cs[i * 2 + 1]? = some v ∧ SegAt w B t v s := by
  obtain ⟨cs, h1, h2, h3⟩ := h
  refine ⟨cs, h1, h2, fun u hu => ?_, h3⟩
  obtain ⟨j, hj, rfl⟩ := List.mem_iff_getElem.1 hu
  have hi : j / 2 < l.length := by omega
  obtain ⟨t, v, a, b, rfl, A', c', rfl, _⟩ := h3 (j / 2) _ (List.getElem?_eq_getElem hi)
  rcases (by omega : j = j / 2 * 2 ∨ j = j / 2 * 2 + 1) with e | e
  · rw [← e, List.getElem?_eq_getElem hj] at a
    injection a with a
    rw [a]
    rfl
  · rw [← e, List.getElem?_eq_getElem hj] at b
    injection b with b
    rw [b]
    rfl
def SegsCs (w : World) (B : Nat) (cs : List Value) (l : List Seg) : Prop := ∀ (i : Nat) (s : Seg), l[i]? = some s → ∃ t v, cs[i * 2]? = some t ∧ cs[i * 2 + 1]? = some v ∧ SegAt w B t v s
def ElsCs (w : World) (B : Nat) (cs : List Value) (l : List (List Bs)) : Prop := ∀ (i : Nat) (e : List Bs), l[i]? = some e → ∃ v, cs[i]? = some v ∧ ElAt w B v e
def CloneRet (w : World) (T : TypeId) (size n : Nat) (cs : List Value) (e : Ending) (w' : World) : Prop := ∃ v, e = .returned v ∧ OwnX w' w.heap.size T size v n cs ∧ Below w.heap.size w w'
set_option maxRecDepth 100000 in
set_option maxHeartbeats 1000000 in
theorem cloneSegs_any (A : Option Addr) (c : Nat) (l : List Seg) (w : World) (h : SegsAt w w.heap.size A l) (hl : l.length ≤ 1000000000) :
    ∃ cs : List Value, cs.length = l.length * 2 ∧ SegsCs w w.heap.size cs l ∧ Calls Tryz.prog 84 #[.slice A l.length c] w (CloneRet w 57 2 l.length cs) := by
  obtain ⟨cs, hcl, hr, h1, h2⟩ := h.cellsOne
  refine ⟨cs, hcl, h2, ?_⟩
  cases A with
  | none =>
    have hl0 : l = [] := by
      cases l with
      | nil => rfl
      | cons x r =>
        obtain ⟨t, v, ht, _⟩ := h2 0 x rfl
        obtain ⟨ad, e, _⟩ := hr _ _ ht
        cases e
    subst hl0
    have hc0 : cs = [] := List.eq_nil_of_length_eq_zero (by simpa using hcl)
    subst hc0
    clear hr h1 h2 hcl h
    have hnil := fun (W : World) => Lib.run_eql_slice_nil (P := Tryz.prog) W 27 57 none 0 c 0 0 Tryz.underlying27
    go_enter Tryz.func84, Tryz.ntmps84
    go_wp2
    go_ret
    exact ⟨_, rfl, OwnX.nil_ _ _ _ _, Below.refl _ _⟩
  | some ad =>
    have HL := Lib.hid (OwnX.lit00 w w.heap.size 57 2 (Nat.le_refl _))
    have q0 := (Below.refl w.heap.size w).alloc (Nat.le_refl _) (.cells #[] 57)
    have HR := Lib.hid (hr.below q0).rd
    have Q0 := Lib.hid q0
    have H1 := Lib.hid h1
    have HCL := Lib.hid hcl
    obtain ⟨i0, hi0, hz0, hz1, hz2⟩ := info_parts segInfo
    clear hr h1 h2 hcl h q0
    generalize hnn : l.length = n at *
    have hnil := fun (W : World) => Lib.run_eql_slice_nil (P := Tryz.prog) W 27 57 (some ad) n c 0 0 Tryz.underlying27
    clear hnn
    go_enter Tryz.func84, Tryz.ntmps84
    go_wp2_with (at_builtin; refine wpList_append_x (w.alloc (.cells #[] 57)) rfl (.tmp 5) (.tmp 6) 27 rfl w.heap.size 57 i0 _ 2 40 Tryz.underlying27 hi0 hz0 hz1 hz2 rfl (by omega) _ 0 [] rfl HL.out (some ad) n c cs rfl HCL.out HR.out H1.out (by unfold maxLen; omega) (by omega) (by simp) ?_; intro v2 w3 hown hgr _)
    go_ret
    have ho : OwnX w3 w.heap.size 57 2 v2 n cs := by simpa using hown
    exact ⟨v2, rfl, ho, Q0.out.trans ((Below.refl _ _).grown hgr (by simp) (fun k e => (HL.out.block_lt e).1))⟩
set_option maxRecDepth 100000 in
set_option maxHeartbeats 1000000 in
theorem cloneEls_any (B : Nat) {w : World} (hBw : B ≤ w.heap.size) (A : Option Addr) (c : Nat) (l : List (List Bs)) (h : ElsAt w B A l) (hl : l.length ≤ 5864062014805) :
    ∃ cs : List Value, cs.length = l.length ∧ ElsCs w B cs l ∧ Calls Tryz.prog 85 #[.slice A l.length c] w (CloneRet w 60 1 l.length cs) := by
  obtain ⟨cs, hcl, hr, h2⟩ := h
  refine ⟨cs, hcl, h2, ?_⟩
  have h1 : ∀ u ∈ cs, u.oneCell' = true := by
    intro u hu
    obtain ⟨i, hi, rfl⟩ := List.getElem_of_mem hu
    obtain ⟨v, hv, A', c', e, _⟩ := h2 i _ (List.getElem?_eq_getElem (by omega))
    rw [List.getElem?_eq_getElem hi] at hv
    injection hv with hv
    rw [hv, e]
    rfl
  cases A with
  | none =>
    have hl0 : l = [] := by
      cases l with
      | nil => rfl
      | cons x r =>
        obtain ⟨v, hv, _⟩ := h2 0 x rfl
        obtain ⟨ad, e, _⟩ := hr _ _ hv
        cases e
    subst hl0
    have hc0 : cs = [] := List.eq_nil_of_length_eq_zero (by simpa using hcl)
    subst hc0
    clear hr h1 h2 hcl
    have hnil := fun (W : World) => Lib.run_eql_slice_nil (P := Tryz.prog) W 55 60 none 0 c 0 0 Tryz.underlying55
    go_enter Tryz.func85, Tryz.ntmps85
    go_wp2
    go_ret
    exact ⟨_, rfl, OwnX.nil_ _ _ _ _, Below.refl _ _⟩
  | some ad =>
    have HL := Lib.hid (OwnX.lit00 w w.heap.size 60 1 (Nat.le_refl _))
    have q0 := (Below.refl w.heap.size w).alloc (Nat.le_refl _) (.cells #[] 60)
    have HR := Lib.hid (hr.below (q0.mono hBw)).rd
    have Q0 := Lib.hid q0
    have H1 := Lib.hid h1
    have HCL := Lib.hid hcl
    obtain ⟨i0, hi0, hz0, hz1, hz2⟩ := info_parts strsInfo
    clear hr h1 h2 hcl q0
    generalize hnn : l.length = n at *
    have hnil := fun (W : World) => Lib.run_eql_slice_nil (P := Tryz.prog) W 55 60 (some ad) n c 0 0 Tryz.underlying55
    clear hnn
    go_enter Tryz.func85, Tryz.ntmps85
    go_wp2_with (at_builtin; refine wpList_append_x (w.alloc (.cells #[] 60)) rfl (.tmp 5) (.tmp 6) 55 rfl w.heap.size 60 i0 _ 1 24 Tryz.underlying55 hi0 hz0 hz1 hz2 rfl (by omega) _ 0 [] rfl HL.out (some ad) n c cs rfl (by rw [HCL.out, Nat.mul_one]) HR.out H1.out (by unfold maxLen; omega) (by omega) (by simp) ?_; intro v2 w3 hown hgr _)
    go_ret
    have ho : OwnX w3 w.heap.size 60 1 v2 n cs := by simpa using hown
    exact ⟨v2, rfl, ho, Q0.out.trans ((Below.refl _ _).grown hgr (by simp) (fun k e => (HL.out.block_lt e).1))⟩
/-- a store into an own slice -/
theorem OwnX.setIn {w : World} {base : Nat} {e : TypeId} {size g off n cap : Nat} {xs : List Value} (h : OwnX w base e size (.slice (some ⟨g, off, none⟩) n cap) n xs) {k : Nat} (hk : k < xs.length) (x : Value) :
    OwnX (w.setCell ⟨g, off + k, none⟩ x) base e size (.slice (some ⟨g, off, none⟩) n cap) n (xs.set k x) := by
  refine ⟨by rw [List.length_set]; exact h.1, ?_⟩
  rcases h.2 with ⟨hv, _⟩ | ⟨g', off', cap', cur, hv, hb, hh, h1, h2, h3, h4⟩
  · cases hv
  · injection hv with e1 e2 e3
    injection e1 with e1
    injection e1 with e4 e5
    subst e3; subst e4; subst e5
    refine .inr ⟨g, off, cap, _, rfl, hb, heap_setCell_same w g (off + k) cur e x hh, h1, h2, by simpa using h3, fun j u hu => ?_⟩
    have hxl := h.1
    by_cases hj : j = k
    · subst hj
      rw [List.getElem?_set_self hk] at hu
      injection hu with hu
      subst hu
      have hlt := h4 j xs[j] (List.getElem?_eq_getElem hk)
      have := (Array.getElem?_eq_some_iff.1 hlt).1
      rw [Array.getElem?_setIfInBounds, if_pos rfl, if_pos this]
    · rw [List.getElem?_set_ne (fun e => hj e.symm)] at hu
      rw [Array.getElem?_setIfInBounds, if_neg (by omega)]
      exact h4 j u hu
theorem OwnX.setOut {w : World} {base : Nat} {e : TypeId} {size n : Nat} {v : Value} {xs : List Value} (h : OwnX w base e size v n xs) {p : Addr} (hp : v.ownBlock ≠ some p.block) (x : Value) : OwnX (w.setCell p x) base e size v n xs := by
  refine ⟨h.1, ?_⟩
  rcases h.2 with h2 | ⟨g, off, cap, cur, rfl, hb, hh, r⟩
  · exact .inl h2
  · refine .inr ⟨g, off, cap, cur, rfl, hb, ?_, r⟩
    rw [Below.heap_setCell w p x g (by
      intro e2
      apply hp
      simp only [Value.ownBlock]
      rw [e2])]
    exact hh
/-- an own slice that is not empty: where it lies -/
theorem OwnX.place {w : World} {base : Nat} {e : TypeId} {size n : Nat} {v : Value} {xs : List Value} (h : OwnX w base e size v n xs) (hn : 0 < n) : ∃ g off cap, v = .slice (some ⟨g, off, none⟩) n cap ∧ base ≤ g ∧ g < w.heap.size ∧ n ≤ cap ∧ ∀ j u, xs[j]? = some u → w.cell? ⟨g, off + j, none⟩ = some u ∧ w.frozen? ⟨g, off + j, none⟩ = false := by
  rcases h.2 with ⟨_, h0⟩ | ⟨g, off, cap, cur, hv, hb, hh, h1, h2, h3, h4⟩
  · omega
  · exact ⟨g, off, cap, hv, hb, lt_of_block hh, h1, fun j u hu => ⟨by rw [cell_of_row _ _ _ _ _ _ hh]; exact h4 j u hu, frozen_of_row _ _ _ _ _ hh⟩⟩
theorem SegsCs.at_ {w w' : World} {v : Value} {l : List Seg} {cs : List Value} (ho : OwnX w' w.heap.size 57 2 v l.length cs) (hcl : cs.length = l.length * 2) (hc : SegsCs w w.heap.size cs l) (hb : Below w.heap.size w w') : ∃ A c, v = .slice A l.length c ∧ SegsAt w' w'.heap.size A l := by
  obtain ⟨A, c, rfl, hr, _, _⟩ := ho.shape
  exact ⟨A, c, rfl, cs, hcl, RdB.of_rd hr, fun i s hs => by
    obtain ⟨t, u, h1, h2, h3⟩ := hc i s hs
    exact ⟨t, u, h1, h2, (h3.below hb).mono hb.size⟩⟩
end Go.Proofs.YtmjlnckmhdgoiaaGreatDoor

/-! Contract of message.counted. -/
namespace Go.Proofs.YtmjlnckmhdgoiaaGreatDoor
open Go.RowKit
set_option linter.unusedVariables false

def CntRet (w : World) (L : List Seg) (e : Ending) (w' : World) : Prop := ∃ A c, e = .returned (.slice A L.length c) ∧ SegsAt w' w'.heap.size A L ∧ Below w.heap.size w w'
theorem last_of {l : List Seg} (h : l.length ≠ 0) : ∃ (K : Nat) (s : Seg), K + 1 = l.length ∧ l[K]? = some s ∧ l.getLast? = some s ∧ l = l.dropLast ++ [s] ∧ l.dropLast.length = K := by
  have hne : l ≠ [] := by rintro rfl; simp at h
  refine ⟨l.length - 1, l.getLast hne, by omega, ?_, List.getLast?_eq_some_getLast hne, (List.dropLast_concat_getLast hne).symm, by simp⟩
  rw [List.getElem?_eq_getElem (by omega)]
  congr 1
  rw [List.getLast_eq_getElem]
/-- the list with its last segment's first element anew, in its memory -/
theorem counted_mem {w W' : World} {l : List Seg} {K : Nat} {s : Seg} {cs es : List Value} {g off cap g2 off2 cap2 : Nat} {An : Option Addr} {cn : Nat}
    (hK : K + 1 = l.length) (hs : l[K]? = some s) (hd : l = l.dropLast ++ [s]) (hcl : cs.length = l.length * 2) (hcs : SegsCs w w.heap.size cs l) (hel : es.length = s.els.length) {w1 : World} (hes : ElsCs w1 w.heap.size es s.els) (hb1 : Below w.heap.size w1 W') (hpos : 0 < s.els.length)
    (hb : Below w.heap.size w W') (hsz : w.heap.size ≤ W'.heap.size)
    (ho : OwnX W' w.heap.size 57 2 (.slice (some ⟨g, off, none⟩) l.length cap) l.length (cs.set (K * 2 + 1) (.slice (some ⟨g2, off2, none⟩) s.els.length cap2)))
    {base2 : Nat} (ho2 : OwnX W' base2 60 1 (.slice (some ⟨g2, off2, none⟩) s.els.length cap2) s.els.length (es.set 0 (.slice An 1 cn))) (hn : ElAt W' W'.heap.size (.slice An 1 cn) (elN (l.length : Int))) :
    SegsAt W' W'.heap.size (some ⟨g, off, none⟩) (l.dropLast ++ [⟨s.tag, s.els.set 0 (elN (l.length : Int))⟩]) := by
  have hdl : l.dropLast.length = K := by simp; omega
  obtain ⟨_, _, e, hr, _, _⟩ := ho.shape
  injection e with e _ _
  subst e
  obtain ⟨_, _, e, hr2, _, _⟩ := ho2.shape
  injection e with e _ _
  subst e
  refine ⟨cs.set (K * 2 + 1) (.slice (some ⟨g2, off2, none⟩) s.els.length cap2), by rw [List.length_set, hcl, List.length_append, hdl, List.length_singleton]; omega, RdB.of_rd hr, fun i x hx => ?_⟩
  by_cases hi : i < K
  · rw [List.getElem?_append_left (by omega)] at hx
    have hx2 : l[i]? = some x := by
      rw [hd, List.getElem?_append_left (by omega)]
      exact hx
    obtain ⟨t, u, h1, h2, h3⟩ := hcs i x hx2
    refine ⟨t, u, ?_, ?_, (h3.below hb).mono hsz⟩
    · rw [List.getElem?_set_ne (by omega)]; exact h1
    · rw [List.getElem?_set_ne (by omega)]; exact h2
  · have hiK : i = K := by
      have := (List.getElem?_eq_some_iff.1 hx).1
      rw [List.length_append, hdl, List.length_singleton] at this
      omega
    subst hiK
    rw [List.getElem?_append_right (by omega), hdl, Nat.sub_self] at hx
    simp only [List.getElem?_cons_zero, Option.some.injEq] at hx
    subst hx
    obtain ⟨t, u, h1, h2, h3⟩ := hcs _ s hs
    refine ⟨t, _, ?_, List.getElem?_set_self (by omega), h3.1, _, cap2, by rw [List.length_set], es.set 0 (.slice An 1 cn), by simpa using hel, RdB.of_rd hr2, fun j y hy => ?_⟩
    · rw [List.getElem?_set_ne (by omega)]; exact h1
    · by_cases hj : j = 0
      · subst hj
        rw [List.getElem?_set_self (by omega)] at hy
        injection hy with hy
        subst hy
        exact ⟨_, List.getElem?_set_self (by omega), hn⟩
      · rw [List.getElem?_set_ne (by omega)] at hy
        obtain ⟨z, z1, z2⟩ := hes j y hy
        exact ⟨z, by rw [List.getElem?_set_ne (by omega)]; exact z1, (z2.below hb1).mono hsz⟩
theorem cnt_same {w W1 : World} {l : List Seg} {n g off cap : Nat} {cs : List Value} (hx : countF l = l) (hn : l.length = n) (ho : OwnX W1 w.heap.size 57 2 (.slice (some ⟨g, off, none⟩) n cap) n cs) (hcl : cs.length = n * 2) (hcs : SegsCs w w.heap.size cs l) (hb : Below w.heap.size w W1) :
    CntRet w (countF l) (.returned (.slice (some ⟨g, off, none⟩) n cap)) W1 := by
  subst hn
  obtain ⟨A1, c1, e, hat⟩ := SegsCs.at_ ho hcl hcs hb
  exact ⟨A1, c1, by rw [e, hx], by rw [hx]; exact hat, hb⟩
theorem OwnX.placed {w : World} {base : Nat} {e : TypeId} {size n g off cap : Nat} {xs : List Value} (h : OwnX w base e size (.slice (some ⟨g, off, none⟩) n cap) n xs) : g < w.heap.size ∧ ∀ j u, xs[j]? = some u → w.cell? ⟨g, off + j, none⟩ = some u ∧ w.frozen? ⟨g, off + j, none⟩ = false := by
  rcases h.2 with ⟨hv, _⟩ | ⟨g', off', cap', cur, hv, hb, hh, h1, h2, h3, h4⟩
  · cases hv
  · injection hv with e1 e2 e3
    injection e1 with e1
    injection e1 with e4 e5
    subst e3; subst e4; subst e5
    exact ⟨lt_of_block hh, fun j u hu => ⟨by rw [cell_of_row _ _ _ _ _ _ hh]; exact h4 j u hu, frozen_of_row _ _ _ _ _ hh⟩⟩
theorem own_belowX {w w' : World} {base : Nat} {e : TypeId} {size n : Nat} {v : Value} {xs : List Value} (h : OwnX w base e size v n xs) (hb : Below w.heap.size w w') : OwnX w' base e size v n xs := h.below hb
set_option maxRecDepth 100000 in
set_option maxHeartbeats 8000000 in
theorem counted_any (A : Option Addr) (c : Nat) (l : List Seg) (w : World) (h : SegsAt w w.heap.size A l) (hl : l.length ≤ 1000000000) (hf : ∀ s ∈ l, SFit s) (ht : Tab w) :
    Calls Tryz.prog 61 #[.slice A l.length c] w (CntRet w (countF l)) := by
  obtain ⟨cs, hcl, hcs, hcall⟩ := cloneSegs_any A c l w h hl
  have HC := Lib.hid hcall
  unfold CloneRet at HC
  clear hcall
  by_cases h0 : l.length = 0
  · have he : l = [] := List.eq_nil_of_length_eq_zero h0
    subst he
    have HCS := Lib.hid hcs
    have HCL := Lib.hid hcl
    clear hcl hcs hf h ht
    go_enter Tryz.func61, Tryz.ntmps61
    go_wp2_with fail
    refine HC.out.mono ?_
    rintro e W1 ⟨v, rfl, ho, hb⟩
    obtain ⟨A1, c1, e, hat⟩ := SegsCs.at_ ho HCL.out HCS.out hb
    have HB := Lib.hid hb
    have HAT := Lib.hid hat
    have e : v = .slice A1 0 c1 := e
    subst e
    clear hb hat ho HC HCS HCL
    go_wp2
    go_ret
    exact ⟨A1, c1, rfl, HAT.out, HB.out⟩
  · obtain ⟨K, s, hK, hs, hlast, hd, hdl⟩ := last_of h0
    obtain ⟨t_, u_, hct, hcu, hseg⟩ := hcs K s hs
    obtain ⟨rfl, Ae, ce, rfl, hels⟩ := hseg
    have hsf := hf s (List.mem_of_getElem? hs)
    have HSF := Lib.hid hsf
    have HCS := Lib.hid hcs
    have HCL := Lib.hid hcl
    have HELS := Lib.hid hels
    have HKK := Lib.hid hK
    have HS := Lib.hid hs
    have HD := Lib.hid hd
    have HCT := Lib.hid hct
    have HCU := Lib.hid hcu
    have HT := Lib.hid ht
    have hsn := hsf.n
    have hcnt : countF l = if s.tag = tEND ∧ 0 < s.els.length then l.dropLast ++ [⟨s.tag, s.els.set 0 (elN (l.length : Int))⟩] else l := by unfold countF; rw [hlast]
    have HCNT := Lib.hid hcnt
    have hlen : (countF l).length = l.length := by
      rw [hcnt]
      split
      · rw [List.length_append, hdl, List.length_singleton]; exact hK
      · rfl
    have HLEN := Lib.hid hlen
    clear hcl hcs hf h ht hs hlast hd hdl hels hsf hct hcu hcnt hlen
    generalize hnn : l.length = n at *
    have HNN := Lib.hid hnn
    have hsub : (n : Int) - 1 = (K : Int) := by omega
    have hKn : K < n := by omega
    have hKn2 : (K : Int) < (n : Int) := by omega
    have hn0 : ((n : Int) == 0) = false := by simp; omega
    clear hnn h0
    go_enter Tryz.func61, Tryz.ntmps61
    go_wp2_with fail
    refine HC.out.mono ?_
    rintro e W1 ⟨v, rfl, ho, hb⟩
    obtain ⟨g, off, cap, rfl, hg1, hg2, hcap, hcell⟩ := ho.place (by omega)
    have hc1 := (hcell _ _ HCT.out).1
    have hc2 : W1.cell? ⟨g, off + K * 2 + 1, none⟩ = some (.slice Ae s.els.length ce) := (hcell _ _ HCU.out).1
    have hf2 : W1.frozen? ⟨g, off + K * 2 + 1, none⟩ = false := (hcell _ _ HCU.out).2
    have HO := Lib.hid ho
    have HB := Lib.hid hb
    clear ho hb hcell HC hK
    unfold str at hc1
    by_cases hT : s.tag = tEND
    · by_cases hE : 0 < s.els.length
      · obtain ⟨es, hel, hes, hce⟩ := cloneEls_any w.heap.size HB.out.size Ae ce s.els (HELS.out.below HB.out) hsn
        have HCE := Lib.hid hce
        unfold CloneRet at HCE
        have HEL := Lib.hid hel
        have HES := Lib.hid hes
        have HX := Lib.hid (HCNT.out.trans (if_pos ⟨hT, hE⟩))
        replace hc1 : W1.cell? ⟨g, off + K * 2, none⟩ = some (.string ⟨#[69, 78, 68]⟩) := by
          have := hc1
          rw [hT] at this
          exact this
        have hE2 : (0 : Int) < (s.els.length : Int) := by omega
        have HE := Lib.hid hE
        clear hce hel hes hT
        generalize hne : s.els.length = ne at *
        have HNE := Lib.hid hne
        clear hne
        go_wp2_with fail
        refine HCE.out.mono ?_
        rintro e W2 ⟨v2, rfl, ho2, hb2⟩
        obtain ⟨g2, off2, cap2, rfl, hg3, hg4, hcap2, hcell2⟩ := ho2.place hE
        have hd2 := (hb2.cell (p := ⟨g, off + K * 2 + 1, none⟩) hg2).trans hc2
        have he2 := (hb2.frozen (p := ⟨g, off + K * 2 + 1, none⟩) hg2).trans hf2
        have HP1 := Lib.hid ((own_belowX HO.out hb2).setIn (k := K * 2 + 1) (by rw [HCL.out]; omega) (.slice (some ⟨g2, off2, none⟩) ne cap2))
        have HP2 := Lib.hid (ho2.setOut (p := ⟨g, off + K * 2 + 1, none⟩) (by simp only [Value.ownBlock]; intro e; injection e with e; omega) (.slice (some ⟨g2, off2, none⟩) ne cap2))
        have HB2 := Lib.hid ((HB.out.trans (hb2.mono HB.out.size)).setCell (p := ⟨g, off + K * 2 + 1, none⟩) hg1 (.slice (some ⟨g2, off2, none⟩) ne cap2))
        have hgl : g < W2.heap.size := Nat.lt_of_lt_of_le hg2 hb2.size
        have HB12 := Lib.hid ((hb2.mono HB.out.size).setCell (p := ⟨g, off + K * 2 + 1, none⟩) hg1 (.slice (some ⟨g2, off2, none⟩) ne cap2))
        clear ho2 hb2 hcell2 HO HCE hc1 hc2 hf2
        go_upto_region 7 with (fail)
        have hset : (W2.setCell ⟨g, off + K * 2 + 1, none⟩ (.slice (some ⟨g2, off2, none⟩) ne cap2)).cell? ⟨g, off + K * 2 + 1, none⟩ = some (.slice (some ⟨g2, off2, none⟩) ne cap2) := World.cell?_setCell_same _ _ _ hd2
        generalize (W2.setCell ⟨g, off + K * 2 + 1, none⟩ (.slice (some ⟨g2, off2, none⟩) ne cap2)) = W3 at *
        have HS : Hid (W3.drew.cell? ⟨g, off + K * 2 + 1, none⟩ = some (.slice (some ⟨g2, off2, none⟩) ne cap2)) := hset
        have HT3 := Lib.hid (HT.out.below HB2.out)
        refine wp_region_x 8 (by kernel_rfl) (fun W => W.cell? ⟨g, off + K * 2 + 1, none⟩ = some (.slice (some ⟨g2, off2, none⟩) ne cap2)) ?_
        refine wpAnyX_take (i := 0) (v := .pointer (some ⟨g, off + K * 2, none⟩)) rfl (by kernel_rfl) (by kernel_rfl) (by kernel_rfl) (by kernel_rfl) (fun _ _ _ h => h) HS.out (Or.inl ⟨by rfl, fun w hS => by go_simp⟩) ?_
        go_simp
        refine wpAnyX_take (i := 1) (v := .pointer (some ⟨g, off + K * 2, none⟩)) rfl (by kernel_rfl) (by kernel_rfl) (by kernel_rfl) (by kernel_rfl) (fun _ _ _ h => h) HS.out (Or.inl ⟨by rfl, fun w hS => by go_simp⟩) ?_
        go_simp
        refine wpAnyX_take (i := 2) (v := .pointer (some ⟨g, off + K * 2 + 1, none⟩)) rfl (by kernel_rfl) (by kernel_rfl) (by kernel_rfl) (by kernel_rfl) (fun _ _ _ h => h) HS.out (Or.inl ⟨by rfl, fun w hS => by go_simp⟩) ?_
        go_simp
        refine wpAnyX_take (i := 3) (v := .slice (some ⟨g2, off2, none⟩) ne cap2) rfl (by kernel_rfl) (by kernel_rfl) (by kernel_rfl) (by kernel_rfl) (fun _ _ _ h => h) HS.out (Or.inl ⟨by rfl, fun w hS => by go_simp⟩) ?_
        go_simp
        refine wpAnyX_take (i := 4) (v := .slice (some ⟨g, off, none⟩) n cap) rfl (by kernel_rfl) (by kernel_rfl) (by kernel_rfl) (by kernel_rfl) (fun _ _ _ h => h) HS.out (Or.inl ⟨by rfl, fun w hS => by go_simp⟩) ?_
        go_simp
        refine wpAnyX_take (i := 5) (v := .int .i64 (n : Int)) rfl (by kernel_rfl) (by kernel_rfl) (by kernel_rfl) (by kernel_rfl) (fun _ _ _ h => h) HS.out (Or.inl ⟨by rfl, fun w hS => by go_simp⟩) ?_
        go_simp
        have hp1 := HP1.out.placed
        have hg3l := hp1.1
        have hg4l := HP2.out.placed.1
        have hq := HP2.out.placed.2 0 _ (List.getElem?_eq_getElem (show 0 < es.length by rw [HEL.out]; exact HE.out))
        have HQ := Lib.hid hq
        clear hp1 hq
        refine wpAnyX_one (i := 6) (by kernel_rfl) rfl (fun J hJ => ?_)
        go_simp
        go_wp2_with (go_at_call 46; refine (number_any (n : Int) (by omega) (by omega) W3.drew HT3.out).mono ?_; rintro e W4 ⟨An, cn, rfl, hon, hb4⟩)
        have hb4 : Below W3.heap.size W3 W4 := ⟨hb4.os, hb4.tape, hb4.output, hb4.size, hb4.block⟩
        have hk4 := (hb4.cell (p := ⟨g, off + K * 2 + 1, none⟩) hg3l).trans hset
        have HP14 := Lib.hid (own_belowX HP1.out hb4)
        have HP24 := Lib.hid (own_belowX HP2.out hb4)
        have HB14 := Lib.hid (HB12.out.trans (hb4.mono HB2.out.size))
        have HB4 := Lib.hid (HB2.out.trans (hb4.mono HB2.out.size))
        have hz0 := (hb4.cell (p := ⟨g2, off2, none⟩) hg4l).trans HQ.out.1
        have hz1 := (hb4.frozen (p := ⟨g2, off2, none⟩) hg4l).trans HQ.out.2
        have HON := Lib.hid hon
        have HSZ3 := Lib.hid hb4.size
        refine hJ.out _ _ (fun _ => hk4) ?_
        clear hJ J HS hset HP1 HP2 HB2 hb4 HT3 hd2 he2
        refine wpAnyX_one (i := 7) (by kernel_rfl) rfl (fun J hJ => ?_)
        go_simp
        refine hJ.out _ _ (fun _ => hk4) ?_
        clear hJ J
        refine wpAnyX_one (i := 8) (by kernel_rfl) rfl (fun J hJ => ?_)
        go_simp
        refine hJ.out _ _ (fun h => absurd rfl h) ?_
        clear hJ J
        refine wpAnyX_done (by kernel_rfl) ?_
        go_wp2
        go_ret
        have hon : OwnStr W4 W3.heap.size (.slice An 1 cn) (elN (n : Int)) := HON.out
        have hgne : g ≠ g2 := by omega
        have k1 := HP14.out.setOut (p := ⟨g2, off2, none⟩) (by simp only [Value.ownBlock]; intro e; injection e with e; exact hgne e) (.slice An 1 cn)
        have k2 := HP24.out.setIn (k := 0) (by rw [HEL.out]; exact HE.out) (.slice An 1 cn)
        have k3 := HB4.out.setCell (p := ⟨g2, off2, none⟩) (by have := HB.out.size; simp only; omega) (.slice An 1 cn)
        have k5 := HB14.out.setCell (p := ⟨g2, off2, none⟩) (by have := HB.out.size; simp only; omega) (.slice An 1 cn)
        have k4 : ElAt (W4.setCell ⟨g2, off2, none⟩ (.slice An 1 cn)) (W4.setCell ⟨g2, off2, none⟩ (.slice An 1 cn)).heap.size (.slice An 1 cn) (elN (n : Int)) := by
          obtain ⟨A7, c7, e, hr, _⟩ := own_shape (own_set hon (p := ⟨g2, off2, none⟩) hg4l (.slice An 1 cn))
          injection e with e1 _ e3
          subst e1; subst e3
          exact ⟨An, cn, rfl, hr⟩
        refine ⟨some ⟨g, off, none⟩, cap, by rw [HLEN.out]; rfl, ?_, k3⟩
        rw [HX.out]
        have hnn := HNN.out
        have hne := HNE.out
        subst hnn
        subst hne
        exact counted_mem HKK.out HS.out HD.out HCL.out HCS.out HEL.out HES.out k5 HE.out k3 k3.size k1 k2 k4
      · have HX := Lib.hid (HCNT.out.trans (if_neg (fun h => hE h.2)))
        replace hc1 : W1.cell? ⟨g, off + K * 2, none⟩ = some (.string ⟨#[69, 78, 68]⟩) := by
          have := hc1
          rw [hT] at this
          exact this
        have hE2 : ¬ (0 : Int) < (s.els.length : Int) := by omega
        clear hT
        generalize s.els.length = ne at *
        go_wp2
        go_ret
        exact cnt_same HX.out HNN.out HO.out HCL.out HCS.out HB.out
    · have hTf : (s.tag == [69, 78, 68]) = false := by simpa [tEND] using hT
      have HX := Lib.hid (HCNT.out.trans (if_neg (fun h => hT h.1)))
      generalize s.tag = tg at *
      generalize s.els.length = ne at *
      clear hT
      go_wp2
      go_ret
      exact cnt_same HX.out HNN.out HO.out HCL.out HCS.out HB.out
end Go.Proofs.YtmjlnckmhdgoiaaGreatDoor
