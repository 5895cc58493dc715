/- Contracts of message.number, text and (*writer).put. -/
import Derived.Test.YtmjlnckmhdgoiaaGreatDoorShelf
import Derived.Test.YtmjlnckmhdgoiaaGreatDoorMf
import Derived.Test.YtmjlnckmhdgoiaaGreatDoorSp
namespace Go.Proofs.YtmjlnckmhdgoiaaGreatDoor
open Go.RowKit
set_option linter.unusedVariables false

/-- the table that strconv.Itoa reads -/
def Tab (w : World) : Prop := Lib.TabIs Tryz.prog w "internal/strconv.uint64pow10" .u64 Lib.pow10Tab
theorem tabGlobal : Tryz.prog.globalNamed "internal/strconv.uint64pow10" = some 1 := by kernel_rfl
theorem Tab.lt {w : World} (h : Tab w) : 1 < w.heap.size := by
  unfold Tab Lib.TabIs World.var? at h
  rw [tabGlobal] at h
  simp only [Option.bind_some] at h
  rcases Nat.lt_or_ge 1 w.heap.size with h' | h'
  · exact h'
  · rw [Array.getElem?_eq_none h'] at h; cases h
theorem Tab.of_block {w w' : World} (h : Tab w) (hb : w'.heap[1]? = w.heap[1]?) : Tab w' := by
  unfold Tab Lib.TabIs World.var? at *
  rw [tabGlobal] at h ⊢
  simp only [Option.bind_some] at h ⊢
  rw [hb]; exact h
theorem Tab.below {w w' : World} (h : Tab w) (hb : Below w.heap.size w w') : Tab w' := h.of_block (hb.block _ h.lt)
theorem grow_below (w : World) (k : Nat) (os : Array Obj) : Below w.heap.size w (Go.Sort.grow (w.drewN k) os) :=
  ⟨rfl, rfl, rfl, by show w.heap.size ≤ (w.heap ++ os).size; simp, fun i hi => by show (w.heap ++ os)[i]? = _; exact Array.getElem?_append_left hi⟩
theorem itoa_any (n : Int) (h0 : -9223372036854775808 ≤ n) (h1 : n ≤ 9223372036854775807) (w : World) (ht : Tab w) :
    Calls Tryz.prog 71 #[.int .i64 n] w fun e w' => e = .returned (.string ⟨(Lib.itoa n).toArray⟩) ∧ Below w.heap.size w w' :=
  (Tryz.strconv_Itoa n h0 h1 w ht).mono fun e w' ⟨he, k, os, hw⟩ => ⟨he, by rw [hw]; exact grow_below w k os⟩
/-- an element of one component, or none -/
def elT (s : Bs) : List Bs := if s = [] then [] else [s]
def elN (n : Int) : List Bs := [Lib.itoa n]
def ElRet (w : World) (l : List Bs) (e : Ending) (w' : World) : Prop := ∃ A c, e = .returned (.slice A l.length c) ∧ OwnStr w' w.heap.size (.slice A l.length c) l ∧ Below w.heap.size w w'
theorem own_one (w : World) (s : Bs) (B : Nat) (hB : B ≤ w.heap.size) : OwnStr (w.alloc (.cells #[.string ⟨s.toArray⟩] 9)) B (.slice (some ⟨w.heap.size, 0, none⟩) 1 1) [s] :=
  own_new w [.string ⟨s.toArray⟩] 9 1 1 B (by unfold maxLen; omega) rfl hB
theorem number_any (n : Int) (h0 : -9223372036854775808 ≤ n) (h1 : n ≤ 9223372036854775807) (w : World) (ht : Tab w) :
    Calls Tryz.prog 46 #[.int .i64 n] w (ElRet w (elN n)) := by
  have HI := Lib.hid (itoa_any n h0 h1 w ht)
  have HE : Hid (elN n = [Lib.itoa n]) := rfl
  generalize Lib.itoa n = s at HI HE
  go_enter Tryz.func46, Tryz.ntmps46
  go_wp2_with fail
  refine HI.out.mono ?_
  rintro e w1 ⟨rfl, hb1⟩
  go_wp2_with fail
  go_ret
  rw [HE.out]
  exact ⟨_, 1, rfl, own_one w1 s w.heap.size hb1.size, hb1.alloc hb1.size _⟩
theorem textE_any (s : Bs) (w : World) : Calls Tryz.prog 79 #[.string ⟨s.toArray⟩] w (ElRet w (elT s)) := by
  by_cases h : s = []
  · subst h
    go_enter Tryz.func79, Tryz.ntmps79
    go_wp2_with fail
    go_ret
    exact ⟨none, 0, rfl, OwnStr.nil_ _ _, Below.refl _ _⟩
  · have HE : Hid (elT s = [s]) := by show _ = _; unfold elT; rw [if_neg h]
    have h2 : s.isEmpty = false := by simpa using h
    go_enter Tryz.func79, Tryz.ntmps79
    go_wp2_with fail
    go_ret
    rw [HE.out]
    exact ⟨_, 1, rfl, own_one w s w.heap.size (Nat.le_refl _), (Below.refl _ _).alloc (Nat.le_refl _) _⟩
theorem own_block {w : World} {B : Nat} {e : TypeId} {size n : Nat} {v : Value} {xs : List Value} (h : w.ownsRow B e size v n xs) {k : Nat} (hk : v.ownBlock = some k) : ∃ cur, w.heap[k]? = some (.cells cur e (0, 0)) ∧ B ≤ k := by
  rcases h.2 with ⟨hv, _⟩ | ⟨g', cap, cur, hv, hbb, hh, _⟩
  · subst hv
    simp [Value.ownBlock] at hk
  · subst hv
    simp only [Value.ownBlock, Option.some.injEq] at hk
    subst hk
    exact ⟨cur, hh, hbb⟩
/-- what a put may turn: the writer's block gw, and rows of segments from B on -/
structure Put (gw B : Nat) (w w' : World) : Prop where
  os : w'.os = w.os
  tape : w'.tape = w.tape
  output : w'.output = w.output
  size : w.heap.size ≤ w'.heap.size
  block : ∀ k, k < w.heap.size → k ≠ gw → (k < B ∨ ∀ cs fr, w.heap[k]? ≠ some (.cells cs 57 fr)) → w'.heap[k]? = w.heap[k]?
section
variable {w w' w'' : World} {gw B : Nat}
theorem Put.refl (gw B : Nat) (w : World) : Put gw B w w := ⟨rfl, rfl, rfl, Nat.le_refl _, fun _ _ _ _ => rfl⟩
theorem Put.trans (h : Put gw B w w') (k : Put gw B w' w'') : Put gw B w w'' :=
  ⟨k.os.trans h.os, k.tape.trans h.tape, k.output.trans h.output, Nat.le_trans h.size k.size, fun j hj hne hc => by
    have e := h.block j hj hne hc
    refine (k.block j (Nat.lt_of_lt_of_le hj h.size) hne ?_).trans e
    rcases hc with hc | hc
    · exact .inl hc
    · exact .inr fun cs fr => by rw [e]; exact hc cs fr⟩
theorem Put.of_below (h : Below w.heap.size w w') : Put gw B w w' := ⟨h.os, h.tape, h.output, h.size, fun k hk _ _ => h.block k hk⟩
theorem Put.below (h : Put gw B w w') (hB : gw ≤ B) (hw : gw ≤ w.heap.size) : Below gw w w' := ⟨h.os, h.tape, h.output, h.size, fun k hk => h.block k (by omega) (by omega) (.inl (by omega))⟩
theorem Put.drew (h : Put gw B w w') : Put gw B w w'.drew := ⟨h.os, h.tape, h.output, h.size, h.block⟩
theorem Put.msg {g : Nat} {m : Msg} {A : Option Addr} {c : Nat} (h : Put gw B w w') (hm : MBlk w g m A c) (hg : g ≠ gw) : MBlk w' g m A c := by
  have := h.block g hm.lt hg (.inr fun cs fr e => by
    unfold MBlk at hm
    rw [hm] at e
    injection e with e
    injection e with _ e
    exact absurd e (by decide))
  unfold MBlk at *
  rw [this]; exact hm
theorem Put.own (h : Put gw B w w') {e : TypeId} {size n B' : Nat} {v : Value} {xs : List Value} (ho : w.ownsRow B' e size v n xs) (he : e ≠ 57) (hg : gw < B') : w'.ownsRow B' e size v n xs := by
  refine ⟨ho.1, ?_⟩
  rcases ho.2 with h2 | ⟨g, cap, cur, hv, hb, hh, r⟩
  · exact .inl h2
  · refine .inr ⟨g, cap, cur, hv, hb, ?_, r⟩
    rw [h.block g (lt_of_block hh) (by omega) (.inr fun cs fr e2 => by
      rw [hh] at e2
      injection e2 with e2
      injection e2 with _ e2
      exact he e2)]
    exact hh
theorem Put.tab (h : Put gw B w w') (ht : Tab w) (hg : 1 < gw) (hB : gw ≤ B) : Tab w' := ht.of_block (h.block _ ht.lt (by omega) (.inl (by omega)))
theorem Put.str (h : Put gw B w w') {B' : Nat} {v : Value} {e : List Bs} (ho : OwnStr w B' v e) (hg : gw < B') : OwnStr w' B' v e := h.own ho (by decide) hg
theorem Put.els (h : Put gw B w w') {B' : Nat} {v : Value} {l : List (List Bs)} (ho : ElsOwn w B' v l) (hg : gw < B') : ElsOwn w' B' v l := by
  obtain ⟨cs, h1, h2⟩ := ho
  exact ⟨cs, h.own h1 (by decide) hg, fun i e he => by obtain ⟨u, a, b⟩ := h2 i e he; exact ⟨u, a, h.str b hg⟩⟩
end
/-- the writer in block gw, with the segments that it has collected -/
def WS (w : World) (gw B : Nat) (l : List Seg) : Prop := ∃ v, w.heap[gw]? = some (.cells #[v] 81 (0, 0)) ∧ SegsOwn w B v l ∧ gw < B ∧ B ≤ w.heap.size
theorem WS.below {w w' : World} {gw B : Nat} {l : List Seg} (h : WS w gw B l) (hb : Below w.heap.size w w') : WS w' gw B l := by
  obtain ⟨v, h1, h2, h3, h4⟩ := h
  exact ⟨v, (hb.block gw (lt_of_block h1)).trans h1, h2.below hb, h3, Nat.le_trans h4 hb.size⟩
set_option maxRecDepth 100000 in
set_option maxHeartbeats 1000000 in
theorem put_any (gw B : Nat) (l : List Seg) (t : Bs) (A : Option Addr) (c : Nat) (els : List (List Bs)) (w : World) (h : WS w gw B l) (he : ElsOwn w B (.slice A els.length c) els) (hl : l.length ≤ 1000000) :
    Calls Tryz.prog 45 #[.pointer (some ⟨gw, 0, none⟩), .string ⟨t.toArray⟩, .slice A els.length c] w fun e w' => e = .returned (.tuple #[]) ∧ WS w' gw B (l ++ [⟨t, els⟩]) ∧ Put gw B w w' := by
  obtain ⟨v, h1, h2, h3, h4⟩ := h
  have hc0 : w.cell? ⟨gw, 0, none⟩ = some v := by rw [cell_of_row _ _ _ _ _ _ h1]; rfl
  have hf0 : w.frozen? ⟨gw, 0, none⟩ = false := frozen_of_row _ _ _ _ _ h1
  obtain ⟨ecs, ho1, ho2⟩ := h2
  have HO2 := Lib.hid ho2
  have HH1 := Lib.hid h1
  have HE := Lib.hid he
  obtain ⟨i0, hi0, hz0, hz1, hz2⟩ := info_parts segInfo
  obtain ⟨Av, cv, rfl, _, _⟩ := own_shape ho1
  have hgl := lt_of_block h1
  clear ho2 h1 he
  go_enter Tryz.func45, Tryz.ntmps45
  go_wp2_with (at_builtin; refine wpList_append_new w rfl (.tmp 10) (.tmp 14) 27 rfl B 57 i0 _ 2 40 Tryz.underlying27 hi0 hz0 hz1 hz2 rfl (by omega) _ l.length ecs [.string ⟨t.toArray⟩, .slice A els.length c] rfl (by simp [Value.oneCell']) rfl ho1 rfl (by unfold maxLen; omega) (by omega) h4 ?_; intro v5 w5 hown5 hb5 _ hg5; have hc5 := (hb5.cell (p := ⟨gw, 0, none⟩) h3).trans hc0; have hf5 := (hb5.frozen (p := ⟨gw, 0, none⟩) h3).trans hf0; obtain ⟨A5, c5, rfl, _, _⟩ := own_shape hown5)
  have hsn := SegsOwn.push (s := ⟨t, els⟩) ho1 HO2.out HE.out hg5 hown5
  have hb1 : w5.heap[gw]? = some (.cells #[.slice Av l.length cv] 81 (0, 0)) := (hb5.block gw h3).trans HH1.out
  go_end0
  refine ⟨rfl, ⟨_, by rw [heap_setCell_m hb1]; rfl, ?_, h3, by simp; exact Nat.le_trans h4 hb5.size⟩, ?_⟩
  · obtain ⟨cs, q1, q2⟩ := hsn
    rw [List.length_append] at q1
    refine ⟨cs, by rw [List.length_append]; exact own_set q1 (p := ⟨gw, 0, none⟩) h3 _, fun i s hs => ?_⟩
    obtain ⟨a, u, b, d⟩ := q2 i s hs
    exact ⟨a, u, b, d.set (p := ⟨gw, 0, none⟩) h3 _⟩
  · refine ⟨hg5.os, hg5.tape, hg5.output, by simp; exact hg5.size, fun k hk hne hcc => ?_⟩
    rw [Below.heap_setCell w5 ⟨gw, 0, none⟩ _ k (by simpa using hne)]
    refine hg5.block k hk ?_
    intro ek
    obtain ⟨cur, hh, hbb⟩ := own_block ho1 ek.symm
    rcases hcc with hcc | hcc
    · omega
    · exact hcc _ _ hh
end Go.Proofs.YtmjlnckmhdgoiaaGreatDoor
