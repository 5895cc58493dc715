/- The contract of without: the members of one list that are not in another, ascending, each once. -/
import Derived.Test.YtecmpkcjeaiknaaDoorTm
import Derived.Test.YtecmpkcjeaiknaaDoorBox
import Derived.Test.YtecmpkcjeaiknaaDoorMap
namespace Go.Proofs.YtecmpkcjeaiknaaDoor
open Go.RowKit Go.Maps
set_option linter.unusedVariables false

def WfL (l : List Int) : Prop := ∀ x ∈ l, (Lit.int .i64 x).wf = true
/-- the map that says which numbers are in l -/
def goneM (l : List Int) (x : Int) : Option Value := if x ∈ l then some (.bool true) else none
theorem goneM_cons (l : List Int) (k : Int) : (fun y => if y = k then some (.bool true) else goneM l y) = goneM (l ++ [k]) := by
  funext y
  unfold goneM
  by_cases h : y = k <;> simp [h]
theorem take_snoc {l : List Int} {k : Nat} (h : k < l.length) : l.take (k + 1) = l.take k ++ [l[k]?.getD 0] := by
  rw [List.take_add_one, List.getElem?_eq_getElem h]; simp
theorem own_snoc' {w : World} {B : Nat} {e : TypeId} {v : Value} {l : List Int} {x : Int} (h : OwnX w B e 1 v (l.length + 1) (ints l ++ [.int .i64 x])) : OwnX w B e 1 v (l ++ [x]).length (ints (l ++ [x])) := by
  have e1 : ints l ++ [.int .i64 x] = ints (l ++ [x]) := by simp [ints]
  rw [← e1, List.length_append]
  exact h
theorem makeMap_run (n : Nat) (W : World) : (Instr.makeMap 73 (some (.int .i64 (n : Int)))).run Tryd.prog W = .ok (.map (some W.heap.size)) (W.alloc (.map #[] 0)) := by
  simp [Instr.makeMap, run_underlying Tryd.underlying73, asInt, asIntOf, Result.andThen]
def WRelA (b : List Int) (w : World) (m : Nat) (i : Value) (wr : World) : Prop := ∃ k : Nat, k + m = b.length ∧ i = .int .i64 (k : Int) ∧ MapIs Tryd.prog 3 wr w.heap.size k (goneM (b.take k)) ∧ Below w.heap.size w wr
def WRelB (a b : List Int) (w w1 : World) (m : Nat) (v i : Value) (wr : World) : Prop := ∃ (k : Nat) (L : List Int), k + m = a.length ∧ i = .int .i64 (k : Int) ∧ L = (a.take k).filter (fun x => !b.contains x) ∧ OwnX wr w1.heap.size 3 1 v L.length (ints L) ∧ MapIs Tryd.prog 3 wr w.heap.size b.length (goneM b) ∧ w1.heap.size ≤ wr.heap.size ∧ Below w.heap.size w wr
def WithoutRet (a b : List Int) (w : World) (e : Ending) (w' : World) : Prop := ∃ v, e = .returned v ∧ IntsAt w' v (withoutF a b) ∧ Below w.heap.size w w'
set_option maxRecDepth 100000 in
set_option maxHeartbeats 2000000 in
theorem without_any (va vb : Value) (a b : List Int) (w : World) (ha : IntsAt w va a) (hb : IntsAt w vb b) (wa : WfL a) (wb : WfL b) :
    Calls Tryd.prog 33 #[va, vb] w (WithoutRet a b w) := by
  obtain ⟨A1, c1, rfl, ra, la1, la2, la3⟩ := ha
  obtain ⟨A2, c2, rfl, rb, lb1, lb2, lb3⟩ := hb
  obtain ⟨i0, hi0, hz0, hz1, hz2⟩ := info_parts intInfo
  have HRA := Lib.hid ra
  have HRB := Lib.hid rb
  have HWA := Lib.hid wa
  have HWB := Lib.hid wb
  have HLA := Lib.hid la3
  have HLB := Lib.hid lb3
  have hbn : b.length ≤ 17592186043904 := by omega
  have han : a.length ≤ 17592186043904 := by omega
  clear ra rb wa wb la1 la2 la3 lb1 lb2 lb3
  have hmm := makeMap_run b.length
  go_enter Tryd.func33, Tryd.ntmps33
  go_wp2
  clear hmm
  have hm0 := MapIs.made Tryd.prog 3 w
  have hb0 := (Below.refl w.heap.size w).alloc (Nat.le_refl _) (.map #[] 0)
  generalize w.alloc (.map #[] 0) = w0 at *
  have HM0 := Lib.hid hm0
  have HB0 := Lib.hid hb0
  clear hm0 hb0
  go_loopg [16] b.length (fun m i wr => WRelA b w m i wr)
  case atStart => exact ⟨0, by omega, rfl, HM0.out, HB0.out⟩
  case round =>
    obtain ⟨k, hk, rfl, hmap, hbw⟩ := hrel
    have HK := Lib.hid hk
    have HM := Lib.hid hmap
    have HBW := Lib.hid hbw
    have hk2 : k ≤ b.length := by omega
    clear hk hmap hbw
    by_cases hlt : k < b.length
    · obtain ⟨bk, ofk, rfl, hcell⟩ := (HRB.out.below HBW.out).int hlt
      have hbk := block_lt_of_cell hcell
      have HWX := Lib.hid (HWB.out (b[k]?.getD 0) (by rw [List.getElem?_eq_getElem hlt]; exact List.getElem_mem hlt))
      have HT := Lib.hid (take_snoc hlt)
      generalize b[k]?.getD 0 = x at *
      have s1 : (k : Int) < b.length := by omega
      go_wp2_with (refine wpList_store_x _ rfl _ _ _ 73 rfl 3 4 Tryd.underlying3 Tryd.underlying73 w.heap.size k _ rfl HM.out (by unfold maxLen; omega) x rfl HWX.out (.bool true) rfl ?_; intro w3 hm3 hg3; have HM3 := Lib.hid hm3; have HB3 := Lib.hid (HBW.out.trans (Below.of_grown hg3 w.heap.size HBW.out.size (fun g e => by injection e with e; omega))); clear hm3 hg3)
      go_roundg (b.length - (k + 1))
      case rel =>
        refine ⟨k + 1, by omega, rfl, ?_, HB3.out⟩
        rw [HT.out, ← goneM_cons]
        exact HM3.out
      case measure => have := HK.out; omega
    · have hn : (b.length : Int) ≤ k := by omega
      have hkn : k = b.length := by omega
      have s1 : ¬ (k : Int) < b.length := by omega
      go_wp2
      have HM1 : Hid (MapIs Tryd.prog 3 wr w.heap.size b.length (goneM b)) := Lib.hid (by have := HM.out; rw [hkn, List.take_length] at this; exact this)
      have HRA1 := Lib.hid (HRA.out.below HBW.out)
      have hwl := HM1.out.lt
      have hsz := HBW.out.size
      clear hkn hn s1 hlt hk2 HM HK HRB HWB HLB
      generalize wr = w1 at *
      go_loopg [8, 25] a.length (fun m v i wr => WRelB a b w w1 m v i wr)
      case atStart => exact ⟨0, [], by omega, rfl, by simp, OwnX.nil_ _ _ _ _, HM1.out, Nat.le_refl _, HBW.out⟩
      case round =>
        obtain ⟨j, L, hj, rfl, hL, hown, hmap, hs1, hbw⟩ := hrel
        have HJ := Lib.hid hj
        have HL := Lib.hid hL
        have HO := Lib.hid hown
        have HM2 := Lib.hid hmap
        have HB2 := Lib.hid hbw
        have hj2 : j ≤ a.length := by omega
        have hLl : L.length ≤ a.length := by rw [hL]; exact Nat.le_trans (List.length_filter_le _ _) (by rw [List.length_take]; omega)
        have HLL := Lib.hid hLl
        obtain ⟨Av, cv, rfl, -, -, -⟩ := hown.shape
        clear hj hL hown hmap hbw
        by_cases hjl : j < a.length
        · obtain ⟨bk, ofk, rfl, hcell⟩ := (HRA.out.below HB2.out).int hjl
          have hbk := block_lt_of_cell hcell
          have HWX := Lib.hid (HWA.out (a[j]?.getD 0) (by rw [List.getElem?_eq_getElem hjl]; exact List.getElem_mem hjl))
          have HT := Lib.hid (take_snoc hjl)
          generalize a[j]?.getD 0 = x at *
          have s1 : (j : Int) < a.length := by omega
          have HGE : Hid ((goneM b x).getD (.bool false) = .bool (b.contains x)) := Lib.hid (by unfold goneM; by_cases h : x ∈ b <;> simp [h])
          cases hc : b.contains x with
          | true =>
            rw [hc] at HGE
            go_wp2_with (refine wpList_look_x _ rfl _ _ 73 rfl 3 4 Tryd.underlying3 Tryd.underlying73 (.bool false) (by kernel_rfl) w.heap.size b.length _ rfl HM2.out x rfl HWX.out ?_; rw [HGE.out])
            go_roundg (a.length - (j + 1))
            case rel => exact ⟨j + 1, L, by omega, rfl, by have hm : x ∈ b := List.contains_iff_mem.1 hc; rw [HT.out, List.filter_append, HL.out]; simp [hm], HO.out, HM2.out, hs1, HB2.out⟩
            case measure => have := HJ.out; omega
          | false =>
            rw [hc] at HGE
            go_wp2_with (first
              | (refine wpList_look_x _ rfl _ _ 73 rfl 3 4 Tryd.underlying3 Tryd.underlying73 (.bool false) (by kernel_rfl) w.heap.size b.length _ rfl HM2.out x rfl HWX.out ?_; rw [HGE.out])
              | (at_builtin; refine wpList_append_one wr rfl (.tmp 33) (.tmp 35) 22 rfl w1.heap.size 3 i0 _ 1 8 Tryd.underlying22 hi0 hz0 hz1 hz2 rfl (by omega) _ L.length (ints L) [.int .i64 x] rfl (by intro u hu; rw [List.mem_singleton] at hu; subst hu; rfl) rfl HO.out rfl (by unfold maxLen; omega) (by omega) hs1 ?_; intro v2 w3 hown2 hg2 _; have HO2 := Lib.hid (own_snoc' hown2); have HM3 := Lib.hid (HM2.out.kept hg2 (fun e => by have := (HO.out.block_lt e.symm).1; omega)); have HB3 := Lib.hid (HB2.out.trans (Below.of_grown hg2 w.heap.size HB2.out.size (fun g e => by have := (HO.out.block_lt e).1; omega))); have HS3 := Lib.hid (Nat.le_trans hs1 hg2.size); clear hown2 hg2))
            go_roundg (a.length - (j + 1))
            case rel => exact ⟨j + 1, L ++ [x], by omega, rfl, by have hm : ¬ x ∈ b := fun h => (by rw [List.contains_iff_mem.2 h] at hc; cases hc); rw [HT.out, List.filter_append, ← HL.out]; simp [hm], HO2.out, HM3.out, HS3.out, HB3.out⟩
            case measure => have := HJ.out; omega
        · have s1 : ¬ (j : Int) < a.length := by omega
          have hje : j = a.length := by omega
          have HF : Hid (L = a.filter fun x => !b.contains x) := Lib.hid (by rw [HL.out, hje, List.take_length])
          have HSB : Hid (w.heap.size ≤ w1.heap.size) := Lib.hid hsz
          have HLX : Hid (L.length * 8 ≤ 140737488351232) := Lib.hid (by have := HLL.out; have := HLA.out; omega)
          clear hje HL
          go_wp2_with (first
            | (go_at_call 48; refine (sort_any w1.heap.size _ L _ HO.out (by have := HLX.out; omega)).mono ?_; rintro e w5 ⟨rfl, ho5, hg5⟩; have HO5 := Lib.hid ho5; have HB5 := Lib.hid (HB2.out.trans (Below.of_grown hg5 w.heap.size HB2.out.size (fun g e => by have := (HO.out.block_lt e).1; have := HSB.out; omega))); clear ho5 hg5)
            | (go_at_call 49; refine (compact_any w1.heap.size _ (L.mergeSort leI) _ HO5.out (by have := HLX.out; rw [List.length_mergeSort]; omega) (by have := HLX.out; rw [List.length_mergeSort]; omega)).mono ?_; rintro e w6 ⟨v6, rfl, hi6, hg6⟩; have HI6 := Lib.hid hi6; have HB6 := Lib.hid (HB5.out.trans (Below.of_grown hg6 w.heap.size HB5.out.size (fun g e => by have := (HO5.out.block_lt e).1; have := HSB.out; omega))); clear hi6 hg6))
          go_ret
          refine ⟨_, rfl, ?_, HB6.out⟩
          unfold withoutF
          rw [← HF.out, ← compact_sort]
          exact HI6.out
end Go.Proofs.YtecmpkcjeaiknaaDoor
