/- The walk of MoneySumSplit: amounts, Sum, and the law. -/
import Derived.Test.YtjgobaedeagojaaDoorOk
import Derived.Deep.DeepCutAuto
import Derived.Deep.OwnRows
namespace Go.Proofs.YtjgobaedeagojaaDoor
open Go.RowKit
set_option linter.unusedVariables false

theorem run_head (W : World) (A : Option Addr) (n c k : Nat) (hk : k ≤ c) :
    (Instr.slice 39 (.slice A n c) none (some (.int .i64 k)) none).run Tryd.prog W = .ok (.slice A k c) W := by
  rw [run_slice_h W 39 A n c (by kernel_rfl) .i64 (k : Int) (by omega) (by omega)]
  have hs : (sizeOf (Tryd.prog.elem 39)).run Tryd.prog W = .ok 1 W := by kernel_rfl
  rw [hs]
  have : A.map (fun x => x.add 0) = A := by cases A <;> simp [Addr.add]
  simp [sliced, Result.andThen, this]
/-- small numbers -/
def Sm (l : List Int) : Prop := ∀ x ∈ l, -1000000 < x ∧ x < 1000000
theorem Sm.take {l : List Int} (h : Sm l) (k : Nat) : Sm (l.take k) := fun x hx => h x (List.mem_of_mem_take hx)
theorem Sm.drop {l : List Int} (h : Sm l) (k : Nat) : Sm (l.drop k) := fun x hx => h x (List.mem_of_mem_drop hx)
theorem Sm.bd : ∀ {l : List Int}, Sm l → -(1000000 * (l.length : Int)) ≤ l.sum ∧ l.sum ≤ 1000000 * (l.length : Int)
  | [], _ => by simp
  | x :: r, h => by
    have h1 := h x (by simp)
    have h2 := Sm.bd (l := r) (fun y hy => h y (by simp [hy]))
    rw [List.sum_cons, List.length_cons]
    omega
theorem Sm.set {l : List Int} (h : Sm l) (k : Nat) {x : Int} (hx : -1000000 < x ∧ x < 1000000) : Sm (l.set k x) := fun y hy => by
  rcases List.mem_or_eq_of_mem_set hy with h1 | h1
  · exact h y h1
  · rw [h1]; exact hx
theorem Sm.all {l : List Int} (h : Sm l) : l.all (inB (-1000000000000) 1000000000000) = true := by
  rw [List.all_eq_true]
  intro x hx
  have := h x hx
  unfold inB
  simp
  omega
theorem tmod_sm (x : Int) : -1000000 < x.tmod 1000000 ∧ x.tmod 1000000 < 1000000 := by
  have h1 := Int.emod_nonneg x (show (1000000 : Int) ≠ 0 by omega)
  have h2 := Int.emod_lt_of_pos x (show (0 : Int) < 1000000 by omega)
  rw [Int.tmod_eq_emod]
  split <;> omega
theorem take_sum {l : List Int} {k : Nat} (h : k < l.length) : (l.take (k + 1)).sum = (l.take k).sum + l[k] := by
  rw [List.take_succ_eq_append_getElem h, List.sum_append]
  simp
/-- a row of n small ints in block H -/
def RowS (w : World) (H n : Nat) : Prop := ∃ xs : List Int, w.heap[H]? = some (.cells (ints xs).toArray 3 (0, 0)) ∧ xs.length = n ∧ Sm xs
theorem intInfo2 : (Tryd.prog.info? 3).map (fun i => (i.zero, i.size, i.bytes)) = some (some (.int .i64 0), 1, 8) := by kernel_rfl
theorem RowS.new (w : World) (n : Nat) : RowS (w.alloc (.cells (madeCells #[.int .i64 0] n) 3)) w.heap.size n :=
  ⟨List.replicate n 0, by rw [Go.heap_alloc_new w _]; congr 2; apply Array.ext'; rw [toList_madeCells_one]; simp [ints], by simp, fun x hx => by rw [(List.mem_replicate.1 hx).2]; omega⟩
theorem RowS.cell {w : World} {H n k : Nat} (h : RowS w H n) (hk : k < n) : ∃ y, w.cell? ⟨H, k, none⟩ = some (.int .i64 y) := by
  obtain ⟨xs, h1, h2, h3⟩ := h
  refine ⟨xs[k]?.getD 0, ?_⟩
  rw [cell_of_row _ _ _ _ _ _ h1]
  simp [ints, List.getElem?_map, List.getElem?_eq_getElem (show k < xs.length by omega)]
theorem RowS.frozen {w : World} {H n : Nat} (h : RowS w H n) (k : Nat) : w.frozen? ⟨H, k, none⟩ = false := by
  obtain ⟨xs, h1, h2, h3⟩ := h
  exact frozen_of_row _ _ _ _ _ h1
theorem RowS.set2 {w : World} {H n : Nat} (h : RowS w H n) (k : Nat) (x : Int) {y : Int} (hy : -1000000 < y ∧ y < 1000000) : RowS ((w.setCell ⟨H, k, none⟩ (.int .i64 x)).setCell ⟨H, k, none⟩ (.int .i64 y)) H n := by
  obtain ⟨xs, h1, h2, h3⟩ := h
  have e1 := heap_setCell_same w H k _ _ (.int .i64 x) h1
  have e2 := heap_setCell_same _ H k _ _ (.int .i64 y) e1
  refine ⟨xs.set k y, ?_, by simpa using h2, h3.set k hy⟩
  rw [e2]
  congr 2
  apply Array.ext'
  simp [ints, List.map_set]
def AmRel (w : World) (n : Nat) (g : Nat) (i : Value) (wr : World) : Prop := ∃ k, k + g = n ∧ i = .int .i64 (k : Int) ∧ RowS wr w.heap.size n ∧ Below w.heap.size w wr
set_option maxHeartbeats 4000000 in
theorem amounts_any (A : Option Addr) (c : Nat) (m : List Int) (w : World) (hs2 : Rd w A (ints m)) (hl2 : m.length ≤ 500) :
    Calls Tryd.prog 19 #[.slice A m.length c, .bool true] w fun e w' => e = .returned (.slice (some ⟨w.heap.size, 0, none⟩) m.length m.length) ∧ RowS w' w.heap.size m.length ∧ Below w.heap.size w w' := by
  have hmk := run_make_row' (P := Tryd.prog) 39 3 (.int .i64 0) 8 Tryd.underlying39 intInfo2 rfl .i64 .i64 m.length (by omega) (by omega)
  have HR0 := Lib.hid (RowS.new w m.length)
  have HB0 := Lib.hid ((Below.refl w.heap.size w).alloc (Nat.le_refl _) (.cells (madeCells #[.int .i64 0] m.length) 3))
  go_enter Tryd.func19, Tryd.ntmps19
  go_wp2
  go_loopg [6] m.length (fun g i wr => AmRel w m.length g i wr)
  case atStart => exact ⟨0, by omega, rfl, HR0.out, HB0.out⟩
  case round =>
    obtain ⟨k, hk, rfl, hrow, hb⟩ := hrel
    have HK := Lib.hid hk
    have hk2 : k ≤ m.length := by omega
    clear hk hmk HR0 HB0
    by_cases hlt : k < m.length
    · obtain ⟨b, off, rfl, hc1⟩ := (hs2.below hb).int hlt
      obtain ⟨b', off', hbo, hc0⟩ := hs2.int hlt
      injection hbo with hbo
      injection hbo with hb1 hb2
      subst hb1; subst hb2
      have hblt := cell_lt hc0
      have hne : b ≠ w.heap.size := by simp only at hblt; omega
      have hne2 : w.heap.size ≠ b := Ne.symm hne
      obtain ⟨y, hy⟩ := hrow.cell hlt
      have hfz := hrow.frozen k
      generalize m[k]?.getD 0 = a at hc1 hc0
      have HA := Lib.hid (fun W => amount_any a W)
      have hbd := amF_bd a
      generalize amF a = x at *
      have hts := tmod_sm x
      have HD := Lib.hid hts
      have HROW := Lib.hid hrow
      have HBB := Lib.hid hb
      clear hrow hb hc0 hblt hts
      go_wp2_with (go_at_call 9; refine (HA.out _).mono ?_; rintro e w' ⟨rfl, rfl⟩)
      go_roundg (m.length - (k + 1))
      case measure => have := HK.out; omega
      case rel => exact ⟨k + 1, by omega, by go_num, HROW.out.set2 k x HD.out, (HBB.out.setCell (Nat.le_refl _) _).setCell (Nat.le_refl _) _⟩
    · have hge : m.length ≤ k := by omega
      have HROW := Lib.hid hrow
      have HBB := Lib.hid hb
      clear hlt hrow hb
      go_wp2
      go_ret
      exact ⟨rfl, HROW.out, HBB.out⟩
def SuRel (l : List Int) (w : World) (g : Nat) (v4 v5 i : Value) (wr : World) : Prop := ∃ k, k + g = l.length ∧ v4 = .int .i64 0 ∧ v5 = .int .i64 (l.take k).sum ∧ i = .int .i64 (k : Int) ∧ wr = w
set_option maxRecDepth 100000 in
set_option maxHeartbeats 4000000 in
theorem sum_any (A : Option Addr) (c : Nat) (l : List Int) (w : World) (h : Rd w A (ints l)) (hl : l.length ≤ 500) (hs : Sm l) :
    Calls Tryd.prog 20 #[.slice A l.length c] w (ScRet w l.sum 0) := by
  have HW := Lib.hid (withinA_any (-1000000000000) 1000000000000 A c l w h (by omega))
  rw [hs.all] at HW
  have HS := Lib.hid hs
  have hbd0 := hs.bd
  have hbd : -500000000 ≤ l.sum ∧ l.sum ≤ 500000000 := by omega
  clear hs hbd0
  go_enter Tryd.func20, Tryd.ntmps20
  go_wp2_with (go_at_call 22; refine HW.out.mono ?_; rintro e w' ⟨rfl, rfl⟩)
  go_loopg [4, 5, 13] l.length (fun g v4 v5 i wr => SuRel l w g v4 v5 i wr)
  case atStart => exact ⟨0, by omega, rfl, by simp, rfl, rfl⟩
  case round =>
    obtain ⟨k, hk, rfl, rfl, rfl, rfl⟩ := hrel
    have HK := Lib.hid hk
    have hk2 : k ≤ l.length := by omega
    clear hk HW
    by_cases hlt : k < l.length
    · obtain ⟨b, off, rfl, hc1⟩ := h.int hlt
      have HT := Lib.hid (take_sum hlt)
      have hb1 := (HS.out.take k).bd
      have hx := HS.out l[k] (List.getElem_mem _)
      rw [List.getElem?_eq_getElem hlt] at hc1
      simp only [Option.getD_some] at hc1
      rw [List.length_take, Nat.min_eq_left hk2] at hb1
      generalize (l.take k).sum = S at *
      generalize l[k] = x at *
      go_wp2
      go_roundg (l.length - (k + 1))
      case measure => have := HK.out; omega
      case rel => exact ⟨k + 1, by omega, rfl, by rw [HT.out], by go_num, rfl⟩
    · have hge2 : l.length ≤ k := by omega
      have hge : k = l.length := by omega
      have HE : Hid ((l.take k).sum = l.sum) := by show _ = _; rw [List.take_of_length_le (by omega)]
      have HI1 := Lib.hid (fun W g hg => within1b_any (-1) 1 0 W g hg)
      rw [show inB (-1) 1 0 = true from rfl] at HI1
      rw [HE.out]
      have hq : amtB l.sum = true := amt_iff.2 (by omega)
      have HI2 := Lib.hid (fun W => isAmount_any l.sum W)
      rw [hq] at HI2
      clear HE hge hk2 h hq hl hlt HK
      generalize l.sum = S at *
      go_wp2_with fail
      refine (HI1.out _ _ rfl).mono ?_
      rintro e W1 ⟨rfl, rfl⟩
      have HB1 := Lib.hid ((Below.refl wr.heap.size wr).alloc (Nat.le_refl _) (.cells #[.int .i64 0] 3))
      go_wp2_with fail
      refine (HI2.out _).mono ?_
      rintro e W2 ⟨rfl, hb2⟩
      have HB2 := Lib.hid (HB1.out.trans (hb2.mono HB1.out.size))
      clear hb2
      go_wp2
      go_ret2
      exact scRet (by simp) rfl HB2.out
/-- the three sums -/
theorem sums3 (g : Nat) (n K : Nat) (xs : List Int) (hK : K ≤ n) (hn : xs.length = n) (h5 : n ≤ 500) (hs : Sm xs) (A2 : Option Addr) (hA2 : (if n = K then some ⟨g, 0, none⟩ else (some ⟨g, 0, none⟩ : Option Addr).map (·.add (K * 1))) = A2) : ∃ a b : Int, (-500000000 ≤ a ∧ a ≤ 500000000) ∧ (-500000000 ≤ b ∧ b ≤ 500000000) ∧
    (∀ W, Rd W (some ⟨g, 0, none⟩) (ints xs) → Calls Tryd.prog 20 #[.slice (some ⟨g, 0, none⟩) K n] W (ScRet W a 0)) ∧
    (∀ W, Rd W (some ⟨g, 0, none⟩) (ints xs) → Calls Tryd.prog 20 #[.slice A2 (n - K) (n - K)] W (ScRet W b 0)) ∧
    (∀ W, Rd W (some ⟨g, 0, none⟩) (ints xs) → Calls Tryd.prog 20 #[.slice (some ⟨g, 0, none⟩) n n] W (ScRet W (a + b) 0)) := by
  have b1 := (hs.take K).bd
  have b2 := (hs.drop K).bd
  rw [List.length_take, Nat.min_eq_left (by omega)] at b1
  rw [List.length_drop] at b2
  refine ⟨(xs.take K).sum, (xs.drop K).sum, by omega, by omega, fun W h => ?_, fun W h => ?_, fun W h => ?_⟩
  · have := sum_any (some ⟨g, 0, none⟩) n (xs.take K) W (by have := h.take K; rwa [ints, ← List.map_take] at this) (by rw [List.length_take]; omega) (hs.take K)
    rwa [List.length_take, Nat.min_eq_left (by omega)] at this
  · have hr : Rd W (if n = K then some ⟨g, 0, none⟩ else (some ⟨g, 0, none⟩ : Option Addr).map (·.add (K * 1))) (ints (xs.drop K)) := by
      by_cases hq : n = K
      · rw [List.drop_eq_nil_of_le (by omega)]
        exact Rd.nil _ _
      · rw [if_neg hq, Nat.mul_one]
        have := h.drop K
        rwa [ints, ← List.map_drop] at this
    rw [hA2] at hr
    have := sum_any _ (n - K) (xs.drop K) W hr (by rw [List.length_drop]; omega) (hs.drop K)
    rwa [List.length_drop, hn] at this
  · have := sum_any (some ⟨g, 0, none⟩) n xs W h (by omega) hs
    rw [hn] at this
    rwa [← List.sum_append, List.take_append_drop]
theorem clamp (a : Int) (n : Nat) : ∃ K : Nat, K ≤ n ∧ max 0 (min a (n : Int)) = (K : Int) := by
  rcases Int.lt_or_le a 0 with h | h
  · exact ⟨0, by omega, by omega⟩
  · obtain ⟨k, hk⟩ := Int.eq_ofNat_of_zero_le h
    rcases Nat.le_total k n with h2 | h2
    · exact ⟨k, h2, by omega⟩
    · exact ⟨n, Nat.le_refl _, by omega⟩
theorem RowS.rd {w : World} {g : Nat} {xs : List Int} (h : w.heap[g]? = some (.cells (ints xs).toArray 3 (0, 0))) : Rd w (some ⟨g, 0, none⟩) (ints xs) := fun j u hu => ⟨_, rfl, by
  rw [Addr.add_lit, cell_of_row _ _ _ _ _ _ h]
  simpa using hu⟩
set_option maxRecDepth 100000 in
set_option maxHeartbeats 4000000 in
theorem walkMoneySumSplit (A : Option Addr) (c : Nat) (l : List Int) (a : Int) (w : World) (h : SlI w A c l) (h1 : -9223372036854775808 ≤ a ∧ a ≤ 9223372036854775807) (hL : laidMetH Tryd.prog Rows.moneySumSplitRow.laid w) :
    Calls Tryd.prog 8 #[.slice A l.length c, .int .i64 a] w fun e w' => e = .returned (.bool true) ∧ Below w.heap.size w w' := by
  have HG := Lib.hid (given_of_laid hL (by kernel_rfl) (by kernel_rfl) (by kernel_rfl) (by kernel_rfl))
  have HAW := Lib.hid (fun W h => awake_any W h)
  clear hL
  have hle := h.le
  have hmax := h.max
  have hrd := h.rd
  clear h
  by_cases h500 : 500 < l.length
  · obtain ⟨N, hN⟩ : ∃ N : Nat, 500 = N := ⟨_, rfl⟩
    have hr : ∀ W, (Instr.slice 39 (.slice A l.length c) none (some (.int .i64 500)) none).run Tryd.prog W = .ok (.slice A N c) W := fun W => by subst hN; exact run_head W A l.length c 500 (by omega)
    have HM := amounts_any A c (l.take 500) w (by have := hrd.take 500; rwa [ints, ← List.map_take] at this) (by rw [List.length_take]; omega)
    rw [List.length_take, Nat.min_eq_left (by omega), hN] at HM
    have hN5 : N ≤ 500 := by omega
    clear hN
    have HM := Lib.hid HM
    obtain ⟨K, hK, hcl⟩ := clamp a N
    have HGS : Hid (w.heap.size = w.heap.size) := rfl
    have hs1 := fun W => run_head W (some ⟨w.heap.size, 0, none⟩) N N K (by omega)
    have hs2 := fun W => run_cut (P := Tryd.prog) W 39 3 1 Tryd.underlying39 (by kernel_rfl) (by kernel_rfl) (some ⟨w.heap.size, 0, none⟩) N N K (by omega)
    obtain ⟨A2, hA2⟩ : ∃ A2, (if N = K then some ⟨w.heap.size, 0, none⟩ else (some ⟨w.heap.size, 0, none⟩ : Option Addr).map (·.add (K * 1))) = A2 := ⟨_, rfl⟩
    rw [hA2] at hs2
    have HA2 := Lib.hid hA2
    clear hrd hA2
    go_enter Tryd.func8, Tryd.ntmps8
    go_wp2_with fail
    refine HM.out.mono ?_
    rintro e W1 ⟨rfl, ⟨xs, hx1, hx2, hx3⟩, hb1⟩
    obtain ⟨s1, s2, hbd1, hbd2, hc1, hc2, hc3⟩ := sums3 w.heap.size N K xs hK hx2 (by omega) hx3 A2 HA2.out
    have HC1 := Lib.hid hc1
    have HC2 := Lib.hid hc2
    have HC3 := Lib.hid hc3
    have HR1 := Lib.hid (RowS.rd hx1)
    have HB1 := Lib.hid hb1
    unfold ScRet at HC1 HC2 HC3
    clear hc1 hc2 hc3 hx1 hx2 hx3 hb1 HM HA2
    go_wp2_with fail
    refine (HC1.out _ HR1.out).mono ?_
    rintro e W2 ⟨rfl, hb2⟩
    have HB2 := Lib.hid (HB1.out.trans (hb2.mono HB1.out.size))
    have HR2 := Lib.hid (HR1.out.below hb2)
    clear hb2 HC1 HB1 HR1 hs1 hcl
    go_wp2_with fail
    refine (HC2.out _ HR2.out).mono ?_
    rintro e W3 ⟨rfl, hb3⟩
    have HB3 := Lib.hid (HB2.out.trans (hb3.mono HB2.out.size))
    have HR3 := Lib.hid (HR2.out.below hb3)
    clear hb3 HC2 HB2 HR2 hs2
    go_wp2_with fail
    refine (HC3.out _ HR3.out).mono ?_
    rintro e W4 ⟨rfl, hb4⟩
    have HB4 := Lib.hid (HB3.out.trans (hb4.mono HB3.out.size))
    clear hb4 HC3 HB3 HR3
    go_wp2_with fail
    refine (HAW.out _ (HG.out.below HB4.out)).mono ?_
    rintro e W5 ⟨rfl, hb5⟩
    have HB5 := Lib.hid (HB4.out.trans (hb5.mono HB4.out.size))
    clear hb5 HB4
    go_wp2
    go_ret
    exact ⟨rfl, HB5.out⟩
  · have HM := amounts_any A c l w hrd (by omega)
    have HM := Lib.hid HM
    obtain ⟨K, hK, hcl⟩ := clamp a l.length
    have HGS : Hid (w.heap.size = w.heap.size) := rfl
    have hs1 := fun W => run_head W (some ⟨w.heap.size, 0, none⟩) l.length l.length K (by omega)
    have hs2 := fun W => run_cut (P := Tryd.prog) W 39 3 1 Tryd.underlying39 (by kernel_rfl) (by kernel_rfl) (some ⟨w.heap.size, 0, none⟩) l.length l.length K (by omega)
    obtain ⟨A2, hA2⟩ : ∃ A2, (if l.length = K then some ⟨w.heap.size, 0, none⟩ else (some ⟨w.heap.size, 0, none⟩ : Option Addr).map (·.add (K * 1))) = A2 := ⟨_, rfl⟩
    rw [hA2] at hs2
    have HA2 := Lib.hid hA2
    clear hrd hA2
    go_enter Tryd.func8, Tryd.ntmps8
    go_wp2_with fail
    refine HM.out.mono ?_
    rintro e W1 ⟨rfl, ⟨xs, hx1, hx2, hx3⟩, hb1⟩
    obtain ⟨s1, s2, hbd1, hbd2, hc1, hc2, hc3⟩ := sums3 w.heap.size l.length K xs hK hx2 (by omega) hx3 A2 HA2.out
    have HC1 := Lib.hid hc1
    have HC2 := Lib.hid hc2
    have HC3 := Lib.hid hc3
    have HR1 := Lib.hid (RowS.rd hx1)
    have HB1 := Lib.hid hb1
    unfold ScRet at HC1 HC2 HC3
    clear hc1 hc2 hc3 hx1 hx2 hx3 hb1 HM HA2
    go_wp2_with fail
    refine (HC1.out _ HR1.out).mono ?_
    rintro e W2 ⟨rfl, hb2⟩
    have HB2 := Lib.hid (HB1.out.trans (hb2.mono HB1.out.size))
    have HR2 := Lib.hid (HR1.out.below hb2)
    clear hb2 HC1 HB1 HR1 hs1 hcl
    go_wp2_with fail
    refine (HC2.out _ HR2.out).mono ?_
    rintro e W3 ⟨rfl, hb3⟩
    have HB3 := Lib.hid (HB2.out.trans (hb3.mono HB2.out.size))
    have HR3 := Lib.hid (HR2.out.below hb3)
    clear hb3 HC2 HB2 HR2 hs2
    go_wp2_with fail
    refine (HC3.out _ HR3.out).mono ?_
    rintro e W4 ⟨rfl, hb4⟩
    have HB4 := Lib.hid (HB3.out.trans (hb4.mono HB3.out.size))
    clear hb4 HC3 HB3 HR3
    go_wp2_with fail
    refine (HAW.out _ (HG.out.below HB4.out)).mono ?_
    rintro e W5 ⟨rfl, hb5⟩
    have HB5 := Lib.hid (HB4.out.trans (hb5.mono HB4.out.size))
    clear hb5 HB4
    go_wp2
    go_ret
    exact ⟨rfl, HB5.out⟩
end Go.Proofs.YtjgobaedeagojaaDoor
