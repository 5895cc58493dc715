/- Contract of Source's text: some string of at most four bytes. -/
import Derived.Test.YtmjlnckmhdgoiaaGreatDoorSt
import Derived.Laws.Bits64
import Derived.Deep.OwnRows
namespace Go.Proofs.YtmjlnckmhdgoiaaGreatDoor
open Go.RowKit
set_option linter.unusedVariables false

/-- a row of n bytes in block H -/
def RowB (w : World) (H n : Nat) : Prop := ∃ (cs : Array Value) (xs : Bs), w.heap[H]? = some (.cells cs 5 (0, 0)) ∧ cs.toList = u8s xs ∧ xs.length = n
theorem RowB.new (w : World) (n : Nat) : RowB (w.alloc (.cells (madeCells #[.int .u8 0] n) 5)) w.heap.size n :=
  ⟨_, List.replicate n 0, Go.heap_alloc_new w _, by rw [toList_madeCells_one]; simp [u8s, u8], by simp⟩
theorem RowB.lt {w : World} {H n : Nat} (h : RowB w H n) : H < w.heap.size := by
  obtain ⟨cs, xs, h1, _⟩ := h
  exact (Array.getElem?_eq_some_iff.1 h1).1
theorem RowB.cell {w : World} {H n k : Nat} (h : RowB w H n) (hk : k < n) : ∃ y : UInt8, w.cell? ⟨H, k, none⟩ = some (.int .u8 (y.toNat : Int)) := by
  obtain ⟨cs, xs, h1, h2, h3⟩ := h
  refine ⟨xs[k]?.getD 0, ?_⟩
  rw [cell_of_row _ _ _ _ _ _ h1, ← Array.getElem?_toList, h2, u8s, List.getElem?_map, List.getElem?_eq_getElem (by omega)]
  rfl
theorem RowB.frozen {w : World} {H n : Nat} (h : RowB w H n) (k : Nat) : w.frozen? ⟨H, k, none⟩ = false := by
  obtain ⟨cs, xs, h1, h2, h3⟩ := h
  exact frozen_of_row _ _ _ _ _ h1
theorem RowB.set {w : World} {H n : Nat} (h : RowB w H n) (k : Nat) (y : UInt8) : RowB (w.setCell ⟨H, k, none⟩ (.int .u8 (y.toNat : Int))) H n := by
  obtain ⟨cs, xs, h1, h2, h3⟩ := h
  refine ⟨_, xs.set k y, heap_setCell_same w H k cs _ _ h1, ?_, by simpa using h3⟩
  rw [Array.toList_setIfInBounds, h2, u8s, u8s, List.map_set]
  rfl
theorem RowB.rd {w : World} {H n : Nat} (h : RowB w H n) : ∃ xs : Bs, xs.length = n ∧ Rd w (some ⟨H, 0, none⟩) (u8s xs) := by
  obtain ⟨cs, xs, h1, h2, h3⟩ := h
  refine ⟨xs, h3, fun j u hu => ⟨_, rfl, ?_⟩⟩
  rw [Addr.add_lit, cell_of_row _ _ _ _ _ _ h1, ← Array.getElem?_toList, h2, Nat.zero_add]
  exact hu
theorem RowB.turned {w w' : World} {g H n : Nat} (h : RowB w H n) (ht : Turned g w w') (hg : g < H) : RowB w' H n := by
  have hl := h.lt
  obtain ⟨cs, xs, h1, h2, h3⟩ := h
  exact ⟨cs, xs, (ht.block H hl (by intro e; injection e with e; omega)).trans h1, h2, h3⟩
theorem Turned.setNew {g : Nat} {a w : World} (h : Turned g a w) {p : Addr} (hp : a.heap.size ≤ p.block) (x : Value) : Turned g a (w.setCell p x) :=
  ⟨h.os, h.tape, h.output, by simpa [World.setCell] using h.size, fun i hi hne => (Below.heap_setCell w p x i (by intro e; omega)).trans (h.block i hi hne)⟩
theorem Src.setNew {w : World} {g : Nat} {A : Option Addr} {c : Nat} {l : List Int} {i : Nat} (h : Src w g A c l i) {p : Addr} (hp : g < p.block) (x : Value) : Src (w.setCell p x) g A c l i :=
  h.belowB (B := g + 1) ((Below.refl _ _).setCell hp _) (Nat.lt_succ_self _)
def TextRet (w : World) (g : Nat) (A : Option Addr) (c : Nat) (l : List Int) (e : Ending) (w' : World) : Prop :=
  ∃ (t : Bs) (i : Nat), e = .returned (.string ⟨t.toArray⟩) ∧ t.length ≤ 4 ∧ Src w' g A c l i ∧ Turned g w w'
def TextRel (w : World) (g H n : Nat) (A : Option Addr) (c : Nat) (l : List Int) (m : Nat) (i : Value) (wr : World) : Prop :=
  ∃ k j : Nat, k + m = n ∧ i = .int .i64 (k : Int) ∧ RowB wr H n ∧ Src wr g A c l j ∧ Turned g w wr
set_option maxRecDepth 100000 in
set_option maxHeartbeats 4000000 in
theorem srcText_any (g : Nat) (A : Option Addr) (c : Nat) (l : List Int) (i : Nat) (w : World) (h : Src w g A c l i) :
    Calls Tryz.prog 32 #[.pointer (some ⟨g, 0, none⟩)] w (TextRet w g A c l) := by
  have HN := Lib.hid (fun (n : Int) (i : Nat) (W : World) (h : Src W g A c l i) (hn : 0 < n) (hn2 : n ≤ 1000000000000000) => srcNext_any g A c l i n W h hn hn2)
  go_enter Tryz.func32, Tryz.ntmps32
  go_wp2_with fail
  refine (HN.out 5 i _ h (by omega) (by omega)).mono ?_
  rintro e w1 ⟨x, i1, rfl, hx0, hx5, hS1, hT1⟩
  obtain ⟨n, rfl⟩ := Int.eq_ofNat_of_zero_le hx0
  have hn5 : n < 5 := by omega
  have hmk := run_make_row' (P := Tryz.prog) 23 5 (.int .u8 0) 1 Tryz.underlying23 byteInfo rfl .i64 .i64 n (by omega) (by omega)
  have hg1 := hS1.lt
  have hR2 := RowB.new w1 n
  have hb2 := (Below.refl w1.heap.size w1).alloc (Nat.le_refl _) (.cells (madeCells #[.int .u8 0] n) 5)
  have hS2 := hS1.below hb2
  have hT2 := hT1.trans (Turned.of_below (g := g) hb2)
  go_wp2
  clear hmk hb2
  go_loopg [4] n (fun m i wr => TextRel w g w1.heap.size n A c l m i wr)
  case atStart => exact ⟨0, i1, by omega, rfl, hR2, hS2, hT2⟩
  case round =>
    clear hR2 hS2 hT2
    obtain ⟨k, j, hk, rfl, hR, hS, hT⟩ := hrel
    have HK := Lib.hid hk
    have hk2 : k ≤ n := by omega
    clear hk
    by_cases hlt : k < n
    · go_wp2_with fail
      refine (HN.out 8 j _ hS (by omega) (by omega)).mono ?_
      rintro e w3 ⟨x3, i3, rfl, hx30, hx38, hS3, hT3⟩
      have hR3 := hR.turned hT3 hg1
      obtain ⟨y3, hy3⟩ := hR3.cell hlt
      have hf3 := hR3.frozen k
      obtain ⟨n3, rfl⟩ := Int.eq_ofNat_of_zero_le hx30
      have hn3 : n3 < 8 := by omega
      have hwh : w.heap.size ≤ w1.heap.size := hT1.size
      go_wp2_with fail
      generalize ({ data := #[43, 58, 63, 39, 43, 58, 63, 39] } : ByteArray)[n3] = z3
      have hS4 := hS3.setNew (p := ⟨w1.heap.size, k, none⟩) hg1 (.int .u8 (z3.toNat : Int))
      have hR4 := hR3.set k z3
      have hT4 := (hT.trans hT3).setNew (p := ⟨w1.heap.size, k, none⟩) hwh (.int .u8 (z3.toNat : Int))
      generalize w3.setCell ⟨w1.heap.size, k, none⟩ (.int .u8 (z3.toNat : Int)) = W4 at hS4 hR4 hT4 ⊢
      refine (HN.out 512 i3 _ hS4 (by omega) (by omega)).mono ?_
      rintro e w5 ⟨x5, i5, rfl, hx50, hx58, hS5, hT5⟩
      have hR5 := hR4.turned hT5 hg1
      obtain ⟨y5, hy5⟩ := hR5.cell hlt
      have hf5 := hR5.frozen k
      obtain ⟨n5, rfl⟩ := Int.eq_ofNat_of_zero_le hx50
      clear hy3 hf3 hS3 hT3 hR3 hS hR
      by_cases h256 : n5 < 256
      · have hd : decide ((n5 : Int) < 256) = true := by simp; omega
        have hwr : IntKind.u8.wrap (n5 : Int) = ((UInt8.ofNat n5).toNat : Int) := by rw [IntKind.wrap_u8]; simp [UInt8.toNat_ofNat']
        go_wp2
        go_roundg (n - (k + 1))
        case measure => have := HK.out; omega
        case rel => exact ⟨k + 1, i5, by omega, by go_num, hR5.set k (UInt8.ofNat n5), hS5.setNew (p := ⟨w1.heap.size, k, none⟩) hg1 _, (hT4.trans hT5).setNew (p := ⟨w1.heap.size, k, none⟩) hwh _⟩
      · have hd : decide ((n5 : Int) < 256) = false := by simp; omega
        go_wp2
        go_roundg (n - (k + 1))
        case measure => have := HK.out; omega
        case rel => exact ⟨k + 1, i5, by omega, by go_num, hR5, hS5, hT4.trans hT5⟩
    · have hge : n ≤ k := by omega
      obtain ⟨xs, hxl, hrx⟩ := hR.rd
      have hcv := conv_back wr (some ⟨w1.heap.size, 0, none⟩) n xs hrx
      rw [hxl] at hcv
      have HX := Lib.hid hxl
      clear hlt hxl
      go_wp2
      go_ret
      exact ⟨xs, j, rfl, by have := HX.out; omega, hS, hT⟩
end Go.Proofs.YtmjlnckmhdgoiaaGreatDoor
