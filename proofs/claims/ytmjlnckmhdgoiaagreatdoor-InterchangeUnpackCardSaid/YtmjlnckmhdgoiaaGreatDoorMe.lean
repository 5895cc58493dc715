/- What customsmade.Message holds: the message in a block of its own; Source's Code and Country. -/
import Derived.Test.YtmjlnckmhdgoiaaGreatDoorMd
import Derived.Test.YtmjlnckmhdgoiaaGreatDoorSu
import Derived.Deep.DeepCutAuto
import Derived.Test.YtmjlnckmhdgoiaaGreatDoorMany
namespace Go.Proofs.YtmjlnckmhdgoiaaGreatDoor
open Go.RowKit
set_option linter.unusedVariables false

/-- block g holds the message -/
def MBlk (W : World) (g : Nat) (m : Msg) (A : Option Addr) (c : Nat) : Prop := W.heap[g]? = some (.cells (msgC m A c) 30 (0, 0))
def zeroM : Msg := ⟨0, 0, 0, 0, 0, 0, 0, [], [], 0, 0, [], []⟩
section
variable {w w' W W' : World} {g gs gm : Nat} {m : Msg} {A Av : Option Addr} {c cv : Nat} {l : List Int}
theorem MBlk.lt (h : MBlk W g m A c) : g < W.heap.size := lt_of_block h
theorem MBlk.cell (h : MBlk W g m A c) (k : Nat) : W.cell? ⟨g, k, none⟩ = (msgC m A c)[k]? := cell_of_row _ _ _ _ _ _ h
theorem MBlk.frozen (h : MBlk W g m A c) (k : Nat) : W.frozen? ⟨g, k, none⟩ = false := frozen_of_row _ _ _ _ _ h
theorem MBlk.kept (h : MBlk W g m A c) {row : Option Nat} (hg : W.grownBy W' row) (hr : row ≠ some g) : MBlk W' g m A c := by
  have := hg.block g h.lt (fun e => hr e.symm)
  unfold MBlk at *
  rw [this]; exact h
theorem MBlk.below (h : MBlk W g m A c) (hb : Below W.heap.size W W') : MBlk W' g m A c := by
  have := hb.block g h.lt
  unfold MBlk at *
  rw [this]; exact h
theorem MBlk.belowB {B : Nat} (h : MBlk W g m A c) (hb : Below B W W') (hg : g < B) : MBlk W' g m A c := by
  have := hb.block g hg
  unfold MBlk at *
  rw [this]; exact h
theorem MBlk.other (h : MBlk W g m A c) (p : Addr) (hp : p.block ≠ g) (v : Value) : MBlk (W.setCell p v) g m A c := by
  unfold MBlk at *
  rw [Below.heap_setCell W p v g (fun e => hp e.symm)]; exact h
theorem MBlk.setLot (h : MBlk W g m A c) (x : Int) : MBlk (W.setCell ⟨g, 5, none⟩ (.int .i64 x)) g { m with lot := x } A c := by unfold MBlk at *; rw [heap_setCell_m h]; rfl
theorem MBlk.setOther (h : MBlk W g m A c) (x : Int) : MBlk (W.setCell ⟨g, 6, none⟩ (.int .i64 x)) g { m with other := x } A c := by unfold MBlk at *; rw [heap_setCell_m h]; rfl
theorem MBlk.setCode (h : MBlk W g m A c) (x : Bs) : MBlk (W.setCell ⟨g, 7, none⟩ (.string ⟨x.toArray⟩)) g { m with code := x } A c := by unfold MBlk at *; rw [heap_setCell_m h]; rfl
theorem MBlk.setCountry (h : MBlk W g m A c) (x : Bs) : MBlk (W.setCell ⟨g, 8, none⟩ (.string ⟨x.toArray⟩)) g { m with country := x } A c := by unfold MBlk at *; rw [heap_setCell_m h]; rfl
theorem MBlk.setQuantity (h : MBlk W g m A c) (x : Int) : MBlk (W.setCell ⟨g, 9, none⟩ (.int .i64 x)) g { m with quantity := x } A c := by unfold MBlk at *; rw [heap_setCell_m h]; rfl
theorem MBlk.setAmount (h : MBlk W g m A c) (x : Int) : MBlk (W.setCell ⟨g, 10, none⟩ (.int .i64 x)) g { m with amount := x } A c := by unfold MBlk at *; rw [heap_setCell_m h]; rfl
theorem MBlk.setList (h : MBlk W g m A c) (x : List Int) (A' : Option Addr) (c' : Nat) : MBlk (W.setCell ⟨g, 11, none⟩ (.slice A' x.length c')) g { m with list := x } A' c' := by unfold MBlk at *; rw [heap_setCell_m h]; rfl
theorem MBlk.setText (h : MBlk W g m A c) (x : Bs) : MBlk (W.setCell ⟨g, 12, none⟩ (.string ⟨x.toArray⟩)) g { m with text := x } A c := by unfold MBlk at *; rw [heap_setCell_m h]; rfl
end
/-- a code of two to eight digits -/
def CodeRet (w : World) (g : Nat) (A : Option Addr) (c : Nat) (l : List Int) (e : Ending) (w' : World) : Prop :=
  ∃ (s : Bs) (i : Nat), e = .returned (.string ⟨s.toArray⟩) ∧ codeB s = true ∧ s.length ≤ 8 ∧ Src w' g A c l i ∧ Turned g w w'
def CountryRet (w : World) (g : Nat) (A : Option Addr) (c : Nat) (l : List Int) (e : Ending) (w' : World) : Prop :=
  ∃ (s : Bs) (i : Nat), e = .returned (.string ⟨s.toArray⟩) ∧ countryB s = true ∧ s.length = 2 ∧ Src w' g A c l i ∧ Turned g w w'
def CodeRel (n : Nat) (w : World) (gs : Nat) (A : Option Addr) (c : Nat) (l : List Int) (g : Nat) (v : Value) (wr : World) : Prop :=
  ∃ (s : Bs) (i : Nat), OwnB wr w.heap.size v s ∧ allIn 48 57 s = true ∧ s.length % 2 = 0 ∧ 2 ≤ s.length ∧ s.length ≤ 2 * n ∧ 2 * g + s.length = 2 * n ∧ Src wr gs A c l i ∧ Turned gs w wr
theorem allIn_append (lo hi : Nat) (a b : Bs) : allIn lo hi (a ++ b) = (allIn lo hi a && allIn lo hi b) := by simp [allIn]
set_option maxRecDepth 100000 in
set_option maxHeartbeats 1000000 in
theorem srcCode_any (g : Nat) (A : Option Addr) (c : Nat) (l : List Int) (i : Nat) (n : Nat) (w : World) (h : Src w g A c l i) (hn : 1 ≤ n) (hn2 : n ≤ 4) :
    Calls Tryz.prog 30 #[.pointer (some ⟨g, 0, none⟩), .int .i64 (2 * (n : Int))] w (CodeRet w g A c l) := by
  have HN := Lib.hid (fun (n : Int) (i : Nat) (W : World) (h : Src W g A c l i) (hn : 0 < n) (hn2 : n ≤ 1000000000000000) => srcNext_any g A c l i n W h hn hn2)
  obtain ⟨i0, hi0, hz0, hz1, hz2⟩ := info_parts byteInfo
  have hgl := h.lt
  go_enter Tryz.func30, Tryz.ntmps30
  go_wp2_with fail
  refine (HN.out 2 i w h (by omega) (by omega)).mono ?_
  rintro e w1 ⟨x, i1, rfl, hx0, hx1, hS1, hT1⟩
  obtain ⟨y, rfl⟩ : ∃ y : Nat, x = (y : Int) := ⟨x.toNat, by omega⟩
  have hy2 : y < 2 := by omega
  have hB1 := hT1.size
  have hrow : OwnB (w1.alloc (.cells #[.int .u8 57, .int .u8 (52 + (y : Int))] 5)) w.heap.size (.slice (some ⟨w1.heap.size, 0, none⟩) 2 2) [57, UInt8.ofNat (52 + y)] := by
    have e : ([.int .u8 57, .int .u8 (52 + (y : Int))] : List Value) = u8s [57, UInt8.ofNat (52 + y)] := by
      have e : ((UInt8.ofNat (52 + y)).toNat : Int) = 52 + (y : Int) := by simp [UInt8.toNat_ofNat']; omega
      unfold u8s u8
      rw [List.map_cons, List.map_cons, List.map_nil, e]; rfl
    have := own_new w1 [.int .u8 57, .int .u8 (52 + (y : Int))] 5 1 2 w.heap.size (by unfold maxLen; omega) rfl hB1
    unfold OwnB
    rw [← e]
    exact this
  have hSa := hS1.below ((Below.refl _ _).alloc (Nat.le_refl _) (.cells #[.int .u8 57, .int .u8 (52 + (y : Int))] 5))
  have hTa := hT1.trans (Turned.of_below ((Below.refl _ _).alloc (Nat.le_refl _) (.cells #[.int .u8 57, .int .u8 (52 + (y : Int))] 5)))
  have hin : allIn 48 57 [57, UInt8.ofNat (52 + y)] = true := by
    simp [allIn, inRange]; omega
  go_wp2_with fail
  clear hS1 hT1
  go_loopg [5] (n - 1) (fun f v wr => CodeRel n w g A c l f v wr)
  case atStart => exact ⟨_, i1, hrow, hin, by simp, by simp, by simp; omega, by simp; omega, hSa, hTa⟩
  case round =>
    clear hrow hSa hTa hin hx0 hx1 hy2
    obtain ⟨s, i2, hown, hall, hpar, hl2, hln, hm, hS, hT⟩ := hrel
    have HM := Lib.hid hm
    have HP := Lib.hid hpar
    have HA := Lib.hid hall
    clear hm hpar hall
    obtain ⟨As, cs, rfl, hrs, _, _⟩ := hown.shape
    have hB := hT.size
    by_cases hlt : s.length < 2 * n
    · have hd : (s.length : Int) < 2 * (n : Int) := by omega
      go_wp2_with fail
      refine (HN.out 3 i2 wr hS (by omega) (by omega)).mono ?_
      rintro e w3 ⟨x, i3, rfl, hx0, hx1, hS3, hT3⟩
      obtain ⟨z, rfl⟩ : ∃ z : Nat, x = (z : Int) := ⟨x.toNat, by omega⟩
      have hz3 : z < 3 := by omega
      have hown3 : OwnB w3 w.heap.size (.slice As s.length cs) s := hT3.own hown hgl
      have hB3 : w.heap.size ≤ w3.heap.size := Nat.le_trans hB hT3.size
      have hcs2 : ([.int .u8 48, .int .u8 (49 + (z : Int))] : List Value) = u8s [48, UInt8.ofNat (49 + z)] := by
        have e : ((UInt8.ofNat (49 + z)).toNat : Int) = 49 + (z : Int) := by simp [UInt8.toNat_ofNat']; omega
        unfold u8s u8
        rw [List.map_cons, List.map_cons, List.map_nil, e]; rfl
      have HCS := Lib.hid hcs2
      clear hcs2
      go_wp2_with (at_builtin; refine wpList_append_many w3 rfl (.tmp 15) (.tmp 20) 23 rfl w.heap.size 5 i0 _ 1 1 Tryz.underlying23 hi0 hz0 hz1 hz2 rfl (by omega) _ s.length (u8s s) [.int .u8 48, .int .u8 (49 + (z : Int))] 2 rfl (by simp [Value.oneCell']) rfl hown3 rfl (by unfold maxLen; omega) (by omega) hB3 ?_; intro v5 w5 hown5 hb5 hg5)
      have hown6 : OwnB w5 w.heap.size v5 (s ++ [48, UInt8.ofNat (49 + z)]) := by
        rw [HCS.out] at hown5
        unfold OwnB
        rw [List.length_append]
        simpa [u8s] using hown5
      have hne : (Value.slice As s.length cs).ownBlock = none ∨ (Value.slice As s.length cs).ownBlock ≠ some g := by
        cases hv : (Value.slice As s.length cs).ownBlock with
        | none => exact .inl rfl
        | some k => exact .inr (by intro e; injection e with e; have := (hown3.lt hv).1; omega)
      have hin : allIn 48 57 [48, UInt8.ofNat (49 + z)] = true := by
        simp [allIn, inRange]; omega
      have hS5 : Src w5 g A c l i3 := hS3.belowB hb5 hgl
      have hT5 : Turned g w w5 := ⟨hb5.os.trans (hT.trans hT3).os, hb5.tape.trans (hT.trans hT3).tape, hb5.output.trans (hT.trans hT3).output, Nat.le_trans (hT.trans hT3).size hb5.size, fun j hj hne => (hb5.block j hj).trans ((hT.trans hT3).block j hj hne)⟩
      go_roundg ((2 * n - s.length - 2) / 2)
      case measure => have := HM.out; omega
      case rel => exact ⟨_, i3, hown6, by rw [allIn_append, HA.out, hin]; rfl, by have := HP.out; simp; omega, by simp, by have := HP.out; simp; omega, by have := HP.out; simp; omega, hS5, hT5⟩
    · have hd : ¬ (s.length : Int) < 2 * (n : Int) := by omega
      have hcv := conv_back wr As cs s hrs
      go_wp2_with fail
      go_ret
      refine ⟨s, i2, rfl, ?_, by omega, hS, hT⟩
      unfold codeB
      have h1 : decide (s.length ≤ 8) = true := by simp; omega
      have h2 : decide (s.length % 2 = 0) = true := by simpa using HP.out
      rw [h1, h2, HA.out]
      rfl
def cts : List Bs := [[65, 65], [66, 66], [67, 67], [68, 68], [69, 69], [70, 70]]
theorem cts_ok : ∀ s ∈ cts, countryB s = true ∧ s.length = 2 := by decide
theorem countries_any (w : World) : Calls Tryz.prog 57 #[] w fun e w' => e = .returned (.slice (some ⟨w.heap.size, 0, none⟩) 6 6) ∧ w.alloc (.cells (strs cts).toArray 9) = w' := by
  go_enter Tryz.func57, Tryz.ntmps57
  go_wp2
  go_ret
  exact ⟨rfl, rfl⟩
set_option maxRecDepth 100000 in
set_option maxHeartbeats 1000000 in
theorem srcCountry_any (g : Nat) (A : Option Addr) (c : Nat) (l : List Int) (i : Nat) (w : World) (h : Src w g A c l i) :
    Calls Tryz.prog 31 #[.pointer (some ⟨g, 0, none⟩)] w (CountryRet w g A c l) := by
  have HN := Lib.hid (fun (n : Int) (i : Nat) (W : World) (h : Src W g A c l i) (hn : 0 < n) (hn2 : n ≤ 1000000000000000) => srcNext_any g A c l i n W h hn hn2)
  have HC := Lib.hid (countries_any w)
  have hgl := h.lt
  have hb0 := (Below.refl w.heap.size w).alloc (Nat.le_refl _) (.cells (strs cts).toArray 9)
  have hS0 := h.below hb0
  have hcell : ∀ k, (hk : k < 6) → (w.alloc (.cells (strs cts).toArray 9)).cell? ⟨w.heap.size, k, none⟩ = some (.string ⟨(cts[k]'hk).toArray⟩) := fun k hk => by
    have := cells_new_at w (strs cts) 9 k _ (strs_get (l := cts) hk)
    rw [Addr.add_lit, Nat.zero_add] at this
    exact this
  have hz : w.heap.size < (w.alloc (.cells (strs cts).toArray 9)).heap.size := by simp
  generalize w.alloc (.cells (strs cts).toArray 9) = W0 at HC hb0 hS0 hcell hz
  go_enter Tryz.func31, Tryz.ntmps31
  go_wp2_with fail
  refine HC.out.mono ?_
  rintro e w1 ⟨rfl, rfl⟩
  go_wp2_with fail
  refine (HN.out 6 i _ hS0 (by omega) (by omega)).mono ?_
  rintro e w2 ⟨x, i2, rfl, hx0, hx1, hS2, hT2⟩
  obtain ⟨k, rfl⟩ : ∃ k : Nat, x = (k : Int) := ⟨x.toNat, by omega⟩
  have hk : k < 6 := by omega
  have hc2 := (hT2.cell (p := ⟨w.heap.size, k, none⟩) hz (by simp; omega)).trans (hcell k hk)
  have HOK := Lib.hid (cts_ok cts[k] (List.getElem_mem (l := cts) hk))
  generalize (cts[k]'hk) = s at hc2 HOK
  clear hcell
  go_wp2_with fail
  go_ret
  exact ⟨s, i2, rfl, HOK.out.1, HOK.out.2, hS2, (Turned.of_below hb0).trans hT2⟩
end Go.Proofs.YtmjlnckmhdgoiaaGreatDoor
