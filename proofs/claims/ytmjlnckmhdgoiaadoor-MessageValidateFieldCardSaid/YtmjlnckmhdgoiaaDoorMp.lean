/- A message that is stored whole into its block. -/
import Derived.Test.YtmjlnckmhdgoiaaDoorMf
namespace Go.Proofs.YtmjlnckmhdgoiaaDoor
open Go.RowKit
set_option linter.unusedVariables false

section
variable {W : World} {g : Nat} {m : Msg} {A : Option Addr} {c : Nat}
theorem MBlk.setKind (h : MBlk W g m A c) (x : Int) : MBlk (W.setCell ⟨g, 0, none⟩ (.int .i64 x)) g { m with kind := x } A c := by unfold MBlk at *; rw [heap_setCell_m h]; rfl
theorem MBlk.setSrc (h : MBlk W g m A c) (x : Int) : MBlk (W.setCell ⟨g, 1, none⟩ (.int .i64 x)) g { m with src := x } A c := by unfold MBlk at *; rw [heap_setCell_m h]; rfl
theorem MBlk.setDst (h : MBlk W g m A c) (x : Int) : MBlk (W.setCell ⟨g, 2, none⟩ (.int .i64 x)) g { m with dst := x } A c := by unfold MBlk at *; rw [heap_setCell_m h]; rfl
theorem MBlk.setNumber (h : MBlk W g m A c) (x : Int) : MBlk (W.setCell ⟨g, 3, none⟩ (.int .i64 x)) g { m with number := x } A c := by unfold MBlk at *; rw [heap_setCell_m h]; rfl
theorem MBlk.setDay (h : MBlk W g m A c) (x : Int) : MBlk (W.setCell ⟨g, 4, none⟩ (.int .i64 x)) g { m with day := x } A c := by unfold MBlk at *; rw [heap_setCell_m h]; rfl
end
theorem MBlk.putAll {W : World} {g : Nat} {m : Msg} {A : Option Addr} {c : Nat} (h : MBlk W g m A c) (m' : Msg) (A' : Option Addr) (c' : Nat) : MBlk (((((((((((((W.setCell ⟨g, 0, none⟩ (.int .i64 m'.kind)).setCell ⟨g, 1, none⟩ (.int .i64 m'.src)).setCell ⟨g, 2, none⟩ (.int .i64 m'.dst)).setCell ⟨g, 3, none⟩ (.int .i64 m'.number)).setCell ⟨g, 4, none⟩ (.int .i64 m'.day)).setCell ⟨g, 5, none⟩ (.int .i64 m'.lot)).setCell ⟨g, 6, none⟩ (.int .i64 m'.other)).setCell ⟨g, 7, none⟩ (.string ⟨m'.code.toArray⟩)).setCell ⟨g, 8, none⟩ (.string ⟨m'.country.toArray⟩)).setCell ⟨g, 9, none⟩ (.int .i64 m'.quantity)).setCell ⟨g, 10, none⟩ (.int .i64 m'.amount)).setCell ⟨g, 11, none⟩ (.slice A' m'.list.length c')).setCell ⟨g, 12, none⟩ (.string ⟨m'.text.toArray⟩)) g m' A' c' := by
  have h := ((((h.setKind m'.kind).setSrc m'.src).setDst m'.dst).setNumber m'.number).setDay m'.day
  have h := ((((h.setLot m'.lot).setOther m'.other).setCode m'.code).setCountry m'.country).setQuantity m'.quantity
  have h := ((h.setAmount m'.amount).setList m'.list A' c').setText m'.text
  exact h
theorem putAll_below {W w : World} {g B : Nat} (h : Below B w W) (hB : B ≤ g) (m' : Msg) (A' : Option Addr) (c' : Nat) : Below B w (((((((((((((W.setCell ⟨g, 0, none⟩ (.int .i64 m'.kind)).setCell ⟨g, 1, none⟩ (.int .i64 m'.src)).setCell ⟨g, 2, none⟩ (.int .i64 m'.dst)).setCell ⟨g, 3, none⟩ (.int .i64 m'.number)).setCell ⟨g, 4, none⟩ (.int .i64 m'.day)).setCell ⟨g, 5, none⟩ (.int .i64 m'.lot)).setCell ⟨g, 6, none⟩ (.int .i64 m'.other)).setCell ⟨g, 7, none⟩ (.string ⟨m'.code.toArray⟩)).setCell ⟨g, 8, none⟩ (.string ⟨m'.country.toArray⟩)).setCell ⟨g, 9, none⟩ (.int .i64 m'.quantity)).setCell ⟨g, 10, none⟩ (.int .i64 m'.amount)).setCell ⟨g, 11, none⟩ (.slice A' m'.list.length c')).setCell ⟨g, 12, none⟩ (.string ⟨m'.text.toArray⟩)) := by
  have h := h.setCell (p := ⟨g, 0, none⟩) hB (.int .i64 m'.kind)
  have h := h.setCell (p := ⟨g, 1, none⟩) hB (.int .i64 m'.src)
  have h := h.setCell (p := ⟨g, 2, none⟩) hB (.int .i64 m'.dst)
  have h := h.setCell (p := ⟨g, 3, none⟩) hB (.int .i64 m'.number)
  have h := h.setCell (p := ⟨g, 4, none⟩) hB (.int .i64 m'.day)
  have h := h.setCell (p := ⟨g, 5, none⟩) hB (.int .i64 m'.lot)
  have h := h.setCell (p := ⟨g, 6, none⟩) hB (.int .i64 m'.other)
  have h := h.setCell (p := ⟨g, 7, none⟩) hB (.string ⟨m'.code.toArray⟩)
  have h := h.setCell (p := ⟨g, 8, none⟩) hB (.string ⟨m'.country.toArray⟩)
  have h := h.setCell (p := ⟨g, 9, none⟩) hB (.int .i64 m'.quantity)
  have h := h.setCell (p := ⟨g, 10, none⟩) hB (.int .i64 m'.amount)
  have h := h.setCell (p := ⟨g, 11, none⟩) hB (.slice A' m'.list.length c')
  have h := h.setCell (p := ⟨g, 12, none⟩) hB (.string ⟨m'.text.toArray⟩)
  exact h
theorem MBlk.otherAll {W : World} {g b : Nat} {m : Msg} {A : Option Addr} {c : Nat} (h : MBlk W b m A c) (hb : g ≠ b) (m' : Msg) (A' : Option Addr) (c' : Nat) : MBlk (((((((((((((W.setCell ⟨g, 0, none⟩ (.int .i64 m'.kind)).setCell ⟨g, 1, none⟩ (.int .i64 m'.src)).setCell ⟨g, 2, none⟩ (.int .i64 m'.dst)).setCell ⟨g, 3, none⟩ (.int .i64 m'.number)).setCell ⟨g, 4, none⟩ (.int .i64 m'.day)).setCell ⟨g, 5, none⟩ (.int .i64 m'.lot)).setCell ⟨g, 6, none⟩ (.int .i64 m'.other)).setCell ⟨g, 7, none⟩ (.string ⟨m'.code.toArray⟩)).setCell ⟨g, 8, none⟩ (.string ⟨m'.country.toArray⟩)).setCell ⟨g, 9, none⟩ (.int .i64 m'.quantity)).setCell ⟨g, 10, none⟩ (.int .i64 m'.amount)).setCell ⟨g, 11, none⟩ (.slice A' m'.list.length c')).setCell ⟨g, 12, none⟩ (.string ⟨m'.text.toArray⟩)) b m A c := by
  have h := h.other ⟨g, 0, none⟩ hb (.int .i64 m'.kind)
  have h := h.other ⟨g, 1, none⟩ hb (.int .i64 m'.src)
  have h := h.other ⟨g, 2, none⟩ hb (.int .i64 m'.dst)
  have h := h.other ⟨g, 3, none⟩ hb (.int .i64 m'.number)
  have h := h.other ⟨g, 4, none⟩ hb (.int .i64 m'.day)
  have h := h.other ⟨g, 5, none⟩ hb (.int .i64 m'.lot)
  have h := h.other ⟨g, 6, none⟩ hb (.int .i64 m'.other)
  have h := h.other ⟨g, 7, none⟩ hb (.string ⟨m'.code.toArray⟩)
  have h := h.other ⟨g, 8, none⟩ hb (.string ⟨m'.country.toArray⟩)
  have h := h.other ⟨g, 9, none⟩ hb (.int .i64 m'.quantity)
  have h := h.other ⟨g, 10, none⟩ hb (.int .i64 m'.amount)
  have h := h.other ⟨g, 11, none⟩ hb (.slice A' m'.list.length c')
  have h := h.other ⟨g, 12, none⟩ hb (.string ⟨m'.text.toArray⟩)
  exact h
theorem MBlk.allF {W : World} {g : Nat} {m : Msg} {A : Option Addr} {c : Nat} (h : MBlk W g m A c) : W.frozen? ⟨g, 0, none⟩ = false ∧ W.frozen? ⟨g, 1, none⟩ = false ∧ W.frozen? ⟨g, 2, none⟩ = false ∧ W.frozen? ⟨g, 3, none⟩ = false ∧ W.frozen? ⟨g, 4, none⟩ = false ∧ W.frozen? ⟨g, 5, none⟩ = false ∧ W.frozen? ⟨g, 6, none⟩ = false ∧ W.frozen? ⟨g, 7, none⟩ = false ∧ W.frozen? ⟨g, 8, none⟩ = false ∧ W.frozen? ⟨g, 9, none⟩ = false ∧ W.frozen? ⟨g, 10, none⟩ = false ∧ W.frozen? ⟨g, 11, none⟩ = false ∧ W.frozen? ⟨g, 12, none⟩ = false :=
  ⟨h.frozen _, h.frozen _, h.frozen _, h.frozen _, h.frozen _, h.frozen _, h.frozen _, h.frozen _, h.frozen _, h.frozen _, h.frozen _, h.frozen _, h.frozen _⟩
theorem putAll_size {W : World} {g : Nat} (m' : Msg) (A' : Option Addr) (c' : Nat) : (((((((((((((W.setCell ⟨g, 0, none⟩ (.int .i64 m'.kind)).setCell ⟨g, 1, none⟩ (.int .i64 m'.src)).setCell ⟨g, 2, none⟩ (.int .i64 m'.dst)).setCell ⟨g, 3, none⟩ (.int .i64 m'.number)).setCell ⟨g, 4, none⟩ (.int .i64 m'.day)).setCell ⟨g, 5, none⟩ (.int .i64 m'.lot)).setCell ⟨g, 6, none⟩ (.int .i64 m'.other)).setCell ⟨g, 7, none⟩ (.string ⟨m'.code.toArray⟩)).setCell ⟨g, 8, none⟩ (.string ⟨m'.country.toArray⟩)).setCell ⟨g, 9, none⟩ (.int .i64 m'.quantity)).setCell ⟨g, 10, none⟩ (.int .i64 m'.amount)).setCell ⟨g, 11, none⟩ (.slice A' m'.list.length c')).setCell ⟨g, 12, none⟩ (.string ⟨m'.text.toArray⟩)).heap.size = W.heap.size := by simp
end Go.Proofs.YtmjlnckmhdgoiaaDoor
