/- The tables that the rows list; a byte that came in. -/
import Derived.Test.YtmjlnckmhdgoiaaGreatDoorMi
import Derived.Test.YtmjlnckmhdgoiaaGreatDoorRows
import Derived.Lib.LaidTab
import Derived.LaidSub
import Derived.MakeChecks
namespace Go.Proofs.YtmjlnckmhdgoiaaGreatDoor
open Go.ChangeShapes Go.WideShapes Go.RowKit
set_option linter.unusedVariables false

def litCells : DataW Unit → Array Value
  | .agg l => (l.map fun | .lit (.int k n) => Value.int k n | _ => undef).toArray
  | _ => #[]
theorem tabType : (Tryz.prog.globals[1]?).map (·.type) = some 141 := by kernel_rfl
theorem tab_of_laid {l : List (String × DataW Unit)} {W : World} (h : laidMetH Tryz.prog l W) (h0 : (l.all fun x => x.2.handleName?.isNone) = true)
    (hf : l.filter (fun x => x.1 == "internal/strconv.uint64pow10") = [("internal/strconv.uint64pow10", Rows.laid_internal_strconv_uint64pow10)]) : Tab W := by
  rw [Go.MakeChecks.laidMetH_plain _ _ _ h0] at h
  have h2 := h.filter (fun x => x.1 == "internal/strconv.uint64pow10")
  rw [hf] at h2
  exact Lib.tabIs_of_head (rest := []) tabGlobal tabType Tryz.underlying141 Tryz.underlying129 (by kernel_rfl) (by kernel_rfl) h2
set_option maxRecDepth 100000 in
theorem open_u8 {H : Type} {enc : TypeId × Value → H} {w : World} {r : Reach} {b0 : Nat} {v : Value} {d : DataW H} {p : List MemPlace} (hv : Value.okWide Tryz.prog w r b0 5 v) (h : DataW.Trod enc Tryz.prog w 0 (fun _ => true) true 5 v d p) :
    ∃ c : UInt8, v = .int .u8 (c.toNat : Int) := by
  obtain ⟨n, rfl, _, _, hw⟩ := open_int Tryz.underlying5 hv h
  have hb := bounds_u8 hw
  refine ⟨UInt8.ofNat n.toNat, ?_⟩
  have : ((UInt8.ofNat n.toNat).toNat : Int) = n := by simp [UInt8.toNat_ofNat']; omega
  rw [this]
theorem OkM.bd {m : Msg} (h : OkM m) : MBd m := ⟨by have := code_len h.code; omega, by have := country_len h.country; omega, by have := h.ll; omega, by have := h.tl; omega⟩
theorem validate_ok (m : Msg) (A : Option Addr) (c : Nat) (W : World) (h : Rd W A (ints m.list)) (hk : OkM m) :
    Calls Tryz.prog 67 #[msgV m A c] W fun e w' => e = .returned (.int .i64 0) ∧ Below W.heap.size W w' := by
  have h2 := validate_m m A c W h hk.bd
  rwa [okM_iff.2 hk] at h2
theorem own_ints {w : World} {B : Nat} {A : Option Addr} {c : Nat} {l : List Int} (h : w.ownsRow B 3 1 (.slice A l.length c) l.length (ints l)) : Rd w A (ints l) := by
  obtain ⟨A', c', e, h2, _⟩ := own_shape h
  injection e with e1 _ _
  subst e1
  exact h2.rd
theorem Tab.belowB {w w' : World} {g : Nat} (h : Tab w) (hb : Below g w w') (hg : w.heap.size = g) : Tab w' := by subst hg; exact h.below hb
end Go.Proofs.YtmjlnckmhdgoiaaGreatDoor
