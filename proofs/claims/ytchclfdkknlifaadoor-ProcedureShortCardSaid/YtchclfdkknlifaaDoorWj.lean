/- Contracts of Cut and of the laws' actions. -/
import Derived.Test.YtchclfdkknlifaaDoorWd
import Derived.Test.YtchclfdkknlifaaDoorWa
import Derived.Deep.LoopGhost
namespace Go.Proofs.YtchclfdkknlifaaDoor
open Go.RowKit
set_option linter.unusedVariables false

theorem run_head (W : World) (A : Option Addr) (n c k : Nat) (hk : k ≤ c) :
    (Instr.slice 29 (.slice A n c) none (some (.int .i64 k)) none).run Tryd.prog W = .ok (.slice A k c) W := by
  rw [run_slice_h W 29 A n c (by kernel_rfl) .i64 (k : Int) (by omega) (by omega)]
  have hs : (sizeOf (Tryd.prog.elem 29)).run Tryd.prog W = .ok 1 W := by kernel_rfl
  rw [hs]
  have : A.map (fun x => x.add 0) = A := by cases A <;> simp [Addr.add]
  simp [sliced, Result.andThen, this]

set_option maxHeartbeats 400000 in
theorem cut_any (A : Option Addr) (c : Nat) (l : List Int) (n : Nat) (w : World) (hn : n ≤ 1000000) (hl : l.length ≤ c) (hc : c ≤ 17592186044416) :
    Calls Tryd.prog 28 #[.slice A l.length c, .int .i64 n] w fun e w' => e = .returned (.slice A (l.take n).length c) ∧ w = w' := by
  by_cases h : n < l.length
  · have hr := fun W => run_head W A l.length c n (by omega)
    have e : Hid ((l.take n).length = n) := by show _ = _; rw [List.length_take]; omega
    go_enter Tryd.func28, Tryd.ntmps28
    go_wp2
    go_ret
    exact ⟨by rw [e.out]; rfl, rfl⟩
  · have h2 : l.length ≤ n := by omega
    have e : Hid (l.take n = l) := List.take_of_length_le h2
    clear h
    go_enter Tryd.func28, Tryd.ntmps28
    go_wp2
    go_ret
    exact ⟨by rw [e.out]; rfl, rfl⟩

/-- the list that actions makes -/
def actF (l : List Int) : List Int := (l.take 40).map fun x => 1 + x % 14
def ActRel (w : World) (l : List Int) (g : Nat) (v i : Value) (wr : World) : Prop :=
  ∃ k, k + g = l.length ∧ i = .int .i64 (k : Int) ∧ OwnI wr w.heap.size v ((l.take k).map fun x => 1 + x % 14) ∧ Below w.heap.size w wr

set_option maxHeartbeats 1000000 in
theorem actions_any (A : Option Addr) (c : Nat) (l : List Int) (w : World) (hs : Rd w A (ints l)) (hl : l.length ≤ c) (hc : c ≤ 17592186044416) :
    Calls Tryd.prog 17 #[.slice A l.length c] w fun e w' => ∃ v, e = .returned v ∧ OwnI w' w.heap.size v (actF l) ∧ Below w.heap.size w w' := by
  have hcut := cut_any A c l 40 w (by omega) hl hc
  have hs2 : Rd w A (ints (l.take 40)) := by have := hs.take 40; rwa [ints, ← List.map_take] at this
  have hl2 : (l.take 40).length ≤ 40 := List.length_take_le 40 l
  unfold actF
  generalize l.take 40 = m at hcut hs2 hl2
  have HC := Lib.hid hcut
  clear hcut hs
  go_enter Tryd.func17, Tryd.ntmps17
  go_wp2_with (go_at_call 28; refine HC.out.mono ?_; rintro e w' ⟨rfl, rfl⟩)
  go_loopg [3, 4] m.length (fun g v i wr => ActRel w m g v i wr)
  case atStart => exact ⟨0, by omega, rfl, OwnI.nil_ _ _, Below.refl _ _⟩
  case round =>
    obtain ⟨k, hk, rfl, ho, hb⟩ := hrel
    have HK := Lib.hid hk
    have hk2 : k ≤ m.length := by omega
    clear hk
    by_cases hlt : k < m.length
    · obtain ⟨b, off, rfl, hcell⟩ := (hs2.below hb).int hlt
      have hsn : Hid ((m.take (k + 1)).map (fun x => 1 + x % 14) = (m.take k).map (fun x => 1 + x % 14) ++ [1 + (m[k]?.getD 0) % 14]) := by
        show _ = _
        rw [List.take_succ_eq_append_getElem hlt, List.getElem?_eq_getElem hlt, List.map_append]
        rfl
      have hlen : ((m.take k).map fun x => 1 + x % 14).length ≤ 40 := by simp; omega
      obtain ⟨a, ha⟩ : ∃ a, a = m[k]?.getD 0 := ⟨_, rfl⟩
      have HW := Lib.hid (fun w => within_any a 14 w (by omega) (by omega))
      have b1 := Int.emod_nonneg a (by omega : (14 : Int) ≠ 0)
      have b2 := Int.emod_lt_of_pos a (by omega : (0 : Int) < 14)
      rw [← ha] at hcell hsn
      clear ha
      generalize (m.take k).map (fun x => 1 + x % 14) = xs at *
      generalize hx : a % 14 = x at *
      clear hx
      have hoa := OwnX.alloc ho (.cells #[.int .i64 (1 + x)] 3)
      go_wp2_with (first
        | (go_at_call 9; refine (HW.out _).mono ?_; rintro e w' ⟨rfl, rfl⟩)
        | (at_builtin; refine wpList_append_int _ rfl _ _ rfl w.heap.size _ xs rfl hoa (some ⟨wr.heap.size, 0, none⟩) 1 1 [1 + x] rfl rfl (Rd.one wr _ _) (by simp; omega) (by have := hb.size; simp; omega) ?_; intro v2 w2 ho2 hg2 hat2))
      go_roundg (m.length - (k + 1))
      case measure => have := HK.out; omega
      case rel =>
        refine ⟨k + 1, by omega, by go_num, by rw [hsn.out]; exact ho2, (hb.alloc hb.size _).grown hg2 (by have := hb.size; simp; omega) (fun g hg => (OwnX.block_lt ho hg).1)⟩
    · have hge : m.length ≤ k := by omega
      clear hlt
      go_wp2
      go_ret
      rw [List.take_of_length_le hge] at ho
      exact ⟨_, rfl, ho, hb⟩
end Go.Proofs.YtchclfdkknlifaaDoor
