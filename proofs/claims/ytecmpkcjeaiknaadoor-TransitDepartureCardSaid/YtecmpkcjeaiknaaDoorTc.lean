/- The contracts of slices.Clone; copies of departures and arrivals. -/
import Derived.Test.YtecmpkcjeaiknaaDoorTb
import Derived.Test.YtecmpkcjeaiknaaDoorOrd
namespace Go.Proofs.YtecmpkcjeaiknaaDoor
open Go.RowKit
set_option linter.unusedVariables false

theorem intInfo : (Tryd.prog.info? 3).map (fun i => (i.zero, i.size, i.bytes)) = some (some (.int .i64 0), 1, 8) := by kernel_rfl
theorem slcInfo : (Tryd.prog.info? 69).map (fun i => (i.zero, i.size, i.bytes)) = some (some (.agg #[.int .i64 0, .int .i64 0, .int .i64 0]), 3, 24) := by kernel_rfl
set_option maxRecDepth 100000 in
theorem info_parts {P : Program} {t : TypeId} {z : Value} {s b : Nat} (h : (P.info? t).map (fun i => (i.zero, i.size, i.bytes)) = some (some z, s, b)) : ∃ i, P.info? t = some i ∧ i.zero = some z ∧ i.size = s ∧ i.bytes = b := by
  cases hi : P.info? t with
  | none => rw [hi] at h; cases h
  | some i =>
    rw [hi] at h
    simp only [Option.map_some, Option.some.injEq, Prod.mk.injEq] at h
    exact ⟨i, rfl, h.1, h.2.1, h.2.2⟩

def cloneIRet (l : List Int) (w : World) (e : Ending) (w' : World) : Prop := ∃ v, e = .returned v ∧ OwnX w' w.heap.size 3 1 v l.length (ints l) ∧ IntsAt w' v l ∧ Below w.heap.size w w'
set_option maxRecDepth 100000 in
set_option maxHeartbeats 1000000 in
theorem cloneI_any (A : Option Addr) (c : Nat) (l : List Int) (w : World) (h : IntsAt w (.slice A l.length c) l) :
    Calls Tryd.prog 23 #[.slice A l.length c] w (cloneIRet l w) := by
  obtain ⟨A', c', e, hr, hlc, hcm, hlb⟩ := h
  injection e with e1 _ e3
  subst e1; subst e3
  cases A with
  | none =>
    have hl : l = [] := by
      cases l with
      | nil => rfl
      | cons x r => obtain ⟨ad, h1, _⟩ := hr 0 _ rfl; cases h1
    subst hl
    clear hr hlc hcm hlb
    have hnil := fun (W : World) => Lib.run_eql_slice_nil (P := Tryd.prog) W 22 3 none 0 c 0 0 Tryd.underlying22
    go_enter Tryd.func23, Tryd.ntmps23
    go_wp2
    go_ret
    exact ⟨_, rfl, OwnX.nil_ _ _ _ _, IntsAt.nil_ _, Below.refl _ _⟩
  | some ad =>
    have HL := Lib.hid (OwnX.lit0 w w.heap.size 3 1 (Nat.le_refl _))
    have q0 := (Below.refl w.heap.size w).alloc (Nat.le_refl _) (.cells #[] 3)
    have HR := Lib.hid (hr.below q0)
    have Q0 := Lib.hid q0
    have HLB := Lib.hid hlb
    obtain ⟨i0, hi0, hz0, hz1, hz2⟩ := info_parts intInfo
    clear hr hlc hcm q0
    generalize hnn : l.length = n at *
    have hnil := fun (W : World) => Lib.run_eql_slice_nil (P := Tryd.prog) W 22 3 (some ad) n c 0 0 Tryd.underlying22
    have HNN := Lib.hid hnn
    clear hnn
    have hn : n * 8 ≤ 140737488351232 := hlb
    clear hlb
    go_enter Tryd.func23, Tryd.ntmps23
    go_wp2_with (at_builtin; refine wpList_append_x (w.alloc (.cells #[] 3)) rfl (.tmp 5) (.tmp 6) 22 rfl w.heap.size 3 i0 _ 1 8 Tryd.underlying22 hi0 hz0 hz1 hz2 rfl (by omega) _ 0 [] rfl HL.out (some ad) n c (ints l) rfl (by rw [ints_len, HNN.out]; omega) HR.out (ints_one l) (by unfold maxLen; omega) (by omega) (by simp) ?_; intro v2 w3 hown hgr _)
    go_ret
    have ho : OwnX w3 w.heap.size 3 1 v2 l.length (ints l) := by rw [HNN.out]; simpa using hown
    exact ⟨v2, rfl, ho, IntsAt.of_own ho (by rw [HNN.out]; exact HLB.out), Q0.out.trans ((Below.refl _ _).grown hgr (by simp) (fun k e => (HL.out.block_lt e).1))⟩

def cloneSRet (l : List Slc) (w : World) (e : Ending) (w' : World) : Prop := ∃ v, e = .returned v ∧ OwnX w' w.heap.size 69 3 v l.length (slcsCs l) ∧ SlcsAt w' v l ∧ Below w.heap.size w w'
set_option maxRecDepth 100000 in
set_option maxHeartbeats 1000000 in
theorem cloneS_any (A : Option Addr) (c : Nat) (l : List Slc) (w : World) (h : SlcsAt w (.slice A l.length c) l) :
    Calls Tryd.prog 45 #[.slice A l.length c] w (cloneSRet l w) := by
  obtain ⟨A', c', e, hr, hlc, hcm, hlb⟩ := h
  injection e with e1 _ e3
  subst e1; subst e3
  cases A with
  | none =>
    have hl : l = [] := by
      cases l with
      | nil => rfl
      | cons x r => obtain ⟨ad, h1, _⟩ := hr 0 _ rfl; cases h1
    subst hl
    clear hr hlc hcm hlb
    have hnil := fun (W : World) => Lib.run_eql_slice_nil (P := Tryd.prog) W 41 69 none 0 c 0 0 Tryd.underlying41
    go_enter Tryd.func45, Tryd.ntmps45
    go_wp2
    go_ret
    exact ⟨_, rfl, OwnX.nil_ _ _ _ _, SlcsAt.nil_ _, Below.refl _ _⟩
  | some ad =>
    have HL := Lib.hid (OwnX.lit0 w w.heap.size 69 3 (Nat.le_refl _))
    have q0 := (Below.refl w.heap.size w).alloc (Nat.le_refl _) (.cells #[] 69)
    have HR := Lib.hid (hr.below q0)
    have Q0 := Lib.hid q0
    have HLB := Lib.hid hlb
    obtain ⟨i0, hi0, hz0, hz1, hz2⟩ := info_parts slcInfo
    clear hr hlc hcm q0
    generalize hnn : l.length = n at *
    have hnil := fun (W : World) => Lib.run_eql_slice_nil (P := Tryd.prog) W 41 69 (some ad) n c 0 0 Tryd.underlying41
    have HNN := Lib.hid hnn
    clear hnn
    have hn : n * 24 ≤ 140737488351232 := hlb
    clear hlb
    go_enter Tryd.func45, Tryd.ntmps45
    go_wp2_with (at_builtin; refine wpList_append_x (w.alloc (.cells #[] 69)) rfl (.tmp 5) (.tmp 6) 41 rfl w.heap.size 69 i0 _ 3 24 Tryd.underlying41 hi0 hz0 hz1 hz2 rfl (by omega) _ 0 [] rfl HL.out (some ad) n c (slcsCs l) rfl (by rw [slcsCs_len, HNN.out]) HR.out (slcsCs_one l) (by unfold maxLen; omega) (by omega) (by simp) ?_; intro v2 w3 hown hgr _)
    go_ret
    have ho : OwnX w3 w.heap.size 69 3 v2 l.length (slcsCs l) := by rw [HNN.out]; simpa using hown
    exact ⟨v2, rfl, ho, SlcsAt.of_own ho (by rw [HNN.out]; exact HLB.out), Q0.out.trans ((Below.refl _ _).grown hgr (by simp) (fun k e => (HL.out.block_lt e).1))⟩
end Go.Proofs.YtecmpkcjeaiknaaDoor
