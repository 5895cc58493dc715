/- Contracts of the reference's wide numbers: Add, Mul, DivMod. -/
import Derived.Test.YtjgobaedeagojaaDoorProg
import Derived.Test.YtjgobaedeagojaaDoorNe
import Derived.Test.YtjgobaedeagojaaDoorBox
import Derived.WalkKit
import Derived.Laws.Bits64b
import Derived.WalkSpells
import Derived.WalkLawsBesides
import Derived.Outline
import Derived.Lib.Hide
import Derived.Laws.Rows
import Derived.Deep.QuietTactic
import Derived.BigQuiet
import Derived.Deep.LoopGhost
namespace Go.Proofs.YtjgobaedeagojaaDoor
open Go.RowKit
set_option linter.unusedVariables false

def wideV (N : Nat) : Value := .agg #[.int .u64 ((N / 18446744073709551616 : Nat) : Int), .int .u64 ((N % 18446744073709551616 : Nat) : Int)]
theorem ret1 {fn : Func} {R : Ending → World → Prop} {a : Act} {W : World} {k : Tmp} {ty T : TypeId} {g : Nat} {cs : Array Value} {fs : Array Field} (h : fn.results = #[.cell k ty]) (hp : a.tmps.getD k undef = .pointer (some ⟨g, 0, none⟩)) (hg : W.heap[g]? = some (.cells cs T (0, 0)))
    (hu : Tryd.prog.underlying ty = some (.struct fs)) (hi : (Tryd.prog.info? ty).map (·.size) = some cs.size) (hdf : a.defers = []) (hR : R (.returned (.agg cs)) W) : bodyPost Tryd.prog fn R .ret a W :=
  ⟨hdf, _, results_cell_row h a.tmps W g T cs (0, 0) _ hp hg hu rfl hi, hR⟩
theorem ret2 {fn : Func} {R : Ending → World → Prop} {a : Act} {W : World} {k j : Tmp} {ty T : TypeId} {g : Nat} {cs : Array Value} {fs : Array Field} (h : fn.results = #[.cell k ty, .tmp j]) (hp : a.tmps.getD k undef = .pointer (some ⟨g, 0, none⟩)) (hg : W.heap[g]? = some (.cells cs T (0, 0)))
    (hu : Tryd.prog.underlying ty = some (.struct fs)) (hi : (Tryd.prog.info? ty).map (·.size) = some cs.size) (hdf : a.defers = []) (hR : R (.returned (.tuple #[.agg cs, a.tmps.getD j undef])) W) : bodyPost Tryd.prog fn R .ret a W := by
  refine ⟨hdf, _, ?_, hR⟩
  have hp' : a.tmps[k]?.getD undef = .pointer (some ⟨g, 0, none⟩) := by simpa using hp
  simp [results, h, hp', asAddr, run_loadVar_row W g T ty cs (0, 0) _ hg hu rfl hi]
theorem box3 (w : World) (o1 o2 : Obj) (t : TypeId) (z1 z2 x y : Value) (n : Nat) : ((((((w.alloc o1).alloc o2).alloc (.cells #[z1, z2] t)).drewN n).setCell ⟨w.heap.size + 1 + 1, 0, none⟩ x).setCell ⟨w.heap.size + 1 + 1, 1, none⟩ y).heap[w.heap.size + 1 + 1]? = some (.cells #[x, y] t (0, 0)) := by
  have h0 : ((((w.alloc o1).alloc o2).alloc (.cells #[z1, z2] t)).drewN n).heap[w.heap.size + 1 + 1]? = some (.cells #[z1, z2] t (0, 0)) := by
    have := heap_alloc_new ((w.alloc o1).alloc o2) (.cells #[z1, z2] t)
    simpa using this
  have h1 := heap_setCell_same _ _ 0 _ _ x h0
  have h2 := heap_setCell_same _ _ 1 _ _ y h1
  rw [h2]
  simp
theorem drewN_below {B : Nat} {a w : World} (h : Below B a w) : ∀ n, Below B a (w.drewN n)
  | 0 => h
  | n + 1 => (drewN_below h n).drew
theorem below3 (w : World) (o1 o2 o3 : Obj) (x y : Value) (n : Nat) : Below w.heap.size w (((((w.alloc o1).alloc o2).alloc o3).drewN n).setCell ⟨w.heap.size + 1 + 1, 0, none⟩ x |>.setCell ⟨w.heap.size + 1 + 1, 1, none⟩ y) := by
  have h : Below w.heap.size w ((((w.alloc o1).alloc o2).alloc o3).drewN n) := drewN_below ((((Below.refl _ w).alloc (Nat.le_refl _) o1).alloc (by simp) o2).alloc (by simp; omega) o3) n
  exact (h.setCell (by simp; omega) _).setCell (by simp; omega) _
def AddRet (w : World) (x y : Nat) (e : Ending) (w' : World) : Prop := ∃ o, e = .returned (.tuple #[.agg #[.int .u64 (x : Int), .int .u64 (y : Int)], .bool o]) ∧ Below w.heap.size w w'
theorem ret_wide {a b : Int} {a' b' : Nat} {v : Value} {o : Bool} {W W' : World} (hv : v = .bool o) (h1 : a = (a' : Int)) (h2 : b = (b' : Int)) (h : Below W.heap.size W W') : AddRet W a' b' (Ending.returned (.tuple #[.agg #[.int .u64 a, .int .u64 b], v])) W' := ⟨o, by rw [hv, h1, h2], h⟩
set_option maxHeartbeats 1000000 in
theorem refAddW_any (a b c d : Nat) (ha : a < 18446744073709551616) (hb : b < 18446744073709551616) (hc : c < 18446744073709551616) (hd : d < 18446744073709551616) (w : World) :
    Calls Tryd.prog 40 #[.agg #[.int .u64 (a : Int), .int .u64 (b : Int)], .agg #[.int .u64 (c : Int), .int .u64 (d : Int)]] w (AddRet w ((a + c + (b + d) / 18446744073709551616) % 18446744073709551616) ((b + d) % 18446744073709551616)) := by
  go_enter Tryd.func40, Tryd.ntmps40
  go_wp2
  go_quiet (fail)
  go_wp2
  all_goals (refine ret2 (k := 4) (j := 5) (g := w.heap.size + 1 + 1) (T := 58) Tryd.results40 rfl (box3 w _ _ _ _ _ _ _ _) Tryd.underlying58 (by kernel_rfl) rfl ?_)
  all_goals (refine ret_wide rfl ?_ ?_ (below3 w _ _ _ _ _ _))
  all_goals (clear w)
  all_goals (simp only [IntKind.wrap_u64] at *)
  all_goals omega
theorem bit_val (b i : Nat) (hb : b < 18446744073709551616) : bits .and .u64 ((b : Int) / 2 ^ i) 1 = ((b / 2 ^ i % 2 : Nat) : Int) := by
  have h := bits_and_u64_nat (b / 2 ^ i) 1 (Nat.lt_of_le_of_lt (Nat.div_le_self _ _) hb) (by omega)
  rw [Nat.and_one_is_mod] at h
  rw [← h]
  congr 1
/-- block g holds the wide number N -/
def WBox (w : World) (g N : Nat) : Prop := w.heap[g]? = some (.cells [.int .u64 ((N / 18446744073709551616 : Nat) : Int), .int .u64 ((N % 18446744073709551616 : Nat) : Int)].toArray 58 (0, 0))
def AddRetN (w : World) (N : Nat) (e : Ending) (w' : World) : Prop := ∃ o, e = .returned (.tuple #[wideV N, .bool o]) ∧ Below w.heap.size w w'
theorem refAdd_any (M N : Nat) (hs : M + N < 340282366920938463463374607431768211456) (w : World) :
    Calls Tryd.prog 40 #[wideV M, wideV N] w (AddRetN w (M + N)) := by
  refine (refAddW_any _ _ _ _ (by omega) (by omega) (by omega) (by omega) w).mono ?_
  rintro e w' ⟨o, rfl, hb⟩
  refine ⟨o, ?_, hb⟩
  unfold wideV
  have e1 : (M / 18446744073709551616 + N / 18446744073709551616 + (M % 18446744073709551616 + N % 18446744073709551616) / 18446744073709551616) % 18446744073709551616 = (M + N) / 18446744073709551616 := by omega
  have e2 : (M % 18446744073709551616 + N % 18446744073709551616) % 18446744073709551616 = (M + N) % 18446744073709551616 := by omega
  rw [e1, e2]
def MulRel (a b : Nat) (w : World) (g : Nat) (v : Value) (wr : World) : Prop :=
  v = .int .i64 ((g : Int) - 1) ∧ g ≤ 64 ∧ WBox wr (w.heap.size + 1) (a * (b / 2 ^ g)) ∧ (∃ z1 z2, wr.heap[w.heap.size]? = some (.cells [z1, z2].toArray 58 (0, 0))) ∧ Below w.heap.size w wr
set_option maxHeartbeats 4000000 in
theorem refMul_any (a b : Nat) (ha : a < 18446744073709551616) (hb : b < 18446744073709551616) (w : World) :
    Calls Tryd.prog 32 #[.int .u64 (a : Int), .int .u64 (b : Int)] w fun e w' => e = .returned (wideV (a * b)) ∧ Below w.heap.size w w' := by
  go_enter Tryd.func32, Tryd.ntmps32
  go_wp2
  go_loopg [6] 64 (fun g v wr => MulRel a b w g v wr)
  case atStart =>
    refine ⟨rfl, Nat.le_refl _, ?_, ⟨.int .u64 0, .int .u64 0, ?_⟩, ((Below.refl _ w).alloc (Nat.le_refl _) _).alloc (by simp) _⟩
    · have e : b / 2 ^ 64 = 0 := Nat.div_eq_of_lt (by omega)
      rw [e, Nat.mul_zero]
      have := heap_alloc_new (w.alloc (.cells #[.int .u64 0, .int .u64 0] 58)) (.cells #[.int .u64 0, .int .u64 0] 58)
      unfold WBox
      simpa using this
    · have := heap_alloc_new w (.cells #[.int .u64 0, .int .u64 0] 58)
      exact (heap_alloc_old _ _ (by simp)).trans this
  case round =>
    obtain ⟨hv, hg, hB, ⟨z1, z2, hZ⟩, hbl⟩ := hrel
    have HZ := Lib.hid hZ
    have HBL := Lib.hid hbl
    have HSZ := Lib.hid hbl.size
    have HBB := Lib.hid hB
    clear hZ hbl hB
    cases gk with
    | zero =>
      obtain rfl : u6 = .int .i64 (-1) := by rw [hv]; rfl
      clear hv hg
      have HE := Lib.hid (show a * (b / 2 ^ 0) = a * b by rw [Nat.pow_zero, Nat.div_one])
      rw [HE.out] at HBB
      have HBX := HBB
      unfold WBox at HBB
      go_wp2_with (first
        | (refine at_load 58 (.tmp 5) rfl ?_; refine wpList_load_box rfl 58 (.tmp 5) rfl (w.heap.size + 1) 0 rfl _ [.int .u64 ((a * b / 18446744073709551616 : Nat) : Int), .int .u64 ((a * b % 18446744073709551616 : Nat) : Int)] _ HBB.out _ Tryd.underlying58 rfl 2 rfl rfl (by kernel_rfl) ?_; generalize hz1 : a * b / 18446744073709551616 = v1; generalize hz0 : a * b % 18446744073709551616 = v0; have HV := Lib.hid (And.intro hz1 hz0); clear hz1 hz0)
        | (refine at_store 58 (.tmp 4) (.tmp 30) rfl ?_; refine wpList_store_box rfl 58 (.tmp 4) (.tmp 30) rfl w.heap.size 0 (.agg #[.int .u64 (v1 : Int), .int .u64 (v0 : Int)]) #[.int .u64 (v1 : Int), .int .u64 (v0 : Int)] rfl rfl rfl _ [.int .u64 (v1 : Int), .int .u64 (v0 : Int)] _ HZ.out (Nat.le_of_ble_eq_true rfl) rfl (by kernel_rfl) (by rfl) ?_; intro W2 hB2 hbut2; have HBL2 := Lib.hid (HBL.out.but hbut2 (by omega)); have HB2 := Lib.hid hB2; clear hB2 hbut2))
      refine ret1 (k := 4) (g := w.heap.size) (T := 58) Tryd.results32 rfl HB2.out Tryd.underlying58 (by kernel_rfl) rfl ⟨?_, HBL2.out⟩
      unfold wideV
      rw [HV.out.1, HV.out.2]
    | succ i =>
      obtain rfl : u6 = .int .i64 (i : Int) := by rw [hv]; congr 1; omega
      clear hv
      have hi : i < 64 := by omega
      clear hg
      have HS := Lib.hid (mul_step a b i)
      have HBD := Lib.hid (show 2 * (a * (b / 2 ^ (i + 1))) + a < 340282366920938463463374607431768211456 by
        have h1 := Nat.mul_le_mul (show a ≤ 18446744073709551615 by omega) (show b / 2 ^ (i + 1) ≤ 9223372036854775807 by
          have h2 : b / 2 ^ (i + 1) ≤ b / 2 := by rw [Nat.pow_succ, Nat.mul_comm, ← Nat.div_div_eq_div_mul]; exact Nat.div_le_self _ _
          omega)
        omega)
      generalize a * (b / 2 ^ (i + 1)) = X at HS HBD HBB
      have HW := HBB
      unfold WBox at HBB
      generalize hx1 : X / 18446744073709551616 = x1 at HBB
      generalize hx0 : X % 18446744073709551616 = x0 at HBB
      have HX := Lib.hid (And.intro hx1 hx0)
      clear hx1 hx0
      have HADD := Lib.hid (fun W => refAdd_any X X (by have := HBD.out; omega) W)
      unfold wideV at HADD
      rw [HX.out.1, HX.out.2] at HADD
      have EA := Lib.hid (show a / 18446744073709551616 = 0 ∧ a % 18446744073709551616 = a by omega)
      have hbit := bit_val b i hb
      have F1 : True := trivial
      have F2 : True := trivial
      rcases Nat.mod_two_eq_zero_or_one (b / 2 ^ i) with h0 | h0
      · rw [h0] at hbit HS
        have hb0 : bits .and .u64 ((b : Int) / 2 ^ i) 1 = 0 := hbit
        clear hbit h0
        go_wp2_with (first
          | (refine at_load 58 (.tmp 5) rfl ?_; refine wpList_load_box rfl 58 (.tmp 5) rfl (w.heap.size + 1) 0 rfl [.int .u64 (x1 : Int), .int .u64 (x0 : Int)] [.int .u64 (x1 : Int), .int .u64 (x0 : Int)] _ HBB.out _ Tryd.underlying58 rfl 2 rfl rfl (by kernel_rfl) ?_)
          | (go_at_call 40; clear F1; refine (HADD.out _).mono ?_; rintro e W1 ⟨o1, rfl, hb1⟩; unfold wideV; have HY : Hid (WBox W1 (w.heap.size + 1) X) := (hb1.block (w.heap.size + 1) (lt_of_block HW.out)).trans HW.out; have HB1 := HY; unfold WBox at HB1; rw [HX.out.1, HX.out.2] at HB1; generalize hy1 : (X + X) / 18446744073709551616 = y1; generalize hy0 : (X + X) % 18446744073709551616 = y0; have HY2 := Lib.hid (And.intro hy1 hy0); clear hy1 hy0; have HBL1 := Lib.hid (HBL.out.trans (hb1.mono HSZ.out)); have HZ1 := Lib.hid ((hb1.block w.heap.size (lt_of_block HZ.out)).trans HZ.out))
          | (refine at_store 58 (.tmp 5) (.tmp 16) rfl ?_; refine wpList_store_box rfl 58 (.tmp 5) (.tmp 16) rfl (w.heap.size + 1) 0 (.agg #[.int .u64 (y1 : Int), .int .u64 (y0 : Int)]) #[.int .u64 (y1 : Int), .int .u64 (y0 : Int)] rfl rfl rfl _ [.int .u64 (y1 : Int), .int .u64 (y0 : Int)] _ HB1.out (Nat.le_of_ble_eq_true rfl) rfl (by kernel_rfl) (by rfl) ?_; intro W2 hB2 hbut2; have HBL2 := Lib.hid (HBL1.out.but hbut2 (by omega)); have HZ2 := Lib.hid ((hbut2.block w.heap.size (by omega)).trans HZ1.out); have HB2 := Lib.hid hB2; clear hB2 hbut2 hb1 HBL1 HZ1 HB1 HBB HW HZ HBL HY))
        go_roundg i
        case measure => omega
        case rel =>
          refine ⟨rfl, by omega, ?_, ⟨z1, z2, HZ2.out⟩, HBL2.out⟩
          have e := HS.out
          rw [if_neg (by omega)] at e
          unfold WBox
          rw [e, show 2 * X + 0 = X + X by omega, HY2.out.1, HY2.out.2]
          exact HB2.out
      · rw [h0] at hbit HS
        have hb0 : bits .and .u64 ((b : Int) / 2 ^ i) 1 = 1 := hbit
        clear hbit h0
        go_wp2_with (first
          | (refine at_load 58 (.tmp 5) rfl ?_; refine wpList_load_box rfl 58 (.tmp 5) rfl (w.heap.size + 1) 0 rfl [.int .u64 (x1 : Int), .int .u64 (x0 : Int)] [.int .u64 (x1 : Int), .int .u64 (x0 : Int)] _ HBB.out _ Tryd.underlying58 rfl 2 rfl rfl (by kernel_rfl) ?_)
          | (go_at_call 40; clear F1; refine (HADD.out _).mono ?_; rintro e W1 ⟨o1, rfl, hb1⟩; unfold wideV; have HY : Hid (WBox W1 (w.heap.size + 1) X) := (hb1.block (w.heap.size + 1) (lt_of_block HW.out)).trans HW.out; have HB1 := HY; unfold WBox at HB1; rw [HX.out.1, HX.out.2] at HB1; generalize hy1 : (X + X) / 18446744073709551616 = y1; generalize hy0 : (X + X) % 18446744073709551616 = y0; have HY2 := Lib.hid (And.intro hy1 hy0); clear hy1 hy0; have HBL1 := Lib.hid (HBL.out.trans (hb1.mono HSZ.out)); have HZ1 := Lib.hid ((hb1.block w.heap.size (lt_of_block HZ.out)).trans HZ.out))
          | (refine at_store 58 (.tmp 5) (.tmp 16) rfl ?_; refine wpList_store_box rfl 58 (.tmp 5) (.tmp 16) rfl (w.heap.size + 1) 0 (.agg #[.int .u64 (y1 : Int), .int .u64 (y0 : Int)]) #[.int .u64 (y1 : Int), .int .u64 (y0 : Int)] rfl rfl rfl _ [.int .u64 (y1 : Int), .int .u64 (y0 : Int)] _ HB1.out (Nat.le_of_ble_eq_true rfl) rfl (by kernel_rfl) (by rfl) ?_; intro W2 hB2 hbut2; have HBL2 := Lib.hid (HBL1.out.but hbut2 (by omega)); have HZ2 := Lib.hid ((hbut2.block w.heap.size (by omega)).trans HZ1.out); have HB2 := Lib.hid hB2; clear hB2 hbut2 hb1 HBL1 HZ1 HB1 HBB HW HZ HBL HY)
          | (refine at_load 58 (.tmp 5) rfl ?_; refine wpList_load_box rfl 58 (.tmp 5) rfl (w.heap.size + 1) 0 rfl [.int .u64 (y1 : Int), .int .u64 (y0 : Int)] [.int .u64 (y1 : Int), .int .u64 (y0 : Int)] _ HB2.out _ Tryd.underlying58 rfl 2 rfl rfl (by kernel_rfl) ?_)
          | (go_at_call 40; clear F2; have HA2 := Lib.hid (refAdd_any (X + X) a (by have := HBD.out; omega) W2); unfold wideV at HA2; rw [HY2.out.1, HY2.out.2, EA.out.1, EA.out.2] at HA2; refine HA2.out.mono ?_; rintro e W3 ⟨o3, rfl, hb3⟩; unfold wideV; generalize hz1 : (X + X + a) / 18446744073709551616 = v1; generalize hz0 : (X + X + a) % 18446744073709551616 = v0; have HY3 := Lib.hid (And.intro hz1 hz0); clear hz1 hz0; have HB3 := Lib.hid ((hb3.block (w.heap.size + 1) (lt_of_block HB2.out)).trans HB2.out); have HBL3 := Lib.hid (HBL2.out.trans (hb3.mono HBL2.out.size)); have HZ3 := Lib.hid ((hb3.block w.heap.size (lt_of_block HZ2.out)).trans HZ2.out); clear HB2 HBL2 HZ2)
          | (refine at_store 58 (.tmp 5) (.tmp 28) rfl ?_; refine wpList_store_box rfl 58 (.tmp 5) (.tmp 28) rfl (w.heap.size + 1) 0 (.agg #[.int .u64 (v1 : Int), .int .u64 (v0 : Int)]) #[.int .u64 (v1 : Int), .int .u64 (v0 : Int)] rfl rfl rfl _ [.int .u64 (v1 : Int), .int .u64 (v0 : Int)] _ HB3.out (Nat.le_of_ble_eq_true rfl) rfl (by kernel_rfl) (by rfl) ?_; intro W4 hB4 hbut4; have HBL4 := Lib.hid (HBL3.out.but hbut4 (by omega)); have HZ4 := Lib.hid ((hbut4.block w.heap.size (by omega)).trans HZ3.out); have HB4 := Lib.hid hB4; clear hB4 hbut4 hb3 HBL3 HZ3 HB3))
        go_roundg i
        case measure => omega
        case rel =>
          refine ⟨rfl, by omega, ?_, ⟨z1, z2, HZ4.out⟩, HBL4.out⟩
          have e := HS.out
          rw [if_pos trivial] at e
          unfold WBox
          rw [e, show 2 * X + a = X + X + a by omega, HY3.out.1, HY3.out.2]
          exact HB4.out
end Go.Proofs.YtjgobaedeagojaaDoor
