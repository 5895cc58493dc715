/- Compare of the program; the reference's comparisons of two values that read as one. -/
import Derived.Test.YtecmpkcjeaiknaaDoorTl
import Derived.Test.YtecmpkcjeaiknaaDoorTn
namespace Go.Proofs.YtecmpkcjeaiknaaDoor
open Go.RowKit
set_option linter.unusedVariables false

theorem Quiet.drewN {w w' : World} (h : Quiet w w') (m : Nat) : Quiet w (w'.drewN m) := by obtain ⟨n, rfl⟩ := h; exact ⟨n + m, World.drewN_drewN _ _ _⟩
theorem Quiet.trans {a b c : World} (h : Quiet a b) (k : Quiet b c) : Quiet a c := by obtain ⟨n, rfl⟩ := k; exact h.drewN n
theorem Quiet.cell {w w' : World} (h : Quiet w w') (p : Addr) : w'.cell? p = w.cell? p := by obtain ⟨n, rfl⟩ := h; rfl
section
variable {P : Program} {ops : Array Oper} {rest : List Oper} {op : Oper} {a : Act} {w : World} {Q : Exit → Act → World → Prop}
theorem wpList_wanted (hw : Region.wanted op (yielded ops a.tmps) = true) (h : ∀ K : Act → World → Prop, (∀ a w, wpList P ops Q rest a w → K a w) → op.wp P a w K Q) : wpList P ops Q (op :: rest) a w := wpList_step fun K hK => by rw [if_pos hw]; exact h K hK
theorem wpList_load_one_w (hw : Region.wanted op (yielded ops a.tmps) = true) (ty : TypeId) (x : Operand) (ho : op.op = .load ty x)
    (b o : Nat) (hx : a.eval x = .pointer (some ⟨b, o, none⟩)) (cs : List Value) (v : Value) (t : TypeId) (hB : w.heap[b]? = some (.cells cs.toArray t (0, 0))) (e : cs[o]? = some v) (d : TypeDesc) (hu : P.underlying ty = some d) (hd : d.isRow = false)
    (h : wpList P ops Q rest (a.put op.dst v) w) : wpList P ops Q (op :: rest) a w := by
  refine wpList_wanted hw fun K hK => ?_
  unfold Oper.wp execOp
  simp only [ho, hx, Instr.loadAt, Instr.sureAddr, Sem.run_bind, Sem.run_pure, Result.andThen_ok, run_loadVar_one w b o ty v d (by rw [cell_of_row w b o _ t (0, 0) hB]; simpa using e) hu hd]
  exact hK _ _ h
set_option maxRecDepth 100000 in
theorem wpList_load_box_w (hw : Region.wanted op (yielded ops a.tmps) = true) (ty : TypeId) (x : Operand) (ho : op.op = .load ty x)
    (b o : Nat) (hx : a.eval x = .pointer (some ⟨b, o, none⟩)) (cs l : List Value) (t : TypeId) (hB : w.heap[b]? = some (.cells cs.toArray t (0, 0))) (d : TypeDesc) (hu : P.underlying ty = some d) (hd : d.isRow = true) (n : Nat) (e : (cs.drop o).take n = l) (hn : l.length = n) (hi : (P.info? ty).map (·.size) = some n)
    (h : wpList P ops Q rest (a.put op.dst (.agg l.toArray)) w) : wpList P ops Q (op :: rest) a w := by
  refine wpList_wanted hw fun K hK => wp_load_mid ty x ho b o hx l d (fun j v hv => ?_) hu hd (by rw [hn]; exact hi) (hK _ _ h)
  rw [cell_of_row w b (o + j) _ t (0, 0) hB, ← e] at *
  have hj : j < n := by have := (List.getElem?_eq_some_iff.1 hv).1; rw [List.length_take] at this; omega
  rw [List.getElem?_take_of_lt hj, List.getElem?_drop] at hv
  simpa using hv
end
def CompRet (a b : List Int) (w : World) (e : Ending) (w' : World) : Prop := ∃ v1 v2, e = .returned (.tuple #[v1, v2]) ∧ IntsAt w' v1 (withoutF a b) ∧ IntsAt w' v2 (withoutF b a) ∧ Below w.heap.size w w'
set_option maxRecDepth 100000 in
theorem compare_any (va vb : Value) (a b : List Int) (w : World) (ha : IntsAt w va a) (hb : IntsAt w vb b) (wa : WfL a) (wb : WfL b) : Calls Tryd.prog 25 #[va, vb] w (CompRet a b w) := by
  have HA := Lib.hid ha
  have HB := Lib.hid hb
  have HWA := Lib.hid wa
  have HWB := Lib.hid wb
  clear ha hb wa wb
  go_enter Tryd.func25, Tryd.ntmps25
  go_wp2_with fail
  refine (without_any va vb a b w HA.out HB.out HWA.out HWB.out).mono ?_
  rintro e w1 ⟨v1, rfl, h1, hb1⟩
  have H1 := Lib.hid h1
  have HB1 := Lib.hid hb1
  clear h1 hb1
  go_wp2_with fail
  refine (without_any vb va b a w1 (HB.out.below HB1.out) (HA.out.below HB1.out) HWB.out HWA.out).mono ?_
  rintro e w2 ⟨v2, rfl, h2, hb2⟩
  have H2 := Lib.hid h2
  have HB2 := Lib.hid hb2
  clear h2 hb2
  go_wp2
  go_ret2
  exact ⟨v1, v2, rfl, H1.out.below HB2.out, H2.out, HB1.out.trans (HB2.out.mono HB1.out.size)⟩
def CntRel (n : Nat) (w : World) (g : Nat) (i : Value) (wr : World) : Prop := ∃ k : Nat, k + g = n ∧ i = .int .i64 (k : Int) ∧ Quiet w wr

set_option maxRecDepth 100000 in
set_option maxHeartbeats 4000000 in
theorem sameInts_any (v v' : Value) (l : List Int) (w : World) (h : IntsAt w v l) (h' : IntsAt w v' l) :
    Calls Tryd.prog 20 #[v, v'] w fun e w' => e = .returned (.bool true) ∧ Quiet w w' := by
  obtain ⟨A, c, rfl, r, -, -, hl⟩ := h
  obtain ⟨A', c', rfl, r', -, -, -⟩ := h'
  have hnn : ((l.length : Int) != (l.length : Int)) = false := by simp
  have HR := Lib.hid r
  have HR' := Lib.hid r'
  clear r r'
  go_enter Tryd.func20, Tryd.ntmps20
  go_wp2
  go_loopg [5] l.length (fun g i wr => CntRel l.length w g i wr)
  case atStart => exact ⟨0, by omega, rfl, Quiet.refl _⟩
  case round =>
    obtain ⟨k, hk, rfl, hq⟩ := hrel
    have HK := Lib.hid hk
    have hk2 : k ≤ l.length := by omega
    clear hk
    by_cases hlt : k < l.length
    · have HQ := Lib.hid hq
      obtain ⟨b, off, rfl, m0⟩ := (HR.out.below (hq.below _)).int hlt
      obtain ⟨b', off', rfl, m1⟩ := (HR'.out.below (hq.below _)).int hlt
      clear hq
      generalize l[k]?.getD 0 = x at *
      go_wp2
      go_quiet (fail)
      go_wp2
      have q2 : Quiet wr (wr.drewN nq) := ⟨nq, rfl⟩
      generalize wr.drewN nq = W2 at q2 ⊢
      go_roundg (l.length - (k + 1))
      case measure => have := HK.out; omega
      case rel => exact ⟨k + 1, by have := HK.out; omega, by go_num, HQ.out.trans q2⟩
    · obtain rfl : k = l.length := by omega
      have HQ := Lib.hid hq
      clear hq
      go_wp2
      go_ret
      exact ⟨rfl, HQ.out⟩

set_option maxRecDepth 100000 in
theorem slc_get {w : World} {A : Option Addr} {l : List Slc} (h : Rd w A (slcsCs l)) {k : Nat} (hk : k < l.length) : ∃ b off, A = some ⟨b, off, none⟩ ∧ w.cell? ⟨b, off + k * 3, none⟩ = some (.int .i64 l[k].src) ∧ w.cell? ⟨b, off + k * 3 + 1, none⟩ = some (.int .i64 l[k].frm) ∧ w.cell? ⟨b, off + k * 3 + 2, none⟩ = some (.int .i64 l[k].to_) := by
  have hg : ∀ j, j < 3 → (slcsCs l)[k * 3 + j]? = (slcCs l[k])[j]? := fun j hj => slcsCs_get (List.getElem?_eq_getElem hk) hj
  cases hc : slcsCs l with
  | nil => have := slcsCs_len l; rw [hc] at this; simp at this; omega
  | cons u us =>
    rw [hc] at h hg
    obtain ⟨b, off, rfl, h2⟩ := Rd.lit h
    refine ⟨b, off, rfl, h2 _ _ (hg 0 (by omega)), ?_, ?_⟩
    · rw [Nat.add_assoc]; exact h2 _ _ (hg 1 (by omega))
    · rw [Nat.add_assoc]; exact h2 _ _ (hg 2 (by omega))
set_option maxRecDepth 100000 in
theorem eq3_run (n : Nat) (W : World) (a b c : Int) : (Op.equalIn (n + 2) 69 (.agg #[.int .i64 a, .int .i64 b, .int .i64 c]) (.agg #[.int .i64 a, .int .i64 b, .int .i64 c])).run Tryd.prog W = .ok true W := by
  have hp : Tryd.prog.stoodInHeld 69 = false := by kernel_rfl
  have ha : ∀ w, (isAgg 3).run Tryd.prog w = .ok false w := fun w => by kernel_rfl
  rw [run_equalIn_agg W (n + 1) 69 _ _ (by kernel_rfl) hp]
  simp [Program.fieldsOf, Tryd.underlying69, Op.eqFields, part, ha, Sem.run_bind, run_equalIn_int, Tryd.underlying3]

end Go.Proofs.YtecmpkcjeaiknaaDoor
