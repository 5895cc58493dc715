/- The contract of add: the errors of a reversal. -/
import Derived.Test.YtefphkefgfoklaaGf
import Derived.Test.YtefphkefgfoklaaTail
import Derived.IntWalk
import Derived.Test.YtefphkefgfoklaaLast
namespace Go.Proofs.Ytefphkefgfoklaa
open Go.RowKit
set_option linter.unusedVariables false

/-- the entry handed in lies boxed at px -/
structure BoxAt (w : World) (B px : Nat) (x : En) : Prop where
  blk : w.heap[px]? = some (.cells (enCs x).toArray 26 (0, 0))
  base : B ≤ px
theorem BoxAt.below {w w' : World} {B px : Nat} {x : En} (h : BoxAt w B px x) (hb : Below w.heap.size w w') : BoxAt w' B px x := ⟨(hb.block _ (Array.getElem?_eq_some_iff.1 h.blk).1).trans h.blk, h.base⟩
theorem BoxAt.cell {w : World} {B px : Nat} {x : En} (h : BoxAt w B px x) : w.cell? ⟨px, 0, none⟩ = some (.int .i64 x.num) ∧ w.cell? ⟨px, 1, none⟩ = some (.int .i64 x.day) ∧ w.cell? ⟨px, 2, none⟩ = some (.int .i64 x.kind) ∧ w.cell? ⟨px, 3, none⟩ = some (.int .i64 x.lot) ∧ w.cell? ⟨px, 4, none⟩ = some (.int .i64 x.amt) ∧ w.cell? ⟨px, 5, none⟩ = some (.int .i64 x.cause) := by
  refine ⟨?_, ?_, ?_, ?_, ?_, ?_⟩ <;> (rw [cell_of_row _ _ _ _ _ _ h.blk]; rfl)
theorem BoxAt.lt {w : World} {B px : Nat} {x : En} (h : BoxAt w B px x) : px < w.heap.size := (Array.getElem?_eq_some_iff.1 h.blk).1
theorem AccG.cell {w : World} {B pa : Nat} {l : List En} {pc b1 b2 n1 n2 : Nat} {v : Value} {M1 M2 : Int → Option Value} (h : AccG w B pa l pc b1 b2 n1 n2 v M1 M2) : w.cell? ⟨pa, 0, none⟩ = some (.slice (some ⟨pc, 0, none⟩) 4 4) ∧ w.cell? ⟨pa, 1, none⟩ = some v ∧ w.cell? ⟨pa, 2, none⟩ = some (.map (some b1)) ∧ w.cell? ⟨pa, 3, none⟩ = some (.map (some b2)) := by
  refine ⟨?_, ?_, ?_, ?_⟩ <;> (rw [cell_of_row _ _ _ _ _ _ h.acc]; rfl)
theorem AccG.entry {w : World} {B pa : Nat} {l : List En} {pc b1 b2 n1 n2 : Nat} {v : Value} {M1 M2 : Int → Option Value} (h : AccG w B pa l pc b1 b2 n1 n2 v M1 M2) {k : Nat} (hk : k < l.length) : ∃ g cap, v = .slice (some ⟨g, 0, none⟩) l.length cap ∧ g < w.heap.size ∧ l.length ≤ cap ∧ cap ≤ maxLen ∧
    w.cell? ⟨g, k * 6, none⟩ = some (.int .i64 (nth l (k + 1)).num) ∧ w.cell? ⟨g, k * 6 + 1, none⟩ = some (.int .i64 (nth l (k + 1)).day) ∧ w.cell? ⟨g, k * 6 + 2, none⟩ = some (.int .i64 (nth l (k + 1)).kind) ∧
    w.cell? ⟨g, k * 6 + 3, none⟩ = some (.int .i64 (nth l (k + 1)).lot) ∧ w.cell? ⟨g, k * 6 + 4, none⟩ = some (.int .i64 (nth l (k + 1)).amt) ∧ w.cell? ⟨g, k * 6 + 5, none⟩ = some (.int .i64 (nth l (k + 1)).cause) := by
  rcases own_shape h.ent with ⟨_, h0⟩ | ⟨g, cap, rfl, _, hg, h1, h2, hc⟩
  · omega
  · have hn := nth_get hk
    refine ⟨g, cap, rfl, hg, h1, h2, ?_, ?_, ?_, ?_, ?_, ?_⟩
    · exact hc (k * 6 + 0) _ (ensCs_get hn (by omega))
    · exact hc (k * 6 + 1) _ (ensCs_get hn (by omega))
    · exact hc (k * 6 + 2) _ (ensCs_get hn (by omega))
    · exact hc (k * 6 + 3) _ (ensCs_get hn (by omega))
    · exact hc (k * 6 + 4) _ (ensCs_get hn (by omega))
    · exact hc (k * 6 + 5) _ (ensCs_get hn (by omega))
set_option maxRecDepth 100000 in
set_option maxHeartbeats 1000000 in
theorem add_unknown (B pa : Nat) (l : List En) (x : En) (w : World) (h : Acc w B pa l) (hB : B ≤ w.heap.size) (hl : l.length < 2000) (hr : rangeB x = true) (hn : x.num = (l.length : Int) + 1) (h9 : x.kind = 9) (hx : (l.length : Int) < x.amt) :
    Calls Try.prog 30 #[.pointer (some ⟨pa, 0, none⟩), enV x] w (IsRet B 6 w) := by
  obtain ⟨pc, b1, b2, n1, n2, v, h⟩ := h
  have HR := Lib.hid (fun W => inRange_any x W)
  rw [hr] at HR
  clear hr
  have hpl := h.lt.1
  have hc1 := h.cell.2.1
  obtain ⟨A, cap, rfl⟩ := own_len h.ent
  unfold enV at *
  obtain ⟨xn, xd, xk, xl, xa, xc⟩ := x
  simp only at *
  subst hn; subst h9
  clear h
  generalize l.length = n at *
  have q0 := (Below.refl B w).alloc hB (.cells #[.int .i64 ((n : Int) + 1), .int .i64 xd, .int .i64 9, .int .i64 xl, .int .i64 xa, .int .i64 xc] 26)
  go_enter Try.func30, Try.ntmps30
  go_wp2_with (go_at_call 42; refine (HR.out _).mono ?_; rintro e w3 ⟨rfl, hb3⟩)
  obtain ⟨hcc, hcf⟩ := bcell hb3
  go_quiet (fail)
  go_wp2
  go_quiet (fail)
  go_wp2
  go_quiet (fail)
  go_wp2
  go_ret
  exact ⟨rfl, drewN_below (drewN_below (q0.trans (hb3.mono (Nat.le_trans hB q0.size))) _) _⟩
theorem AccG.entry' {w : World} {B pa : Nat} {l : List En} {pc b1 b2 n1 n2 g m cap : Nat} {M1 M2 : Int → Option Value} (h : AccG w B pa l pc b1 b2 n1 n2 (.slice (some ⟨g, 0, none⟩) m cap) M1 M2) {k : Nat} (hk : k < l.length) : g < w.heap.size ∧
    w.cell? ⟨g, k * 6, none⟩ = some (.int .i64 (nth l (k + 1)).num) ∧ w.cell? ⟨g, k * 6 + 1, none⟩ = some (.int .i64 (nth l (k + 1)).day) ∧ w.cell? ⟨g, k * 6 + 2, none⟩ = some (.int .i64 (nth l (k + 1)).kind) ∧
    w.cell? ⟨g, k * 6 + 3, none⟩ = some (.int .i64 (nth l (k + 1)).lot) ∧ w.cell? ⟨g, k * 6 + 4, none⟩ = some (.int .i64 (nth l (k + 1)).amt) ∧ w.cell? ⟨g, k * 6 + 5, none⟩ = some (.int .i64 (nth l (k + 1)).cause) := by
  obtain ⟨g', cap', he, h1, _, _, h2⟩ := h.entry hk
  injection he with e1 _ _
  injection e1 with e1
  injection e1 with e1 _ _
  subst e1
  exact ⟨h1, h2⟩
theorem acc_box {w w3 : World} {B pa : Nat} {l : List En} {pc b1 b2 n1 n2 : Nat} {v : Value} (h : AccAt w B pa l pc b1 b2 n1 n2 v) (hB : B ≤ w.heap.size) (x : En)
    (hb : Below (w.alloc (.cells (enCs x).toArray 26)).heap.size (w.alloc (.cells (enCs x).toArray 26)) w3) :
    AccAt w3 B pa l pc b1 b2 n1 n2 v ∧ BoxAt w3 B w.heap.size x ∧ Below B w w3 := by
  have q0 := (Below.refl w.heap.size w).alloc (Nat.le_refl _) (.cells (enCs x).toArray 26)
  have q1 : Below w.heap.size w w3 := q0.trans (hb.mono q0.size)
  exact ⟨h.below q1, ⟨(hb.block _ (by simp)).trans (heap_alloc_new w _), hB⟩, q1.mono hB⟩
theorem BoxAt.room {w : World} {B px : Nat} {x : En} (h : BoxAt w B px x) : B ≤ w.heap.size := Nat.le_trans h.base (Nat.le_of_lt h.lt)
theorem BoxAt.kept {w w' : World} {B px : Nat} {x : En} (h : BoxAt w B px x) {row : Option Nat} (hg : w.grownBy w' row) (hne : row ≠ some px) : BoxAt w' B px x := ⟨(hg.block _ h.lt (Ne.symm hne)).trans h.blk, h.base⟩
theorem grown_drew' {w w' : World} {row : Option Nat} (h : w.drew.grownBy w' row) : w.grownBy w' row := ⟨h.os, h.tape, h.output, h.size, h.block⟩
theorem entInfo : (Try.prog.info? 26).map (fun i => (i.zero, i.size, i.bytes)) = some (some (.agg #[.int .i64 0, .int .i64 0, .int .i64 0, .int .i64 0, .int .i64 0, .int .i64 0]), 6, 48) := by kernel_rfl
/-- a block that is laid now is none of the account's -/
theorem AccG.apart_box {w : World} {B pa : Nat} {l : List En} {pc b1 b2 n1 n2 : Nat} {v : Value} {M1 M2 : Int → Option Value} (h : AccG w B pa l pc b1 b2 n1 n2 v M1 M2) :
    some pa ≠ some w.heap.size ∧ some pc ≠ some w.heap.size ∧ some b1 ≠ some w.heap.size ∧ v.ownBlock ≠ some w.heap.size ∧ some b2 ≠ some w.heap.size := by
  obtain ⟨l1, l2, l3, l4⟩ := h.lt
  exact ⟨fun e => by injection e with e; omega, fun e => by injection e with e; omega, fun e => by injection e with e; omega, fun e => by have := (h.ent.lt _ e).2; omega, fun e => by injection e with e; omega⟩
theorem zeroBa_run (w : World) : (zeroValue 37).run Try.prog w = .ok zeroBa w := by kernel_rfl
theorem zeroBool_run (w : World) : (zeroValue 4).run Try.prog w = .ok (.bool false) w := by kernel_rfl
theorem wf_i64 {x : Int} (h0 : -9223372036854775808 ≤ x) (h1 : x ≤ 9223372036854775807) : (Lit.int .i64 x).wf = true := WalkArith.wf_i64 ⟨h0, h1⟩
/-- what is found under a lot -/
theorem look_bal {w : World} {b n : Nat} {l : List En} (h : MapIs Try.prog 3 w b n (balM l)) (x : Int) (h0 : -9223372036854775808 ≤ x) (h1 : x ≤ 9223372036854775807) :
    (Instr.lookup 60 (.map (some b)) (.int .i64 x) false).run Try.prog w = .ok (baV (if hasLot l x = true then x else 0) (balF l x)) w := by
  rw [h.look Try.underlying3 Try.underlying60 (zeroBa_run w) (wf_i64 h0 h1)]
  unfold balM
  cases hh : hasLot l x with
  | true => rfl
  | false => rw [balF_out hh]; rfl
theorem look_rev {w : World} {b n : Nat} {l : List En} (h : MapIs Try.prog 3 w b n (revM l)) (x : Int) (h0 : -9223372036854775808 ≤ x) (h1 : x ≤ 9223372036854775807) :
    (Instr.lookup 61 (.map (some b)) (.int .i64 x) false).run Try.prog w = .ok (.bool (revB l x)) w := by
  rw [h.look Try.underlying3 Try.underlying61 (zeroBool_run w) (wf_i64 h0 h1)]
  unfold revM
  cases hh : revB l x with
  | true => rfl
  | false => rfl
/-- append of cells that lie at a known address, at a step of a region that draws -/
theorem step_append_src {P : Program} (w : World) {ops : Array Oper} {o : Oper} {a : Act} {K : Act → World → Prop} {Q : Exit → Act → World → Prop} {E : Prop} (hg : o.guard = none) (s x : Operand) (t : TypeId)
    (hop : o.op = .call { callee := .builtin .append, args := #[s, x], argTypes := #[t, t] })
    (B : Nat) (e : TypeId) (i : TypeInfo) (z : Value) (size bytes : Nat) (ht : P.underlying t = some (.slice e)) (hi : P.info? e = some i) (hz : i.zero = some z)
    (hsize : i.size = size) (hby : i.bytes = bytes) (hzs : z.cells.size = size) (hsz : 0 < size)
    (v : Value) (n : Nat) (xs cs : List Value) (m c : Nat) (hcs : cs.length = m * size) (h1 : ∀ u ∈ cs, u.oneCell' = true) (hs : a.eval s = v) (hown : w.ownsRow B e size v n xs) (ad : Addr) (hx : a.eval x = .slice (some ad) m c)
    (hat : ∀ j u, cs[j]? = some u → w.cell? (ad.add j) = some u) (h63 : n + m ≤ maxLen) (hbytes : (n + m) * bytes ≤ 140737488355328) (hB : B ≤ w.heap.size)
    (hK : ∀ v' w', w'.ownsRow B e size v' (n + m) (xs ++ cs) → w.grownBy w' v.ownBlock → (v'.ownBlock = v.ownBlock ∨ ∀ k, v'.ownBlock = some k → w.heap.size ≤ k) → K (a.put o.dst v') w') : if Region.wanted o (yielded ops a.tmps) = true then Oper.wp P o a w K Q else E := by
  have hw : Region.wanted o (yielded ops a.tmps) = true := by simp [Region.wanted, hg]
  rw [if_pos hw]
  obtain ⟨v', w', hrun, r1, r2, r3, r4⟩ := run_append_own_at (P := P) w B t o.type e i z size bytes ht hi hz hsize hby hzs hsz v n xs hown ad m c cs hcs hat h1 h63 hbytes hB
  unfold Oper.wp
  simp [execOp, hop, resolve, invoke, builtin, hs, hx, hrun, Result.andThen]
  refine hK _ _ r1 r2 ?_
  rcases r4 with h | h
  · exact .inl h
  · exact .inr fun k hk => by rw [h] at hk; injection hk with hk; omega
theorem acc_done9 {w : World} {B pa : Nat} {l : List En} {x : En} {pc b1 b2 n1 n2 : Nat} {v u : Value} (hv : ledF l = 0) (h9 : x.kind = 9) (hx : 1 ≤ x.amt ∧ x.amt ≤ (l.length : Int)) (hu : u = baV x.lot (nextB l x))
    (h : AccG w B pa (l ++ [x]) pc b1 b2 (n1 + 1) (n2 + 1) v (fun y => if y = x.lot then some u else balM l y) (fun y => if y = x.amt then some (.bool true) else revM l y)) (hl : n1 ≤ l.length ∧ n2 ≤ l.length) : Acc w B pa (l ++ [x]) := by
  subst hu
  rw [balM_snoc hv (fun _ => hx), revM_snoc9 h9] at h
  exact ⟨pc, b1, b2, _, _, v, ⟨h, by simp; omega⟩⟩
theorem acc_done {w : World} {B pa : Nat} {l : List En} {x : En} {pc b1 b2 n1 n2 : Nat} {v u : Value} (hv : ledF l = 0) (h9 : x.kind ≠ 9) (hu : u = baV x.lot (nextB l x))
    (h : AccG w B pa (l ++ [x]) pc b1 b2 (n1 + 1) n2 v (fun y => if y = x.lot then some u else balM l y) (revM l)) (hl : n1 ≤ l.length ∧ n2 ≤ l.length) : Acc w B pa (l ++ [x]) := by
  subst hu
  rw [balM_snoc hv (fun h => absurd h h9), ← revM_snoc h9] at h
  exact ⟨pc, b1, b2, _, _, v, ⟨h, by simp; omega⟩⟩
end Go.Proofs.Ytefphkefgfoklaa
