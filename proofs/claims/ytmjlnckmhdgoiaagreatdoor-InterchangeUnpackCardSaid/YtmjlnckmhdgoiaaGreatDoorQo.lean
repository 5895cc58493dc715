/- Drawn regions that make memory in several orders: all ways of taking the next operation, under a condition S on the world (Last); append onto a slice without capacity, and onto a row of the call's own, as steps. -/
import Derived.Test.YtmjlnckmhdgoiaaGreatDoorLast
import Derived.Test.YtmjlnckmhdgoiaaGreatDoorMem
import Derived.RegionTactic
import Derived.Test.YtmjlnckmhdgoiaaGreatDoorQn
import Derived.Test.YtmjlnckmhdgoiaaGreatDoorQm
import Derived.Test.YtmjlnckmhdgoiaaGreatDoorPg
import Derived.Lib.AtoiAllCases
namespace Go.Proofs.YtmjlnckmhdgoiaaGreatDoor
open Go Go.RowKit
section
variable {P : Program} {ops : Array Oper} {Q : Exit → Act → World → Prop} {md : Region.Mode} {S : World → Prop} {x : Nat}
def AllX (P : Program) (md : Region.Mode) (ops : Array Oper) (Q : Exit → Act → World → Prop) (S : World → Prop) (x fuel : Nat) (listed : Array Bool) (a : Act) (w : World) (rs : List Nat) : Prop :=
  ∀ i ∈ rs, wpOp P ops Q i (fun a' w' => (i ≠ x → S w') ∧ wpAnyX P md ops Q S x fuel (listed.setIfInBounds i true) a' w') a w
theorem AllX.nil {fuel : Nat} {listed : Array Bool} {a : Act} {w : World} : AllX P md ops Q S x fuel listed a w [] := fun _ h => by cases h
theorem AllX.cons {fuel : Nat} {listed : Array Bool} {a : Act} {w : World} {i : Nat} {o : Oper} {rs : List Nat} (ho : ops[i]? = some o)
    (h : ∀ K' : Act → World → Prop, Shut (∀ a w, (i ≠ x → S w) → wpAnyX P md ops Q S x fuel (listed.setIfInBounds i true) a w → K' a w) → if Region.wanted o (yielded ops a.tmps) = true then Oper.wp P o a w K' Q else K' (a.put o.dst undef) w)
    (hs : AllX P md ops Q S x fuel listed a w rs) : AllX P md ops Q S x fuel listed a w (i :: rs) := fun j hj => by
  rcases List.mem_cons.1 hj with rfl | hj
  · exact wpOp_step ho (fun K' hK => h K' (fun a w hS hW => hK a w ⟨hS, hW⟩))
  · exact hs j hj
theorem wpAnyX_ready {rs : List Nat} {fuel : Nat} {listed : Array Bool} {a : Act} {w : World} (hr : Region.ready md ops listed = rs) (hne : rs ≠ []) (h : AllX P md ops Q S x fuel listed a w rs) : wpAnyX P md ops Q S x (fuel + 1) listed a w := by
  refine ⟨fun h0 => absurd (hr.symm.trans h0) hne, fun j hj => ?_⟩
  rw [hr] at hj
  exact h j hj
end
section
variable {P : Program} (w : World)
/-- append onto a slice of length 0 and capacity 0: nothing that lay there has turned -/
theorem run_append_zero (B : Nat) (t ty e : TypeId) (i : TypeInfo) (z : Value) (size bytes : Nat) (ht : P.underlying t = some (.slice e)) (hi : P.info? e = some i) (hz : i.zero = some z)
    (hsize : i.size = size) (hby : i.bytes = bytes) (hzs : z.cells.size = size) (hsz : 0 < size)
    (g off : Nat) (hown : OwnX w B e size (.slice (some ⟨g, off, none⟩) 0 0) 0 [])
    (A : Option Addr) (m c : Nat) (news : List Value) (hl : news.length = m * size) (hr : Rd w A news) (h1 : ∀ u ∈ news, u.oneCell' = true)
    (h63 : m ≤ maxLen) (hbytes : m * bytes ≤ 140737488355328) (hbase : B ≤ w.heap.size) :
    ∃ v' w', (Builtin.append_ #[t, t] ty #[.slice (some ⟨g, off, none⟩) 0 0, .slice A m c]).run P w = .ok v' w' ∧ OwnX w' B e size v' m news ∧ Below w.heap.size w w' := by
  rcases Nat.eq_zero_or_pos m with h0 | h0
  · subst h0
    have hn : news = [] := List.eq_nil_of_length_eq_zero (by simpa using hl)
    subst hn
    have hrun : (Builtin.append_ #[t, t] ty #[.slice (some ⟨g, off, none⟩) 0 0, .slice A 0 c]).run P w = .ok (.slice (some ⟨g, off, none⟩) 0 0) w := by
      cases A with
      | none => exact run_append_nothing' w t ty e i ht hi B _ 0 size [] hown c
      | some ad => exact run_append_room_cells (P := P) w t ty e i ht hi g off 0 0 ad 0 c [] (by simp) (fun j u hu => by simp at hu) (fun u hu => by cases hu) (Nat.le_refl _) (fun j hj => by simp at hj) (fun j hj => by simp at hj)
    exact ⟨_, w, hrun, hown, Below.refl _ _⟩
  · have hnl : 0 < news.length := by rw [hl]; exact Nat.mul_pos h0 hsz
    obtain ⟨ad, rfl, _⟩ := hr.at hnl
    obtain ⟨v', w', hrun, r1, r2⟩ := run_append_arg_grows (P := P) w t ty e i z size bytes ht hi hz hsize hby hzs hsz ⟨g, off, none⟩ 0 0 [] (by simp) (fun j u hu => by simp at hu) ad m c news hl (fun j u hu => by
      obtain ⟨ad', h, hc⟩ := hr j u hu
      injection h with h
      subst h
      exact hc) (by omega) (by omega) (by rw [Nat.zero_add]; exact hbytes)
    rw [Nat.zero_add, List.nil_append] at r1
    exact ⟨v', w', hrun, (OwnX.of_row r1).mono hbase, ⟨r2.os, r2.tape, r2.output, r2.size, fun k hk => r2.block k hk (by simp)⟩⟩
section
variable {ops : Array Oper} {o : Oper} {a : Act} {K : Act → World → Prop} {Q : Exit → Act → World → Prop} {E : Prop}
theorem step_append_zero (hg : o.guard = none) (s x : Operand) (t : TypeId)
    (hop : o.op = .call { callee := .builtin .append, args := #[s, x], argTypes := #[t, t] })
    (B : Nat) (e : TypeId) (i : TypeInfo) (z : Value) (size bytes : Nat) (ht : P.underlying t = some (.slice e)) (hi : P.info? e = some i) (hz : i.zero = some z)
    (hsize : i.size = size) (hby : i.bytes = bytes) (hzs : z.cells.size = size) (hsz : 0 < size)
    (g off : Nat) (hs : a.eval s = .slice (some ⟨g, off, none⟩) 0 0) (hown : OwnX w B e size (.slice (some ⟨g, off, none⟩) 0 0) 0 [])
    (A : Option Addr) (m c : Nat) (news : List Value) (hx : a.eval x = .slice A m c) (hl : news.length = m * size) (hr : Rd w A news) (h1 : ∀ u ∈ news, u.oneCell' = true)
    (h63 : m ≤ maxLen) (hbytes : m * bytes ≤ 140737488355328) (hbase : B ≤ w.heap.size)
    (hK : ∀ v' w', OwnX w' B e size v' m news → Below w.heap.size w w' → K (a.put o.dst v') w') : if Region.wanted o (yielded ops a.tmps) = true then Oper.wp P o a w K Q else E := by
  have hw : Region.wanted o (yielded ops a.tmps) = true := by simp [Region.wanted, hg]
  rw [if_pos hw]
  obtain ⟨v', w', hrun, r1, r2⟩ := run_append_zero (P := P) w B t o.type e i z size bytes ht hi hz hsize hby hzs hsz g off hown A m c news hl hr h1 h63 hbytes hbase
  unfold Oper.wp
  simp [execOp, hop, resolve, invoke, builtin, hs, hx, hrun, Result.andThen]
  exact hK _ _ r1 r2
theorem step_append_x (hg : o.guard = none) (s x : Operand) (t : TypeId)
    (hop : o.op = .call { callee := .builtin .append, args := #[s, x], argTypes := #[t, t] })
    (B : Nat) (e : TypeId) (i : TypeInfo) (z : Value) (size bytes : Nat) (ht : P.underlying t = some (.slice e)) (hi : P.info? e = some i) (hz : i.zero = some z)
    (hsize : i.size = size) (hby : i.bytes = bytes) (hzs : z.cells.size = size) (hsz : 0 < size)
    (v : Value) (n : Nat) (xs : List Value) (hs : a.eval s = v) (hown : OwnX w B e size v n xs)
    (A : Option Addr) (m c : Nat) (news : List Value) (hx : a.eval x = .slice A m c) (hl : news.length = m * size) (hr : Rd w A news) (h1 : ∀ u ∈ news, u.oneCell' = true)
    (h63 : n + m ≤ maxLen) (hbytes : (n + m) * bytes ≤ 140737488355328) (hbase : B ≤ w.heap.size)
    (hK : ∀ v' w', OwnX w' B e size v' (n + m) (xs ++ news) → w.grownBy w' v.ownBlock → K (a.put o.dst v') w') : if Region.wanted o (yielded ops a.tmps) = true then Oper.wp P o a w K Q else E := by
  have hw : Region.wanted o (yielded ops a.tmps) = true := by simp [Region.wanted, hg]
  rw [if_pos hw]
  obtain ⟨v', w', hrun, r1, r2, _⟩ := run_append_x (P := P) w B t o.type e i z size bytes ht hi hz hsize hby hzs hsz v n xs hown A m c news hl hr h1 h63 hbytes hbase
  unfold Oper.wp
  simp [execOp, hop, resolve, invoke, builtin, hs, hx, hrun, Result.andThen]
  exact hK _ _ r1 r2
end
end
/-- an empty literal -/
theorem OwnX.lit0 (w : World) (B : Nat) (e : TypeId) (size : Nat) (hB : B ≤ w.heap.size) : OwnX (w.alloc (.cells #[] e)) B e size (.slice (some ⟨w.heap.size, 0, none⟩) 0 0) 0 [] :=
  ⟨by simp, .inr ⟨w.heap.size, 0, 0, #[], rfl, hB, heap_alloc_new w _, Nat.le_refl _, Nat.zero_le _, by simp, fun j u h => by simp at h⟩⟩
/-- the cells of a block that was laid just now -/
theorem Rd.new_ (w : World) (cs : List Value) (e : TypeId) : Rd (w.alloc (.cells cs.toArray e)) (some ⟨w.heap.size, 0, none⟩) cs := fun j u hu => ⟨_, rfl, by
  rw [Addr.add_lit, cell_of_row _ _ _ _ _ _ (heap_alloc_new w _)]
  simpa using hu⟩
/-- a block of another type is not the row's -/
theorem OwnX.ne_blk {w : World} {B : Nat} {e t : TypeId} {size n g : Nat} {v : Value} {xs : List Value} {cs : Array Value} {fr : Nat × Nat} (h : OwnX w B e size v n xs) (hg : w.heap[g]? = some (.cells cs t fr)) (hne : t ≠ e) : v.ownBlock ≠ some g := by
  rcases h.2 with ⟨rfl, _⟩ | ⟨g', off, cap, cur, rfl, _, hh, _⟩
  · simp [Value.ownBlock]
  · intro e1
    simp only [Value.ownBlock, Option.some.injEq] at e1
    subst e1
    rw [hg] at hh
    injection hh with hh
    injection hh with _ ht
    exact hne ht
/-- a block, whole -/
def BlkAt (w : World) (g : Nat) (o : Obj) : Prop := w.heap[g]? = some o
theorem BlkAt.lt {w : World} {g : Nat} {o : Obj} (h : BlkAt w g o) : g < w.heap.size := (Array.getElem?_eq_some_iff.1 h).1
theorem BlkAt.below {w w' : World} {g : Nat} {o : Obj} (h : BlkAt w g o) (hb : Below w.heap.size w w') : BlkAt w' g o := (hb.block g h.lt).trans h
theorem BlkAt.kept {w w' : World} {g : Nat} {o : Obj} (h : BlkAt w g o) {row : Option Nat} (hg : w.grownBy w' row) (hne : row ≠ some g) : BlkAt w' g o := (hg.block g h.lt (Ne.symm hne)).trans h
theorem BlkAt.new_ (w : World) (o : Obj) : BlkAt (w.alloc o) w.heap.size o := heap_alloc_new w o
theorem below_cell {B : Nat} {W w1 : World} (hb : Below B W w1) (hB : B = W.heap.size) : (∀ b o, b < W.heap.size → w1.cell? ⟨b, o, none⟩ = W.cell? ⟨b, o, none⟩) ∧ (∀ b o, b < W.heap.size → w1.frozen? ⟨b, o, none⟩ = W.frozen? ⟨b, o, none⟩) := by
  subst hB
  exact ⟨fun b o h => hb.cell (p := ⟨b, o, none⟩) h, fun b o h => hb.frozen (p := ⟨b, o, none⟩) h⟩
end Go.Proofs.YtmjlnckmhdgoiaaGreatDoor

/-! Contract of message.interchange. -/
namespace Go.Proofs.YtmjlnckmhdgoiaaGreatDoor
open Go.RowKit
set_option linter.unusedVariables false

theorem share1 {α : Type} {P F : α → Prop} {R : Prop} (main : (∀ a, F a → P a) → R) (tail : ∀ a, F a → P a) : R := main tail
theorem share2 {α β : Type} {P F : α → β → Prop} {R : Prop} (main : (∀ a b, F a b → P a b) → R) (tail : ∀ a b, F a b → P a b) : R := main tail
theorem share3 {α β γ : Type} {P F : α → β → γ → Prop} {R : Prop} (main : (∀ a b c, F a b c → P a b c) → R) (tail : ∀ a b c, F a b c → P a b c) : R := main tail
/-- a store into a block whose cells are told, at a step of a region that draws -/
theorem step_store_box {P : Program} {ops : Array Oper} {o : Oper} {a : Act} {w : World} {K : Act → World → Prop} {Q : Exit → Act → World → Prop} {E : Prop} (hg : o.guard = none) (ty : TypeId) (x y : Operand) (ho : o.op = .store ty x y)
    (b off : Nat) (v : Value) (cells : Array Value) (hx : a.eval x = .pointer (some ⟨b, off, none⟩)) (hy : a.eval y = v) (hv : v.cells = cells)
    (cs cs' : List Value) (t : TypeId) (hB : w.heap[b]? = some (.cells cs.toArray t (0, 0))) (hl : off + cells.size ≤ cs.length) (e : cs.take off ++ cells.toList ++ cs.drop (off + cells.toList.length) = cs') (hi : (P.info? ty).map (·.size) = some cells.size) (h1 : cells.toList.all (·.oneCell') = true)
    (h : ∀ W, W.heap[b]? = some (.cells cs'.toArray t (0, 0)) → But b w W → K (a.put o.dst undef) W) : if Region.wanted o (yielded ops a.tmps) = true then Oper.wp P o a w K Q else E := by
  have hw : Region.wanted o (yielded ops a.tmps) = true := by simp [Region.wanted, hg]
  rw [if_pos hw]
  unfold Oper.wp execOp
  simp only [ho, hx, hy, Instr.storeAt, Instr.sureAddr, Sem.run_bind, Sem.run_pure, Result.andThen_ok, run_storeVar_any w b off ty v cells hv (there_of_row hB hl) hi (by rw [← Array.all_toList]; exact h1)]
  refine h _ ?_ (But.sets b _ off w)
  have := setCells_row b t cells.toList off w cs hB (by simpa using hl)
  rw [this, e]
/-- what lies below block B is as it was -/
def Keep (B : Nat) (V W : World) : Prop := ∀ i, i < B → W.heap[i]? = V.heap[i]?
theorem Keep.of {B : Nat} {V W : World} (h : Below B V W) : Keep B V W := h.block
theorem Keep.but {B g : Nat} {V W X : World} (h : Keep B V W) (k : But g W X) (hg : B ≤ g) : Keep B V X := fun i hi => (k.block i (by omega)).trans (h i hi)
theorem Keep.cell {B : Nat} {V W : World} (h : Keep B V W) {p : Addr} (hp : p.block < B) : W.cell? p = V.cell? p := by
  unfold World.cell?
  rw [h _ hp]
/-- the first and the last segment, in their cells -/
def S3 (b off K : Nat) (t0 t1 : Bs) (A0 A1 : Option Addr) (n0 n1 c0 c1 : Nat) (W : World) : Prop :=
  (W.cell? ⟨b, off, none⟩ = some (.string ⟨t0.toArray⟩) ∧ W.cell? ⟨b, off + 1, none⟩ = some (.slice A0 n0 c0)) ∧ W.cell? ⟨b, off + K * 2, none⟩ = some (.string ⟨t1.toArray⟩) ∧ W.cell? ⟨b, off + K * 2 + 1, none⟩ = some (.slice A1 n1 c1)
theorem S3.keep {b off K : Nat} {t0 t1 : Bs} {A0 A1 : Option Addr} {n0 n1 c0 c1 B : Nat} {V W : World} (h : S3 b off K t0 t1 A0 A1 n0 n1 c0 c1 V) (hk : Keep B V W) (hb : b < B) : S3 b off K t0 t1 A0 A1 n0 n1 c0 c1 W :=
  ⟨⟨(hk.cell hb).trans h.1.1, (hk.cell hb).trans h.1.2⟩, (hk.cell hb).trans h.2.1, (hk.cell hb).trans h.2.2⟩
/-- two segments, of nothing yet, in blocks of their own -/
structure Fr3 (w V W : World) (ga gb : Nat) : Prop where
  below : Below V.heap.size V W
  a : W.heap[ga]? = some (.cells #[.string ⟨#[]⟩, .slice none 0 0] 57 (0, 0))
  b : W.heap[gb]? = some (.cells #[.string ⟨#[]⟩, .slice none 0 0] 57 (0, 0))
  ne : ga ≠ gb
  al : V.heap.size ≤ ga
  bl : V.heap.size ≤ gb
theorem fr3_made (w V : World) (z : Obj) (hz : z = .cells #[.string ⟨#[]⟩, .slice none 0 0] 57) : Fr3 w V ((V.alloc z).alloc z) V.heap.size (V.heap.size + 1) ∧ Fr3 w V ((V.alloc z).alloc z) (V.heap.size + 1) V.heap.size := by
  subst hz
  have h0 := heap_alloc_new V (.cells #[.string ⟨#[]⟩, .slice none 0 0] 57)
  have hs : (V.alloc (.cells #[.string ⟨#[]⟩, .slice none 0 0] 57)).heap.size = V.heap.size + 1 := by simp
  have h1 := heap_alloc_new (V.alloc (.cells #[.string ⟨#[]⟩, .slice none 0 0] 57)) (.cells #[.string ⟨#[]⟩, .slice none 0 0] 57)
  rw [hs] at h1
  have h2 : ((V.alloc (.cells #[.string ⟨#[]⟩, .slice none 0 0] 57)).alloc (.cells #[.string ⟨#[]⟩, .slice none 0 0] 57)).heap[V.heap.size]? = some (.cells #[.string ⟨#[]⟩, .slice none 0 0] 57 (0, 0)) := (Below.heap_alloc _ _ _ (by rw [hs]; omega)).trans h0
  have hb := ((Below.refl V.heap.size V).alloc (Nat.le_refl _) (.cells #[.string ⟨#[]⟩, .slice none 0 0] 57)).alloc (by rw [hs]; omega) (.cells #[.string ⟨#[]⟩, .slice none 0 0] 57)
  exact ⟨⟨hb, h2, h1, by omega, Nat.le_refl _, by omega⟩, ⟨hb, h1, h2, by omega, by omega, Nat.le_refl _⟩⟩
theorem sub1_i64 (K : Nat) (h : K ≤ 1000000000) : Value.int .i64 (((K + 1 : Nat) : Int) - 1) = .int .i64 (K : Int) := by
  congr 1
  omega
def IcRet (w : World) (o : Option Ich) (e : Ending) (w' : World) : Prop :=
  Below w.heap.size w w' ∧ ((∃ (x : Ich) (A : Option Addr) (c : Nat), o = some x ∧ e = .returned (.tuple #[ichV x A c, .bool true]) ∧ MsgsOwn w' w.heap.size (.slice A x.msgs.length c) x.msgs ∧ (∀ m ∈ x.msgs, OkM m) ∧ In64I x) ∨
    (o = none ∧ e = .returned (.tuple #[ichV zeroI none 0, .bool false])))
theorem ic_none {w w' : World} {o : Option Ich} (ho : o = none) (hb : Below w.heap.size w w') : IcRet w o (.returned (.tuple #[ichV zeroI none 0, .bool false])) w' := ⟨hb, .inr ⟨ho, rfl⟩⟩
theorem numV_in (e : List Bs) : In64 (numV e) := by
  unfold numV numR
  split
  · rename_i n h
    exact Lib.atoiAll_bounds h
  · exact ⟨by decide, by decide⟩
theorem ich_no0 {l : List Seg} (h : ¬ 2 ≤ l.length) : ichP l = none := by unfold ichP formL; rw [if_neg (fun h2 => h h2.1.1)]
theorem ich_no1 {l : List Seg} (h : (hdS l).els.length ≠ 3) : ichP l = none := by unfold ichP; rw [if_neg (fun h2 => h h2.2)]
theorem ich_no2 {l : List Seg} (h : (lstS l).tag ≠ tUNZ) : ichP l = none := by unfold ichP formL; rw [if_neg (fun h2 => h h2.1.2.1)]
theorem ich_no3 {l : List Seg} (h : (lstS l).els.length ≠ 2) : ichP l = none := by unfold ichP formL; rw [if_neg (fun h2 => h h2.1.2.2)]
def numI (s : Seg) : Ich := ⟨numV (elAt s 0), numV (elAt s 1), numV (elAt s 2), []⟩
theorem ich_no4 {l : List Seg} (h : (numBad (elAt (hdS l) 0) || numBad (elAt (hdS l) 1) || numBad (elAt (hdS l) 2)) = true) : ichP l = none := by
  unfold ichP
  split
  · rw [if_pos (.inl h)]
  · rfl
theorem ich_no5 {l : List Seg} (h : hdS l ≠ sUNB (numI (hdS l))) : ichP l = none := by
  unfold ichP
  split
  · rw [if_pos (.inr h)]
  · rfl
theorem ich_yes {l : List Seg} (h0 : 2 ≤ l.length) (h1 : (hdS l).els.length = 3) (h2 : (lstS l).tag = tUNZ) (h3 : (lstS l).els.length = 2) (h4 : (numBad (elAt (hdS l) 0) || numBad (elAt (hdS l) 1) || numBad (elAt (hdS l) 2)) = false) (h5 : hdS l = sUNB (numI (hdS l))) :
    ichP l = (msgsP [] (midS l)).map fun ms => ⟨numV (elAt (hdS l) 0), numV (elAt (hdS l) 1), numV (elAt (hdS l) 2), ms⟩ := by
  unfold ichP
  rw [if_pos ⟨⟨h0, h2, h3⟩, h1⟩, if_neg]
  rintro (h | h)
  · rw [h4] at h; cases h
  · exact h h5
/-- three elements -/
theorem els_three {w : World} {B : Nat} {A : Option Addr} {s : Seg} (h : ElsAt w B A s.els) (hn : s.els.length = 3) : ∃ b off A0 c0 A1 c1 A2 c2, A = some ⟨b, off, none⟩ ∧ b < B ∧ (w.cell? ⟨b, off, none⟩ = some (.slice A0 (elAt s 0).length c0) ∧ w.cell? ⟨b, off + 1, none⟩ = some (.slice A1 (elAt s 1).length c1) ∧ w.cell? ⟨b, off + 2, none⟩ = some (.slice A2 (elAt s 2).length c2)) ∧ RdB w B A0 (strs (elAt s 0)) ∧ RdB w B A1 (strs (elAt s 1)) ∧ RdB w B A2 (strs (elAt s 2)) := by
  obtain ⟨b, off, rfl, hb, hk⟩ := h.cells (by omega)
  obtain ⟨A0, c0, e0, r0⟩ := hk 0 (by omega)
  obtain ⟨A1, c1, e1, r1⟩ := hk 1 (by omega)
  obtain ⟨A2, c2, e2, r2⟩ := hk 2 (by omega)
  exact ⟨b, off, A0, c0, A1, c1, A2, c2, rfl, hb, ⟨e0, e1, e2⟩, r0, r1, r2⟩
/-- the numbers are being read: the reader in block gr -/
structure R7 (V : World) (gr : Nat) (bad : Bool) (W : World) : Prop where
  t : Turned gr V W
  r : RBlk W gr bad
structure R7b (V : World) (gr : Nat) (bad : Bool) (W : World) (g7 : Nat) : Prop where
  t : Turned gr V W
  r : RBlk W gr bad
  i : IBlk W g7 zeroI none 0
  l : V.heap.size ≤ g7
theorem R7.call {V W X : World} {gr : Nat} {b b' : Bool} (h : R7 V gr b W) (hr : RBlk X gr b') (ht : Turned gr W X) : R7 V gr b' X := ⟨h.t.trans ht, hr⟩
theorem R7b.call {V W X : World} {gr g7 : Nat} {b b' : Bool} (h : R7b V gr b W g7) (hV : gr < V.heap.size) (hr : RBlk X gr b') (ht : Turned gr W X) : R7b V gr b' X g7 :=
  ⟨h.t.trans ht, hr, h.i.kept ht (by intro e; injection e with e; have := h.l; omega), h.l⟩
theorem R7.made {V W : World} {gr : Nat} {b : Bool} (h : R7 V gr b W) : R7b V gr b (W.alloc (.cells #[.int .i64 0, .int .i64 0, .int .i64 0, .slice none 0 0] 45)) W.heap.size :=
  ⟨h.t.trans (Turned.of_below ((Below.refl _ _).alloc (Nat.le_refl _) _)), h.r.below ((Below.refl _ _).alloc (Nat.le_refl _) _), heap_alloc_new W _, h.t.size⟩
theorem num_step {V W : World} {gr : Nat} (hT : Turned gr V W) {b : Bool} (hr : RBlk W gr b) {B : Nat} (hB : B ≤ gr) (hV : gr < V.heap.size) (hg : ErrV V) (he : 2 < B ∧ 3 < B) {A : Option Addr} (c : Nat) {el : List Bs} (hs : RdB V B A (strs el)) (hl : el.length ≤ 140737488355328) (hw : (wordF el).length ≤ 281474976710656) :
    Calls Tryz.prog 73 #[.pointer (some ⟨gr, 0, none⟩), .slice A el.length c] W (RtRet W gr (.int .i64 (numV el)) (b || numBad el)) := by
  have hb := hT.below hB (by omega)
  exact rnum_any gr b A c el W hr (hs.below hb).rd (by omega) hw (hg.keep hb he.1 he.2) ⟨by omega, by omega⟩
theorem Turned.but7 {gr g7 : Nat} {V W X : World} (h : Turned gr V W) (k : But g7 W X) (hg : V.heap.size ≤ g7) : Turned gr V X := ⟨k.os.trans h.os, k.tape.trans h.tape, k.output.trans h.output, by rw [k.size]; exact h.size, fun i hi hne => (k.block i (by omega)).trans (h.block i hi hne)⟩
theorem hds_eq {l : List Seg} (h : 0 < l.length) : hdS l = l[0] := by unfold hdS; rw [List.head?_eq_getElem?, List.getElem?_eq_getElem h]; rfl
theorem lsts_eq {l : List Seg} {K : Nat} (h : l.length = K + 1) : lstS l = l[K]'(by omega) := by
  unfold lstS
  have e : l.length - 1 = K := by omega
  rw [List.getLast?_eq_getElem?, e, List.getElem?_eq_getElem (by omega)]
  rfl
theorem take_one_eq {l : List Seg} (h : 0 < l.length) : (l.take 1).drop 0 = [l[0]] := by rw [List.drop_zero, List.take_succ_eq_append_getElem h]; rfl
theorem fit_unb (s : Seg) : LFit [sUNB (numI s)] := by
  refine ⟨by simp, fun t ht => ?_⟩
  simp only [List.mem_singleton] at ht
  rw [ht]
  refine ⟨show (3 : Nat) ≤ _ by omega, fun e he => ?_⟩
  simp only [sUNB, List.mem_cons, List.not_mem_nil, or_false] at he
  rcases he with rfl | rfl | rfl <;> exact show (1 : Nat) ≤ _ by omega
set_option maxRecDepth 100000 in
set_option maxHeartbeats 80000000 in
theorem interchange_any (A : Option Addr) (c : Nat) (l : List Seg) (w : World) (h : SegsAt w w.heap.size A l) (hd : Dcd l) (hc : l.length ≤ c) (hg : Given w) :
    Calls Tryz.prog 52 #[.slice A l.length c] w (IcRet w (ichP l)) := by
  have q0 := (Below.refl w.heap.size w).alloc (Nat.le_refl _) (.cells #[.int .i64 0, .int .i64 0, .int .i64 0, .slice none 0 0] 45)
  have hres : IBlk (w.alloc (.cells #[.int .i64 0, .int .i64 0, .int .i64 0, .slice none 0 0] 45)) w.heap.size zeroI none 0 := heap_alloc_new w _
  have HQ0 := Lib.hid q0
  have HRES := Lib.hid hres
  have HH := Lib.hid h
  have HD := Lib.hid hd
  have HG := Lib.hid hg
  have hlb := hd.n
  clear q0 hres h hd hg
  by_cases h2 : 2 ≤ l.length
  · obtain ⟨K, hlK⟩ : ∃ K, l.length = K + 1 := ⟨l.length - 1, by omega⟩
    have h0 : 0 < l.length := by omega
    have hK : K < l.length := by omega
    obtain ⟨b, off, A0, c0, rfl, hbl, hc0, hc1, hE⟩ := HH.out.get h0
    obtain ⟨b2, off2, A1, c1, e2, _, hc2, hc3, _⟩ := HH.out.get hK
    injection e2 with e2
    injection e2 with e3 e4
    subst e3; subst e4
    have HHDS : Hid (hdS l = l[0]) := hds_eq h0
    have HLST : Hid (lstS l = l[K]) := lsts_eq hlK
    have hone : SegsAt w w.heap.size (some ⟨b, off, none⟩) [l[0]] := by have := HH.out.part 0 1; rw [Nat.zero_mul, Nat.add_zero] at this; rw [take_one_eq h0] at this; exact this
    have HSF := Lib.hid (HD.out.fit l[0] (List.getElem_mem h0))
    have HE := Lib.hid hE
    generalize l[0] = s0 at *
    generalize l[K] = s1 at *
    have hfit1 : LFit [s0] := ⟨by simp, fun s hs => by simp only [List.mem_singleton] at hs; rw [hs]; exact HSF.out.ef⟩
    have hd0 : (w.alloc (.cells #[.int .i64 0, .int .i64 0, .int .i64 0, .slice none 0 0] 45)).cell? ⟨b, off, none⟩ = some (.string ⟨s0.tag.toArray⟩) := (HQ0.out.cell (p := ⟨b, off, none⟩) hbl).trans (by simpa [str] using hc0)
    have hd1 : (w.alloc (.cells #[.int .i64 0, .int .i64 0, .int .i64 0, .slice none 0 0] 45)).cell? ⟨b, off + 1, none⟩ = some (.slice A0 s0.els.length c0) := (HQ0.out.cell (p := ⟨b, off + 1, none⟩) hbl).trans (by simpa using hc1)
    have hd2 : (w.alloc (.cells #[.int .i64 0, .int .i64 0, .int .i64 0, .slice none 0 0] 45)).cell? ⟨b, off + K * 2, none⟩ = some (.string ⟨s1.tag.toArray⟩) := (HQ0.out.cell (p := ⟨b, off + K * 2, none⟩) hbl).trans hc2
    have hd3 : (w.alloc (.cells #[.int .i64 0, .int .i64 0, .int .i64 0, .slice none 0 0] 45)).cell? ⟨b, off + K * 2 + 1, none⟩ = some (.slice A1 s1.els.length c1) := (HQ0.out.cell (p := ⟨b, off + K * 2 + 1, none⟩) hbl).trans hc3
    have h2d : decide (((K + 1 : Nat) : Int) < 2) = false := by simp; omega
    have hKc : K + 1 ≤ c := by omega
    clear hc0 hc1 hc2 hc3 hE
    rw [hlK]
    generalize ht0 : s0.tag = t0 at *
    generalize ht1 : s1.tag = t1 at *
    generalize hn0 : s0.els.length = n0 at *
    generalize hn1 : s1.els.length = n1 at *
    have HN1 := Lib.hid hn1
    have HN0 := Lib.hid hn0
    have HT1 := Lib.hid ht1
    clear hn0 hn1 ht0 ht1
    generalize hW0 : w.alloc (.cells #[.int .i64 0, .int .i64 0, .int .i64 0, .slice none 0 0] 45) = W0 at HQ0 HRES hd0 hd1 hd2 hd3
    go_enter Tryz.func52, Tryz.ntmps52
    go_wp2_with fail
    refine wp_region_x 99 (by kernel_rfl) (S3 b off K t0 t1 A0 A1 n0 n1 c0 c1) ?_
    have HS : Hid (S3 b off K t0 t1 A0 A1 n0 n1 c0 c1 W0.drew) := ⟨⟨hd0, hd1⟩, hd2, hd3⟩
    have hbl2 : b < W0.drew.heap.size := Nat.lt_of_lt_of_le hbl HQ0.out.size
    have HQD : Hid (Below w.heap.size w W0.drew) := HQ0.out.drew
    have HRD : Hid (IBlk W0.drew w.heap.size zeroI none 0) := HRES.out
    generalize hV : W0.drew = V0 at HS hbl2 HQD HRD ⊢
    clear hV hd0 hd1 hd2 hd3 HQ0 HRES
    refine wpAnyX_take1 (i := 0) (v := .slice (some ⟨b, off, none⟩) (K + 1) c) rfl (by kernel_rfl) (fun _ _ _ h => h) HS.out (Or.inl ⟨by rfl, fun w hS => by (obtain ⟨⟨q0, q1⟩, q2, q3⟩ := hS; go_simp)⟩) ?_
    go_simp
    refine wpAnyX_take1 (i := 1) (v := .pointer (some ⟨b, off, none⟩)) rfl (by kernel_rfl) (fun _ _ _ h => h) HS.out (Or.inl ⟨by rfl, fun w hS => by (obtain ⟨⟨q0, q1⟩, q2, q3⟩ := hS; go_simp)⟩) ?_
    go_simp
    refine wpAnyX_take1 (i := 2) (v := .agg #[.string ⟨t0.toArray⟩, .slice A0 n0 c0]) rfl (by kernel_rfl) (fun _ _ _ h => h) HS.out (Or.inl ⟨by rfl, fun w hS => by (obtain ⟨⟨q0, q1⟩, q2, q3⟩ := hS; go_simp)⟩) ?_
    go_simp
    refine wpAnyX_take1 (i := 3) (v := .slice (some ⟨b, off, none⟩) (K + 1) c) rfl (by kernel_rfl) (fun _ _ _ h => h) HS.out (Or.inl ⟨by rfl, fun w hS => by (obtain ⟨⟨q0, q1⟩, q2, q3⟩ := hS; go_simp)⟩) ?_
    go_simp
    refine wpAnyX_take1 (i := 4) (v := .slice (some ⟨b, off, none⟩) (K + 1) c) rfl (by kernel_rfl) (fun _ _ _ h => h) HS.out (Or.inl ⟨by rfl, fun w hS => by (obtain ⟨⟨q0, q1⟩, q2, q3⟩ := hS; go_simp)⟩) ?_
    go_simp
    refine wpAnyX_take1 (i := 5) (v := .int .i64 ((K + 1 : Nat) : Int)) rfl (by kernel_rfl) (fun _ _ _ h => h) HS.out (Or.inl ⟨by rfl, fun w hS => by (obtain ⟨⟨q0, q1⟩, q2, q3⟩ := hS; go_simp)⟩) ?_
    go_simp
    refine wpAnyX_take1 (i := 6) (v := .int .i64 (K : Int)) rfl (by kernel_rfl) (fun _ _ _ h => h) HS.out (Or.inl ⟨by rfl, fun w hS => by (obtain ⟨⟨q0, q1⟩, q2, q3⟩ := hS; go_simp; exact IntWalk.i64_in _ (by omega))⟩) ?_
    go_simp
    refine wpAnyX_take1 (i := 7) (v := .pointer (some ⟨b, off + K * 2, none⟩)) rfl (by kernel_rfl) (fun _ _ _ h => h) HS.out (Or.inl ⟨by rfl, fun w hS => by (obtain ⟨⟨q0, q1⟩, q2, q3⟩ := hS; go_simp; intro hq; exfalso; omega)⟩) ?_
    go_simp
    refine wpAnyX_take1 (i := 8) (v := .agg #[.string ⟨t1.toArray⟩, .slice A1 n1 c1]) rfl (by kernel_rfl) (fun _ _ _ h => h) HS.out (Or.inl ⟨by rfl, fun w hS => by (obtain ⟨⟨q0, q1⟩, q2, q3⟩ := hS; go_simp)⟩) ?_
    go_simp
    apply share3 (F := fun W ga gb => Fr3 w V0 W ga gb)
    · intro T
      refine wpAnyX_ready (rs := [9, 10]) (by kernel_rfl) (by simp) (AllX.cons rfl (fun J hJ => ?_) (AllX.cons rfl (fun J hJ => ?_) AllX.nil))
      · go_simp
        have hb1 : Below V0.heap.size V0 (V0.alloc (.cells #[.string ⟨#[]⟩, .slice none 0 0] 57)) := (Below.refl _ _).alloc (Nat.le_refl _) _
        refine hJ.out _ _ (fun _ => HS.out.keep (Keep.of hb1) hbl2) ?_
        clear hJ J
        refine wpAnyX_one (i := 10) (by kernel_rfl) rfl (fun J hJ => ?_)
        go_simp
        have hF := fr3_made w V0 (.cells #[.string ⟨#[]⟩, .slice none 0 0] 57) rfl
        refine hJ.out _ _ (fun _ => HS.out.keep (Keep.of hF.1.below) hbl2) ?_
        clear hJ J
        replace hF := hF.1
        generalize hVx : (V0.alloc (.cells #[.string ⟨#[]⟩, .slice none 0 0] 57)).alloc (.cells #[.string ⟨#[]⟩, .slice none 0 0] 57) = Vx at hF ⊢
        clear hVx hb1
        generalize hx1 : V0.heap.size + 1 = gx1 at hF ⊢
        obtain ⟨gx0, hx0⟩ : ∃ g, V0.heap.size = g := ⟨_, rfl⟩
        have hF3 : Fr3 w V0 Vx gx0 gx1 := by rw [← hx0]; exact hF
        clear hF
        rw [hx0]
        clear hx0 hx1
        exact T _ _ _ hF3
      · go_simp
        have hb1 : Below V0.heap.size V0 (V0.alloc (.cells #[.string ⟨#[]⟩, .slice none 0 0] 57)) := (Below.refl _ _).alloc (Nat.le_refl _) _
        refine hJ.out _ _ (fun _ => HS.out.keep (Keep.of hb1) hbl2) ?_
        clear hJ J
        refine wpAnyX_one (i := 9) (by kernel_rfl) rfl (fun J hJ => ?_)
        go_simp
        have hF := fr3_made w V0 (.cells #[.string ⟨#[]⟩, .slice none 0 0] 57) rfl
        refine hJ.out _ _ (fun _ => HS.out.keep (Keep.of hF.1.below) hbl2) ?_
        clear hJ J
        replace hF := hF.2
        generalize hVx : (V0.alloc (.cells #[.string ⟨#[]⟩, .slice none 0 0] 57)).alloc (.cells #[.string ⟨#[]⟩, .slice none 0 0] 57) = Vx at hF ⊢
        clear hVx hb1
        generalize hx1 : V0.heap.size + 1 = gx1 at hF ⊢
        obtain ⟨gx0, hx0⟩ : ∃ g, V0.heap.size = g := ⟨_, rfl⟩
        have hF3 : Fr3 w V0 Vx gx1 gx0 := by rw [← hx0]; exact hF
        clear hF
        rw [hx0]
        clear hx0 hx1
        exact T _ _ _ hF3
    · intro W ga gb hF
      have HF := Lib.hid hF
      have hg1 : b < ga := Nat.lt_of_lt_of_le hbl2 hF.al
      have hg2 : b < gb := Nat.lt_of_lt_of_le hbl2 hF.bl
      clear hF
      refine wpAnyX_one (i := 11) (by kernel_rfl) rfl (fun J hJ => ?_)
      refine step_store_box rfl 57 (.tmp 4) (.tmp 16) rfl ga 0 (.agg #[.string ⟨t0.toArray⟩, .slice A0 n0 c0]) #[.string ⟨t0.toArray⟩, .slice A0 n0 c0] rfl rfl rfl [.string ⟨#[]⟩, .slice none 0 0] [.string ⟨t0.toArray⟩, .slice A0 n0 c0] 57 HF.out.a (Nat.le_of_ble_eq_true rfl) rfl (by kernel_rfl) rfl ?_
      intro W1 hs1 hP1
      have HS1 := Lib.hid hs1
      have HP1 := Lib.hid hP1
      clear hs1 hP1
      have HK1 := Lib.hid ((Keep.of HF.out.below).but HP1.out HF.out.al)
      refine hJ.out _ _ (fun _ => HS.out.keep HK1.out hbl2) ?_
      clear hJ J
      refine wpAnyX_one (i := 12) (by kernel_rfl) rfl (fun J hJ => ?_)
      refine step_store_box rfl 57 (.tmp 5) (.tmp 22) rfl gb 0 (.agg #[.string ⟨t1.toArray⟩, .slice A1 n1 c1]) #[.string ⟨t1.toArray⟩, .slice A1 n1 c1] rfl rfl rfl [.string ⟨#[]⟩, .slice none 0 0] [.string ⟨t1.toArray⟩, .slice A1 n1 c1] 57 ((HP1.out.block _ HF.out.ne.symm).trans HF.out.b) (Nat.le_of_ble_eq_true rfl) rfl (by kernel_rfl) rfl ?_
      intro W2 hs2 hP2
      have HP2 := Lib.hid hP2
      have HS2b := Lib.hid hs2
      have HS2a := Lib.hid ((hP2.block _ HF.out.ne).trans HS1.out)
      clear hs2 hP2
      have HK2 := Lib.hid (HK1.out.but HP2.out HF.out.bl)
      refine hJ.out _ _ (fun _ => HS.out.keep HK2.out hbl2) ?_
      clear hJ J
      refine wpAnyX_done (by kernel_rfl) ?_
      have HV2 : Hid (Below V0.heap.size V0 W2) := (HF.out.below.but HP1.out HF.out.al).but HP2.out HF.out.bl
      have HB2 := Lib.hid (HQD.out.trans (HV2.out.mono HQD.out.size))
      have HR2 := Lib.hid (HRD.out.below HV2.out)
      have hga2 : ga < W2.heap.size := lt_of_block HS2a.out
      have hgaw : w.heap.size ≤ ga := Nat.le_trans HQD.out.size HF.out.al
      have hb0 : W2.cell? ⟨gb, 0, none⟩ = some (.string ⟨t1.toArray⟩) := by rw [cell_of_row _ _ _ _ _ _ HS2b.out]; rfl
      have hb1 : W2.cell? ⟨gb, 1, none⟩ = some (.slice A1 n1 c1) := by rw [cell_of_row _ _ _ _ _ _ HS2b.out]; rfl
      have ha1 : W2.cell? ⟨ga, 1, none⟩ = some (.slice A0 n0 c0) := by rw [cell_of_row _ _ _ _ _ _ HS2a.out]; rfl
      clear HS HF HS1 HP1 HK1 HK2 HP2 HQD HRD hg1 hg2 HS2a HS2b hbl2
      by_cases h3 : n0 = 3
      · have h3a : ((n0 : Int) != 3) = false := by simp [h3]
        have h3e : s0.els.length = 3 := by rw [HN0.out, h3]
        have H3E := Lib.hid h3e
        subst h3
        have h3b : (((3 : Nat) : Int) != 3) = false := by simp
        by_cases ht1 : t1 = tUNZ
        · have hta : (t1 != [85, 78, 90]) = false := by rw [ht1]; rfl
          have htb : (t1 == [85, 78, 90]) = true := by rw [ht1]; rfl
          by_cases hn2 : n1 = 2
          · have hna : ((n1 : Int) != 2) = false := by simp [hn2]
            have ht1 : s1.tag = tUNZ := by rw [HT1.out, ht1]
            have HN1 : Hid (s1.els.length = 2) := by show _ = _; rw [HN1.out, hn2]
            skip
            go_upto_region 7 with (fail)
            have q3 := (Below.refl W2.heap.size W2).alloc (Nat.le_refl _) (.cells #[.bool false] 98)
            have hr3 : RBlk (W2.alloc (.cells #[.bool false] 98)) W2.heap.size false := heap_alloc_new W2 _
            have hgr3 : W2.heap.size < (W2.alloc (.cells #[.bool false] 98)).heap.size := by simp
            have ha1 := (q3.cell (p := ⟨ga, 1, none⟩) hga2).trans ha1
            have HB3 := Lib.hid (HB2.out.trans (q3.mono HB2.out.size))
            have HR3 := Lib.hid (HR2.out.below q3)
            obtain ⟨eb, eo, Ae0, ce0, Ae1, ce1, Ae2, ce2, rfl, heb, ⟨hx0, hx1, hx2⟩, hE0, hE1, hE2⟩ := els_three (HE.out.below HB3.out) h3e
            have hebW : eb < W2.heap.size := Nat.lt_of_lt_of_le heb HB2.out.size
            generalize hWq : W2.alloc (.cells #[.bool false] 98) = W3 at q3 hr3 hgr3 ha1 HB3 HR3 hx0 hx1 hx2 hE0 hE1 hE2 ⊢
            generalize hgq : W2.heap.size = gr at hr3 hgr3 q3 hga2 hebW ⊢
            have hgrB : w.heap.size ≤ gr := by rw [← hgq]; exact HB2.out.size
            have hltW := HR2.out.lt
            have hneW : w.heap.size ≠ gr := by rw [← hgq]; exact Nat.ne_of_lt hltW
            clear hWq hgq hb0 hb1 HB2 HR2 h3e hltW
            go_wp2_with fail
            refine wp_region_x 99 (by kernel_rfl) (Turned gr W3.drew) ?_
            have hdr : Below W3.heap.size W3 W3.drew := (Below.refl _ _).drew
            have HB3 : Hid (Below w.heap.size w W3.drew) := HB3.out.drew
            have HR3 : Hid (IBlk W3.drew w.heap.size zeroI none 0) := HR3.out
            have HC : Hid (W3.drew.cell? ⟨ga, 1, none⟩ = some (.slice (some ⟨eb, eo, none⟩) 3 c0) ∧ W3.drew.cell? ⟨eb, eo, none⟩ = some (.slice Ae0 (elAt s0 0).length ce0) ∧ W3.drew.cell? ⟨eb, eo + 1, none⟩ = some (.slice Ae1 (elAt s0 1).length ce1) ∧ W3.drew.cell? ⟨eb, eo + 2, none⟩ = some (.slice Ae2 (elAt s0 2).length ce2)) := ⟨ha1, hx0, hx1, hx2⟩
            have HE0 := Lib.hid (hE0.below (B := w.heap.size) (w' := W3.drew) ((Below.refl _ _).drew))
            have HE1 := Lib.hid (hE1.below (B := w.heap.size) (w' := W3.drew) ((Below.refl _ _).drew))
            have HE2 := Lib.hid (hE2.below (B := w.heap.size) (w' := W3.drew) ((Below.refl _ _).drew))
            have HRR : Hid (RBlk W3.drew gr false) := hr3
            have HGR : Hid (gr < W3.drew.heap.size) := hgr3
            generalize hV : W3.drew = V3 at HB3 HR3 HC HE0 HE1 HE2 HRR HGR ⊢
            clear hV hdr q3 hr3 hgr3 ha1 hx0 hx1 hx2 hE0 hE1 hE2
            have HER := Lib.hid (HG.out.err.below HB3.out)
            have HEE := Lib.hid HG.out.err.lt
            have HL0 := Lib.hid (HSF.out.len 0)
            have HL1 := Lib.hid (HSF.out.len 1)
            have HL2 := Lib.hid (HSF.out.len 2)
            have HW0 := Lib.hid (HSF.out.word 0)
            have HW1 := Lib.hid (HSF.out.word 1)
            have HW2 := Lib.hid (HSF.out.word 2)
            have hlga : ga < V3.heap.size := Nat.lt_trans hga2 HGR.out
            have hleb : eb < V3.heap.size := Nat.lt_trans hebW HGR.out
            have hnga : ga ≠ gr := Nat.ne_of_lt hga2
            have hneb : eb ≠ gr := Nat.ne_of_lt hebW
            have HS7 : Hid (Turned gr V3 V3) := Turned.refl _ _
            refine wpAnyX_take1 (i := 0) (v := .pointer (some ⟨gr, 0, none⟩)) rfl (by kernel_rfl) (fun _ _ _ h => h) HS7.out (Or.inl ⟨by rfl, fun w hS => by (have q0 := (hS.cell (p := ⟨ga, 1, none⟩) hlga (by first | exact hnga | exact hneb)).trans HC.out.1; have q1 := (hS.cell (p := ⟨eb, eo, none⟩) hleb (by first | exact hnga | exact hneb)).trans HC.out.2.1; have q2 := (hS.cell (p := ⟨eb, eo + 1, none⟩) hleb (by first | exact hnga | exact hneb)).trans HC.out.2.2.1; have q3 := (hS.cell (p := ⟨eb, eo + 2, none⟩) hleb (by first | exact hnga | exact hneb)).trans HC.out.2.2.2; go_simp)⟩) ?_
            go_simp
            refine wpAnyX_take1 (i := 1) (v := .pointer (some ⟨ga, 1, none⟩)) rfl (by kernel_rfl) (fun _ _ _ h => h) HS7.out (Or.inl ⟨by rfl, fun w hS => by (have q0 := (hS.cell (p := ⟨ga, 1, none⟩) hlga (by first | exact hnga | exact hneb)).trans HC.out.1; have q1 := (hS.cell (p := ⟨eb, eo, none⟩) hleb (by first | exact hnga | exact hneb)).trans HC.out.2.1; have q2 := (hS.cell (p := ⟨eb, eo + 1, none⟩) hleb (by first | exact hnga | exact hneb)).trans HC.out.2.2.1; have q3 := (hS.cell (p := ⟨eb, eo + 2, none⟩) hleb (by first | exact hnga | exact hneb)).trans HC.out.2.2.2; go_simp)⟩) ?_
            go_simp
            refine wpAnyX_take1 (i := 2) (v := .slice (some ⟨eb, eo, none⟩) 3 c0) rfl (by kernel_rfl) (fun _ _ _ h => h) HS7.out (Or.inl ⟨by rfl, fun w hS => by (have q0 := (hS.cell (p := ⟨ga, 1, none⟩) hlga (by first | exact hnga | exact hneb)).trans HC.out.1; have q1 := (hS.cell (p := ⟨eb, eo, none⟩) hleb (by first | exact hnga | exact hneb)).trans HC.out.2.1; have q2 := (hS.cell (p := ⟨eb, eo + 1, none⟩) hleb (by first | exact hnga | exact hneb)).trans HC.out.2.2.1; have q3 := (hS.cell (p := ⟨eb, eo + 2, none⟩) hleb (by first | exact hnga | exact hneb)).trans HC.out.2.2.2; go_simp)⟩) ?_
            go_simp
            refine wpAnyX_take1 (i := 3) (v := .pointer (some ⟨eb, eo, none⟩)) rfl (by kernel_rfl) (fun _ _ _ h => h) HS7.out (Or.inl ⟨by rfl, fun w hS => by (have q0 := (hS.cell (p := ⟨ga, 1, none⟩) hlga (by first | exact hnga | exact hneb)).trans HC.out.1; have q1 := (hS.cell (p := ⟨eb, eo, none⟩) hleb (by first | exact hnga | exact hneb)).trans HC.out.2.1; have q2 := (hS.cell (p := ⟨eb, eo + 1, none⟩) hleb (by first | exact hnga | exact hneb)).trans HC.out.2.2.1; have q3 := (hS.cell (p := ⟨eb, eo + 2, none⟩) hleb (by first | exact hnga | exact hneb)).trans HC.out.2.2.2; go_simp)⟩) ?_
            go_simp
            refine wpAnyX_take1 (i := 4) (v := .slice Ae0 (elAt s0 0).length ce0) rfl (by kernel_rfl) (fun _ _ _ h => h) HS7.out (Or.inl ⟨by rfl, fun w hS => by (have q0 := (hS.cell (p := ⟨ga, 1, none⟩) hlga (by first | exact hnga | exact hneb)).trans HC.out.1; have q1 := (hS.cell (p := ⟨eb, eo, none⟩) hleb (by first | exact hnga | exact hneb)).trans HC.out.2.1; have q2 := (hS.cell (p := ⟨eb, eo + 1, none⟩) hleb (by first | exact hnga | exact hneb)).trans HC.out.2.2.1; have q3 := (hS.cell (p := ⟨eb, eo + 2, none⟩) hleb (by first | exact hnga | exact hneb)).trans HC.out.2.2.2; go_simp)⟩) ?_
            go_simp
            refine wpAnyX_take1 (i := 6) (v := .pointer (some ⟨gr, 0, none⟩)) rfl (by kernel_rfl) (fun _ _ _ h => h) HS7.out (Or.inl ⟨by rfl, fun w hS => by (have q0 := (hS.cell (p := ⟨ga, 1, none⟩) hlga (by first | exact hnga | exact hneb)).trans HC.out.1; have q1 := (hS.cell (p := ⟨eb, eo, none⟩) hleb (by first | exact hnga | exact hneb)).trans HC.out.2.1; have q2 := (hS.cell (p := ⟨eb, eo + 1, none⟩) hleb (by first | exact hnga | exact hneb)).trans HC.out.2.2.1; have q3 := (hS.cell (p := ⟨eb, eo + 2, none⟩) hleb (by first | exact hnga | exact hneb)).trans HC.out.2.2.2; go_simp)⟩) ?_
            go_simp
            refine wpAnyX_take1 (i := 7) (v := .pointer (some ⟨ga, 1, none⟩)) rfl (by kernel_rfl) (fun _ _ _ h => h) HS7.out (Or.inl ⟨by rfl, fun w hS => by (have q0 := (hS.cell (p := ⟨ga, 1, none⟩) hlga (by first | exact hnga | exact hneb)).trans HC.out.1; have q1 := (hS.cell (p := ⟨eb, eo, none⟩) hleb (by first | exact hnga | exact hneb)).trans HC.out.2.1; have q2 := (hS.cell (p := ⟨eb, eo + 1, none⟩) hleb (by first | exact hnga | exact hneb)).trans HC.out.2.2.1; have q3 := (hS.cell (p := ⟨eb, eo + 2, none⟩) hleb (by first | exact hnga | exact hneb)).trans HC.out.2.2.2; go_simp)⟩) ?_
            go_simp
            refine wpAnyX_take1 (i := 8) (v := .slice (some ⟨eb, eo, none⟩) 3 c0) rfl (by kernel_rfl) (fun _ _ _ h => h) HS7.out (Or.inl ⟨by rfl, fun w hS => by (have q0 := (hS.cell (p := ⟨ga, 1, none⟩) hlga (by first | exact hnga | exact hneb)).trans HC.out.1; have q1 := (hS.cell (p := ⟨eb, eo, none⟩) hleb (by first | exact hnga | exact hneb)).trans HC.out.2.1; have q2 := (hS.cell (p := ⟨eb, eo + 1, none⟩) hleb (by first | exact hnga | exact hneb)).trans HC.out.2.2.1; have q3 := (hS.cell (p := ⟨eb, eo + 2, none⟩) hleb (by first | exact hnga | exact hneb)).trans HC.out.2.2.2; go_simp)⟩) ?_
            go_simp
            refine wpAnyX_take1 (i := 9) (v := .pointer (some ⟨eb, eo + 1, none⟩)) rfl (by kernel_rfl) (fun _ _ _ h => h) HS7.out (Or.inl ⟨by rfl, fun w hS => by (have q0 := (hS.cell (p := ⟨ga, 1, none⟩) hlga (by first | exact hnga | exact hneb)).trans HC.out.1; have q1 := (hS.cell (p := ⟨eb, eo, none⟩) hleb (by first | exact hnga | exact hneb)).trans HC.out.2.1; have q2 := (hS.cell (p := ⟨eb, eo + 1, none⟩) hleb (by first | exact hnga | exact hneb)).trans HC.out.2.2.1; have q3 := (hS.cell (p := ⟨eb, eo + 2, none⟩) hleb (by first | exact hnga | exact hneb)).trans HC.out.2.2.2; go_simp)⟩) ?_
            go_simp
            refine wpAnyX_take1 (i := 10) (v := .slice Ae1 (elAt s0 1).length ce1) rfl (by kernel_rfl) (fun _ _ _ h => h) HS7.out (Or.inl ⟨by rfl, fun w hS => by (have q0 := (hS.cell (p := ⟨ga, 1, none⟩) hlga (by first | exact hnga | exact hneb)).trans HC.out.1; have q1 := (hS.cell (p := ⟨eb, eo, none⟩) hleb (by first | exact hnga | exact hneb)).trans HC.out.2.1; have q2 := (hS.cell (p := ⟨eb, eo + 1, none⟩) hleb (by first | exact hnga | exact hneb)).trans HC.out.2.2.1; have q3 := (hS.cell (p := ⟨eb, eo + 2, none⟩) hleb (by first | exact hnga | exact hneb)).trans HC.out.2.2.2; go_simp)⟩) ?_
            go_simp
            refine wpAnyX_take1 (i := 12) (v := .pointer (some ⟨gr, 0, none⟩)) rfl (by kernel_rfl) (fun _ _ _ h => h) HS7.out (Or.inl ⟨by rfl, fun w hS => by (have q0 := (hS.cell (p := ⟨ga, 1, none⟩) hlga (by first | exact hnga | exact hneb)).trans HC.out.1; have q1 := (hS.cell (p := ⟨eb, eo, none⟩) hleb (by first | exact hnga | exact hneb)).trans HC.out.2.1; have q2 := (hS.cell (p := ⟨eb, eo + 1, none⟩) hleb (by first | exact hnga | exact hneb)).trans HC.out.2.2.1; have q3 := (hS.cell (p := ⟨eb, eo + 2, none⟩) hleb (by first | exact hnga | exact hneb)).trans HC.out.2.2.2; go_simp)⟩) ?_
            go_simp
            refine wpAnyX_take1 (i := 13) (v := .pointer (some ⟨ga, 1, none⟩)) rfl (by kernel_rfl) (fun _ _ _ h => h) HS7.out (Or.inl ⟨by rfl, fun w hS => by (have q0 := (hS.cell (p := ⟨ga, 1, none⟩) hlga (by first | exact hnga | exact hneb)).trans HC.out.1; have q1 := (hS.cell (p := ⟨eb, eo, none⟩) hleb (by first | exact hnga | exact hneb)).trans HC.out.2.1; have q2 := (hS.cell (p := ⟨eb, eo + 1, none⟩) hleb (by first | exact hnga | exact hneb)).trans HC.out.2.2.1; have q3 := (hS.cell (p := ⟨eb, eo + 2, none⟩) hleb (by first | exact hnga | exact hneb)).trans HC.out.2.2.2; go_simp)⟩) ?_
            go_simp
            refine wpAnyX_take1 (i := 14) (v := .slice (some ⟨eb, eo, none⟩) 3 c0) rfl (by kernel_rfl) (fun _ _ _ h => h) HS7.out (Or.inl ⟨by rfl, fun w hS => by (have q0 := (hS.cell (p := ⟨ga, 1, none⟩) hlga (by first | exact hnga | exact hneb)).trans HC.out.1; have q1 := (hS.cell (p := ⟨eb, eo, none⟩) hleb (by first | exact hnga | exact hneb)).trans HC.out.2.1; have q2 := (hS.cell (p := ⟨eb, eo + 1, none⟩) hleb (by first | exact hnga | exact hneb)).trans HC.out.2.2.1; have q3 := (hS.cell (p := ⟨eb, eo + 2, none⟩) hleb (by first | exact hnga | exact hneb)).trans HC.out.2.2.2; go_simp)⟩) ?_
            go_simp
            refine wpAnyX_take1 (i := 15) (v := .pointer (some ⟨eb, eo + 2, none⟩)) rfl (by kernel_rfl) (fun _ _ _ h => h) HS7.out (Or.inl ⟨by rfl, fun w hS => by (have q0 := (hS.cell (p := ⟨ga, 1, none⟩) hlga (by first | exact hnga | exact hneb)).trans HC.out.1; have q1 := (hS.cell (p := ⟨eb, eo, none⟩) hleb (by first | exact hnga | exact hneb)).trans HC.out.2.1; have q2 := (hS.cell (p := ⟨eb, eo + 1, none⟩) hleb (by first | exact hnga | exact hneb)).trans HC.out.2.2.1; have q3 := (hS.cell (p := ⟨eb, eo + 2, none⟩) hleb (by first | exact hnga | exact hneb)).trans HC.out.2.2.2; go_simp)⟩) ?_
            go_simp
            refine wpAnyX_take1 (i := 16) (v := .slice Ae2 (elAt s0 2).length ce2) rfl (by kernel_rfl) (fun _ _ _ h => h) HS7.out (Or.inl ⟨by rfl, fun w hS => by (have q0 := (hS.cell (p := ⟨ga, 1, none⟩) hlga (by first | exact hnga | exact hneb)).trans HC.out.1; have q1 := (hS.cell (p := ⟨eb, eo, none⟩) hleb (by first | exact hnga | exact hneb)).trans HC.out.2.1; have q2 := (hS.cell (p := ⟨eb, eo + 1, none⟩) hleb (by first | exact hnga | exact hneb)).trans HC.out.2.2.1; have q3 := (hS.cell (p := ⟨eb, eo + 2, none⟩) hleb (by first | exact hnga | exact hneb)).trans HC.out.2.2.2; go_simp)⟩) ?_
            go_simp
            skip
            apply share2 (F := fun W g7 => R7b V3 gr (((false || numBad (elAt s0 0)) || numBad (elAt s0 1)) || numBad (elAt s0 2)) W g7)
            · intro T_3_1
              apply share2 (F := fun W g7 => R7b V3 gr ((false || numBad (elAt s0 0)) || numBad (elAt s0 1)) W g7)
              · intro T_2_1
                apply share1 (F := fun W => R7 V3 gr (((false || numBad (elAt s0 0)) || numBad (elAt s0 1)) || numBad (elAt s0 2)) W)
                · intro T_3_0
                  apply share2 (F := fun W g7 => R7b V3 gr (false || numBad (elAt s0 0)) W g7)
                  · intro T_1_1
                    apply share1 (F := fun W => R7 V3 gr ((false || numBad (elAt s0 0)) || numBad (elAt s0 1)) W)
                    · intro T_2_0
                      apply share2 (F := fun W g7 => R7b V3 gr false W g7)
                      · intro T_0_1
                        apply share1 (F := fun W => R7 V3 gr (false || numBad (elAt s0 0)) W)
                        · intro T_1_0
                          apply share1 (F := fun W => R7 V3 gr false W)
                          · intro T_0_0
                            exact T_0_0 _ ⟨Turned.refl _ _, HRR.out⟩
                          · intro W hF
                            have HF := Lib.hid hF
                            clear hF
                            refine wpAnyX_ready (rs := [5, 19]) (by kernel_rfl) (by simp) (AllX.cons rfl (fun J hJ => ?_) (AllX.cons rfl (fun J hJ => ?_) AllX.nil))
                            · go_simp
                              go_wp2_with (go_at_call 73; refine (num_step HF.out.t HF.out.r hgrB HGR.out HER.out HEE.out ce0 HE0.out HL0.out HW0.out).mono ?_; rintro e X ⟨rfl, hrX, htX⟩)
                              have hN := HF.out.call hrX htX
                              refine hJ.out _ _ (fun _ => hN.t) ?_
                              clear hJ J
                              exact T_1_0 _ hN
                            · go_simp
                              have hN := HF.out.made
                              refine hJ.out _ _ (fun _ => hN.t) ?_
                              clear hJ J
                              generalize hVx : W.alloc (.cells #[.int .i64 0, .int .i64 0, .int .i64 0, .slice none 0 0] 45) = Vx at hN ⊢
                              clear hVx
                              generalize hgx : W.heap.size = gx at hN ⊢
                              clear hgx
                              exact T_0_1 _ _ hN
                        · intro W hF
                          have HF := Lib.hid hF
                          clear hF
                          refine wpAnyX_ready (rs := [11, 19]) (by kernel_rfl) (by simp) (AllX.cons rfl (fun J hJ => ?_) (AllX.cons rfl (fun J hJ => ?_) AllX.nil))
                          · go_simp
                            go_wp2_with (go_at_call 73; refine (num_step HF.out.t HF.out.r hgrB HGR.out HER.out HEE.out ce1 HE1.out HL1.out HW1.out).mono ?_; rintro e X ⟨rfl, hrX, htX⟩)
                            have hN := HF.out.call hrX htX
                            refine hJ.out _ _ (fun _ => hN.t) ?_
                            clear hJ J
                            exact T_2_0 _ hN
                          · go_simp
                            have hN := HF.out.made
                            refine hJ.out _ _ (fun _ => hN.t) ?_
                            clear hJ J
                            generalize hVx : W.alloc (.cells #[.int .i64 0, .int .i64 0, .int .i64 0, .slice none 0 0] 45) = Vx at hN ⊢
                            clear hVx
                            generalize hgx : W.heap.size = gx at hN ⊢
                            clear hgx
                            exact T_1_1 _ _ hN
                      · intro W g7 hF
                        have HF := Lib.hid hF
                        clear hF
                        refine wpAnyX_one (i := 5) (by kernel_rfl) rfl (fun J hJ => ?_)
                        go_simp
                        go_wp2_with (go_at_call 73; refine (num_step HF.out.t HF.out.r hgrB HGR.out HER.out HEE.out ce0 HE0.out HL0.out HW0.out).mono ?_; rintro e X ⟨rfl, hrX, htX⟩)
                        have hN := HF.out.call HGR.out hrX htX
                        refine hJ.out _ _ (fun _ => hN.t) ?_
                        clear hJ J
                        exact T_1_1 _ _ hN
                    · intro W hF
                      have HF := Lib.hid hF
                      clear hF
                      refine wpAnyX_ready (rs := [17, 19]) (by kernel_rfl) (by simp) (AllX.cons rfl (fun J hJ => ?_) (AllX.cons rfl (fun J hJ => ?_) AllX.nil))
                      · go_simp
                        go_wp2_with (go_at_call 73; refine (num_step HF.out.t HF.out.r hgrB HGR.out HER.out HEE.out ce2 HE2.out HL2.out HW2.out).mono ?_; rintro e X ⟨rfl, hrX, htX⟩)
                        have hN := HF.out.call hrX htX
                        refine hJ.out _ _ (fun _ => hN.t) ?_
                        clear hJ J
                        exact T_3_0 _ hN
                      · go_simp
                        have hN := HF.out.made
                        refine hJ.out _ _ (fun _ => hN.t) ?_
                        clear hJ J
                        generalize hVx : W.alloc (.cells #[.int .i64 0, .int .i64 0, .int .i64 0, .slice none 0 0] 45) = Vx at hN ⊢
                        clear hVx
                        generalize hgx : W.heap.size = gx at hN ⊢
                        clear hgx
                        exact T_2_1 _ _ hN
                  · intro W g7 hF
                    have HF := Lib.hid hF
                    clear hF
                    refine wpAnyX_one (i := 11) (by kernel_rfl) rfl (fun J hJ => ?_)
                    go_simp
                    go_wp2_with (go_at_call 73; refine (num_step HF.out.t HF.out.r hgrB HGR.out HER.out HEE.out ce1 HE1.out HL1.out HW1.out).mono ?_; rintro e X ⟨rfl, hrX, htX⟩)
                    have hN := HF.out.call HGR.out hrX htX
                    refine hJ.out _ _ (fun _ => hN.t) ?_
                    clear hJ J
                    exact T_2_1 _ _ hN
                · intro W hF
                  have HF := Lib.hid hF
                  clear hF
                  refine wpAnyX_take1 (i := 18) (v := .agg #[.int .i64 (numV (elAt s0 0)), .int .i64 (numV (elAt s0 1)), .int .i64 (numV (elAt s0 2)), .slice none 0 0]) rfl (by kernel_rfl) (fun _ _ _ h => h) HF.out.t (Or.inl ⟨by rfl, fun w hS => by (go_simp)⟩) ?_
                  go_simp
                  refine wpAnyX_one (i := 19) (by kernel_rfl) rfl (fun J hJ => ?_)
                  go_simp
                  have hN := HF.out.made
                  refine hJ.out _ _ (fun _ => hN.t) ?_
                  clear hJ J
                  generalize hVx : W.alloc (.cells #[.int .i64 0, .int .i64 0, .int .i64 0, .slice none 0 0] 45) = Vx at hN ⊢
                  clear hVx
                  generalize hgx : W.heap.size = gx at hN ⊢
                  clear hgx
                  exact T_3_1 _ _ hN
              · intro W g7 hF
                have HF := Lib.hid hF
                clear hF
                refine wpAnyX_one (i := 17) (by kernel_rfl) rfl (fun J hJ => ?_)
                go_simp
                go_wp2_with (go_at_call 73; refine (num_step HF.out.t HF.out.r hgrB HGR.out HER.out HEE.out ce2 HE2.out HL2.out HW2.out).mono ?_; rintro e X ⟨rfl, hrX, htX⟩)
                have hN := HF.out.call HGR.out hrX htX
                refine hJ.out _ _ (fun _ => hN.t) ?_
                clear hJ J
                refine wpAnyX_take1 (i := 18) (v := .agg #[.int .i64 (numV (elAt s0 0)), .int .i64 (numV (elAt s0 1)), .int .i64 (numV (elAt s0 2)), .slice none 0 0]) rfl (by kernel_rfl) (fun _ _ _ h => h) hN.t (Or.inl ⟨by rfl, fun w hS => by (go_simp)⟩) ?_
                go_simp
                exact T_3_1 _ _ hN
            · intro W g7 hF
              have HF := Lib.hid hF
              clear hF
              refine wpAnyX_one (i := 20) (by kernel_rfl) rfl (fun J hJ => ?_)
              refine step_store_box rfl 45 (.tmp 7) (.tmp 59) rfl g7 0 (ichV (numI s0) none 0) (ichC (numI s0) none 0) rfl rfl rfl [.int .i64 0, .int .i64 0, .int .i64 0, .slice none 0 0] [.int .i64 (numV (elAt s0 0)), .int .i64 (numV (elAt s0 1)), .int .i64 (numV (elAt s0 2)), .slice none 0 0] 45 HF.out.i (Nat.le_of_ble_eq_true rfl) rfl (by kernel_rfl) rfl ?_
              intro X hsX hPX
              have HSX : Hid (IBlk X g7 (numI s0) none 0) := hsX
              have HPX := Lib.hid hPX
              clear hsX hPX
              have HTX : Hid (Turned gr V3 X) := HF.out.t.but7 HPX.out HF.out.l
              have HRX : Hid (RBlk X gr (((false || numBad (elAt s0 0)) || numBad (elAt s0 1)) || numBad (elAt s0 2))) := (HPX.out.block _ (by have := HF.out.l; have := HGR.out; omega)).trans HF.out.r
              have hg7 : V3.heap.size ≤ g7 := HF.out.l
              refine hJ.out _ _ (fun _ => HTX.out) ?_
              clear hJ J
              refine wpAnyX_done (by kernel_rfl) ?_
              clear HF HPX
              have HB4 := Lib.hid (HB3.out.trans (HTX.out.below hgrB HB3.out.size))
              have HR4 : Hid (IBlk X w.heap.size zeroI none 0) := (HTX.out.block _ HR3.out.lt (by intro e; injection e with e; exact hneW e)).trans HR3.out
              have hrc := HRX.out.cell0
              obtain ⟨i0, i1, i2, i3⟩ := HSX.out.all
              have hgrX : gr < X.heap.size := HRX.out.lt
              clear HC HE0 HE1 HE2 HRR HER HEE HL0 HL1 HL2 HW0 HW1 HW2 HS7 hlga hleb hnga hneb HTX HB3 HR3
              rcases hbad : (((false || numBad (elAt s0 0)) || numBad (elAt s0 1)) || numBad (elAt s0 2)) with _ | _
              · rw [hbad] at hrc HRX
                have HBAD := Lib.hid hbad
                clear hbad
                go_wp2_with fail
                refine wp_region_x 99 (by kernel_rfl) (fun W => (W.cell? ⟨gr, 0, none⟩ = some (.bool false)) ∧ IBlk W g7 (numI s0) none 0) ?_
                have HS : Hid ((X.drew.cell? ⟨gr, 0, none⟩ = some (.bool false)) ∧ IBlk X.drew g7 (numI s0) none 0) := ⟨hrc, HSX.out⟩
                have HB5 : Hid (Below w.heap.size w X.drew) := HB4.out.drew
                have HR5 : Hid (IBlk X.drew w.heap.size zeroI none 0) := HR4.out
                have hgrD : gr < X.drew.heap.size := hgrX
                generalize hV : X.drew = V5 at HS HB5 HR5 hgrD ⊢
                clear hV hrc i0 i1 i2 i3 HRX HSX HB4 HR4 hgrX
                refine wpAnyX_take1 (i := 0) (v := .pointer (some ⟨gr, 0, none⟩)) rfl (by kernel_rfl) (fun _ _ _ h => h) HS.out (Or.inl ⟨by rfl, fun w hS => by (obtain ⟨q0, qI⟩ := hS; obtain ⟨r0, r1, r2, r3⟩ := qI.all; go_simp)⟩) ?_
                go_simp
                refine wpAnyX_take1 (i := 1) (v := .pointer (some ⟨gr, 0, none⟩)) rfl (by kernel_rfl) (fun _ _ _ h => h) HS.out (Or.inl ⟨by rfl, fun w hS => by (obtain ⟨q0, qI⟩ := hS; obtain ⟨r0, r1, r2, r3⟩ := qI.all; go_simp)⟩) ?_
                go_simp
                refine wpAnyX_take1 (i := 2) (v := .pointer (some ⟨gr, 0, none⟩)) rfl (by kernel_rfl) (fun _ _ _ h => h) HS.out (Or.inl ⟨by rfl, fun w hS => by (obtain ⟨q0, qI⟩ := hS; obtain ⟨r0, r1, r2, r3⟩ := qI.all; go_simp)⟩) ?_
                go_simp
                refine wpAnyX_take1 (i := 3) (v := .bool false) rfl (by kernel_rfl) (fun _ _ _ h => h) HS.out (Or.inl ⟨by rfl, fun w hS => by (obtain ⟨q0, qI⟩ := hS; obtain ⟨r0, r1, r2, r3⟩ := qI.all; go_simp)⟩) ?_
                go_simp
                refine wpAnyX_take1 (i := 4) (v := .bool false) rfl (by kernel_rfl) (fun _ _ _ h => h) HS.out (Or.inl ⟨by rfl, fun w hS => by (obtain ⟨q0, qI⟩ := hS; obtain ⟨r0, r1, r2, r3⟩ := qI.all; go_simp)⟩) ?_
                go_simp
                refine wpAnyX_take1 (i := 5) (v := .slice (some ⟨b, off, none⟩) (K + 1) c) rfl (by kernel_rfl) (fun _ _ _ h => h) HS.out (Or.inl ⟨by rfl, fun w hS => by (obtain ⟨q0, qI⟩ := hS; obtain ⟨r0, r1, r2, r3⟩ := qI.all; go_simp)⟩) ?_
                go_simp
                refine wpAnyX_take1 (i := 6) (v := .slice (some ⟨b, off, none⟩) 1 c) rfl (by kernel_rfl) (fun _ _ _ h => h) HS.out (Or.inl ⟨by rfl, fun w hS => by (obtain ⟨q0, qI⟩ := hS; obtain ⟨r0, r1, r2, r3⟩ := qI.all; go_simp; intro hq; exfalso; omega)⟩) ?_
                go_simp
                refine wpAnyX_take1 (i := 7) (v := ichV (numI s0) none 0) rfl (by kernel_rfl) (fun _ _ _ h => h) HS.out (Or.inl ⟨by rfl, fun w hS => by (obtain ⟨q0, qI⟩ := hS; obtain ⟨r0, r1, r2, r3⟩ := qI.all; go_simp)⟩) ?_
                go_simp
                have HHD := Lib.hid (header_any (numI s0) none 0 V5 ⟨numV_in _, numV_in _, numV_in _⟩ (HG.out.tab.below HB5.out))
                unfold HdRet at HHD
                refine wpAnyX_one (i := 8) (by kernel_rfl) rfl (fun J hJ => ?_)
                go_simp
                go_wp2_with (go_at_call 47; refine HHD.out.mono ?_; rintro e V6 ⟨vh, rfl, hoh, hbh⟩)
                obtain ⟨Ah, ch, hvh, _, hath⟩ := hoh.at_
                have hvh : vh = .slice Ah 1 ch := hvh
                subst hvh
                have HS6 : Hid ((V6.cell? ⟨gr, 0, none⟩ = some (.bool false)) ∧ IBlk V6 g7 (numI s0) none 0) := ⟨(hbh.cell (p := ⟨gr, 0, none⟩) hgrD).trans HS.out.1, HS.out.2.below hbh⟩
                have HB6 := Lib.hid (HB5.out.trans (hbh.mono HB5.out.size))
                have HR6 := Lib.hid (HR5.out.below hbh)
                have HEQ := Lib.hid (equalL_any (some ⟨b, off, none⟩) Ah c ch [s0] [sUNB (numI s0)] V6 ((hone.below HB6.out).mono HB6.out.size) hath hfit1 (fit_unb s0))
                unfold EqRet at HEQ
                have hgr6 : gr < V6.heap.size := Nat.lt_of_lt_of_le hgrD hbh.size
                refine hJ.out _ _ (fun _ => HS6.out) ?_
                clear hJ J hoh hath hbh HHD HB5 HR5 HS
                refine wpAnyX_one (i := 9) (by kernel_rfl) rfl (fun J hJ => ?_)
                go_simp
                go_wp2_with (go_at_call 60; refine HEQ.out.mono ?_; rintro e V7 ⟨r, rfl, hr, hbq⟩)
                have HS7 : Hid ((V7.cell? ⟨gr, 0, none⟩ = some (.bool false)) ∧ IBlk V7 g7 (numI s0) none 0) := ⟨(hbq.cell (p := ⟨gr, 0, none⟩) hgr6).trans HS6.out.1, HS6.out.2.below hbq⟩
                have HB7 := Lib.hid (HB6.out.trans (hbq.mono HB6.out.size))
                have HR7 := Lib.hid (HR6.out.below hbq)
                have HRQ := Lib.hid hr
                refine hJ.out _ _ (fun _ => HS7.out) ?_
                clear hJ J hbq hr HEQ HB6 HR6 HS6
                refine wpAnyX_take1 (i := 10) (v := .bool (!r)) rfl (by kernel_rfl) (fun _ _ _ h => h) HS7.out (Or.inl ⟨by rfl, fun w hS => by (go_simp)⟩) ?_
                go_simp
                refine wpAnyX_take1 (i := 11) (v := .bool (!r)) rfl (by kernel_rfl) (fun _ _ _ h => h) HS7.out (Or.inl ⟨by rfl, fun w hS => by (go_simp)⟩) ?_
                go_simp
                refine wpAnyX_done (by kernel_rfl) ?_
                cases r
                · have HNO := Lib.hid (ich_no5 (l := l) (by rw [HHDS.out]; intro h; have := HRQ.out.2 (by rw [← h]); cases this))
                  clear HRQ
                  go_wp2_with (refine at_store 45 (.tmp 2) (.tmp 72) rfl ?_; refine wpList_store_box rfl 45 (.tmp 2) (.tmp 72) rfl w.heap.size 0 (.agg #[.int .i64 0, .int .i64 0, .int .i64 0, .slice none 0 0]) #[.int .i64 0, .int .i64 0, .int .i64 0, .slice none 0 0] rfl rfl rfl [.int .i64 0, .int .i64 0, .int .i64 0, .slice none 0 0] [.int .i64 0, .int .i64 0, .int .i64 0, .slice none 0 0] _ HR7.out (Nat.le_of_ble_eq_true rfl) rfl (by kernel_rfl) rfl ?_; intro W9 hb9 hP9; have HR9 := Lib.hid hb9; have HP9 := Lib.hid hP9; clear hb9 hP9)
                  exact ret2 (k := 2) (j := 3) (g := w.heap.size) (T := 45) (cs := #[.int .i64 0, .int .i64 0, .int .i64 0, .slice none 0 0]) Tryz.results52 rfl HR9.out Tryz.underlying45 (by kernel_rfl) rfl (ic_none HNO.out (Below.but HB7.out HP9.out (Nat.le_refl _)))
                · have hyes : s0 = sUNB (numI s0) := by have h := HRQ.out.1 rfl; injection h
                  have HIY := Lib.hid (ich_yes (l := l) (by omega) (by rw [HHDS.out]; exact H3E.out) (by rw [HLST.out]; exact ht1) (by rw [HLST.out]; exact HN1.out) (by rw [HHDS.out]; exact HBAD.out) (by rw [HHDS.out]; exact hyes))
                  have hpt := (HH.out.below HB7.out).part 1 K
                  have hmid : (l.take K).drop 1 = midS l := by unfold midS; rw [hlK]; rfl
                  have hml : (midS l).length = K - 1 := by rw [← hmid, List.length_drop, List.length_take]; omega
                  rw [hmid] at hpt
                  have HME := messages_any (some ⟨b, off + 1 * 2, none⟩) (c - 1) (midS l) V7 (hpt.mono HB7.out.size) (HD.out.sub (fun s hs => by rw [← hmid] at hs; exact List.mem_of_mem_take (List.mem_of_mem_drop hs)) (by rw [hml]; omega)) (by rw [hml]; omega) (HG.out.below HB7.out)
                  rw [hml] at HME
                  have HME := Lib.hid HME
                  unfold MsRet at HME
                  clear HRQ hyes hpt hmid hml
                  have hl7 := HS7.out.2.lt
                  have hlw := HR7.out.lt
                  have hgw7 : w.heap.size < g7 := by have := HGR.out; omega
                  go_wp2_with fail
                  refine HME.out.mono ?_
                  rintro e V8 ⟨hb8, hcase⟩
                  have HB8 := Lib.hid (HB7.out.trans (hb8.mono HB7.out.size))
                  have HR8 := Lib.hid (HR7.out.below hb8)
                  have HI8 := Lib.hid (HS7.out.2.below hb8)
                  clear hb8 HME HB7 HR7 HS7
                  rcases hcase with ⟨ms, Am, nm, cm, hms, hnm, rfl, ho8, hok8⟩ | ⟨Am, nm, cm, hms, rfl⟩
                  · have HJ : Hid (ichP l = some (⟨numV (elAt s0 0), numV (elAt s0 1), numV (elAt s0 2), ms⟩ : Ich)) := by show _ = _; rw [HIY.out, hms, HHDS.out]; rfl
                    have HO8 := Lib.hid ho8
                    have HNM := Lib.hid hnm
                    have HOK8 := Lib.hid hok8
                    clear hms hnm ho8 hok8 HIY
                    obtain ⟨r0, r1, r2, r3⟩ := HI8.out.all
                    have hf3 := HI8.out.frozen 3
                    go_upto_region 14 with (fail)
                    clear r0 r1 r2 r3 hf3
                    have hset : (V8.setCell ⟨g7, 3, none⟩ (.slice Am nm cm)).heap[g7]? = some (.cells #[.int .i64 (numV (elAt s0 0)), .int .i64 (numV (elAt s0 1)), .int .i64 (numV (elAt s0 2)), .slice Am nm cm] 45 (0, 0)) := by have h := HI8.out; unfold IBlk at h; rw [heap_setCell_m h]; rfl
                    have HP9 := Lib.hid (But.set V8 g7 3 (.slice Am nm cm))
                    generalize V8.setCell ⟨g7, 3, none⟩ (.slice Am nm cm) = W9 at hset HP9 ⊢
                    have r0 : W9.cell? ⟨g7, 0, none⟩ = some (.int .i64 (numV (elAt s0 0))) := by rw [cell_of_row _ _ _ _ _ _ hset]; rfl
                    have r1 : W9.cell? ⟨g7, 1, none⟩ = some (.int .i64 (numV (elAt s0 1))) := by rw [cell_of_row _ _ _ _ _ _ hset]; rfl
                    have r2 : W9.cell? ⟨g7, 2, none⟩ = some (.int .i64 (numV (elAt s0 2))) := by rw [cell_of_row _ _ _ _ _ _ hset]; rfl
                    have r3 : W9.cell? ⟨g7, 3, none⟩ = some (.slice Am nm cm) := by rw [cell_of_row _ _ _ _ _ _ hset]; rfl
                    clear hset
                    go_wp2_with (refine at_store 45 (.tmp 2) (.tmp 87) rfl ?_; refine wpList_store_box rfl 45 (.tmp 2) (.tmp 87) rfl w.heap.size 0 (.agg #[.int .i64 (numV (elAt s0 0)), .int .i64 (numV (elAt s0 1)), .int .i64 (numV (elAt s0 2)), .slice Am nm cm]) #[.int .i64 (numV (elAt s0 0)), .int .i64 (numV (elAt s0 1)), .int .i64 (numV (elAt s0 2)), .slice Am nm cm] rfl rfl rfl [.int .i64 0, .int .i64 0, .int .i64 0, .slice none 0 0] [.int .i64 (numV (elAt s0 0)), .int .i64 (numV (elAt s0 1)), .int .i64 (numV (elAt s0 2)), .slice Am nm cm] 45 ((HP9.out.block _ (Nat.ne_of_lt hgw7)).trans HR8.out) (Nat.le_of_ble_eq_true rfl) rfl (by kernel_rfl) rfl ?_; intro W10 hb10 hP10; have HR10 := Lib.hid hb10; have HP10 := Lib.hid hP10; clear hb10 hP10)
                    have hrow : W10.heap[w.heap.size]? = some (.cells (ichC (⟨numV (elAt s0 0), numV (elAt s0 1), numV (elAt s0 2), ms⟩ : Ich) Am cm) 45 (0, 0)) := by have h := HR10.out; rw [← HNM.out] at h; exact h
                    exact ret2 (k := 2) (j := 3) (g := w.heap.size) (T := 45) (cs := ichC (⟨numV (elAt s0 0), numV (elAt s0 1), numV (elAt s0 2), ms⟩ : Ich) Am cm) Tryz.results52 rfl hrow Tryz.underlying45 (by kernel_rfl) rfl ⟨(HB8.out.but HP9.out (Nat.le_of_lt hgw7)).but HP10.out (Nat.le_refl _), .inl ⟨(⟨numV (elAt s0 0), numV (elAt s0 1), numV (elAt s0 2), ms⟩ : Ich), Am, cm, HJ.out, rfl, by have h := ((HO8.out.but HP9.out hl7).but HP10.out hlw).mono (Nat.le_of_lt hlw); rw [← HNM.out] at h; exact h, HOK8.out, numV_in _, numV_in _, numV_in _⟩⟩
                  · have HNO : Hid (ichP l = none) := by show _ = _; rw [HIY.out, hms]; rfl
                    clear hms HIY
                    go_wp2_with (refine at_store 45 (.tmp 2) (.tmp 84) rfl ?_; refine wpList_store_box rfl 45 (.tmp 2) (.tmp 84) rfl w.heap.size 0 (.agg #[.int .i64 0, .int .i64 0, .int .i64 0, .slice none 0 0]) #[.int .i64 0, .int .i64 0, .int .i64 0, .slice none 0 0] rfl rfl rfl [.int .i64 0, .int .i64 0, .int .i64 0, .slice none 0 0] [.int .i64 0, .int .i64 0, .int .i64 0, .slice none 0 0] _ HR8.out (Nat.le_of_ble_eq_true rfl) rfl (by kernel_rfl) rfl ?_; intro W9 hb9 hP9; have HR9 := Lib.hid hb9; have HP9 := Lib.hid hP9; clear hb9 hP9)
                    exact ret2 (k := 2) (j := 3) (g := w.heap.size) (T := 45) (cs := #[.int .i64 0, .int .i64 0, .int .i64 0, .slice none 0 0]) Tryz.results52 rfl HR9.out Tryz.underlying45 (by kernel_rfl) rfl (ic_none HNO.out (Below.but HB8.out HP9.out (Nat.le_refl _)))
              · rw [hbad] at hrc HRX
                have HBAD := Lib.hid hbad
                clear hbad
                go_wp2_with fail
                refine wp_region_x 99 (by kernel_rfl) (fun W => (W.cell? ⟨gr, 0, none⟩ = some (.bool true)) ∧ IBlk W g7 (numI s0) none 0) ?_
                have HS : Hid ((X.drew.cell? ⟨gr, 0, none⟩ = some (.bool true)) ∧ IBlk X.drew g7 (numI s0) none 0) := ⟨hrc, HSX.out⟩
                have HB5 : Hid (Below w.heap.size w X.drew) := HB4.out.drew
                have HR5 : Hid (IBlk X.drew w.heap.size zeroI none 0) := HR4.out
                have hgrD : gr < X.drew.heap.size := hgrX
                generalize hV : X.drew = V5 at HS HB5 HR5 hgrD ⊢
                clear hV hrc i0 i1 i2 i3 HRX HSX HB4 HR4 hgrX
                have HNO := Lib.hid (ich_no4 (l := l) (by rw [HHDS.out]; exact HBAD.out))
                refine wpAnyX_take1 (i := 0) (v := .pointer (some ⟨gr, 0, none⟩)) rfl (by kernel_rfl) (fun _ _ _ h => h) HS.out (Or.inl ⟨by rfl, fun w hS => by (obtain ⟨q0, qI⟩ := hS; obtain ⟨r0, r1, r2, r3⟩ := qI.all; go_simp)⟩) ?_
                go_simp
                refine wpAnyX_take1 (i := 1) (v := .pointer (some ⟨gr, 0, none⟩)) rfl (by kernel_rfl) (fun _ _ _ h => h) HS.out (Or.inl ⟨by rfl, fun w hS => by (obtain ⟨q0, qI⟩ := hS; obtain ⟨r0, r1, r2, r3⟩ := qI.all; go_simp)⟩) ?_
                go_simp
                refine wpAnyX_take1 (i := 2) (v := .pointer (some ⟨gr, 0, none⟩)) rfl (by kernel_rfl) (fun _ _ _ h => h) HS.out (Or.inl ⟨by rfl, fun w hS => by (obtain ⟨q0, qI⟩ := hS; obtain ⟨r0, r1, r2, r3⟩ := qI.all; go_simp)⟩) ?_
                go_simp
                refine wpAnyX_take1 (i := 3) (v := .bool true) rfl (by kernel_rfl) (fun _ _ _ h => h) HS.out (Or.inl ⟨by rfl, fun w hS => by (obtain ⟨q0, qI⟩ := hS; obtain ⟨r0, r1, r2, r3⟩ := qI.all; go_simp)⟩) ?_
                go_simp
                refine wpAnyX_take1 (i := 4) (v := .bool true) rfl (by kernel_rfl) (fun _ _ _ h => h) HS.out (Or.inl ⟨by rfl, fun w hS => by (obtain ⟨q0, qI⟩ := hS; obtain ⟨r0, r1, r2, r3⟩ := qI.all; go_simp)⟩) ?_
                go_simp
                refine wpAnyX_take1 (i := 5) (v := undef) rfl (by kernel_rfl) (fun _ _ _ h => h) HS.out (Or.inr ⟨by rfl, rfl⟩) ?_
                go_simp
                refine wpAnyX_take1 (i := 6) (v := undef) rfl (by kernel_rfl) (fun _ _ _ h => h) HS.out (Or.inr ⟨by rfl, rfl⟩) ?_
                go_simp
                refine wpAnyX_take1 (i := 7) (v := undef) rfl (by kernel_rfl) (fun _ _ _ h => h) HS.out (Or.inr ⟨by rfl, rfl⟩) ?_
                go_simp
                refine wpAnyX_take1 (i := 8) (v := undef) rfl (by kernel_rfl) (fun _ _ _ h => h) HS.out (Or.inr ⟨by rfl, rfl⟩) ?_
                go_simp
                refine wpAnyX_take1 (i := 9) (v := undef) rfl (by kernel_rfl) (fun _ _ _ h => h) HS.out (Or.inr ⟨by rfl, rfl⟩) ?_
                go_simp
                refine wpAnyX_take1 (i := 10) (v := undef) rfl (by kernel_rfl) (fun _ _ _ h => h) HS.out (Or.inr ⟨by rfl, rfl⟩) ?_
                go_simp
                refine wpAnyX_take1 (i := 11) (v := .bool true) rfl (by kernel_rfl) (fun _ _ _ h => h) HS.out (Or.inl ⟨by rfl, fun w hS => by (obtain ⟨q0, qI⟩ := hS; obtain ⟨r0, r1, r2, r3⟩ := qI.all; go_simp)⟩) ?_
                go_simp
                refine wpAnyX_done (by kernel_rfl) ?_
                clear HS
                go_wp2_with (refine at_store 45 (.tmp 2) (.tmp 72) rfl ?_; refine wpList_store_box rfl 45 (.tmp 2) (.tmp 72) rfl w.heap.size 0 (.agg #[.int .i64 0, .int .i64 0, .int .i64 0, .slice none 0 0]) #[.int .i64 0, .int .i64 0, .int .i64 0, .slice none 0 0] rfl rfl rfl [.int .i64 0, .int .i64 0, .int .i64 0, .slice none 0 0] [.int .i64 0, .int .i64 0, .int .i64 0, .slice none 0 0] _ HR5.out (Nat.le_of_ble_eq_true rfl) rfl (by kernel_rfl) rfl ?_; intro W9 hb9 hP9; have HR9 := Lib.hid hb9; have HP9 := Lib.hid hP9; clear hb9 hP9)
                exact ret2 (k := 2) (j := 3) (g := w.heap.size) (T := 45) (cs := #[.int .i64 0, .int .i64 0, .int .i64 0, .slice none 0 0]) Tryz.results52 rfl HR9.out Tryz.underlying45 (by kernel_rfl) rfl (ic_none HNO.out (Below.but HB5.out HP9.out (Nat.le_refl _)))
          · have hna : ((n1 : Int) != 2) = true := by rw [bne_iff_ne]; omega
            have HNO := Lib.hid (ich_no3 (l := l) (by rw [HLST.out, HN1.out]; exact hn2))
            clear hn2
            go_wp2_with (refine at_store 45 (.tmp 2) (.tmp 38) rfl ?_; refine wpList_store_box rfl 45 (.tmp 2) (.tmp 38) rfl w.heap.size 0 (.agg #[.int .i64 0, .int .i64 0, .int .i64 0, .slice none 0 0]) #[.int .i64 0, .int .i64 0, .int .i64 0, .slice none 0 0] rfl rfl rfl [.int .i64 0, .int .i64 0, .int .i64 0, .slice none 0 0] [.int .i64 0, .int .i64 0, .int .i64 0, .slice none 0 0] _ HR2.out (Nat.le_of_ble_eq_true rfl) rfl (by kernel_rfl) rfl ?_; intro W9 hb9 hP9; have HR9 := Lib.hid hb9; have HP9 := Lib.hid hP9; clear hb9 hP9)
            exact ret2 (k := 2) (j := 3) (g := w.heap.size) (T := 45) (cs := #[.int .i64 0, .int .i64 0, .int .i64 0, .slice none 0 0]) Tryz.results52 rfl HR9.out Tryz.underlying45 (by kernel_rfl) rfl (ic_none HNO.out (Below.but HB2.out HP9.out (Nat.le_refl _)))
        · have htb : (t1 == [85, 78, 90]) = false := by simpa [tUNZ] using ht1
          have hta : (t1 != [85, 78, 90]) = true := by simp [bne, htb]
          have HNO := Lib.hid (ich_no2 (l := l) (by rw [HLST.out, HT1.out]; exact ht1))
          clear ht1
          go_wp2_with (refine at_store 45 (.tmp 2) (.tmp 38) rfl ?_; refine wpList_store_box rfl 45 (.tmp 2) (.tmp 38) rfl w.heap.size 0 (.agg #[.int .i64 0, .int .i64 0, .int .i64 0, .slice none 0 0]) #[.int .i64 0, .int .i64 0, .int .i64 0, .slice none 0 0] rfl rfl rfl [.int .i64 0, .int .i64 0, .int .i64 0, .slice none 0 0] [.int .i64 0, .int .i64 0, .int .i64 0, .slice none 0 0] _ HR2.out (Nat.le_of_ble_eq_true rfl) rfl (by kernel_rfl) rfl ?_; intro W9 hb9 hP9; have HR9 := Lib.hid hb9; have HP9 := Lib.hid hP9; clear hb9 hP9)
          exact ret2 (k := 2) (j := 3) (g := w.heap.size) (T := 45) (cs := #[.int .i64 0, .int .i64 0, .int .i64 0, .slice none 0 0]) Tryz.results52 rfl HR9.out Tryz.underlying45 (by kernel_rfl) rfl (ic_none HNO.out (Below.but HB2.out HP9.out (Nat.le_refl _)))
      · have h3a : ((n0 : Int) != 3) = true := by rw [bne_iff_ne]; omega
        have HNO := Lib.hid (ich_no1 (l := l) (by rw [HHDS.out, HN0.out]; exact h3))
        clear h3
        go_wp2_with (refine at_store 45 (.tmp 2) (.tmp 38) rfl ?_; refine wpList_store_box rfl 45 (.tmp 2) (.tmp 38) rfl w.heap.size 0 (.agg #[.int .i64 0, .int .i64 0, .int .i64 0, .slice none 0 0]) #[.int .i64 0, .int .i64 0, .int .i64 0, .slice none 0 0] rfl rfl rfl [.int .i64 0, .int .i64 0, .int .i64 0, .slice none 0 0] [.int .i64 0, .int .i64 0, .int .i64 0, .slice none 0 0] _ HR2.out (Nat.le_of_ble_eq_true rfl) rfl (by kernel_rfl) rfl ?_; intro W9 hb9 hP9; have HR9 := Lib.hid hb9; have HP9 := Lib.hid hP9; clear hb9 hP9)
        exact ret2 (k := 2) (j := 3) (g := w.heap.size) (T := 45) (cs := #[.int .i64 0, .int .i64 0, .int .i64 0, .slice none 0 0]) Tryz.results52 rfl HR9.out Tryz.underlying45 (by kernel_rfl) rfl (ic_none HNO.out (Below.but HB2.out HP9.out (Nat.le_refl _)))
  · have HNO := Lib.hid (ich_no0 h2)
    have h2d : decide ((l.length : Int) < 2) = true := by simp; omega
    generalize l.length = n at *
    clear h2
    go_enter Tryz.func52, Tryz.ntmps52
    go_wp2_with (refine at_store 45 (.tmp 2) (.tmp 13) rfl ?_; refine wpList_store_box rfl 45 (.tmp 2) (.tmp 13) rfl w.heap.size 0 (.agg #[.int .i64 0, .int .i64 0, .int .i64 0, .slice none 0 0]) #[.int .i64 0, .int .i64 0, .int .i64 0, .slice none 0 0] rfl rfl rfl [.int .i64 0, .int .i64 0, .int .i64 0, .slice none 0 0] [.int .i64 0, .int .i64 0, .int .i64 0, .slice none 0 0] _ HRES.out (Nat.le_of_ble_eq_true rfl) rfl (by kernel_rfl) rfl ?_; intro W9 hb9 hP9; have HR9 := Lib.hid hb9; have HP9 := Lib.hid hP9; clear hb9 hP9)
    exact ret2 (k := 2) (j := 3) (g := w.heap.size) (T := 45) (cs := #[.int .i64 0, .int .i64 0, .int .i64 0, .slice none 0 0]) Tryz.results52 rfl HR9.out Tryz.underlying45 (by kernel_rfl) rfl (ic_none HNO.out (Below.but HQ0.out HP9.out (Nat.le_refl _)))
end Go.Proofs.YtmjlnckmhdgoiaaGreatDoor
