/- Contracts of Cut, Ascending and Holidays: some list of ints that the call owns. -/
import Derived.Test.YtchclfdkknlifaaDoorCi
import Derived.Test.YtchclfdkknlifaaDoorTail
import Derived.Deep.LoopGhost
import Derived.Deep.RegionHeld3
import Derived.Deep.OwnRows
namespace Go.Proofs.YtchclfdkknlifaaDoor.Cal
open Go.RowKit
set_option linter.unusedVariables false

theorem intInfo : (Tryd.prog.info? 3).map (fun i => (i.zero, i.size, i.bytes)) = some (some (.int .i64 0), 1, 8) := by kernel_rfl
theorem run_head (W : World) (A : Option Addr) (n c k : Nat) (hk : k ≤ c) :
    (Instr.slice 29 (.slice A n c) none (some (.int .i64 k)) none).run Tryd.prog W = .ok (.slice A k c) W := by
  rw [run_slice_h W 29 A n c (by kernel_rfl) .i64 (k : Int) (by omega) (by omega)]
  have hs : (sizeOf (Tryd.prog.elem 29)).run Tryd.prog W = .ok 1 W := by kernel_rfl
  rw [hs]
  have : A.map (fun x => x.add 0) = A := by cases A <;> simp [Addr.add]
  simp [sliced, Result.andThen, this]
theorem run_tail (W : World) (A : Option Addr) (n c k : Nat) (hk : k ≤ n) :
    (Instr.slice 29 (.slice A n c) (some (.int .i64 k)) none none).run Tryd.prog W = .ok (.slice (if c = k then A else A.map (·.add k)) (n - k) (c - k)) W := by
  have := run_cut (P := Tryd.prog) W 29 3 1 Tryd.underlying29 (by kernel_rfl) (by kernel_rfl) A n c k hk
  rwa [Nat.mul_one] at this

set_option maxHeartbeats 400000 in
theorem cut_any (A : Option Addr) (c : Nat) (l : List Int) (n : Nat) (w : World) (hn : n ≤ 1000000) (hl : l.length ≤ c) (hc : c ≤ 17592186044416) :
    Calls Tryd.prog 28 #[.slice A l.length c, .int .i64 n] w fun e w' => e = .returned (.slice A (l.take n).length c) ∧ w = w' := by
  by_cases h : n < l.length
  · have hr := fun W => run_head W A l.length c n (by omega)
    have e : Hid ((l.take n).length = n) := by show _ = _; rw [List.length_take]; omega
    go_enter Tryd.func28, Tryd.ntmps28
    go_wp2
    go_ret
    exact ⟨by rw [e.out]; rfl, rfl⟩
  · have h2 : l.length ≤ n := by omega
    have e : Hid (l.take n = l) := List.take_of_length_le h2
    clear h
    go_enter Tryd.func28, Tryd.ntmps28
    go_wp2
    go_ret
    exact ⟨by rw [e.out]; rfl, rfl⟩

/-- v holds n ints: it has neither length nor room, or it lies in a row of the call's own -/
def Nums (w : World) (B : Nat) (v : Value) (n : Nat) : Prop := (∃ A, v = .slice A 0 0 ∧ n = 0) ∨ ∃ xs : List Int, xs.length = n ∧ OwnX w B 3 1 v n (ints xs)
theorem Nums.below {w w' : World} {B : Nat} {v : Value} {n : Nat} (h : Nums w B v n) (hb : Below w.heap.size w w') : Nums w' B v n := by
  rcases h with h | ⟨xs, h1, h2⟩
  · exact .inl h
  · exact .inr ⟨xs, h1, h2.below hb⟩
theorem Nums.mono {w : World} {B B' : Nat} {v : Value} {n : Nat} (h : Nums w B v n) (hb : B' ≤ B) : Nums w B' v n := by
  rcases h with h | ⟨xs, h1, h2⟩
  · exact .inl h
  · exact .inr ⟨xs, h1, h2.mono hb⟩
theorem Nums.shape {w : World} {B : Nat} {v : Value} {n : Nat} (h : Nums w B v n) : ∃ A c, ∃ xs : List Int, xs.length = n ∧ v = .slice A n c ∧ Rd w A (ints xs) ∧ n ≤ c ∧ c ≤ maxLen := by
  rcases h with ⟨A, rfl, rfl⟩ | ⟨xs, h1, h2⟩
  · exact ⟨A, 0, [], rfl, rfl, Rd.nil _ _, Nat.le_refl _, Nat.zero_le _⟩
  · obtain ⟨A, c, hv, hr, h3, h4⟩ := h2.shape
    exact ⟨A, c, xs, h1, hv, hr, h3, h4⟩

/-- append at a step of a region that draws -/
theorem step_nums {ops : Array Oper} {o : Oper} {a : Act} {w : World} {K : Act → World → Prop} {Q : Exit → Act → World → Prop} {E : Prop}
    (hg : o.guard = none) (s x : Operand) (hop : o.op = Op.call { callee := Callee.builtin Builtin.append, args := #[s, x], argTypes := #[29, 29] })
    (B : Nat) (v : Value) (n : Nat) (hs : a.eval s = v) (hv : Nums w B v n) (A : Option Addr) (m c : Nat) (hx : a.eval x = .slice A m c) (hr : ∃ news : List Int, news.length = m ∧ Rd w A (ints news))
    (hb : n + m ≤ 1000000000) (hB : B ≤ w.heap.size)
    (hK : ∀ v' w', Nums w' B v' (n + m) → Below B w w' → K (a.put o.dst v') w') :
    if Region.wanted o (yielded ops a.tmps) = true then Oper.wp Tryd.prog o a w K Q else E := by
  have hw : Region.wanted o (yielded ops a.tmps) = true := by simp [Region.wanted, hg]
  rw [if_pos hw]
  obtain ⟨i0, hi0, hz0, hz1, hz2⟩ := info_parts intInfo
  obtain ⟨news, hm, hr⟩ := hr
  rcases hv with ⟨A', rfl, rfl⟩ | ⟨xs, h1, h2⟩
  · rcases Nat.eq_zero_or_pos m with h0 | h0
    · subst h0
      have hrun : (Builtin.append_ #[29, 29] o.type #[.slice A' 0 0, .slice A 0 c]).run Tryd.prog w = .ok (.slice A' 0 0) w := by
        cases A' <;> cases A <;> simp [Builtin.append_, run_underlying Tryd.underlying29, sizeOf, typeInfo, hi0, Builtin.lenOf, Builtin.firstCells, storeCells, loadCells, loadCellsFrom]
      unfold Oper.wp
      simp [execOp, hop, resolve, invoke, builtin, hs, hx, hrun, Result.andThen]
      exact hK _ _ (.inl ⟨A', rfl, rfl⟩) (Below.refl _ _)
    · have : ∃ ad, A = some ad := by
        obtain ⟨ad, h, _⟩ := hr.at (j := 0) (by rw [ints_len]; omega)
        exact ⟨ad, h⟩
      obtain ⟨ad, rfl⟩ := this
      have hcells : ∀ j u, (ints news)[j]? = some u → w.cell? (ad.add j) = some u := fun j u hu => by
        obtain ⟨ad', h, hc⟩ := hr j u hu
        injection h with h
        subst h
        exact hc
      have hfin : ∃ v' w', (Builtin.append_ #[29, 29] o.type #[.slice A' 0 0, .slice (some ad) m c]).run Tryd.prog w = .ok v' w' ∧ w'.ownsRow w.heap.size 3 1 v' m (ints news) ∧ w.grownBy w' none := by
        cases A' with
        | some b =>
          obtain ⟨v', w', hrun, r1, r2⟩ := run_append_arg_grows (P := Tryd.prog) w 29 o.type 3 i0 _ 1 8 Tryd.underlying29 hi0 hz0 hz1 hz2 rfl (by omega) b 0 0 [] (by simp) (fun j u hu => by simp at hu) ad m c (ints news) (by rw [ints_len]; omega) hcells (by omega) (by unfold maxLen; omega) (by omega)
          exact ⟨v', w', hrun, by simpa using r1, r2⟩
        | none =>
          obtain ⟨v', w', hrun, r1, r2, _⟩ := run_append_own (P := Tryd.prog) w w.heap.size 29 o.type 3 i0 _ 1 8 Tryd.underlying29 hi0 hz0 hz1 hz2 rfl (by omega) (.slice none 0 0) 0 [] (World.ownsRow_nil w _ _ 1) ad m c (ints news) (by rw [ints_len]; omega) hcells (ints_one _) (by unfold maxLen; omega) (by omega) (Nat.le_refl _)
          exact ⟨v', w', hrun, by simpa using r1, r2⟩
      obtain ⟨v', w', hrun, r1, r2⟩ := hfin
      unfold Oper.wp
      simp [execOp, hop, resolve, invoke, builtin, hs, hx, hrun, Result.andThen]
      refine hK _ _ (.inr ⟨news, by omega, ?_⟩) (Below.of_grown r2 _ hB (fun g hg => by cases hg))
      rw [Nat.zero_add]
      exact (OwnX.of_row r1).mono hB
  · obtain ⟨v', w', hrun, r1, r2, r3⟩ := run_append_x (P := Tryd.prog) w B 29 o.type 3 i0 _ 1 8 Tryd.underlying29 hi0 hz0 hz1 hz2 rfl (by omega) v n (ints xs) h2 A m c (ints news) (by rw [ints_len]; omega) hr (ints_one _) (by unfold maxLen; omega) (by omega) hB
    unfold Oper.wp
    simp [execOp, hop, resolve, invoke, builtin, hs, hx, hrun, Result.andThen]
    refine hK _ _ (.inr ⟨xs ++ news, by simp; omega, ?_⟩) (Below.of_grown r2 _ hB (fun g hg => (OwnX.block_lt h2 hg).1))
    simpa [ints] using r1
end Go.Proofs.YtchclfdkknlifaaDoor.Cal
