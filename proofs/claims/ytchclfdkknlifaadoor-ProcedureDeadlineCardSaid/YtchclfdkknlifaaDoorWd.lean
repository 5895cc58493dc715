/- Contract of slices.Clone at []int. -/
import Derived.Test.YtchclfdkknlifaaDoorWb
import Derived.Test.YtchclfdkknlifaaDoorMem
import Derived.Test.YtchclfdkknlifaaDoorFrame
import Derived.Test.YtchclfdkknlifaaDoorMap
import Derived.Lib.Hide
namespace Go.Proofs.YtchclfdkknlifaaDoor
open Go.RowKit

theorem intInfo : (Tryd.prog.info? 3).map (fun i => (i.zero, i.size, i.bytes)) = some (some (.int .i64 0), 1, 8) := by kernel_rfl
/-- v is nil or a slice of ints of the call's own that holds xs -/
def OwnI (w : World) (base : Nat) (v : Value) (xs : List Int) : Prop := OwnX w base 3 1 v xs.length (ints xs)
theorem OwnI.nil_ (w : World) (base : Nat) : OwnI w base (.slice none 0 0) [] := OwnX.nil_ _ _ _ _
theorem OwnI.new (w : World) (xs : List Int) (h : xs.length ≤ 1000000000) (arr : Array Value) (harr : arr.toList = ints xs) (n : Nat) (hn : n = xs.length) : OwnI (w.alloc (.cells arr 3)) w.heap.size (.slice (some ⟨w.heap.size, 0, none⟩) n n) xs := by
  subst hn
  have hs : arr.size = xs.length := by rw [← Array.length_toList, harr, ints_len]
  refine ⟨by simp [ints], .inr ⟨w.heap.size, 0, xs.length, arr, rfl, Nat.le_refl _, heap_alloc_new w _, Nat.le_refl _, by unfold maxLen; omega, by omega, fun j u hu => ?_⟩⟩
  rw [← harr] at hu
  simpa using hu
theorem OwnI.below {w w' : World} {base : Nat} {v : Value} {xs : List Int} (h : OwnI w base v xs) (hb : Below w.heap.size w w') : OwnI w' base v xs := OwnX.below h hb
theorem OwnI.shape {w : World} {base : Nat} {v : Value} {xs : List Int} (h : OwnI w base v xs) : ∃ A cap, v = .slice A xs.length cap ∧ Rd w A (ints xs) ∧ xs.length ≤ cap ∧ cap ≤ maxLen := OwnX.shape h
theorem Rd.one (w : World) (x : Value) (t : TypeId) : Rd (w.alloc (.cells #[x] t)) (some ⟨w.heap.size, 0, none⟩) [x] := fun j u hu => ⟨_, rfl, cell_one_new w x t j u hu⟩

theorem wpList_append_int (w : World) {ops : Array Oper} {rest : List Oper} {o : Oper} {a : Act} {Q : Exit → Act → World → Prop} (hgd : o.guard = none) (s x : Operand)
    (ho : o.op = .call { callee := .builtin .append, args := #[s, x], argTypes := #[29, 29] })
    (base : Nat) (v : Value) (xs : List Int) (hs : a.eval s = v) (hown : OwnI w base v xs)
    (A : Option Addr) (m c : Nat) (news : List Int) (hx : a.eval x = .slice A m c) (hm : news.length = m) (hr : Rd w A (ints news))
    (hb : xs.length + news.length ≤ 1000000000) (hbase : base ≤ w.heap.size)
    (h : ∀ v' w', OwnI w' base v' (xs ++ news) → w.grownBy w' v.ownBlock → (v'.ownBlock = v.ownBlock ∨ ∃ g, v'.ownBlock = some g ∧ w.heap.size ≤ g) → wpList Tryd.prog ops Q rest (a.put o.dst v') w') : wpList Tryd.prog ops Q (o :: rest) a w := by
  obtain ⟨i0, hi0, hz0, hz1, hz2⟩ := info_parts intInfo
  refine wpList_append_x w hgd s x 29 ho base 3 i0 _ 1 8 Tryd.underlying29 hi0 hz0 hz1 hz2 rfl (by omega) v xs.length (ints xs) hs hown A m c (ints news) hx (by rw [ints_len, hm, Nat.mul_one]) hr (ints_one _) (by unfold maxLen; omega) (by omega) hbase ?_
  intro v' w' h1 h2 h3
  refine h v' w' ?_ h2 h3
  subst hm
  unfold OwnI
  rw [List.length_append]
  simpa [ints] using h1

set_option maxHeartbeats 400000 in
theorem clone_any (A : Option Addr) (l : List Int) (c : Nat) (w : World) (hr : Rd w A (ints l)) (hl : l.length ≤ 1000000) (hA : A = none → c = 0) :
    Calls Tryd.prog 26 #[.slice A l.length c] w fun e w' => ∃ v, e = .returned v ∧ OwnI w' w.heap.size v l ∧ Below w.heap.size w w' := by
  rcases A with _ | ad
  · have h0 : l = [] := by
      cases l with
      | nil => rfl
      | cons x l => obtain ⟨ad, h, _⟩ := hr.at (j := 0) (by simp [ints]); cases h
    subst h0
    obtain rfl := hA rfl
    have he := fun w => Lib.run_eql_slice_nil (P := Tryd.prog) w 29 3 none 0 0 0 0 Tryd.underlying29
    go_enter Tryd.func26, Tryd.ntmps26
    go_wp2
    go_ret
    exact ⟨_, rfl, OwnX.nil_ _ _ _ _, Below.refl _ _⟩
  · have he := fun w => Lib.run_eql_slice_nil (P := Tryd.prog) w 29 3 (some ad) l.length c 0 0 Tryd.underlying29
    have ho := OwnI.new w [] (by simp) #[] rfl 0 rfl
    have hb := (Below.refl w.heap.size w).alloc (Nat.le_refl _) (.cells #[] 3)
    have hr1 := hr.below hb
    go_enter Tryd.func26, Tryd.ntmps26
    go_wp2_with (at_builtin; refine wpList_append_int _ rfl _ _ rfl w.heap.size (.slice (some ⟨w.heap.size, 0, none⟩) 0 0) [] rfl ho (some ad) l.length c l rfl rfl hr1 (by simp; omega) (by simp) ?_; intro v' w' h1 h2 h3)
    go_ret
    exact ⟨_, rfl, h1, hb.grown h2 (by simp) (fun k hk => by simp [Value.ownBlock] at hk; omega)⟩
end Go.Proofs.YtchclfdkknlifaaDoor
