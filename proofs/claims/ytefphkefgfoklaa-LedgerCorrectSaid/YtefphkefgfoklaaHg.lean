/- The contract of slices.Clone at entries; what the goals of a correction are. -/
import Derived.Test.YtefphkefgfoklaaHd
import Derived.Test.YtefphkefgfoklaaGw
namespace Go.Proofs.Ytefphkefgfoklaa
open Go.RowKit
set_option linter.unusedVariables false

def CloneRet (l : List En) (w : World) (e : Ending) (w' : World) : Prop := ∃ v, e = .returned v ∧ OwnX w' w.heap.size 26 6 v l.length (ensCs l) ∧ Below w.heap.size w w'
set_option maxRecDepth 100000 in
set_option maxHeartbeats 1000000 in
theorem clone_any (A : Option Addr) (c : Nat) (l : List En) (w : World) (h : SlE w A l) :
    Calls Try.prog 32 #[.slice A l.length c] w (CloneRet l w) := by
  cases A with
  | none =>
    have hl : l = [] := by
      cases l with
      | nil => rfl
      | cons x r => obtain ⟨ad, h1, _⟩ := h.rd 0 _ rfl; cases h1
    subst hl
    clear h
    have hnil := fun (W : World) => Lib.run_eql_slice_nil (P := Try.prog) W 23 26 none 0 c 0 0 Try.underlying23
    go_enter Try.func32, Try.ntmps32
    go_wp2
    go_ret
    exact ⟨_, rfl, OwnX.nil_ _ _ _ _, Below.refl _ _⟩
  | some ad =>
    have HL := Lib.hid (OwnX.lit0 w w.heap.size 26 6 (Nat.le_refl _))
    have q0 := (Below.refl w.heap.size w).alloc (Nat.le_refl _) (.cells #[] 26)
    have HR := Lib.hid (h.rd.below q0)
    have Q0 := Lib.hid q0
    have hll := h.len
    obtain ⟨i0, hi0, hz0, hz1, hz2⟩ := info_parts entInfo
    clear h q0
    generalize hnn : l.length = n at *
    have hnil := fun (W : World) => Lib.run_eql_slice_nil (P := Try.prog) W 23 26 (some ad) n c 0 0 Try.underlying23
    have HNN := Lib.hid hnn
    clear hnn
    go_enter Try.func32, Try.ntmps32
    go_wp2_with (at_builtin; refine wpList_append_x (w.alloc (.cells #[] 26)) rfl (.tmp 5) (.tmp 6) 23 rfl w.heap.size 26 i0 _ 6 48 Try.underlying23 hi0 hz0 hz1 hz2 rfl (by omega) _ 0 [] rfl HL.out (some ad) n c (ensCs l) rfl (by rw [ensCs_len, HNN.out]) HR.out (ensCs_one l) (by unfold maxLen; omega) (by omega) (by simp) ?_; intro v2 w3 hown hgr _)
    go_ret
    refine ⟨v2, rfl, ?_, Q0.out.trans ((Below.refl _ _).grown hgr (by simp) (fun k e => (HL.out.block_lt e).1))⟩
    rw [HNN.out]
    simpa using hown
/-- the goals, as the map holds them: behind the lots of the balances that have come, and behind the first targets -/
def gM (l : List En) (done : Int → Bool) (y : Int) : Option Value := if hasLot l y = true ∧ done y = true then some (baV y .zero) else none
def gT (M : Int → Option Value) (t : List Tg) : Int → Option Value := t.foldl (fun M g y => if y = g.lot then some (baV g.lot g.b) else M y) M
theorem gT_snoc (M : Int → Option Value) (t : List Tg) (g : Tg) : gT M (t ++ [g]) = fun y => if y = g.lot then some (baV g.lot g.b) else gT M t y := by simp [gT, List.foldl_append]
theorem gT_out (M : Int → Option Value) : ∀ (t : List Tg) (y : Int), (∀ g ∈ t, g.lot ≠ y) → gT M t y = M y := by
  intro t
  induction t generalizing M with
  | nil => intro y _; rfl
  | cons g r ih =>
    intro y h
    show gT _ r y = _
    rw [ih _ y (fun x hx => h x (by simp [hx]))]
    exact if_neg (fun e : y = g.lot => h g (by simp) e.symm)
/-- lots that differ -/
def Uniq : List Tg → Prop
  | [] => True
  | g :: r => (∀ x ∈ r, x.lot ≠ g.lot) ∧ Uniq r
theorem uniq_of_asc {t : List Tg} (h : ∀ i j, i < j → j < t.length → (t[i]?.getD default).lot < (t[j]?.getD default).lot) : Uniq t := by
  induction t with
  | nil => trivial
  | cons g r ih =>
    refine ⟨fun x hx => ?_, ih fun i j hij hj => by have := h (i + 1) (j + 1) (by omega) (by simp; omega); simpa using this⟩
    obtain ⟨k, hk, rfl⟩ := List.mem_iff_getElem.1 hx
    have := h 0 (k + 1) (by omega) (by simp; omega)
    simp only [List.getElem?_cons_zero, Option.getD_some, List.getElem?_cons_succ, List.getElem?_eq_getElem hk] at this
    omega
theorem gT_in (M : Int → Option Value) : ∀ (t : List Tg) (y : Int), Uniq t → (∃ g ∈ t, g.lot = y) → gT M t y = some (baV y (tgtF t y)) := by
  intro t
  induction t generalizing M with
  | nil => intro y _ ⟨g, hg, _⟩; cases hg
  | cons g r ih =>
    intro y hu ⟨x, hx, hy⟩
    show gT (fun y => if y = g.lot then some (baV g.lot g.b) else M y) r y = _
    by_cases hg : g.lot = y
    · rw [gT_out _ r y (fun z hz e => hu.1 z hz (by rw [e, hg])), if_pos hg.symm]
      unfold tgtF
      rw [if_pos hg, hg]
    · have hx2 : x ∈ r := by
        rcases List.mem_cons.1 hx with e | h
        · subst e; exact absurd hy hg
        · exact h
      rw [ih _ y hu.2 ⟨x, hx2, hy⟩]
      have : tgtF (g :: r) y = tgtF r y := by show (if g.lot = y then g.b else tgtF r y) = _; rw [if_neg hg]
      rw [this]
theorem tgtF_out : ∀ (t : List Tg) (y : Int), (∀ g ∈ t, g.lot ≠ y) → tgtF t y = .zero
  | [], _, _ => rfl
  | g :: r, y, h => by
    unfold tgtF
    rw [if_neg (h g (by simp)), tgtF_out r y (fun x hx => h x (by simp [hx]))]
/-- the goals, whole -/
def goalM (l : List En) (t : List Tg) : Int → Option Value := gT (gM l (fun _ => true)) t
theorem goalM_at {l : List En} {t : List Tg} (hu : Uniq t) (y : Int) : goalM l t y = if y ∈ lotsF l t then some (baV y (tgtF t y)) else none := by
  unfold goalM
  by_cases ht : ∃ g ∈ t, g.lot = y
  · rw [gT_in _ t y hu ht, if_pos ((lots_mem l t y).2 (.inr ht))]
  · have hn : ∀ g ∈ t, g.lot ≠ y := fun g hg e => ht ⟨g, hg, e⟩
    rw [gT_out _ t y hn, tgtF_out t y hn]
    unfold gM
    have he : hasLot l y = true ↔ ∃ e ∈ l, e.lot = y := by unfold hasLot; simp
    by_cases hh : hasLot l y = true
    · rw [if_pos ⟨hh, rfl⟩, if_pos ((lots_mem l t y).2 (.inl (he.1 hh)))]
    · rw [if_neg (fun h => hh h.1), if_neg (fun h => by
        rcases (lots_mem l t y).1 h with h | h
        · exact hh (he.2 h)
        · exact ht h)]
end Go.Proofs.Ytefphkefgfoklaa
