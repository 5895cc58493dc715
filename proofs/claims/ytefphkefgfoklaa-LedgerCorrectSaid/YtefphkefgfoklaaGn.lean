/- The contract of read: a ledger is built entry by entry. -/
import Derived.Test.YtefphkefgfoklaaGm
namespace Go.Proofs.Ytefphkefgfoklaa
open Go.RowKit
set_option linter.unusedVariables false

/-- the cells of element k of a slice of entries -/
theorem Rd.en {w : World} {A : Option Addr} {l : List En} (h : Rd w A (ensCs l)) {k : Nat} {x : En} (hx : l[k]? = some x) : ∃ b off, A = some ⟨b, off, none⟩ ∧ w.cell? ⟨b, off + k * 6, none⟩ = some (.int .i64 x.num) ∧ w.cell? ⟨b, off + k * 6 + 1, none⟩ = some (.int .i64 x.day) ∧
    w.cell? ⟨b, off + k * 6 + 2, none⟩ = some (.int .i64 x.kind) ∧ w.cell? ⟨b, off + k * 6 + 3, none⟩ = some (.int .i64 x.lot) ∧ w.cell? ⟨b, off + k * 6 + 4, none⟩ = some (.int .i64 x.amt) ∧ w.cell? ⟨b, off + k * 6 + 5, none⟩ = some (.int .i64 x.cause) := by
  cases l with
  | nil => simp at hx
  | cons y r =>
    obtain ⟨b, off, hA, hc⟩ := Rd.lit (x := .int .i64 y.num) (xs := [.int .i64 y.day, .int .i64 y.kind, .int .i64 y.lot, .int .i64 y.amt, .int .i64 y.cause] ++ ensCs r) h
    have hc' : ∀ j u, (ensCs (y :: r))[j]? = some u → w.cell? ⟨b, off + j, none⟩ = some u := hc
    have key : ∀ j u, j < 6 → (enCs x)[j]? = some u → w.cell? ⟨b, off + k * 6 + j, none⟩ = some u := fun j u hj hu => by
      rw [Nat.add_assoc]
      exact hc' _ _ ((ensCs_get hx hj).trans hu)
    exact ⟨b, off, hA, key 0 _ (by omega) rfl, key 1 _ (by omega) rfl, key 2 _ (by omega) rfl, key 3 _ (by omega) rfl, key 4 _ (by omega) rfl, key 5 _ (by omega) rfl⟩
def ReadRet (B : Nat) (l : List En) (w : World) (e : Ending) (w' : World) : Prop := ∃ pa, e = .returned (.tuple #[.pointer (some ⟨pa, 0, none⟩), .int .i64 (ledF l)]) ∧ Below B w w' ∧ (ledF l = 0 → Acc w' B pa l)
def ReadRel (w : World) (A : Option Addr) (l : List En) (pa : Nat) (m : Nat) (i : Value) (wr : World) : Prop :=
  ∃ k : Nat, k + m = l.length ∧ i = .int .i64 (k : Int) ∧ ledF (l.take k) = 0 ∧ Acc wr w.heap.size pa (l.take k) ∧ Below w.heap.size w wr
theorem acc_start (w : World) : Acc ((((w.alloc (.cells colCs.toArray 83)).alloc (.map #[] 0)).alloc (.map #[] 0)).alloc (.cells #[.slice (some ⟨w.heap.size, 0, none⟩) 4 4, .slice none 0 0, .map (some (w.heap.size + 1)), .map (some (w.heap.size + 1 + 1))] 63)) w.heap.size (w.heap.size + 1 + 1 + 1) [] := by
  have e1 : balM [] = fun _ => none := by funext y; rfl
  have e2 : revM [] = fun _ => none := by funext y; rfl
  have h1 := MapIs.made Try.prog 3 (w.alloc (.cells colCs.toArray 83))
  have h2 := MapIs.made Try.prog 3 ((w.alloc (.cells colCs.toArray 83)).alloc (.map #[] 0))
  simp only [World.size_alloc] at h1 h2
  refine ⟨w.heap.size, w.heap.size + 1, w.heap.size + 1 + 1, 0, 0, _, ⟨⟨?_, ?_, World.ownsRow_nil _ _ _ _, ?_, ?_, ?_, ?_⟩, by simp⟩⟩
  · have := heap_alloc_new (((w.alloc (.cells colCs.toArray 83)).alloc (.map #[] 0)).alloc (.map #[] 0)) (.cells #[.slice (some ⟨w.heap.size, 0, none⟩) 4 4, .slice none 0 0, .map (some (w.heap.size + 1)), .map (some (w.heap.size + 1 + 1))] 63)
    simpa using this
  · rw [Below.heap_alloc _ _ _ (by simp; omega), Below.heap_alloc _ _ _ (by simp; omega), Below.heap_alloc _ _ _ (by simp)]
    exact heap_alloc_new _ _
  · rw [e1]; exact (h1.alloc _).alloc _
  · rw [e2]; exact h2.alloc _
  · omega
  · refine ⟨by omega, by omega, by simp [Value.ownBlock], by simp [Value.ownBlock], by simp [Value.ownBlock], by simp [Value.ownBlock], by omega, by omega, by omega, by omega⟩
set_option maxHeartbeats 1000000 in
theorem read_any (A : Option Addr) (c : Nat) (l : List En) (w : World) (h : Rd w A (ensCs l)) (hl : l.length ≤ 1000000000) :
    Calls Try.prog 29 #[.slice A l.length c] w (ReadRet w.heap.size l w) := by
  have hmm := @run_makeMap Try.prog
  have HC := Lib.hid (columns_any w)
  have HS := Lib.hid (acc_start w)
  have q0 := ((((Below.refl w.heap.size w).alloc (Nat.le_refl _) (.cells colCs.toArray 83)).alloc (by simp) (.map #[] 0)).alloc (by simp; omega) (.map #[] 0)).alloc (by simp; omega) (.cells #[.slice (some ⟨w.heap.size, 0, none⟩) 4 4, .slice none 0 0, .map (some (w.heap.size + 1)), .map (some (w.heap.size + 1 + 1))] 63)
  have HQ := Lib.hid q0
  clear q0
  have HR := Lib.hid h
  clear h
  go_enter Try.func29, Try.ntmps29
  go_wp2_with (go_at_call 41; refine HC.out.mono ?_; rintro e w' ⟨rfl, rfl⟩)
  generalize (((w.alloc (Obj.cells colCs.toArray 83)).alloc (Obj.map #[] 0)).alloc (Obj.map #[] 0)).alloc (.cells #[.slice (some ⟨w.heap.size, 0, none⟩) 4 4, .slice none 0 0, .map (some (w.heap.size + 1)), .map (some (w.heap.size + 1 + 1))] 63) = w0 at HS HQ ⊢
  generalize w.heap.size + 1 + 1 + 1 = pa at *
  go_loopg [15] l.length (fun g i wr => ReadRel w A l pa g i wr)
  case atStart => exact ⟨0, by omega, rfl, rfl, HS.out, HQ.out⟩
  case round =>
    obtain ⟨k, hk, rfl, hv, hacc, hb⟩ := hrel
    have HK := Lib.hid hk
    have hk2 : k ≤ l.length := by omega
    have hBr := hb.size
    have HB := Lib.hid hb
    have HACC := Lib.hid hacc
    clear hk hb hacc HS HQ HC hmm
    by_cases hlt : k < l.length
    · have hx : l[k]? = some (l[k]?.getD default) := by rw [List.getElem?_eq_getElem hlt]; rfl
      have H1 := Lib.hid (ledF_at hlt hv)
      have H2 := Lib.hid (ledF_step hlt hv)
      have H3 := Lib.hid (take_snoc hlt)
      have HV := Lib.hid hv
      obtain ⟨b, off, rfl, e0, e1, e2, e3, e4, e5⟩ := (HR.out.below HB.out).en hx
      have hbl := block_lt_of_cell e0
      generalize l[k]?.getD default = x at *
      have HADD := Lib.hid (fun W ha hB => add_any w.heap.size pa (l.take k) x W ha hB HV.out)
      clear hx hv
      generalize hm : mayF (l.take k) x = m at H1 H2
      have HM := Lib.hid hm
      clear hm
      have q1 : Below w.heap.size wr (wr.alloc (.cells #[.int .i64 x.num, .int .i64 x.day, .int .i64 x.kind, .int .i64 x.lot, .int .i64 x.amt, .int .i64 x.cause] 26)) := (Below.refl _ _).alloc hBr _
      have Q1 := Lib.hid q1
      clear q1
      unfold enV at HADD
      by_cases hm0 : m = 0
      · have H4 := Lib.hid (H2.out hm0)
        clear H1 H2
        subst hm0
        go_wp2_with (go_at_call 30; refine (HADD.out _ (HACC.out.below ((Below.refl _ _).alloc (Nat.le_refl _) _)) (by simp; omega)).mono ?_; rintro e w2 ⟨he, hb2, hacc2⟩; rw [HM.out] at he; have HA2 := Lib.hid (hacc2 HM.out); clear hacc2; have HB2 := Lib.hid hb2; clear hb2; subst he)
        go_roundg (l.length - (k + 1))
        case measure => have := HK.out; omega
        case rel => exact ⟨k + 1, by omega, by go_num, H4.out, by rw [H3.out]; exact HA2.out, (HB.out.trans Q1.out).trans HB2.out⟩
      · have hm1 : (m == 0) = false := by simpa using hm0
        have HM0 := Lib.hid hm0
        clear hm0
        go_wp2_with (go_at_call 30; refine (HADD.out _ (HACC.out.below ((Below.refl _ _).alloc (Nat.le_refl _) _)) (by simp; omega)).mono ?_; rintro e w2 ⟨he, hb2, hacc2⟩; rw [HM.out] at he; clear hacc2; have HB2 := Lib.hid hb2; clear hb2; subst he)
        go_ret2
        have hl := H1.out HM0.out
        exact ⟨pa, by rw [hl]; rfl, (HB.out.trans Q1.out).trans HB2.out, fun h0 => absurd (hl.symm.trans h0) HM0.out⟩
    · have hge : l.length ≤ k := by omega
      have ht : l.take k = l := List.take_of_length_le hge
      rw [ht] at hv
      have HV := Lib.hid hv
      have HT := Lib.hid ht
      clear hv ht hlt
      go_wp2
      go_ret2
      exact ⟨pa, by rw [HV.out]; rfl, HB.out, fun _ => by rw [← HT.out]; exact HACC.out⟩
end Go.Proofs.Ytefphkefgfoklaa
