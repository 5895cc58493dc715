/- Contracts of Validate, Append and BalanceOf of the program. -/
import Derived.Test.YtefphkefgfoklaaGn
import Derived.Deep.Onto
namespace Go.Proofs.Ytefphkefgfoklaa
open Go.RowKit
set_option linter.unusedVariables false

/-- a slice of entries that came in, or that was made -/
structure SlE (w : World) (A : Option Addr) (l : List En) : Prop where
  rd : Rd w A (ensCs l)
  len : l.length ≤ 1000000000
theorem SlE.below {w w' : World} {A : Option Addr} {l : List En} (h : SlE w A l) (hb : Below w.heap.size w w') : SlE w' A l := ⟨h.rd.below hb, h.len⟩
theorem SlE.of_own {w : World} {B : Nat} {v : Value} {l : List En} (h : w.ownsRow B 26 6 v l.length (ensCs l)) (hl : l.length ≤ 1000000000) : ∃ A c, v = .slice A l.length c ∧ SlE w A l := by
  obtain ⟨A, c, e, h1, _⟩ := (OwnX.of_row h).shape
  exact ⟨A, c, e, h1, hl⟩
set_option maxHeartbeats 1000000 in
theorem validate_any (A : Option Addr) (c : Nat) (l : List En) (w : World) (h : SlE w A l) :
    Calls Try.prog 21 #[.slice A l.length c] w fun e w' => e = .returned (.int .i64 (ledF l)) ∧ Below w.heap.size w w' := by
  have HR := Lib.hid (read_any A c l w h.rd h.len)
  clear h
  go_enter Try.func21, Try.ntmps21
  go_wp2_with (go_at_call 29; refine HR.out.mono ?_; rintro e w2 ⟨pa, rfl, hb2, hacc⟩; have HB2 := Lib.hid hb2; clear hb2 hacc)
  go_ret
  exact ⟨rfl, HB2.out⟩
def AppRet (l : List En) (x : En) (w : World) (e : Ending) (w' : World) : Prop :=
  ∃ v, e = .returned (.tuple #[v, .int .i64 (ledF (l ++ [x]))]) ∧ Below w.heap.size w w' ∧ (ledF (l ++ [x]) ≠ 0 → v = .slice none 0 0) ∧ (ledF (l ++ [x]) = 0 → w'.ownsRow w.heap.size 26 6 v (l ++ [x]).length (ensCs (l ++ [x])))
set_option maxHeartbeats 2000000 in
theorem append_any (A : Option Addr) (c : Nat) (l : List En) (x : En) (w : World) (h : SlE w A l) :
    Calls Try.prog 11 #[.slice A l.length c, enV x] w (AppRet l x w) := by
  have q0 := (Below.refl w.heap.size w).alloc (Nat.le_refl _) (.cells #[.int .i64 x.num, .int .i64 x.day, .int .i64 x.kind, .int .i64 x.lot, .int .i64 x.amt, .int .i64 x.cause] 26)
  have g0 := heap_alloc_new w (.cells #[.int .i64 x.num, .int .i64 x.day, .int .i64 x.kind, .int .i64 x.lot, .int .i64 x.amt, .int .i64 x.cause] 26)
  have X0 : BoxAt (w.alloc (.cells #[.int .i64 x.num, .int .i64 x.day, .int .i64 x.kind, .int .i64 x.lot, .int .i64 x.amt, .int .i64 x.cause] 26)) w.heap.size w.heap.size x := ⟨g0, Nat.le_refl _⟩
  have HR := read_any A c l _ (h.rd.below q0) h.len
  have hs := ledF_snoc l x
  unfold enV
  clear h
  by_cases hv : ledF l = 0
  · rw [if_pos hv] at hs
    have HS := Lib.hid hs
    have HV := Lib.hid hv
    have HR := Lib.hid HR
    have Q0 := Lib.hid q0
    have X0 := Lib.hid X0
    clear hs hv q0 g0
    by_cases hm : mayF l x = 0
    · have HM := Lib.hid hm
      clear hm
      go_enter Try.func11, Try.ntmps11
      go_wp2_with (first
        | (go_at_call 29; refine HR.out.mono ?_; rintro e w2 ⟨pa, he, hb2, hacc⟩; rw [HV.out] at he; have HA2 := Lib.hid (hacc HV.out); have HB2 := Lib.hid hb2; have X2 := Lib.hid (X0.out.below hb2); clear hb2 hacc; subst he; obtain ⟨x0, x1, x2, x3, x4, x5⟩ := X2.out.cell)
        | (go_at_call 30; refine (add_any _ pa l x w2 HA2.out HB2.out.size HV.out).mono ?_; rintro e w3 ⟨he, hb3, hacc⟩; rw [HM.out] at he; have HA3 := Lib.hid (hacc HM.out); have HB3 := Lib.hid hb3; clear hb3 hacc; subst he; obtain ⟨pc, b1, b2, n1, n2, v, hA⟩ := HA3.out; have c1 := hA.cell.2.1; have hpa := hA.lt.1; obtain ⟨Av, cv, rfl⟩ := own_len hA.ent; have HA := Lib.hid hA; clear hA))
      have HN := Lib.hid (ledF_snoc_ok.2 ⟨HV.out, HM.out⟩)
      go_ret2
      exact ⟨.slice Av (l ++ [x]).length cv, by rw [HN.out, List.length_append]; rfl, Q0.out.trans ((HB2.out.mono Q0.out.size).trans (HB3.out.mono Q0.out.size)), fun h0 => absurd HN.out h0, fun _ => (World.ownsRow.mono HA.out.ent Q0.out.size)⟩
    · generalize hmm : mayF l x = m at hm HS
      have HM := Lib.hid hmm
      have hm1 : (m == 0) = false := by simpa using hm
      have HM0 := Lib.hid hm
      clear hm hmm
      go_enter Try.func11, Try.ntmps11
      go_wp2_with (first
        | (go_at_call 29; refine HR.out.mono ?_; rintro e w2 ⟨pa, he, hb2, hacc⟩; rw [HV.out] at he; have HA2 := Lib.hid (hacc HV.out); have HB2 := Lib.hid hb2; have X2 := Lib.hid (X0.out.below hb2); clear hb2 hacc; subst he; obtain ⟨x0, x1, x2, x3, x4, x5⟩ := X2.out.cell)
        | (go_at_call 30; refine (add_any _ pa l x w2 HA2.out HB2.out.size HV.out).mono ?_; rintro e w3 ⟨he, hb3, hacc⟩; rw [HM.out] at he; have HB3 := Lib.hid hb3; clear hb3 hacc; subst he))
      go_ret2
      exact ⟨.slice none 0 0, by rw [HS.out]; rfl, Q0.out.trans ((HB2.out.mono Q0.out.size).trans (HB3.out.mono Q0.out.size)), fun _ => rfl, fun h0 => absurd (HS.out.symm.trans h0) HM0.out⟩
  · rw [if_neg hv] at hs
    generalize hmm : ledF l = m at hv hs
    have HS := Lib.hid hs
    have HM := Lib.hid hmm
    have HR := Lib.hid HR
    have Q0 := Lib.hid q0
    have hm1 : (m == 0) = false := by simpa using hv
    have HM0 := Lib.hid hv
    clear hs hv q0 g0 hmm
    go_enter Try.func11, Try.ntmps11
    go_wp2_with (go_at_call 29; refine HR.out.mono ?_; rintro e w2 ⟨pa, he, hb2, hacc⟩; rw [HM.out] at he; have HB2 := Lib.hid hb2; clear hb2 hacc; subst he)
    go_ret2
    exact ⟨.slice none 0 0, by rw [HS.out]; rfl, Q0.out.trans (HB2.out.mono Q0.out.size), fun _ => rfl, fun h0 => absurd (HS.out.symm.trans h0) HM0.out⟩
/-- the balance of a lot, as both BalanceOf give it -/
def bofF (l : List En) (lot : Int) : Ba := if ledF l = 0 then balF l lot else .zero
set_option maxHeartbeats 2000000 in
theorem balanceOf_any (A : Option Addr) (c : Nat) (l : List En) (lot : Int) (w : World) (h : SlE w A l) (h0 : -9223372036854775808 ≤ lot) (h1 : lot ≤ 9223372036854775807) :
    Calls Try.prog 14 #[.slice A l.length c, .int .i64 lot] w fun e w' => e = .returned (baV lot (bofF l lot)) ∧ Below w.heap.size w w' := by
  have q0 := (Below.refl w.heap.size w).alloc (Nat.le_refl _) (.cells #[.int .i64 0, .int .i64 0, .int .i64 0, .int .i64 0, .int .i64 0] 37)
  have HR := read_any A c l _ (h.rd.below q0) h.len
  have HWF := Lib.hid (And.intro h0 h1)
  clear h h0 h1
  unfold bofF
  by_cases hv : ledF l = 0
  · rw [if_pos hv]
    have HV := Lib.hid hv
    have HR := Lib.hid HR
    have Q0 := Lib.hid q0
    have HLB := fun (W : World) (b n : Nat) (h : MapIs Try.prog 3 W b n (balM l)) => look_bal h lot HWF.out.1 HWF.out.2
    unfold baV at HLB
    generalize (if hasLot l lot = true then lot else 0) = l0 at HLB
    generalize balF l lot = bl at HLB ⊢
    have HLB := Lib.hid HLB
    clear hv q0 HWF
    go_enter Try.func14, Try.ntmps14
    go_wp2_with (go_at_call 29; refine HR.out.mono ?_; rintro e w2 ⟨pa, he, hb2, hacc⟩; rw [HV.out] at he; obtain ⟨pc, b1, b2, n1, n2, v, hA⟩ := hacc HV.out; have c2 := hA.cell.2.2.1; have hpa := hA.lt.1; have hlk := HLB.out _ _ _ hA.bal; have g0 := hb2.block w.heap.size (by simp); rw [heap_alloc_new] at g0; have hgl := (Array.getElem?_eq_some_iff.1 g0).1; have y0 := cell_of_row _ _ 0 _ _ _ g0; have y1 := cell_of_row _ _ 1 _ _ _ g0; have y2 := cell_of_row _ _ 2 _ _ _ g0; have y3 := cell_of_row _ _ 3 _ _ _ g0; have y4 := cell_of_row _ _ 4 _ _ _ g0; have z0 := frozen_of_row _ _ 0 _ _ g0; have z1 := frozen_of_row _ _ 1 _ _ g0; have z2 := frozen_of_row _ _ 2 _ _ g0; have z3 := frozen_of_row _ _ 3 _ _ g0; have z4 := frozen_of_row _ _ 4 _ _ g0; simp only [List.getElem?_toArray, List.getElem?_cons_succ, List.getElem?_cons_zero] at y0 y1 y2 y3 y4; have G0 := Lib.hid g0; clear g0; have HB2 := Lib.hid hb2; clear hb2 hacc hA; subst he)
    have q2 : Below w.heap.size w w2 := Q0.out.trans (HB2.out.mono Q0.out.size)
    refine bodyPost_ret (v := baV lot bl) (by simp [results, baV, Try.results14, go_sem, hgl, y0, y1, y2, y3, y4]) rfl ⟨rfl, ?_⟩
    exact (((((q2.setCell (p := ⟨w.heap.size, 0, none⟩) (Nat.le_refl _) _).setCell (p := ⟨w.heap.size, 1, none⟩) (Nat.le_refl _) _).setCell (p := ⟨w.heap.size, 2, none⟩) (Nat.le_refl _) _).setCell (p := ⟨w.heap.size, 3, none⟩) (Nat.le_refl _) _).setCell (p := ⟨w.heap.size, 4, none⟩) (Nat.le_refl _) _).alloc (by simp; omega) _
  · rw [if_neg hv]
    have hm1 : (ledF l == 0) = false := by simpa using hv
    generalize hmm : ledF l = m at hm1
    have HM := Lib.hid hmm
    have HR := Lib.hid HR
    have Q0 := Lib.hid q0
    clear hv q0 HWF hmm
    go_enter Try.func14, Try.ntmps14
    go_wp2_with (go_at_call 29; refine HR.out.mono ?_; rintro e w2 ⟨pa, he, hb2, hacc⟩; rw [HM.out] at he; have g0 := hb2.block w.heap.size (by simp); rw [heap_alloc_new] at g0; have hgl := (Array.getElem?_eq_some_iff.1 g0).1; have y0 := cell_of_row _ _ 0 _ _ _ g0; have y1 := cell_of_row _ _ 1 _ _ _ g0; have y2 := cell_of_row _ _ 2 _ _ _ g0; have y3 := cell_of_row _ _ 3 _ _ _ g0; have y4 := cell_of_row _ _ 4 _ _ _ g0; have z0 := frozen_of_row _ _ 0 _ _ g0; have z1 := frozen_of_row _ _ 1 _ _ g0; have z2 := frozen_of_row _ _ 2 _ _ g0; have z3 := frozen_of_row _ _ 3 _ _ g0; have z4 := frozen_of_row _ _ 4 _ _ g0; simp only [List.getElem?_toArray, List.getElem?_cons_succ, List.getElem?_cons_zero] at y0 y1 y2 y3 y4; have G0 := Lib.hid g0; clear g0; have HB2 := Lib.hid hb2; clear hb2 hacc; subst he)
    have q2 : Below w.heap.size w w2 := Q0.out.trans (HB2.out.mono Q0.out.size)
    refine bodyPost_ret (v := baV lot .zero) (by simp [results, baV, Ba.zero, Try.results14, go_sem, y0, y1, y2, y3, y4]) rfl ⟨rfl, ?_⟩
    exact ((((q2.setCell (p := ⟨w.heap.size, 0, none⟩) (Nat.le_refl _) _).setCell (p := ⟨w.heap.size, 1, none⟩) (Nat.le_refl _) _).setCell (p := ⟨w.heap.size, 2, none⟩) (Nat.le_refl _) _).setCell (p := ⟨w.heap.size, 3, none⟩) (Nat.le_refl _) _).setCell (p := ⟨w.heap.size, 4, none⟩) (Nat.le_refl _) _
end Go.Proofs.Ytefphkefgfoklaa
