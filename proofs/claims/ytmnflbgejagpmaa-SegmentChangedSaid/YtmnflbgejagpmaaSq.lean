/- The laws' awake. -/
import Derived.Test.YtmnflbgejagpmaaSp
import Derived.Lib.SlBytesConst
namespace Go.Proofs.Ytmnflbgejagpmaa
open Go.RowKit
set_option linter.unusedVariables false

def awakeSeg : Seg := ⟨[76, 79, 84], [[[49]], [], [[97, 58, 98], [99]]]⟩
theorem awake_valid : encE? [awakeSeg] = 0 := by decide
theorem awake_enc : encAll [awakeSeg] = [76, 79, 84, 43, 49, 43, 43, 97, 63, 58, 98, 58, 99, 39] := by decide
theorem awake_dec : decodeF [65, 39, 66] = ([], 0, 4) := by rfl
/-- a block that is new reads as its cells -/
theorem RdB.new (w : World) (cs : List Value) (e : TypeId) (fr : Nat × Nat) (g : Nat) (hg : g = w.heap.size) : RdB (w.alloc (.cells cs.toArray e fr)) (g + 1) (some ⟨g, 0, none⟩) cs := fun j u hu => by
  subst hg
  refine ⟨_, rfl, Nat.lt_succ_self _, ?_⟩
  rw [Addr.add_lit, cell_of_row _ _ _ _ _ _ (heap_alloc_new w _)]
  simpa using hu
theorem RdB.alloc {w : World} {B : Nat} {A : Option Addr} {cs : List Value} (h : RdB w B A cs) (hB : B ≤ w.heap.size) (o : Obj) : RdB (w.alloc o) B A cs := h.below ((Below.refl _ _).alloc hB o)
theorem awake_at (w : World) : SegsAt ((((w.alloc (.cells #[.string ⟨#[49]⟩] 9)).alloc (.cells #[.string ⟨#[97, 58, 98]⟩, .string ⟨#[99]⟩] 9)).alloc (.cells #[.slice (some ⟨w.heap.size, 0, none⟩) 1 1, .slice none 0 0, .slice (some ⟨w.heap.size + 1, 0, none⟩) 2 2] 48)).alloc (.cells #[.string ⟨#[76, 79, 84]⟩, .slice (some ⟨w.heap.size + 2, 0, none⟩) 3 3] 24)) (w.heap.size + 4) (some ⟨w.heap.size + 3, 0, none⟩) [awakeSeg] := by
  have h0 := RdB.new w (strs [[49]]) 9 (0, 0) w.heap.size rfl
  have h1 := RdB.new (w.alloc (.cells #[.string ⟨#[49]⟩] 9)) (strs [[97, 58, 98], [99]]) 9 (0, 0) (w.heap.size + 1) (by simp)
  have h2 := RdB.new ((w.alloc (.cells #[.string ⟨#[49]⟩] 9)).alloc (.cells #[.string ⟨#[97, 58, 98]⟩, .string ⟨#[99]⟩] 9)) [.slice (some ⟨w.heap.size, 0, none⟩) 1 1, .slice none 0 0, .slice (some ⟨w.heap.size + 1, 0, none⟩) 2 2] 48 (0, 0) (w.heap.size + 2) (by simp)
  have h3 := RdB.new (((w.alloc (.cells #[.string ⟨#[49]⟩] 9)).alloc (.cells #[.string ⟨#[97, 58, 98]⟩, .string ⟨#[99]⟩] 9)).alloc (.cells #[.slice (some ⟨w.heap.size, 0, none⟩) 1 1, .slice none 0 0, .slice (some ⟨w.heap.size + 1, 0, none⟩) 2 2] 48)) [.string ⟨#[76, 79, 84]⟩, .slice (some ⟨w.heap.size + 2, 0, none⟩) 3 3] 24 (0, 0) (w.heap.size + 3) (by simp)
  have k0 := ((h0.alloc (by simp) (.cells #[.string ⟨#[97, 58, 98]⟩, .string ⟨#[99]⟩] 9)).alloc (by simp) (.cells #[.slice (some ⟨w.heap.size, 0, none⟩) 1 1, .slice none 0 0, .slice (some ⟨w.heap.size + 1, 0, none⟩) 2 2] 48)).alloc (by simp) (.cells #[.string ⟨#[76, 79, 84]⟩, .slice (some ⟨w.heap.size + 2, 0, none⟩) 3 3] 24)
  have k1 := (h1.alloc (by simp) (.cells #[.slice (some ⟨w.heap.size, 0, none⟩) 1 1, .slice none 0 0, .slice (some ⟨w.heap.size + 1, 0, none⟩) 2 2] 48)).alloc (by simp) (.cells #[.string ⟨#[76, 79, 84]⟩, .slice (some ⟨w.heap.size + 2, 0, none⟩) 3 3] 24)
  have k2 := h2.alloc (by simp) (.cells #[.string ⟨#[76, 79, 84]⟩, .slice (some ⟨w.heap.size + 2, 0, none⟩) 3 3] 24)
  refine ⟨_, rfl, h3, fun i s hs => ?_⟩
  match i, hs with
  | 0, hs =>
    simp only [List.getElem?_cons_zero, Option.some.injEq] at hs
    subst hs
    refine ⟨_, _, rfl, rfl, rfl, _, _, rfl, _, rfl, k2.mono (by omega), fun i e he => ?_⟩
    match i, he with
    | 0, he =>
      simp only [awakeSeg, List.getElem?_cons_zero, Option.some.injEq] at he
      subst he
      exact ⟨_, rfl, _, _, rfl, k0.mono (by omega)⟩
    | 1, he =>
      simp [awakeSeg] at he
      subst he
      exact ⟨_, rfl, none, 0, rfl, RdB.nil _ _ _⟩
    | 2, he =>
      simp [awakeSeg] at he
      subst he
      exact ⟨_, rfl, _, _, rfl, k1.mono (by omega)⟩
    | i + 3, he => simp [awakeSeg] at he
  | i + 1, hs => simp at hs
set_option maxHeartbeats 1000000 in
theorem awake_any (w : World) : Calls Try.prog 11 #[] w fun e w' => e = .returned (.bool true) ∧ Below w.heap.size w w' := by
  have hat := awake_at w
  have q4 := ((((Below.refl w.heap.size w).alloc (Nat.le_refl _) (.cells #[.string ⟨#[49]⟩] 9)).alloc (by simp) (.cells #[.string ⟨#[97, 58, 98]⟩, .string ⟨#[99]⟩] 9)).alloc (by simp; omega) (.cells #[.slice (some ⟨w.heap.size, 0, none⟩) 1 1, .slice none 0 0, .slice (some ⟨w.heap.size + 1, 0, none⟩) 2 2] 48)).alloc (by simp; omega) (.cells #[.string ⟨#[76, 79, 84]⟩, .slice (some ⟨w.heap.size + 2, 0, none⟩) 3 3] 24)
  have hsz : ((((w.alloc (.cells #[.string ⟨#[49]⟩] 9)).alloc (.cells #[.string ⟨#[97, 58, 98]⟩, .string ⟨#[99]⟩] 9)).alloc (.cells #[.slice (some ⟨w.heap.size, 0, none⟩) 1 1, .slice none 0 0, .slice (some ⟨w.heap.size + 1, 0, none⟩) 2 2] 48)).alloc (.cells #[.string ⟨#[76, 79, 84]⟩, .slice (some ⟨w.heap.size + 2, 0, none⟩) 3 3] 24)).heap.size = w.heap.size + 4 := by simp
  rw [← hsz] at hat
  have HEN := Lib.hid (encode_any _ 1 [awakeSeg] _ hat (by simp) (fits_few (by simp)))
  have kc := fun (w : World) (C : Array Value) (n c : Nat) => Lib.run_convert_bytes_const (P := Try.prog) w 32 5 C n c Try.underlying32 Try.underlying5
  clear hat hsz
  go_enter Try.func11, Try.ntmps11
  go_wp2_with fail
  refine HEN.out.mono ?_
  rintro e w5 ⟨hb5, h⟩
  rcases h with ⟨_, v, rfl, hown⟩ | ⟨h, _⟩
  · rw [awake_enc] at hown
    have q5 := q4.trans (hb5.mono q4.size)
    have hr6 := RdB.new w5 (u8s [65, 39, 66]) 5 (3, 4) w5.heap.size rfl
    have HDE := decode_any (some ⟨w5.heap.size, 0, none⟩) 3 [65, 39, 66] (w5.alloc (.cells (u8s [65, 39, 66]).toArray 5 (3, 4))) (hr6.mono (by simp)) (by simp) (by simp)
    rw [awake_dec] at HDE
    have HDE := Lib.hid HDE
    have q6 := q5.alloc q5.size (.cells (u8s [65, 39, 66]).toArray 5 (3, 4))
    go_wp2_with fail
    refine HDE.out.mono ?_
    rintro e w7 ⟨v7, rfl, _, hb7⟩
    have hown7 := (hown.below ((Below.refl _ _).alloc (Nat.le_refl _) (.cells (u8s [65, 39, 66]).toArray 5 (3, 4)))).below hb7
    obtain ⟨A7, c7, rfl, hr7, _, _⟩ := hown7.shape
    have hcv : (convert 32 9 (.slice A7 14 c7)).run Try.prog w7 = .ok (.string ⟨#[76, 79, 84, 43, 49, 43, 43, 97, 63, 58, 98, 58, 99, 39]⟩) w7 := conv_back w7 A7 c7 _ hr7
    go_wp2
    go_ret
    exact ⟨rfl, q6.trans (hb7.mono q6.size)⟩
  · exact absurd awake_valid h
end Go.Proofs.Ytmnflbgejagpmaa
