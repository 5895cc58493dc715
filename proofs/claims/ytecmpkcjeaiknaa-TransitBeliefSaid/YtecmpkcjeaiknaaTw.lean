/- The contract of incidents; incidents that came in. -/
import Derived.Test.YtecmpkcjeaiknaaTv
namespace Go.Proofs.Ytecmpkcjeaiknaa
open Go.RowKit
set_option linter.unusedVariables false

theorem wf_in {x : Int} (h : -9223372036854775808 ≤ x ∧ x ≤ 9223372036854775807) : (Lit.int .i64 x).wf = true := by
  unfold Lit.wf
  rw [Bool.and_eq_true, decide_eq_true_eq, decide_eq_true_eq]
  exact h
theorem incInfo : (Try.prog.info? 53).map (fun i => (i.zero, i.size, i.bytes)) = some (some (.agg #[.int .i64 0, .int .i64 0, .int .i64 0, .int .i64 0, .int .i64 0]), 5, 40) := by kernel_rfl
theorem IncsAt.of_own {w : World} {B : Nat} {v : Value} {l : List Inc} (h : OwnX w B 53 5 v l.length (incsCs l)) (hl : l.length * 40 ≤ 140737488351232) : IncsAt w v l := by
  obtain ⟨A, c, rfl, h1, h2, h3⟩ := h.shape
  exact ⟨A, c, rfl, h1, h2, h3, hl⟩
theorem IncsAt.shape {w : World} {v : Value} {l : List Inc} (h : IncsAt w v l) : ∃ A c, v = .slice A l.length c := by obtain ⟨A, c, h, _⟩ := h; exact ⟨A, c, h⟩
theorem incs_snoc {w : World} {B : Nat} {v : Value} {l : List Inc} {x : Inc} (h : OwnX w B 53 5 v (l.length + 1) (incsCs l ++ incCs x)) : OwnX w B 53 5 v (l ++ [x]).length (incsCs (l ++ [x])) := by
  have e1 : incsCs (l ++ [x]) = incsCs l ++ incCs x := by simp [incsCs]
  rw [e1, List.length_append]
  exact h
theorem Src.grown_ {w w' : World} {g : Nat} {A : Option Addr} {c : Nat} {l : List Int} {i : Nat} {row : Option Nat} (h : Src w g A c l i) (hg : w.grownBy w' row) (hne : row = some g → False) (hr : ∀ k, row = some k → g < k) : Src w' g A c l i :=
  ⟨(hg.block g h.lt (fun e => hne e.symm)).trans h.1, h.2.1, h.2.2.1.below ⟨hg.os, hg.tape, hg.output, hg.size, fun k hk => hg.block k (Nat.lt_trans hk h.lt) (fun e => by have := hr k e.symm; omega)⟩, h.2.2.2⟩
def IcRel (w : World) (A : Option Addr) (c : Nat) (l' : List Int) (m : Nat) (v : Value) (wr : World) : Prop := ∃ (X : List Inc) (i : Nat), i + m = l'.length ∧ OwnX wr (w.heap.size + 1) 53 5 v X.length (incsCs X) ∧ Src wr w.heap.size A c l' i ∧ WfI X ∧ X.length ≤ i ∧ Below w.heap.size w wr

set_option maxRecDepth 100000 in
set_option maxHeartbeats 4000000 in
theorem incidents_any (A : Option Addr) (c : Nat) (l : List Int) (w : World) (h : SlI w A c l) :
    Calls Try.prog 18 #[.slice A l.length c] w fun e w' => ∃ v X, e = .returned v ∧ IncsAt w' v X ∧ WfI X ∧ X.length ≤ 60 ∧ Below w.heap.size w w' := by
  have hc1 := h.le
  have hc2 := h.max
  have HC := Lib.hid (mcut_any A c l 60 w hc1 (by omega) (by omega))
  have hr := (RdB.of_rd h.rd).take 60
  rw [show (ints l).take 60 = ints (l.take 60) by simp [ints, List.map_take]] at hr
  have hl2 : (l.take 60).length ≤ 60 := by rw [List.length_take]; omega
  generalize l.take 60 = l' at HC hr hl2
  have q0 := (Below.refl w.heap.size w).alloc (Nat.le_refl _) (.cells #[.slice A l'.length c, .int .i64 0] 69)
  have HS00 : Hid (Src (w.alloc (.cells #[.slice A l'.length c, .int .i64 0] 69)) w.heap.size A c l' 0) := Lib.hid ⟨heap_alloc_new w _, Nat.zero_le _, hr.below q0, by omega⟩
  have HQ0 := Lib.hid q0
  obtain ⟨i0_, hi0, hz0, hz1, hz2⟩ := info_parts incInfo
  clear h hr q0
  go_enter Try.func18, Try.ntmps18
  go_wp2_with (go_at_call 25; refine HC.out.mono ?_; rintro e w' ⟨rfl, rfl⟩)
  generalize hW0 : w.alloc (.cells #[.slice A l'.length c, .int .i64 0] 69) = W0 at *
  go_loopg [4] l'.length (fun m v wr => IcRel w A c l' m v wr)
  case atStart => exact ⟨[], 0, by omega, OwnX.nil_ _ _ _ _, HS00.out, fun x hx => (by cases hx), Nat.le_refl _, HQ0.out⟩
  case round =>
    clear HS00 HQ0 hW0 HC hc1 hc2
    obtain ⟨X, i0, hi, ho, hS, hw, hxl, hb⟩ := hrel
    have HI := Lib.hid hi
    have HO0 := Lib.hid ho
    have HS0 := Lib.hid hS
    have HW := Lib.hid hw
    have HXL := Lib.hid hxl
    have HB0 := Lib.hid hb
    have hi2 := hS.2.1
    have hX : X.length ≤ 60 := by omega
    obtain ⟨Av, cv, rfl, -, -, -⟩ := ho.shape
    clear hi ho hS hw hxl hb
    by_cases hlt : i0 < l'.length
    · have hd : decide (i0 < l'.length) = true := by simpa using hlt
      have HD := Lib.hid hd
      have HLT := Lib.hid hlt
      clear hd
      have G1 : True := trivial
      have G2 : True := trivial
      have G3 : True := trivial
      go_wp2_with (first
        | (go_at_call 36; refine (srcLeft_any w.heap.size A c l' i0 _ HS0.out).mono ?_; rintro e wl ⟨rfl, hq⟩; rw [HD.out]; have HS0 := Lib.hid (HS0.out.below (hq.below _)); have HO0 := Lib.hid (HO0.out.below (hq.below _)); have HB0 := Lib.hid (HB0.out.trans ((hq.below _).mono HB0.out.size)); clear hq)
        | (go_at_call 37; clear G1; refine (srcNext_any w.heap.size A c l' i0 2 _ HS0.out (by decide) (by decide)).mono ?_; rintro e w1 ⟨y1, i1, rfl, p1, q1, hS, hT, hF⟩; have HS1 := Lib.hid hS; have HO1 := Lib.hid (HO0.out.kept hT (.inr (fun e => by have := (HO0.out.block_lt e).1; omega))); have HB1 := Lib.hid (HB0.out.trans (hT.below (Nat.le_refl _) HB0.out.size)); have HF1 := Lib.hid (hF); clear hS hT hF)
        | (go_at_call 37; clear G2; refine (srcNext_any w.heap.size A c l' i1 2 _ HS1.out (by decide) (by decide)).mono ?_; rintro e w2 ⟨y2, i2, rfl, p2, q2, hS, hT, hF⟩; have HS2 := Lib.hid hS; have HO2 := Lib.hid (HO1.out.kept hT (.inr (fun e => by have := (HO1.out.block_lt e).1; omega))); have HB2 := Lib.hid (HB1.out.trans (hT.below (Nat.le_refl _) HB1.out.size)); have HF2 := Lib.hid (HF1.out.trans hF); clear hS hT hF)
        | (go_at_call 37; clear G3; refine (srcNext_any w.heap.size A c l' i2 6 _ HS2.out (by decide) (by decide)).mono ?_; rintro e w3 ⟨y3, i3, rfl, p3, q3, hS, hT, hF⟩; have HS3 := Lib.hid hS; have HO3 := Lib.hid (HO2.out.kept hT (.inr (fun e => by have := (HO2.out.block_lt e).1; omega))); have HB3 := Lib.hid (HB2.out.trans (hT.below (Nat.le_refl _) HB2.out.size)); have HF3 := Lib.hid (HF2.out.trans hF); clear hS hT hF)
        | (go_at_call 37; refine (srcNext_any w.heap.size A c l' i3 6 _ HS3.out (by decide) (by decide)).mono ?_; rintro e w4 ⟨y4, i4, rfl, p4, q4, hS, hT, hF⟩; have HS4 := Lib.hid hS; have HO4 := Lib.hid (HO3.out.kept hT (.inr (fun e => by have := (HO3.out.block_lt e).1; omega))); have HB4 := Lib.hid (HB3.out.trans (hT.below (Nat.le_refl _) HB3.out.size)); have HF4 := Lib.hid (HF3.out.trans hF); clear hS hT hF)
        | (at_builtin; refine wpList_append_one w4 rfl (.tmp 11) (.tmp 26) 44 rfl (w.heap.size + 1) 53 i0_ _ 5 40 Try.underlying44 hi0 hz0 hz1 hz2 rfl (by omega) _ X.length (incsCs X) [.int .i64 (100 + y1), .int .i64 ((X.length : Int) + 1), .int .i64 (1 + y2), .int .i64 y3, .int .i64 y4] rfl (by intro u hu; simp only [List.mem_cons, List.not_mem_nil, or_false] at hu; rcases hu with rfl | rfl | rfl | rfl | rfl <;> rfl) rfl HO4.out rfl (by unfold maxLen; omega) (by omega) HS4.out.lt ?_; intro v5 w5 hown2 hg2 hbl; have HO5 := Lib.hid (incs_snoc (x := ⟨100 + y1, (X.length : Int) + 1, 1 + y2, y3, y4⟩) hown2); have HS5 := Lib.hid (HS4.out.grown_ hg2 (fun e => by have := (HO4.out.block_lt e).1; omega) (fun k e => (HO4.out.block_lt e).1)); have HB5 := Lib.hid (HB4.out.trans (Below.of_grown hg2 w.heap.size HB4.out.size (fun g e => by have := (HO4.out.block_lt e).1; omega))); clear hown2 hg2 hbl))
      have hf4 := HF4.out.2 hlt
      have hi4 := HS4.out.2.1
      go_roundg (l'.length - i4)
      case measure => have := HI.out; omega
      case rel =>
        exact ⟨X ++ [⟨100 + y1, (X.length : Int) + 1, 1 + y2, y3, y4⟩], i4, by omega, HO5.out, HS5.out, fun x hx => by
          rcases List.mem_append.1 hx with hx | hx
          · exact HW.out x hx
          · rw [List.mem_singleton] at hx
            subst hx
            exact ⟨wf_in (x := y3) (by omega), wf_in (x := y4) (by omega)⟩, by have := HXL.out; simp; omega, HB5.out⟩
    · have hd : decide (i0 < l'.length) = false := by simpa using hlt
      have HD := Lib.hid hd
      clear hd
      go_wp2_with (go_at_call 36; refine (srcLeft_any w.heap.size A c l' i0 _ HS0.out).mono ?_; rintro e wl ⟨rfl, hq⟩; rw [HD.out]; have HO0 := Lib.hid (HO0.out.below (hq.below _)); have HB0 := Lib.hid (HB0.out.trans ((hq.below _).mono HB0.out.size)); clear hq)
      go_ret
      exact ⟨_, X, rfl, IncsAt.of_own HO0.out (by omega), HW.out, hX, HB0.out⟩

section
open Go.Joins Go.ChangeShapes Go.WideShapes Go.RowKit Go.Deep
theorem incFields : ∃ fs : Array Field, Try.prog.underlying 53 = some (.struct fs) ∧ oneCellFields Try.prog fs = true ∧ fs.size = 5 ∧ Try.prog.cellsOf 53 = 5 ∧ fs.toList.map (·.type) = List.replicate 5 3 :=
  ⟨_, Try.underlying53, by kernel_rfl, by kernel_rfl, by kernel_rfl, by kernel_rfl⟩
def toInc : List Int → Inc
  | [a, b, c, d, e] => ⟨a, b, c, d, e⟩
  | _ => default
theorem inc_rows : ∀ (rows : List (List Int)), (∀ zs ∈ rows, zs.length = 5) → incsCs (rows.map toInc) = rows.flatMap ints
  | [], _ => rfl
  | r :: rs, h => by
    have ih := inc_rows rs (fun zs hz => h zs (by simp [hz]))
    have h0 : incCs (toInc r) = ints r := by
      match r, h r (by simp) with
      | [a, b, c, d, e], _ => rfl
    unfold incsCs at *
    simp only [List.map_cons, List.flatMap_cons, ih, h0]
variable {H : Type} {enc : TypeId × Value → H} {w : World} {r : Reach} {b0 : Nat} {v : Value} {d : DataW H} {p : List MemPlace}
set_option maxRecDepth 100000 in
theorem open_incs (hv : Value.okWide Try.prog w r b0 44 v) (h : DataW.Trod enc Try.prog w 0 (fun _ => true) true 44 v d p) (hz : (DataW.weights Try.prog 44 d).all (· ≤ reachBytes) = true) :
    ∃ A c, ∃ L : List Inc, v = .slice A L.length c ∧ (IncsAt w (.slice A L.length c) L ∧ WfI L) := by
  obtain ⟨fs, hs, hone, hsz, hC, hall⟩ := incFields
  obtain ⟨A, c, rows, rfl, h1, h2, h3, h4, h5⟩ := open_flat Try.underlying44 hs hone (hC.trans hsz.symm) (fields_int hall) hv h hz
  have hby : Try.prog.bytesOf 53 = 40 := by kernel_rfl
  rw [hby] at h3
  refine ⟨A, c, rows.map toInc, by simp, ⟨A, c, rfl, ?_, by simpa using h1, h2, by simp; omega⟩, fun x hx => ?_⟩
  · rw [inc_rows rows (fun zs hzs => (h4 zs hzs).1.trans hsz)]
    exact h5
  · obtain ⟨zs, hzs, rfl⟩ := List.mem_map.1 hx
    obtain ⟨hl, hb⟩ := h4 zs hzs
    rw [hsz] at hl
    match zs, hl, hb with
    | [a, b, c, d, e], _, hb => exact ⟨wf_in (hb d (by simp)), wf_in (hb e (by simp))⟩
end
end Go.Proofs.Ytecmpkcjeaiknaa
