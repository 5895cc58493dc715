/- Contract of the reference's Next. -/
import Derived.Test.YtmnflbgejagpmaaTb
import Derived.IntWalk
namespace Go.Proofs.Ytmnflbgejagpmaa
open Go.RowKit
set_option linter.unusedVariables false

def RNRel (b : Bs) (W : World) (g : Nat) (i : Value) (wr : World) : Prop :=
  ∃ k : Nat, k + g = b.length + 1 ∧ i = .int .i64 (k : Int) ∧ findF 39 b = (findF 39 (b.drop k)).map (· + k) ∧ W = wr
/-- counts of what is read -/
def Bd (els : List (List Bs)) (n : Nat) : Prop := els.length ≤ n ∧ ∀ e ∈ els, e.length ≤ n
theorem Bd.mono {els : List (List Bs)} {n m : Nat} (h : Bd els n) (hm : n ≤ m) : Bd els m := ⟨Nat.le_trans h.1 hm, fun e he => Nat.le_trans (h.2 e he) hm⟩
theorem Bd.word {els : List (List Bs)} {n : Nat} (h : Bd els n) (w : Bs) (c : Bool) : Bd (wordEnd els w c) (n + 1) := by
  unfold wordEnd
  split
  · rcases List.eq_nil_or_concat els with rfl | ⟨l, x, rfl⟩
    · exact ⟨by simp [putLast], fun e he => by simp [putLast] at he⟩
    · rw [List.concat_eq_append] at h ⊢
      rw [putLast_snoc]
      refine ⟨by have := h.1; simp at this ⊢; omega, fun e he => ?_⟩
      rcases List.mem_append.1 he with he | he
      · have := h.2 e (by simp [he]); omega
      · simp only [List.mem_singleton] at he
        subst he
        have := h.2 x (by simp)
        simp
        omega
  · exact h.mono (by omega)
theorem readE_bd : ∀ (f : Nat) (b : Bs) (els : List (List Bs)) (w : Bs) (n : Nat), b.length ≤ f → Bd els n → Bd (readE els w b) (n + b.length + 1)
  | _, [], els, w, n, _, h => by unfold readE; exact h.word _ _
  | 0, _ :: _, _, _, _, hf, _ => by simp at hf
  | f + 1, x :: r, els, w, n, hf, h => by
    simp only [List.length_cons] at hf ⊢
    unfold readE
    split
    · cases r with
      | nil => exact (h.word _ _).mono (by omega)
      | cons y r' => 
        simp only [List.length_cons] at hf ⊢
        exact (readE_bd f r' els _ n (by omega) h).mono (by omega)
    · split
      · refine (readE_bd f r _ _ (n + 1) (by omega) ?_).mono (by omega)
        have h1 := h.word w false
        unfold wordEnd at h1 ⊢
        split
        · rename_i hc
          rw [if_pos hc] at h1
          have hl : (putLast els w).length = els.length := by
            rcases List.eq_nil_or_concat els with rfl | ⟨l, x, rfl⟩
            · simp [putLast]
            · rw [List.concat_eq_append, putLast_snoc]; simp
          refine ⟨by have := h.1; rw [List.length_append, hl]; simp; omega, fun e he => ?_⟩
          rcases List.mem_append.1 he with he | he
          · exact h1.2 e he
          · simp only [List.mem_singleton] at he; subst he; simp
        · refine ⟨by have := h.1; simp; omega, fun e he => ?_⟩
          rcases List.mem_append.1 he with he | he
          · have := h.2 e he; omega
          · simp only [List.mem_singleton] at he; subst he; simp
      · split
        · exact (readE_bd f r _ _ (n + 1) (by omega) (h.word _ _)).mono (by omega)
        · exact (readE_bd f r els _ n (by omega) h).mono (by omega)
theorem readT_bd : ∀ (f : Nat) (b w : Bs), b.length ≤ f → Bd (readT w b).els (b.length + 2)
  | _, [], w, _ => ⟨by simp [readT], fun e he => by simp [readT] at he⟩
  | 0, _ :: _, _, hf => by simp at hf
  | f + 1, x :: r, w, hf => by
    simp only [List.length_cons] at hf ⊢
    unfold readT
    split
    · cases r with
      | nil => exact ⟨by simp, fun e he => by simp at he⟩
      | cons y r' =>
        simp only [List.length_cons] at hf ⊢
        exact (readT_bd f r' _ (by omega)).mono (by omega)
    · split
      · exact (readE_bd f r [[]] [] 1 (by omega) ⟨by simp, fun e he => by simp at he; subst he; simp⟩).mono (by omega)
      · split
        · exact ⟨by simp, fun e he => by simp at he⟩
        · exact (readT_bd f r _ (by omega)).mono (by omega)
theorem read_sized {b : Bs} (h : b.length ≤ 1000000000) : (readF b).els.length ≤ 9223372036854775807 ∧ ∀ e ∈ (readF b).els, e.length ≤ 9223372036854775807 := by
  have := (readT_bd b.length b [] (Nat.le_refl _)).mono (m := 9223372036854775807) (by omega)
  exact this
set_option maxHeartbeats 4000000 in
theorem refNext_any (A : Option Addr) (c : Nat) (b : Bs) (w : World) (hr : RdB w w.heap.size A (u8s b)) (hc : b.length ≤ c) (hl : b.length ≤ 1000000000) :
    Calls Try.prog 20 #[.slice A b.length c] w (NextRet w (nextF b)) := by
  have q0 := (Below.refl w.heap.size w).alloc (Nat.le_refl _) (.cells #[.string ⟨#[]⟩, .slice none 0 0] 24)
  have hc0 : (w.alloc (.cells #[.string ⟨#[]⟩, .slice none 0 0] 24)).cell? ⟨w.heap.size, 0, none⟩ = some (.string ⟨#[]⟩) := by simp
  have hc1 : (w.alloc (.cells #[.string ⟨#[]⟩, .slice none 0 0] 24)).cell? ⟨w.heap.size, 1, none⟩ = some (.slice none 0 0) := by simp
  have hf0 : (w.alloc (.cells #[.string ⟨#[]⟩, .slice none 0 0] 24)).frozen? ⟨w.heap.size, 0, none⟩ = false := by simp
  have hf1 : (w.alloc (.cells #[.string ⟨#[]⟩, .slice none 0 0] 24)).frozen? ⟨w.heap.size, 1, none⟩ = false := by simp
  have hz0 : w.heap.size < (w.alloc (.cells #[.string ⟨#[]⟩, .slice none 0 0] 24)).heap.size := by simp
  generalize hW : w.alloc (.cells #[.string ⟨#[]⟩, .slice none 0 0] 24) = W at q0 hc0 hc1 hf0 hf1 hz0
  have hrW := hr.below q0
  go_enter Try.func20, Try.ntmps20
  go_wp2
  clear hW
  go_loopg [5] (b.length + 1) (fun g i wr => RNRel b W g i wr)
  case atStart => exact ⟨0, by omega, rfl, by simp, rfl⟩
  case round =>
    obtain ⟨k, hk, rfl, hh, rfl⟩ := hrel
    have HK := Lib.hid hk
    have HH := Lib.hid hh
    have hk2 : k ≤ b.length + 1 := by omega
    clear hk hh
    by_cases hlt : k < b.length
    · have hcell := hrW.rd.at_lit (u8s_at hlt)
      have hb1 := u8_ne b[k] 39 (by omega)
      have hb2 := u8_ne b[k] 63 (by omega)
      by_cases e1 : b[k] = 39
      · have hf : findF 39 b = some k := HH.out.trans (find_hit_at hlt (by rw [e1]; decide) e1)
        have HE : Hid (nextF b = if validF (readF (b.take k)) = 0 ∧ encS (readF (b.take k)) = b.take (k + 1) then (readF (b.take k), k + 1, 0) else (noSeg, 0, 4)) := by show _ = _; rw [← next_same]; unfold nextW; rw [hf]
        have htk : (b.take k).length = k := by rw [List.length_take]; omega
        have htk1 : (b.take (k + 1)).length = k + 1 := by rw [List.length_take]; omega
        have HRD := read_any A c (b.take k) W ((hrW.takeB k).rd) (by omega)
        rw [htk] at HRD
        have HRD := Lib.hid HRD
        have hsz := read_sized (b := b.take k) (by omega)
        have hhd := fun W => head_run W A b.length c k (by omega)
        have hhd1 := fun W => head_run W A b.length c (k + 1) (by omega)
        rw [show ((k + 1 : Nat) : Int) = (k : Int) + 1 by omega] at hhd1
        have hge : decide ((b.length : Int) ≤ (k : Int)) = false := by simp; omega
        have t1 : ((b[k].toNat : Int) != 39) = false := by rw [bne, show (39 : Int) = ((39 : Nat) : Int) from rfl, hb1]; simpa using e1
        have HCV : Hid (∀ w', Below W.heap.size W w' → (convert 32 9 (.slice A (k + 1) c)).run Try.prog w' = .ok (.string ⟨(b.take (k + 1)).toArray⟩) w') := fun w' hb' => by
          have := conv_back w' A c (b.take (k + 1)) (((hrW.takeB (k + 1)).mono q0.size).below hb').rd
          rwa [htk1] at this
        clear hf hb1 hb2 e1 HK HH htk htk1
        unfold ReadRet at HRD
        generalize readF (b.take k) = s at HE HRD hsz
        obtain ⟨hsz1, hsz2⟩ := hsz
        have HZ := Lib.hid hsz2
        clear hsz2
        obtain ⟨b0, off, rfl, hcc⟩ := hcell
        generalize b[k] = y at hcc t1
        go_wp2_with fail
        refine HRD.out.mono ?_
        rintro e w2 ⟨ev, rfl, hels, hb2⟩
        obtain ⟨Ae, ce, rfl, hEA⟩ := hels.at_
        have q2 := q0.trans (hb2.mono q0.size)
        have hd0 : w2.cell? ⟨w.heap.size, 0, none⟩ = some (.string ⟨#[]⟩) := (hb2.cell (p := ⟨w.heap.size, 0, none⟩) hz0).trans hc0
        have hd1 : w2.cell? ⟨w.heap.size, 1, none⟩ = some (.slice none 0 0) := (hb2.cell (p := ⟨w.heap.size, 1, none⟩) hz0).trans hc1
        have hg0 : w2.frozen? ⟨w.heap.size, 0, none⟩ = false := (hb2.frozen (p := ⟨w.heap.size, 0, none⟩) hz0).trans hf0
        have hg1 : w2.frozen? ⟨w.heap.size, 1, none⟩ = false := (hb2.frozen (p := ⟨w.heap.size, 1, none⟩) hz0).trans hf1
        have hz2 : w.heap.size < w2.heap.size := Nat.lt_of_lt_of_le hz0 hb2.size
        have hb3 := (Below.refl w2.heap.size w2).alloc (Nat.le_refl _) (.cells #[.string ⟨s.tag.toArray⟩, .slice Ae s.els.length ce] 24)
        have hs0 : (w2.alloc (.cells #[.string ⟨s.tag.toArray⟩, .slice Ae s.els.length ce] 24)).cell? ⟨w2.heap.size, 0, none⟩ = some (.string ⟨s.tag.toArray⟩) := by simp
        have hs1 : (w2.alloc (.cells #[.string ⟨s.tag.toArray⟩, .slice Ae s.els.length ce] 24)).cell? ⟨w2.heap.size, 1, none⟩ = some (.slice Ae s.els.length ce) := by simp
        have hz3 : w2.heap.size < (w2.alloc (.cells #[.string ⟨s.tag.toArray⟩, .slice Ae s.els.length ce] 24)).heap.size := by simp
        generalize hW3 : w2.alloc (.cells #[.string ⟨s.tag.toArray⟩, .slice Ae s.els.length ce] 24) = W3 at hb3 hs0 hs1 hz3
        have q3 := q2.trans (hb3.mono q2.size)
        replace hd0 := (hb3.cell (p := ⟨w.heap.size, 0, none⟩) hz2).trans hd0
        replace hd1 := (hb3.cell (p := ⟨w.heap.size, 1, none⟩) hz2).trans hd1
        replace hg0 := (hb3.frozen (p := ⟨w.heap.size, 0, none⟩) hz2).trans hg0
        replace hg1 := (hb3.frozen (p := ⟨w.heap.size, 1, none⟩) hz2).trans hg1
        have hzr : w.heap.size < W3.heap.size := Nat.lt_trans hz2 hz3
        have hels3 := hels.below hb3
        have hwW : w.heap.size < W.heap.size := hz0
        have hWW : Below W.heap.size W W3 := hb2.trans (hb3.mono hb2.size)
        have hEA3 := hEA.below hb3
        have HVA := Lib.hid (fun W' (hb : Below W3.heap.size W3 W') => refSegment_any ⟨s.tag.toArray⟩ Ae ce s.els W' ((hEA3.below (hb.mono (Nat.le_of_lt hz3))).mono (Nat.le_trans (Nat.le_of_lt hz3) hb.size)) hsz1 HZ.out)
        rw [seg_eta] at HVA
        have HCV2 : Hid (∀ w', Below W3.heap.size W3 w' → (convert 32 9 (.slice (some ⟨b0, off, none⟩) (k + 1) c)).run Try.prog w' = .ok (.string ⟨(b.take (k + 1)).toArray⟩) w') := fun w' hb' => HCV.out w' (hWW.trans (hb'.mono hWW.size))
        clear HCV HRD hEA hels hc0 hc1 hf0 hf1 hcc hhd
        by_cases hv : validF s = 0
        · rw [hv] at HVA
          have hsh := short_of (validF_zero.1 hv).2.1
          have hel := encS_len hv
          have HTX := Lib.hid (fun W' (hb : Below W3.heap.size W3 W') => text_any ⟨s.tag.toArray⟩ Ae ce s.els W' ((hEA3.below (hb.mono (Nat.le_of_lt hz3))).mono (Nat.le_trans (Nat.le_of_lt hz3) hb.size)) (by rw [seg_eta]; omega) hsh.1 hsh.2)
          rw [seg_eta] at HTX
          clear hsh hel
          by_cases hx : encS s = b.take (k + 1)
          · have HE3 : Hid (nextF b = (s, k + 1, 0)) := by show _ = _; rw [HE.out, if_pos ⟨hv, hx⟩]
            rw [← hx] at HCV2
            generalize encS s = xs at HTX HCV2
            have hne : (xs == xs) = true := by simp
            have hne2 : (xs != xs) = false := by simp
            have HCV := Lib.hid HCV2.out
            clear HCV2 HE hv hx hEA3
            go_wp2
            refine wp_region_x 13 (by kernel_rfl) (fun w' => w'.cell? ⟨w2.heap.size, 0, none⟩ = some (.string ⟨s.tag.toArray⟩) ∧ w'.cell? ⟨w2.heap.size, 1, none⟩ = some (.slice Ae s.els.length ce) ∧ Below W3.heap.size W3 w') ?_
            have HS : Hid (W3.drew.cell? ⟨w2.heap.size, 0, none⟩ = some (.string ⟨s.tag.toArray⟩) ∧ W3.drew.cell? ⟨w2.heap.size, 1, none⟩ = some (.slice Ae s.els.length ce) ∧ Below W3.heap.size W3 W3.drew) := ⟨hs0, hs1, (Below.refl _ _).drew⟩
            refine wpAnyX_take (i := 0) (v := .agg #[.string ⟨s.tag.toArray⟩, .slice Ae s.els.length ce]) rfl (by kernel_rfl) (by kernel_rfl) (by kernel_rfl) (by kernel_rfl) (fun _ _ _ h => h) HS.out (Or.inl ⟨by rfl, fun w hS => by obtain ⟨hS1, hS2, hS3⟩ := hS; go_simp⟩) ?_
            go_simp
            refine wpAnyX_one (i := 1) (by kernel_rfl) rfl (fun K hK => ?_)
            go_simp
            go_wp2_with (go_at_call 10; refine (HVA.out _ HS.out.2.2).mono ?_; rintro e w8 ⟨rfl, hb8⟩)
            have hB8 : Below W3.heap.size W3 w8 := HS.out.2.2.trans hb8
            clear HS
            have HS : Hid (w8.cell? ⟨w2.heap.size, 0, none⟩ = some (.string ⟨s.tag.toArray⟩) ∧ w8.cell? ⟨w2.heap.size, 1, none⟩ = some (.slice Ae s.els.length ce) ∧ Below W3.heap.size W3 w8) := ⟨(hB8.cell (p := ⟨w2.heap.size, 0, none⟩) hz3).trans hs0, (hB8.cell (p := ⟨w2.heap.size, 1, none⟩) hz3).trans hs1, hB8⟩
            refine hK.out _ _ (fun _ => HS.out) ?_
            clear hK K
            refine wpAnyX_take (i := 2) (v := .bool false) rfl (by kernel_rfl) (by kernel_rfl) (by kernel_rfl) (by kernel_rfl) (fun _ _ _ h => h) HS.out (Or.inl ⟨by rfl, fun w hS => by obtain ⟨hS1, hS2, hS3⟩ := hS; go_simp⟩) ?_
            go_simp
            refine wpAnyX_take (i := 3) (v := .bool false) rfl (by kernel_rfl) (by kernel_rfl) (by kernel_rfl) (by kernel_rfl) (fun _ _ _ h => h) HS.out (Or.inl ⟨by rfl, fun w hS => by obtain ⟨hS1, hS2, hS3⟩ := hS; go_simp⟩) ?_
            go_simp
            refine wpAnyX_take (i := 4) (v := .agg #[.string ⟨s.tag.toArray⟩, .slice Ae s.els.length ce]) rfl (by kernel_rfl) (by kernel_rfl) (by kernel_rfl) (by kernel_rfl) (fun _ _ _ h => h) HS.out (Or.inl ⟨by rfl, fun w hS => by obtain ⟨hS1, hS2, hS3⟩ := hS; go_simp⟩) ?_
            go_simp
            refine wpAnyX_take (i := 6) (v := .slice (some ⟨b0, off, none⟩) b.length c) rfl (by kernel_rfl) (by kernel_rfl) (by kernel_rfl) (by kernel_rfl) (fun _ _ _ h => h) HS.out (Or.inl ⟨by rfl, fun w hS => by obtain ⟨hS1, hS2, hS3⟩ := hS; go_simp⟩) ?_
            go_simp
            refine wpAnyX_take (i := 7) (v := .int .i64 (k : Int)) rfl (by kernel_rfl) (by kernel_rfl) (by kernel_rfl) (by kernel_rfl) (fun _ _ _ h => h) HS.out (Or.inl ⟨by rfl, fun w hS => by obtain ⟨hS1, hS2, hS3⟩ := hS; go_simp⟩) ?_
            go_simp
            refine wpAnyX_take (i := 8) (v := .int .i64 ((k : Int) + 1)) rfl (by kernel_rfl) (by kernel_rfl) (by kernel_rfl) (by kernel_rfl) (fun _ _ _ h => h) HS.out (Or.inl ⟨by rfl, fun w hS => by obtain ⟨hS1, hS2, hS3⟩ := hS; go_simp; exact IntWalk.i64_in _ (by omega)⟩) ?_
            go_simp
            refine wpAnyX_take (i := 9) (v := .slice (some ⟨b0, off, none⟩) (k + 1) c) rfl (by kernel_rfl) (by kernel_rfl) (by kernel_rfl) (by kernel_rfl) (fun _ _ _ h => h) HS.out (Or.inl ⟨by rfl, fun w hS => by obtain ⟨hS1, hS2, hS3⟩ := hS; go_simp⟩) ?_
            go_simp
            refine wpAnyX_take (i := 10) (v := .string ⟨xs.toArray⟩) rfl (by kernel_rfl) (by kernel_rfl) (by kernel_rfl) (by kernel_rfl) (fun _ _ _ h => h) HS.out (Or.inl ⟨by rfl, fun w hS => by obtain ⟨hS1, hS2, hS3⟩ := hS; have hcv := HCV.out _ hS3; go_simp⟩) ?_
            go_simp
            refine wpAnyX_one (i := 5) (by kernel_rfl) rfl (fun K hK => ?_)
            go_simp
            go_wp2_with (go_at_call 28; refine (HTX.out _ HS.out.2.2).mono ?_; rintro e w9 ⟨rfl, hb9⟩)
            have hB9 : Below W3.heap.size W3 w9 := hB8.trans (hb9.mono hB8.size)
            clear HS
            have HS : Hid (w9.cell? ⟨w2.heap.size, 0, none⟩ = some (.string ⟨s.tag.toArray⟩) ∧ w9.cell? ⟨w2.heap.size, 1, none⟩ = some (.slice Ae s.els.length ce) ∧ Below W3.heap.size W3 w9) := ⟨(hB9.cell (p := ⟨w2.heap.size, 0, none⟩) hz3).trans hs0, (hB9.cell (p := ⟨w2.heap.size, 1, none⟩) hz3).trans hs1, hB9⟩
            refine hK.out _ _ (fun _ => HS.out) ?_
            clear hK K
            refine wpAnyX_take (i := 11) (v := .bool false) rfl (by kernel_rfl) (by kernel_rfl) (by kernel_rfl) (by kernel_rfl) (fun _ _ _ h => h) HS.out (Or.inl ⟨by rfl, fun w hS => by obtain ⟨hS1, hS2, hS3⟩ := hS; go_simp⟩) ?_
            go_simp
            refine wpAnyX_take (i := 12) (v := .bool false) rfl (by kernel_rfl) (by kernel_rfl) (by kernel_rfl) (by kernel_rfl) (fun _ _ _ h => h) HS.out (Or.inl ⟨by rfl, fun w hS => by obtain ⟨hS1, hS2, hS3⟩ := hS; go_simp⟩) ?_
            go_simp
            refine wpAnyX_done (by kernel_rfl) ?_
            have he0 : w9.cell? ⟨w.heap.size, 0, none⟩ = some (.string ⟨#[]⟩) := (hB9.cell (p := ⟨w.heap.size, 0, none⟩) hzr).trans hd0
            have he1 : w9.cell? ⟨w.heap.size, 1, none⟩ = some (.slice none 0 0) := (hB9.cell (p := ⟨w.heap.size, 1, none⟩) hzr).trans hd1
            have hf0 : w9.frozen? ⟨w.heap.size, 0, none⟩ = false := (hB9.frozen (p := ⟨w.heap.size, 0, none⟩) hzr).trans hg0
            have hf1 : w9.frozen? ⟨w.heap.size, 1, none⟩ = false := (hB9.frozen (p := ⟨w.heap.size, 1, none⟩) hzr).trans hg1
            obtain ⟨hm0, hm1, _⟩ := HS.out
            have q9 := q3.trans (hB9.mono q3.size)
            go_wp2
            refine bodyPost_ret (v := .tuple #[.agg #[.string ⟨s.tag.toArray⟩, .slice Ae s.els.length ce], .int .i64 ((k : Int) + 1), .int .i64 0]) (by simp [results, Try.results20, go_sem, he0, he1]) rfl ?_
            rw [HE3.out]
            have hfin := ((((hels3.below hB9).set (p := ⟨w.heap.size, 0, none⟩) hwW (.string ⟨s.tag.toArray⟩)).set (p := ⟨w.heap.size, 1, none⟩) hwW (.slice Ae s.els.length ce))).mono (B' := w.heap.size) (Nat.le_of_lt hwW)
            exact ⟨_, by simp, hfin, (q9.setCell (Nat.le_refl _) _).setCell (Nat.le_refl _) _⟩
          · have HE3 : Hid (nextF b = (noSeg, 0, 4)) := by show _ = _; rw [HE.out, if_neg (fun h => hx h.2)]
            have hne : (encS s == b.take (k + 1)) = false := by simpa using hx
            have hne2 : (encS s != b.take (k + 1)) = true := by rw [bne, hne]; rfl
            generalize encS s = xs at HTX hne hne2
            generalize b.take (k + 1) = ys at HCV2 hne hne2
            have HCV := Lib.hid HCV2.out
            clear HCV2 HE hv hx hEA3
            go_wp2
            refine wp_region_x 13 (by kernel_rfl) (fun w' => w'.cell? ⟨w2.heap.size, 0, none⟩ = some (.string ⟨s.tag.toArray⟩) ∧ w'.cell? ⟨w2.heap.size, 1, none⟩ = some (.slice Ae s.els.length ce) ∧ Below W3.heap.size W3 w') ?_
            have HS : Hid (W3.drew.cell? ⟨w2.heap.size, 0, none⟩ = some (.string ⟨s.tag.toArray⟩) ∧ W3.drew.cell? ⟨w2.heap.size, 1, none⟩ = some (.slice Ae s.els.length ce) ∧ Below W3.heap.size W3 W3.drew) := ⟨hs0, hs1, (Below.refl _ _).drew⟩
            refine wpAnyX_take (i := 0) (v := .agg #[.string ⟨s.tag.toArray⟩, .slice Ae s.els.length ce]) rfl (by kernel_rfl) (by kernel_rfl) (by kernel_rfl) (by kernel_rfl) (fun _ _ _ h => h) HS.out (Or.inl ⟨by rfl, fun w hS => by obtain ⟨hS1, hS2, hS3⟩ := hS; go_simp⟩) ?_
            go_simp
            refine wpAnyX_one (i := 1) (by kernel_rfl) rfl (fun K hK => ?_)
            go_simp
            go_wp2_with (go_at_call 10; refine (HVA.out _ HS.out.2.2).mono ?_; rintro e w8 ⟨rfl, hb8⟩)
            have hB8 : Below W3.heap.size W3 w8 := HS.out.2.2.trans hb8
            clear HS
            have HS : Hid (w8.cell? ⟨w2.heap.size, 0, none⟩ = some (.string ⟨s.tag.toArray⟩) ∧ w8.cell? ⟨w2.heap.size, 1, none⟩ = some (.slice Ae s.els.length ce) ∧ Below W3.heap.size W3 w8) := ⟨(hB8.cell (p := ⟨w2.heap.size, 0, none⟩) hz3).trans hs0, (hB8.cell (p := ⟨w2.heap.size, 1, none⟩) hz3).trans hs1, hB8⟩
            refine hK.out _ _ (fun _ => HS.out) ?_
            clear hK K
            refine wpAnyX_take (i := 2) (v := .bool false) rfl (by kernel_rfl) (by kernel_rfl) (by kernel_rfl) (by kernel_rfl) (fun _ _ _ h => h) HS.out (Or.inl ⟨by rfl, fun w hS => by obtain ⟨hS1, hS2, hS3⟩ := hS; go_simp⟩) ?_
            go_simp
            refine wpAnyX_take (i := 3) (v := .bool false) rfl (by kernel_rfl) (by kernel_rfl) (by kernel_rfl) (by kernel_rfl) (fun _ _ _ h => h) HS.out (Or.inl ⟨by rfl, fun w hS => by obtain ⟨hS1, hS2, hS3⟩ := hS; go_simp⟩) ?_
            go_simp
            refine wpAnyX_take (i := 4) (v := .agg #[.string ⟨s.tag.toArray⟩, .slice Ae s.els.length ce]) rfl (by kernel_rfl) (by kernel_rfl) (by kernel_rfl) (by kernel_rfl) (fun _ _ _ h => h) HS.out (Or.inl ⟨by rfl, fun w hS => by obtain ⟨hS1, hS2, hS3⟩ := hS; go_simp⟩) ?_
            go_simp
            refine wpAnyX_take (i := 6) (v := .slice (some ⟨b0, off, none⟩) b.length c) rfl (by kernel_rfl) (by kernel_rfl) (by kernel_rfl) (by kernel_rfl) (fun _ _ _ h => h) HS.out (Or.inl ⟨by rfl, fun w hS => by obtain ⟨hS1, hS2, hS3⟩ := hS; go_simp⟩) ?_
            go_simp
            refine wpAnyX_take (i := 7) (v := .int .i64 (k : Int)) rfl (by kernel_rfl) (by kernel_rfl) (by kernel_rfl) (by kernel_rfl) (fun _ _ _ h => h) HS.out (Or.inl ⟨by rfl, fun w hS => by obtain ⟨hS1, hS2, hS3⟩ := hS; go_simp⟩) ?_
            go_simp
            refine wpAnyX_take (i := 8) (v := .int .i64 ((k : Int) + 1)) rfl (by kernel_rfl) (by kernel_rfl) (by kernel_rfl) (by kernel_rfl) (fun _ _ _ h => h) HS.out (Or.inl ⟨by rfl, fun w hS => by obtain ⟨hS1, hS2, hS3⟩ := hS; go_simp; exact IntWalk.i64_in _ (by omega)⟩) ?_
            go_simp
            refine wpAnyX_take (i := 9) (v := .slice (some ⟨b0, off, none⟩) (k + 1) c) rfl (by kernel_rfl) (by kernel_rfl) (by kernel_rfl) (by kernel_rfl) (fun _ _ _ h => h) HS.out (Or.inl ⟨by rfl, fun w hS => by obtain ⟨hS1, hS2, hS3⟩ := hS; go_simp⟩) ?_
            go_simp
            refine wpAnyX_take (i := 10) (v := .string ⟨ys.toArray⟩) rfl (by kernel_rfl) (by kernel_rfl) (by kernel_rfl) (by kernel_rfl) (fun _ _ _ h => h) HS.out (Or.inl ⟨by rfl, fun w hS => by obtain ⟨hS1, hS2, hS3⟩ := hS; have hcv := HCV.out _ hS3; go_simp⟩) ?_
            go_simp
            refine wpAnyX_one (i := 5) (by kernel_rfl) rfl (fun K hK => ?_)
            go_simp
            go_wp2_with (go_at_call 28; refine (HTX.out _ HS.out.2.2).mono ?_; rintro e w9 ⟨rfl, hb9⟩)
            have hB9 : Below W3.heap.size W3 w9 := hB8.trans (hb9.mono hB8.size)
            clear HS
            have HS : Hid (w9.cell? ⟨w2.heap.size, 0, none⟩ = some (.string ⟨s.tag.toArray⟩) ∧ w9.cell? ⟨w2.heap.size, 1, none⟩ = some (.slice Ae s.els.length ce) ∧ Below W3.heap.size W3 w9) := ⟨(hB9.cell (p := ⟨w2.heap.size, 0, none⟩) hz3).trans hs0, (hB9.cell (p := ⟨w2.heap.size, 1, none⟩) hz3).trans hs1, hB9⟩
            refine hK.out _ _ (fun _ => HS.out) ?_
            clear hK K
            refine wpAnyX_take (i := 11) (v := .bool true) rfl (by kernel_rfl) (by kernel_rfl) (by kernel_rfl) (by kernel_rfl) (fun _ _ _ h => h) HS.out (Or.inl ⟨by rfl, fun w hS => by obtain ⟨hS1, hS2, hS3⟩ := hS; go_simp⟩) ?_
            go_simp
            refine wpAnyX_take (i := 12) (v := .bool true) rfl (by kernel_rfl) (by kernel_rfl) (by kernel_rfl) (by kernel_rfl) (fun _ _ _ h => h) HS.out (Or.inl ⟨by rfl, fun w hS => by obtain ⟨hS1, hS2, hS3⟩ := hS; go_simp⟩) ?_
            go_simp
            refine wpAnyX_done (by kernel_rfl) ?_
            have he0 : w9.cell? ⟨w.heap.size, 0, none⟩ = some (.string ⟨#[]⟩) := (hB9.cell (p := ⟨w.heap.size, 0, none⟩) hzr).trans hd0
            have he1 : w9.cell? ⟨w.heap.size, 1, none⟩ = some (.slice none 0 0) := (hB9.cell (p := ⟨w.heap.size, 1, none⟩) hzr).trans hd1
            have hf0 : w9.frozen? ⟨w.heap.size, 0, none⟩ = false := (hB9.frozen (p := ⟨w.heap.size, 0, none⟩) hzr).trans hg0
            have hf1 : w9.frozen? ⟨w.heap.size, 1, none⟩ = false := (hB9.frozen (p := ⟨w.heap.size, 1, none⟩) hzr).trans hg1
            obtain ⟨hm0, hm1, _⟩ := HS.out
            have q9 := q3.trans (hB9.mono q3.size)
            go_wp2
            refine bodyPost_ret (v := .tuple #[.agg #[.string ⟨#[]⟩, .slice none 0 0], .int .i64 0, .int .i64 4]) (by simp [results, Try.results20, go_sem, he0, he1]) rfl ?_
            rw [HE3.out]
            exact ⟨.slice none 0 0, rfl, ElsOwn.nil_ _ _, (q9.setCell (Nat.le_refl _) _).setCell (Nat.le_refl _) _⟩
        · have HE3 : Hid (nextF b = (noSeg, 0, 4)) := by show _ = _; rw [HE.out, if_neg (fun h => hv h.1)]
          have hne : (validF s != 0) = true := by simpa using hv
          generalize validF s = vs at HVA hne
          clear HE hv HCV2 hEA3
          go_wp2
          refine wp_region_x 13 (by kernel_rfl) (fun w' => w'.cell? ⟨w2.heap.size, 0, none⟩ = some (.string ⟨s.tag.toArray⟩) ∧ w'.cell? ⟨w2.heap.size, 1, none⟩ = some (.slice Ae s.els.length ce) ∧ Below W3.heap.size W3 w') ?_
          have HS : Hid (W3.drew.cell? ⟨w2.heap.size, 0, none⟩ = some (.string ⟨s.tag.toArray⟩) ∧ W3.drew.cell? ⟨w2.heap.size, 1, none⟩ = some (.slice Ae s.els.length ce) ∧ Below W3.heap.size W3 W3.drew) := ⟨hs0, hs1, (Below.refl _ _).drew⟩
          refine wpAnyX_take (i := 0) (v := .agg #[.string ⟨s.tag.toArray⟩, .slice Ae s.els.length ce]) rfl (by kernel_rfl) (by kernel_rfl) (by kernel_rfl) (by kernel_rfl) (fun _ _ _ h => h) HS.out (Or.inl ⟨by rfl, fun w hS => by obtain ⟨hS1, hS2, hS3⟩ := hS; go_simp⟩) ?_
          go_simp
          refine wpAnyX_one (i := 1) (by kernel_rfl) rfl (fun K hK => ?_)
          go_simp
          go_wp2_with (go_at_call 10; refine (HVA.out _ HS.out.2.2).mono ?_; rintro e w8 ⟨rfl, hb8⟩)
          have hB8 : Below W3.heap.size W3 w8 := HS.out.2.2.trans hb8
          clear HS
          have HS : Hid (w8.cell? ⟨w2.heap.size, 0, none⟩ = some (.string ⟨s.tag.toArray⟩) ∧ w8.cell? ⟨w2.heap.size, 1, none⟩ = some (.slice Ae s.els.length ce) ∧ Below W3.heap.size W3 w8) := ⟨(hB8.cell (p := ⟨w2.heap.size, 0, none⟩) hz3).trans hs0, (hB8.cell (p := ⟨w2.heap.size, 1, none⟩) hz3).trans hs1, hB8⟩
          refine hK.out _ _ (fun _ => HS.out) ?_
          clear hK K
          refine wpAnyX_take (i := 2) (v := .bool true) rfl (by kernel_rfl) (by kernel_rfl) (by kernel_rfl) (by kernel_rfl) (fun _ _ _ h => h) HS.out (Or.inl ⟨by rfl, fun w hS => by obtain ⟨hS1, hS2, hS3⟩ := hS; go_simp⟩) ?_
          go_simp
          refine wpAnyX_take (i := 3) (v := .bool true) rfl (by kernel_rfl) (by kernel_rfl) (by kernel_rfl) (by kernel_rfl) (fun _ _ _ h => h) HS.out (Or.inl ⟨by rfl, fun w hS => by obtain ⟨hS1, hS2, hS3⟩ := hS; go_simp⟩) ?_
          go_simp
          refine wpAnyX_take (i := 4) (v := undef) rfl (by kernel_rfl) (by kernel_rfl) (by kernel_rfl) (by kernel_rfl) (fun _ _ _ h => h) HS.out (Or.inr ⟨by rfl, rfl⟩) ?_
          go_simp
          refine wpAnyX_take (i := 6) (v := undef) rfl (by kernel_rfl) (by kernel_rfl) (by kernel_rfl) (by kernel_rfl) (fun _ _ _ h => h) HS.out (Or.inr ⟨by rfl, rfl⟩) ?_
          go_simp
          refine wpAnyX_take (i := 7) (v := undef) rfl (by kernel_rfl) (by kernel_rfl) (by kernel_rfl) (by kernel_rfl) (fun _ _ _ h => h) HS.out (Or.inr ⟨by rfl, rfl⟩) ?_
          go_simp
          refine wpAnyX_take (i := 5) (v := undef) rfl (by kernel_rfl) (by kernel_rfl) (by kernel_rfl) (by kernel_rfl) (fun _ _ _ h => h) HS.out (Or.inr ⟨by rfl, rfl⟩) ?_
          go_simp
          refine wpAnyX_take (i := 8) (v := undef) rfl (by kernel_rfl) (by kernel_rfl) (by kernel_rfl) (by kernel_rfl) (fun _ _ _ h => h) HS.out (Or.inr ⟨by rfl, rfl⟩) ?_
          go_simp
          refine wpAnyX_take (i := 9) (v := undef) rfl (by kernel_rfl) (by kernel_rfl) (by kernel_rfl) (by kernel_rfl) (fun _ _ _ h => h) HS.out (Or.inr ⟨by rfl, rfl⟩) ?_
          go_simp
          refine wpAnyX_take (i := 10) (v := undef) rfl (by kernel_rfl) (by kernel_rfl) (by kernel_rfl) (by kernel_rfl) (fun _ _ _ h => h) HS.out (Or.inr ⟨by rfl, rfl⟩) ?_
          go_simp
          refine wpAnyX_take (i := 11) (v := undef) rfl (by kernel_rfl) (by kernel_rfl) (by kernel_rfl) (by kernel_rfl) (fun _ _ _ h => h) HS.out (Or.inr ⟨by rfl, rfl⟩) ?_
          go_simp
          refine wpAnyX_take (i := 12) (v := .bool true) rfl (by kernel_rfl) (by kernel_rfl) (by kernel_rfl) (by kernel_rfl) (fun _ _ _ h => h) HS.out (Or.inl ⟨by rfl, fun w hS => by obtain ⟨hS1, hS2, hS3⟩ := hS; go_simp⟩) ?_
          go_simp
          refine wpAnyX_done (by kernel_rfl) ?_
          have he0 : w8.cell? ⟨w.heap.size, 0, none⟩ = some (.string ⟨#[]⟩) := (hB8.cell (p := ⟨w.heap.size, 0, none⟩) hzr).trans hd0
          have he1 : w8.cell? ⟨w.heap.size, 1, none⟩ = some (.slice none 0 0) := (hB8.cell (p := ⟨w.heap.size, 1, none⟩) hzr).trans hd1
          have hf0 : w8.frozen? ⟨w.heap.size, 0, none⟩ = false := (hB8.frozen (p := ⟨w.heap.size, 0, none⟩) hzr).trans hg0
          have hf1 : w8.frozen? ⟨w.heap.size, 1, none⟩ = false := (hB8.frozen (p := ⟨w.heap.size, 1, none⟩) hzr).trans hg1
          obtain ⟨hm0, hm1, _⟩ := HS.out
          have q9 := q3.trans (hB8.mono q3.size)
          go_wp2
          refine bodyPost_ret (v := .tuple #[.agg #[.string ⟨#[]⟩, .slice none 0 0], .int .i64 0, .int .i64 4]) (by simp [results, Try.results20, go_sem, he0, he1]) rfl ?_
          rw [HE3.out]
          exact ⟨.slice none 0 0, rfl, ElsOwn.nil_ _ _, (q9.setCell (Nat.le_refl _) _).setCell (Nat.le_refl _) _⟩
      · by_cases e2 : b[k] = 63
        · have H4 := Lib.hid (HH.out.trans (find_pair_at (d := 39) hlt e2))
          obtain ⟨b0, off, rfl, hcc⟩ := hcell
          have t1 : ((b[k].toNat : Int) != 39) = true := by rw [bne, show (39 : Int) = ((39 : Nat) : Int) from rfl, hb1]; simpa using e1
          have t2 : ((b[k].toNat : Int) == 63) = true := by rw [show (63 : Int) = ((63 : Nat) : Int) from rfl, hb2]; simpa using e2
          clear hb1 hb2 e1 e2 HH
          generalize b[k] = y at hcc t1 t2
          go_wp2
          go_roundg (b.length - (k + 1))
          case measure => have := HK.out; omega
          case rel => exact ⟨k + 2, by omega, by go_num, H4.out, rfl⟩
        · have H4 := Lib.hid (HH.out.trans (find_step_at (d := 39) hlt e2 e1))
          obtain ⟨b0, off, rfl, hcc⟩ := hcell
          have t1 : ((b[k].toNat : Int) != 39) = true := by rw [bne, show (39 : Int) = ((39 : Nat) : Int) from rfl, hb1]; simpa using e1
          have t2 : ((b[k].toNat : Int) == 63) = false := by rw [show (63 : Int) = ((63 : Nat) : Int) from rfl, hb2]; simpa using e2
          clear hb1 hb2 e1 e2 HH
          generalize b[k] = y at hcc t1 t2
          go_wp2
          go_roundg (b.length - k)
          case measure => have := HK.out; omega
          case rel => exact ⟨k + 1, by omega, by go_num, H4.out, rfl⟩
    · have hge : b.length ≤ k := by omega
      have HE : Hid (nextF b = (noSeg, 0, 5)) := by show _ = _; unfold nextF nextW; rw [HH.out, List.drop_eq_nil_of_le hge]; rfl
      have hd1 : decide ((k : Int) < (b.length : Int)) = false := by simp; omega
      have hd2 : decide ((b.length : Int) ≤ (k : Int)) = true := by simp; omega
      clear hlt HH
      go_wp2
      refine bodyPost_ret (v := .tuple #[.agg #[.string ⟨#[]⟩, .slice none 0 0], .int .i64 0, .int .i64 5]) (by simp [results, Try.results20, go_sem, hc0, hc1]) rfl ?_
      rw [HE.out]
      exact ⟨.slice none 0 0, rfl, ElsOwn.nil_ _ _, (q0.setCell (Nat.le_refl _) _).setCell (Nat.le_refl _) _⟩
end Go.Proofs.Ytmnflbgejagpmaa
