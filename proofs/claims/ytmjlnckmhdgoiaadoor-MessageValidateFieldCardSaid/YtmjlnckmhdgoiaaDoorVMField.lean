/- The law MessageValidateField: the walk. -/
import Derived.Test.YtmjlnckmhdgoiaaDoorVMVal
import Derived.Deep.CutBlock
namespace Go.Proofs.YtmjlnckmhdgoiaaDoor
open Go.RowKit
set_option linter.unusedVariables false

/-- a slice and an error -/
def SlErr (w : World) (n : Int) (e : Ending) (w' : World) : Prop := ∃ A k c, e = .returned (.tuple #[.slice A k c, .int .i64 n]) ∧ Below w.heap.size w w'
theorem encode_err (m : Msg) (A : Option Addr) (c : Nat) (w : World) (hr : Rd w A (ints m.list)) (hb : MBd m) (ht : Tab w) : Calls Tryd.prog 16 #[msgV m A c] w (SlErr w (validM m)) :=
  (encodeM_any m A c w hr hb ht).mono fun e w' ⟨hb, h⟩ => by
    rcases h with ⟨hv, v, rfl, ho⟩ | ⟨hv, rfl⟩
    · obtain ⟨A, c, rfl, _, _, _⟩ := ho.shape
      exact ⟨_, _, _, by rw [hv], hb⟩
    · exact ⟨_, _, _, rfl, hb⟩
theorem segments_err (m : Msg) (A : Option Addr) (c : Nat) (w : World) (hr : Rd w A (ints m.list)) (hb : MBd m) (ht : Tab w) : Calls Tryd.prog 17 #[msgV m A c] w (SlErr w (validM m)) :=
  (segments_any m A c w hr hb ht).mono fun e w' ⟨hb, h⟩ => by
    rcases h with ⟨hv, v, rfl, ho⟩ | ⟨hv, rfl⟩
    · obtain ⟨A, c, rfl, _, _⟩ := ho.at_
      exact ⟨_, _, _, by rw [hv], hb⟩
    · exact ⟨_, _, _, rfl, hb⟩
namespace messageValidateField
/-- the cells lie at A, in a block of which p holds -/
def RdN (w : World) (p : Nat → Prop) (A : Option Addr) (cs : List Value) : Prop := ∀ j u, cs[j]? = some u → ∃ ad, A = some ad ∧ p ad.block ∧ w.cell? (ad.add j) = some u
section
variable {w w' : World} {p q : Nat → Prop} {A : Option Addr} {cs : List Value}
theorem RdN.rd (h : RdN w p A cs) : Rd w A cs := fun j u hu => by
  obtain ⟨ad, h1, _, h2⟩ := h j u hu
  exact ⟨ad, h1, h2⟩
theorem RdN.of_B {B : Nat} (h : RdB w B A cs) (hB : ∀ b, b < B → p b) : RdN w p A cs := fun j u hu => by
  obtain ⟨ad, h1, h3, h2⟩ := h j u hu
  exact ⟨ad, h1, hB _ h3, h2⟩
theorem RdN.imp (h : RdN w p A cs) (hB : ∀ b, b < w.heap.size → p b → q b) : RdN w q A cs := fun j u hu => by
  obtain ⟨ad, h1, h3, h2⟩ := h j u hu
  have := cell_lt h2
  rw [add_block] at this
  exact ⟨ad, h1, hB _ this h3, h2⟩
theorem RdN.below (h : RdN w p A cs) (hb : Below w.heap.size w w') : RdN w' p A cs := fun j u hu => by
  obtain ⟨ad, h1, h3, h2⟩ := h j u hu
  exact ⟨ad, h1, h3, (hb.cell (cell_lt h2)).trans h2⟩
theorem RdN.set {gx : Nat} (h : RdN w p A cs) (hp : ∀ b, p b → b ≠ gx) (k : Nat) (v : Value) : RdN (w.setCell ⟨gx, k, none⟩ v) p A cs := fun j u hu => by
  obtain ⟨ad, h1, h3, h2⟩ := h j u hu
  refine ⟨ad, h1, h3, ?_⟩
  rw [← h2]
  unfold World.cell?
  rw [Below.heap_setCell w ⟨gx, k, none⟩ v _ (by rw [add_block]; exact hp _ h3)]
theorem RdN.of_own {B n c : Nat} {e : TypeId} {v : Value} (h : w.ownsRow B e 1 v n cs) (hv : v = .slice A n c) (hB : ∀ b, B ≤ b → p b) : RdN w p A cs := by
  intro j u hu
  rcases h.2 with ⟨h2, h3⟩ | ⟨g, cap, cur, h2, hg, hh, _, _, _, h6⟩
  · have := h.1
    rw [h3] at this
    have : cs = [] := List.eq_nil_of_length_eq_zero (by simpa using this)
    rw [this] at hu
    simp at hu
  · rw [hv] at h2
    injection h2 with h2 _ _
    refine ⟨_, h2, hB _ hg, ?_⟩
    rw [Addr.add_lit, cell_of_row _ _ _ _ _ _ hh]
    rw [← h6] at hu
    by_cases hj : j < n * 1
    · rw [List.getElem?_take_of_lt hj] at hu
      simpa using hu
    · rw [List.getElem?_take_eq_none (by omega)] at hu; cases hu
theorem RdN.setAll {gx : Nat} (h : RdN w p A cs) (hp : ∀ b, p b → b ≠ gx) (m' : Msg) (A' : Option Addr) (c' : Nat) : RdN (((((((((((((w.setCell ⟨gx, 0, none⟩ (.int .i64 m'.kind)).setCell ⟨gx, 1, none⟩ (.int .i64 m'.src)).setCell ⟨gx, 2, none⟩ (.int .i64 m'.dst)).setCell ⟨gx, 3, none⟩ (.int .i64 m'.number)).setCell ⟨gx, 4, none⟩ (.int .i64 m'.day)).setCell ⟨gx, 5, none⟩ (.int .i64 m'.lot)).setCell ⟨gx, 6, none⟩ (.int .i64 m'.other)).setCell ⟨gx, 7, none⟩ (.string ⟨m'.code.toArray⟩)).setCell ⟨gx, 8, none⟩ (.string ⟨m'.country.toArray⟩)).setCell ⟨gx, 9, none⟩ (.int .i64 m'.quantity)).setCell ⟨gx, 10, none⟩ (.int .i64 m'.amount)).setCell ⟨gx, 11, none⟩ (.slice A' m'.list.length c')).setCell ⟨gx, 12, none⟩ (.string ⟨m'.text.toArray⟩)) p A cs := by
  have h := h.set hp 0 (.int .i64 m'.kind)
  have h := h.set hp 1 (.int .i64 m'.src)
  have h := h.set hp 2 (.int .i64 m'.dst)
  have h := h.set hp 3 (.int .i64 m'.number)
  have h := h.set hp 4 (.int .i64 m'.day)
  have h := h.set hp 5 (.int .i64 m'.lot)
  have h := h.set hp 6 (.int .i64 m'.other)
  have h := h.set hp 7 (.string ⟨m'.code.toArray⟩)
  have h := h.set hp 8 (.string ⟨m'.country.toArray⟩)
  have h := h.set hp 9 (.int .i64 m'.quantity)
  have h := h.set hp 10 (.int .i64 m'.amount)
  have h := h.set hp 11 (.slice A' m'.list.length c')
  have h := h.set hp 12 (.string ⟨m'.text.toArray⟩)
  exact h
end
/-- behind the first statement: the valid message in block gx, the raw one in block g -/
def FMid (w : World) (g : Nat) (m2 : Msg) (A : Option Addr) (c : Nat) (s7 : Value) (wx : World) : Prop :=
  ∃ m5 A5 c5 gx, s7 = .pointer (some ⟨gx, 0, none⟩) ∧ MBlk wx gx m5 A5 c5 ∧ MBlk wx g m2 A c ∧ OkM m5 ∧ RdN wx (fun b => b ≠ g ∧ b ≠ gx) A5 (ints m5.list) ∧ RdN wx (fun b => b ≠ gx) A (ints m2.list) ∧ Below g w wx ∧ g < gx
def FTail (w : World) (g : Nat) (m : Msg) (A : Option Addr) (c : Nat) (Wa : World) (gx : Nat) (m5 : Msg) (A5 : Option Addr) (c5 : Nat) : Prop :=
  MBlk Wa gx zeroM none 0 ∧ MBlk Wa g m A c ∧ OkM m5 ∧ RdN Wa (fun b => b ≠ g ∧ b ≠ gx) A5 (ints m5.list) ∧ Below g w Wa ∧ g < gx
theorem share {P F : World → Nat → Msg → Option Addr → Nat → Prop} {R : Prop} (main : (∀ Wa gx m5 A5 c5, F Wa gx m5 A5 c5 → P Wa gx m5 A5 c5) → R) (tail : ∀ Wa gx m5 A5 c5, F Wa gx m5 A5 c5 → P Wa gx m5 A5 c5) : R := main tail
/-- behind the switch: some message in block gx -/
def FDone (w : World) (g gx : Nat) (wx : World) : Prop :=
  ∃ m5 A5 c5, MBlk wx gx m5 A5 c5 ∧ MBd m5 ∧ RdN wx (fun b => b ≠ gx) A5 (ints m5.list) ∧ Below g w wx ∧ g < gx
set_option maxHeartbeats 40000000 in
set_option maxRecDepth 100000 in
theorem walkMessageValidateField (Al : Option Addr) (cl : Nat) (l : List Int) (m : Msg) (A : Option Addr) (c : Nat) (x : Int) (w : World) (hl : SlI w Al cl l) (hr : Rd w A (ints m.list)) (hc : m.list.length ≤ c) (hcm : c ≤ maxLen) (hb : MBd m) (hx : -9223372036854775808 ≤ x ∧ x ≤ 9223372036854775807) (hL : laidMetH Tryd.prog Rows.messageValidateFieldRow.laid w) :
    Calls Tryd.prog 4 #[.slice Al l.length cl, msgV m A c, .int .i64 x] w fun e w' => e = .returned (.bool true) ∧ Below w.heap.size w w' := by
  have ht : Tab w := tab_of_laid hL rfl rfl
  have q0 := (Below.refl w.heap.size w).alloc (Nat.le_refl _) (.cells (msgC m A c) 24)
  have hM0 : MBlk (w.alloc (.cells (msgC m A c) 24)) w.heap.size m A c := heap_alloc_new w _
  have hzz : w.heap.size < (w.alloc (.cells (msgC m A c) 24)).heap.size := by simp
  obtain ⟨g, hg⟩ : ∃ g, w.heap.size = g := ⟨_, rfl⟩
  rw [hg] at q0 hM0 hzz
  have HSM := Lib.hid (fun W => small_any m A c W hc hb)
  generalize hW0 : w.alloc (.cells (msgC m A c) 24) = W0 at q0 hM0 hzz
  have hlmax := hl.max
  have hll := hl.le
  have hb2 := small_bd hb
  have HR := Lib.hid ((RdB.of_rd (small_rd hr)))
  have HLR := Lib.hid (RdB.of_rd hl.rd)
  generalize smallM m = m2 at HSM hb2 HR
  have HB := Lib.hid hb2
  rw [hg] at HR HLR
  have HMA := Lib.hid (fun (W : World) (h : Below g w W) => mMessage_any Al cl l W ((HLR.out.below h).rd) hll (by omega))
  have HT := Lib.hid ht
  have HW := Lib.hid (fun (W : World) => within_any x 13 W (by omega) (by omega))
  have hx0 : 0 ≤ x % 13 := by omega
  have hx1 : x % 13 < 13 := by omega
  generalize x % 13 = k at HW hx0 hx1
  clear hr hb hl hL HLR ht hb2 hx
  go_enter Tryd.func4, Tryd.ntmps4
  go_wp2_with fail
  clear hW0
  go_upto_region 1 with (fail)
  go_cut [7, 13, 14, 15, 16] (fun s7 s13 s14 s15 s16 wx => FMid w g m2 A c s7 wx)
  case first =>
    have hMc : MBlk W0.drew g m A c := hM0
    have hcur : Below g w W0.drew := q0.drew
    have hzc : g < W0.drew.heap.size := hzz
    refine wp_region_any (by kernel_rfl) ?_
    change wpAny _ _ _ _ _ _ _ (World.drew _)
    refine wpAny_take (i := 0) (v := .slice Al l.length cl) rfl (by kernel_rfl) (by kernel_rfl) (by kernel_rfl) (fun _ _ _ h => h) (Or.inl ⟨by rfl, fun w => by go_simp⟩) ?_
    go_simp
    apply share (F := fun Wa gx m5 A5 c5 => FTail w g m A c Wa gx m5 A5 c5)
    case main =>
      intro TAIL
      refine wpAny_ready (rs := [1, 2, 4]) (by kernel_rfl) (by simp) ?_
      refine AllReady.cons rfl (fun K hK => ?_) (AllReady.cons rfl (fun K hK => ?_) (AllReady.cons rfl (fun K hK => ?_) AllReady.nil))
      · go_simp
        go_wp2_with (go_at_call 13; refine (HMA.out _ hcur).mono ?_; rintro e w5 ⟨m5, A5, c5, rfl, ok5, ho5, hb5⟩)
        have hR5 := RdN.of_own (p := fun b => b ≠ g) ho5 rfl (fun b hb => by omega)
        have hMc := hMc.below hb5
        have hcur := hcur.trans (hb5.mono (Nat.le_of_lt hzc))
        have hzc := Nat.lt_of_lt_of_le hzc hb5.size
        clear hb5 ho5
        refine wpAny_ready (rs := [2, 4]) (by kernel_rfl) (by simp) ?_
        refine AllReady.cons rfl (fun K hK => ?_) (AllReady.cons rfl (fun K hK => ?_) AllReady.nil)
        · obtain ⟨d0, d1, d2, d3, d4, d5, d6, d7, d8, d9, d10, d11, d12⟩ := hMc.all
          go_simp
          refine hK _ _ ?_
          clear hK K d0 d1 d2 d3 d4 d5 d6 d7 d8 d9 d10 d11 d12
          refine wpAny_ready (rs := [3, 4]) (by kernel_rfl) (by simp) ?_
          refine AllReady.cons rfl (fun K hK => ?_) (AllReady.cons rfl (fun K hK => ?_) AllReady.nil)
          · go_simp
            go_wp2_with (go_at_call 10; refine (HSM.out _).mono ?_; rintro e w6 ⟨rfl, hb6⟩)
            have hR5 := hR5.below hb6
            have hMc := hMc.below hb6
            have hcur := hcur.trans (hb6.mono (Nat.le_of_lt hzc))
            have hzc := Nat.lt_of_lt_of_le hzc hb6.size
            clear hb6
            refine wpAny_ready (rs := [4]) (by kernel_rfl) (by simp) ?_
            refine AllReady.cons rfl (fun K hK => ?_) AllReady.nil
            go_simp
            have hMx : MBlk (w6.alloc (.cells #[.int .i64 0, .int .i64 0, .int .i64 0, .int .i64 0, .int .i64 0, .int .i64 0, .int .i64 0, .string ⟨#[]⟩, .string ⟨#[]⟩, .int .i64 0, .int .i64 0, .slice none 0 0, .string ⟨#[]⟩] 24)) w6.heap.size zeroM none 0 := heap_alloc_new w6 _
            have qa : Below w6.heap.size w6 (w6.alloc (.cells #[.int .i64 0, .int .i64 0, .int .i64 0, .int .i64 0, .int .i64 0, .int .i64 0, .int .i64 0, .string ⟨#[]⟩, .string ⟨#[]⟩, .int .i64 0, .int .i64 0, .slice none 0 0, .string ⟨#[]⟩] 24)) := (Below.refl _ w6).alloc (Nat.le_refl _) (.cells #[.int .i64 0, .int .i64 0, .int .i64 0, .int .i64 0, .int .i64 0, .int .i64 0, .int .i64 0, .string ⟨#[]⟩, .string ⟨#[]⟩, .int .i64 0, .int .i64 0, .slice none 0 0, .string ⟨#[]⟩] 24)
            have hzx : w6.heap.size < (w6.alloc (.cells #[.int .i64 0, .int .i64 0, .int .i64 0, .int .i64 0, .int .i64 0, .int .i64 0, .int .i64 0, .string ⟨#[]⟩, .string ⟨#[]⟩, .int .i64 0, .int .i64 0, .slice none 0 0, .string ⟨#[]⟩] 24)).heap.size := (show w6.heap.size < (w6.alloc (.cells #[.int .i64 0, .int .i64 0, .int .i64 0, .int .i64 0, .int .i64 0, .int .i64 0, .int .i64 0, .string ⟨#[]⟩, .string ⟨#[]⟩, .int .i64 0, .int .i64 0, .slice none 0 0, .string ⟨#[]⟩] 24)).heap.size by simp)
            have hgx : g < w6.heap.size := hzc
            have hMc := hMc.below qa
            have hcur := hcur.trans (qa.mono (Nat.le_of_lt hgx))
            have hzc := Nat.lt_of_lt_of_le hzc qa.size
            have hN5 := (hR5.imp (q := fun b => b ≠ g ∧ b ≠ w6.heap.size) (fun b h1 h2 => ⟨h2, Nat.ne_of_lt h1⟩)).below qa
            clear hR5
            refine hK _ _ ?_
            clear hK K qa
            generalize hGA : (w6.alloc (.cells #[.int .i64 0, .int .i64 0, .int .i64 0, .int .i64 0, .int .i64 0, .int .i64 0, .int .i64 0, .string ⟨#[]⟩, .string ⟨#[]⟩, .int .i64 0, .int .i64 0, .slice none 0 0, .string ⟨#[]⟩] 24)) = Wa at hMx hMc hcur hzx hzc hN5 ⊢
            generalize hGX : w6.heap.size = gx at hMx hgx hzx hN5 ⊢
            clear hGA hGX
            change wpAny _ _ _ _ _ #[true, true, true, true, true, false, false] _ _
            exact TAIL Wa gx m5 A5 c5 ⟨hMx, hMc, ok5, hN5, hcur, hgx⟩
          · go_simp
            have hMx : MBlk (w5.alloc (.cells #[.int .i64 0, .int .i64 0, .int .i64 0, .int .i64 0, .int .i64 0, .int .i64 0, .int .i64 0, .string ⟨#[]⟩, .string ⟨#[]⟩, .int .i64 0, .int .i64 0, .slice none 0 0, .string ⟨#[]⟩] 24)) w5.heap.size zeroM none 0 := heap_alloc_new w5 _
            have qa : Below w5.heap.size w5 (w5.alloc (.cells #[.int .i64 0, .int .i64 0, .int .i64 0, .int .i64 0, .int .i64 0, .int .i64 0, .int .i64 0, .string ⟨#[]⟩, .string ⟨#[]⟩, .int .i64 0, .int .i64 0, .slice none 0 0, .string ⟨#[]⟩] 24)) := (Below.refl _ w5).alloc (Nat.le_refl _) (.cells #[.int .i64 0, .int .i64 0, .int .i64 0, .int .i64 0, .int .i64 0, .int .i64 0, .int .i64 0, .string ⟨#[]⟩, .string ⟨#[]⟩, .int .i64 0, .int .i64 0, .slice none 0 0, .string ⟨#[]⟩] 24)
            have hzx : w5.heap.size < (w5.alloc (.cells #[.int .i64 0, .int .i64 0, .int .i64 0, .int .i64 0, .int .i64 0, .int .i64 0, .int .i64 0, .string ⟨#[]⟩, .string ⟨#[]⟩, .int .i64 0, .int .i64 0, .slice none 0 0, .string ⟨#[]⟩] 24)).heap.size := (show w5.heap.size < (w5.alloc (.cells #[.int .i64 0, .int .i64 0, .int .i64 0, .int .i64 0, .int .i64 0, .int .i64 0, .int .i64 0, .string ⟨#[]⟩, .string ⟨#[]⟩, .int .i64 0, .int .i64 0, .slice none 0 0, .string ⟨#[]⟩] 24)).heap.size by simp)
            have hgx : g < w5.heap.size := hzc
            have hMc := hMc.below qa
            have hcur := hcur.trans (qa.mono (Nat.le_of_lt hgx))
            have hzc := Nat.lt_of_lt_of_le hzc qa.size
            have hN5 := (hR5.imp (q := fun b => b ≠ g ∧ b ≠ w5.heap.size) (fun b h1 h2 => ⟨h2, Nat.ne_of_lt h1⟩)).below qa
            clear hR5
            refine hK _ _ ?_
            clear hK K qa
            generalize hGA : (w5.alloc (.cells #[.int .i64 0, .int .i64 0, .int .i64 0, .int .i64 0, .int .i64 0, .int .i64 0, .int .i64 0, .string ⟨#[]⟩, .string ⟨#[]⟩, .int .i64 0, .int .i64 0, .slice none 0 0, .string ⟨#[]⟩] 24)) = Wa at hMx hMc hcur hzx hzc hN5 ⊢
            generalize hGX : w5.heap.size = gx at hMx hgx hzx hN5 ⊢
            clear hGA hGX
            refine wpAny_ready (rs := [3]) (by kernel_rfl) (by simp) ?_
            refine AllReady.cons rfl (fun K hK => ?_) AllReady.nil
            go_simp
            go_wp2_with (go_at_call 10; refine (HSM.out _).mono ?_; rintro e w6 ⟨rfl, hb6⟩)
            have hN5 := hN5.below hb6
            have hMx := hMx.below hb6
            have hzx := Nat.lt_of_lt_of_le hzx hb6.size
            have hMc := hMc.below hb6
            have hcur := hcur.trans (hb6.mono (Nat.le_of_lt hzc))
            have hzc := Nat.lt_of_lt_of_le hzc hb6.size
            clear hb6
            change wpAny _ _ _ _ _ #[true, true, true, true, true, false, false] _ _
            exact TAIL w6 gx m5 A5 c5 ⟨hMx, hMc, ok5, hN5, hcur, hgx⟩
        · go_simp
          have hMx : MBlk (w5.alloc (.cells #[.int .i64 0, .int .i64 0, .int .i64 0, .int .i64 0, .int .i64 0, .int .i64 0, .int .i64 0, .string ⟨#[]⟩, .string ⟨#[]⟩, .int .i64 0, .int .i64 0, .slice none 0 0, .string ⟨#[]⟩] 24)) w5.heap.size zeroM none 0 := heap_alloc_new w5 _
          have qa : Below w5.heap.size w5 (w5.alloc (.cells #[.int .i64 0, .int .i64 0, .int .i64 0, .int .i64 0, .int .i64 0, .int .i64 0, .int .i64 0, .string ⟨#[]⟩, .string ⟨#[]⟩, .int .i64 0, .int .i64 0, .slice none 0 0, .string ⟨#[]⟩] 24)) := (Below.refl _ w5).alloc (Nat.le_refl _) (.cells #[.int .i64 0, .int .i64 0, .int .i64 0, .int .i64 0, .int .i64 0, .int .i64 0, .int .i64 0, .string ⟨#[]⟩, .string ⟨#[]⟩, .int .i64 0, .int .i64 0, .slice none 0 0, .string ⟨#[]⟩] 24)
          have hzx : w5.heap.size < (w5.alloc (.cells #[.int .i64 0, .int .i64 0, .int .i64 0, .int .i64 0, .int .i64 0, .int .i64 0, .int .i64 0, .string ⟨#[]⟩, .string ⟨#[]⟩, .int .i64 0, .int .i64 0, .slice none 0 0, .string ⟨#[]⟩] 24)).heap.size := (show w5.heap.size < (w5.alloc (.cells #[.int .i64 0, .int .i64 0, .int .i64 0, .int .i64 0, .int .i64 0, .int .i64 0, .int .i64 0, .string ⟨#[]⟩, .string ⟨#[]⟩, .int .i64 0, .int .i64 0, .slice none 0 0, .string ⟨#[]⟩] 24)).heap.size by simp)
          have hgx : g < w5.heap.size := hzc
          have hMc := hMc.below qa
          have hcur := hcur.trans (qa.mono (Nat.le_of_lt hgx))
          have hzc := Nat.lt_of_lt_of_le hzc qa.size
          have hN5 := (hR5.imp (q := fun b => b ≠ g ∧ b ≠ w5.heap.size) (fun b h1 h2 => ⟨h2, Nat.ne_of_lt h1⟩)).below qa
          clear hR5
          refine hK _ _ ?_
          clear hK K qa
          generalize hGA : (w5.alloc (.cells #[.int .i64 0, .int .i64 0, .int .i64 0, .int .i64 0, .int .i64 0, .int .i64 0, .int .i64 0, .string ⟨#[]⟩, .string ⟨#[]⟩, .int .i64 0, .int .i64 0, .slice none 0 0, .string ⟨#[]⟩] 24)) = Wa at hMx hMc hcur hzx hzc hN5 ⊢
          generalize hGX : w5.heap.size = gx at hMx hgx hzx hN5 ⊢
          clear hGA hGX
          refine wpAny_ready (rs := [2]) (by kernel_rfl) (by simp) ?_
          refine AllReady.cons rfl (fun K hK => ?_) AllReady.nil
          obtain ⟨d0, d1, d2, d3, d4, d5, d6, d7, d8, d9, d10, d11, d12⟩ := hMc.all
          go_simp
          refine hK _ _ ?_
          clear hK K d0 d1 d2 d3 d4 d5 d6 d7 d8 d9 d10 d11 d12
          refine wpAny_ready (rs := [3]) (by kernel_rfl) (by simp) ?_
          refine AllReady.cons rfl (fun K hK => ?_) AllReady.nil
          go_simp
          go_wp2_with (go_at_call 10; refine (HSM.out _).mono ?_; rintro e w6 ⟨rfl, hb6⟩)
          have hN5 := hN5.below hb6
          have hMx := hMx.below hb6
          have hzx := Nat.lt_of_lt_of_le hzx hb6.size
          have hMc := hMc.below hb6
          have hcur := hcur.trans (hb6.mono (Nat.le_of_lt hzc))
          have hzc := Nat.lt_of_lt_of_le hzc hb6.size
          clear hb6
          change wpAny _ _ _ _ _ #[true, true, true, true, true, false, false] _ _
          exact TAIL w6 gx m5 A5 c5 ⟨hMx, hMc, ok5, hN5, hcur, hgx⟩
      · obtain ⟨d0, d1, d2, d3, d4, d5, d6, d7, d8, d9, d10, d11, d12⟩ := hMc.all
        go_simp
        refine hK _ _ ?_
        clear hK K d0 d1 d2 d3 d4 d5 d6 d7 d8 d9 d10 d11 d12
        refine wpAny_ready (rs := [1, 4]) (by kernel_rfl) (by simp) ?_
        refine AllReady.cons rfl (fun K hK => ?_) (AllReady.cons rfl (fun K hK => ?_) AllReady.nil)
        · go_simp
          go_wp2_with (go_at_call 13; refine (HMA.out _ hcur).mono ?_; rintro e w5 ⟨m5, A5, c5, rfl, ok5, ho5, hb5⟩)
          have hR5 := RdN.of_own (p := fun b => b ≠ g) ho5 rfl (fun b hb => by omega)
          have hMc := hMc.below hb5
          have hcur := hcur.trans (hb5.mono (Nat.le_of_lt hzc))
          have hzc := Nat.lt_of_lt_of_le hzc hb5.size
          clear hb5 ho5
          refine wpAny_ready (rs := [3, 4]) (by kernel_rfl) (by simp) ?_
          refine AllReady.cons rfl (fun K hK => ?_) (AllReady.cons rfl (fun K hK => ?_) AllReady.nil)
          · go_simp
            go_wp2_with (go_at_call 10; refine (HSM.out _).mono ?_; rintro e w6 ⟨rfl, hb6⟩)
            have hR5 := hR5.below hb6
            have hMc := hMc.below hb6
            have hcur := hcur.trans (hb6.mono (Nat.le_of_lt hzc))
            have hzc := Nat.lt_of_lt_of_le hzc hb6.size
            clear hb6
            refine wpAny_ready (rs := [4]) (by kernel_rfl) (by simp) ?_
            refine AllReady.cons rfl (fun K hK => ?_) AllReady.nil
            go_simp
            have hMx : MBlk (w6.alloc (.cells #[.int .i64 0, .int .i64 0, .int .i64 0, .int .i64 0, .int .i64 0, .int .i64 0, .int .i64 0, .string ⟨#[]⟩, .string ⟨#[]⟩, .int .i64 0, .int .i64 0, .slice none 0 0, .string ⟨#[]⟩] 24)) w6.heap.size zeroM none 0 := heap_alloc_new w6 _
            have qa : Below w6.heap.size w6 (w6.alloc (.cells #[.int .i64 0, .int .i64 0, .int .i64 0, .int .i64 0, .int .i64 0, .int .i64 0, .int .i64 0, .string ⟨#[]⟩, .string ⟨#[]⟩, .int .i64 0, .int .i64 0, .slice none 0 0, .string ⟨#[]⟩] 24)) := (Below.refl _ w6).alloc (Nat.le_refl _) (.cells #[.int .i64 0, .int .i64 0, .int .i64 0, .int .i64 0, .int .i64 0, .int .i64 0, .int .i64 0, .string ⟨#[]⟩, .string ⟨#[]⟩, .int .i64 0, .int .i64 0, .slice none 0 0, .string ⟨#[]⟩] 24)
            have hzx : w6.heap.size < (w6.alloc (.cells #[.int .i64 0, .int .i64 0, .int .i64 0, .int .i64 0, .int .i64 0, .int .i64 0, .int .i64 0, .string ⟨#[]⟩, .string ⟨#[]⟩, .int .i64 0, .int .i64 0, .slice none 0 0, .string ⟨#[]⟩] 24)).heap.size := (show w6.heap.size < (w6.alloc (.cells #[.int .i64 0, .int .i64 0, .int .i64 0, .int .i64 0, .int .i64 0, .int .i64 0, .int .i64 0, .string ⟨#[]⟩, .string ⟨#[]⟩, .int .i64 0, .int .i64 0, .slice none 0 0, .string ⟨#[]⟩] 24)).heap.size by simp)
            have hgx : g < w6.heap.size := hzc
            have hMc := hMc.below qa
            have hcur := hcur.trans (qa.mono (Nat.le_of_lt hgx))
            have hzc := Nat.lt_of_lt_of_le hzc qa.size
            have hN5 := (hR5.imp (q := fun b => b ≠ g ∧ b ≠ w6.heap.size) (fun b h1 h2 => ⟨h2, Nat.ne_of_lt h1⟩)).below qa
            clear hR5
            refine hK _ _ ?_
            clear hK K qa
            generalize hGA : (w6.alloc (.cells #[.int .i64 0, .int .i64 0, .int .i64 0, .int .i64 0, .int .i64 0, .int .i64 0, .int .i64 0, .string ⟨#[]⟩, .string ⟨#[]⟩, .int .i64 0, .int .i64 0, .slice none 0 0, .string ⟨#[]⟩] 24)) = Wa at hMx hMc hcur hzx hzc hN5 ⊢
            generalize hGX : w6.heap.size = gx at hMx hgx hzx hN5 ⊢
            clear hGA hGX
            change wpAny _ _ _ _ _ #[true, true, true, true, true, false, false] _ _
            exact TAIL Wa gx m5 A5 c5 ⟨hMx, hMc, ok5, hN5, hcur, hgx⟩
          · go_simp
            have hMx : MBlk (w5.alloc (.cells #[.int .i64 0, .int .i64 0, .int .i64 0, .int .i64 0, .int .i64 0, .int .i64 0, .int .i64 0, .string ⟨#[]⟩, .string ⟨#[]⟩, .int .i64 0, .int .i64 0, .slice none 0 0, .string ⟨#[]⟩] 24)) w5.heap.size zeroM none 0 := heap_alloc_new w5 _
            have qa : Below w5.heap.size w5 (w5.alloc (.cells #[.int .i64 0, .int .i64 0, .int .i64 0, .int .i64 0, .int .i64 0, .int .i64 0, .int .i64 0, .string ⟨#[]⟩, .string ⟨#[]⟩, .int .i64 0, .int .i64 0, .slice none 0 0, .string ⟨#[]⟩] 24)) := (Below.refl _ w5).alloc (Nat.le_refl _) (.cells #[.int .i64 0, .int .i64 0, .int .i64 0, .int .i64 0, .int .i64 0, .int .i64 0, .int .i64 0, .string ⟨#[]⟩, .string ⟨#[]⟩, .int .i64 0, .int .i64 0, .slice none 0 0, .string ⟨#[]⟩] 24)
            have hzx : w5.heap.size < (w5.alloc (.cells #[.int .i64 0, .int .i64 0, .int .i64 0, .int .i64 0, .int .i64 0, .int .i64 0, .int .i64 0, .string ⟨#[]⟩, .string ⟨#[]⟩, .int .i64 0, .int .i64 0, .slice none 0 0, .string ⟨#[]⟩] 24)).heap.size := (show w5.heap.size < (w5.alloc (.cells #[.int .i64 0, .int .i64 0, .int .i64 0, .int .i64 0, .int .i64 0, .int .i64 0, .int .i64 0, .string ⟨#[]⟩, .string ⟨#[]⟩, .int .i64 0, .int .i64 0, .slice none 0 0, .string ⟨#[]⟩] 24)).heap.size by simp)
            have hgx : g < w5.heap.size := hzc
            have hMc := hMc.below qa
            have hcur := hcur.trans (qa.mono (Nat.le_of_lt hgx))
            have hzc := Nat.lt_of_lt_of_le hzc qa.size
            have hN5 := (hR5.imp (q := fun b => b ≠ g ∧ b ≠ w5.heap.size) (fun b h1 h2 => ⟨h2, Nat.ne_of_lt h1⟩)).below qa
            clear hR5
            refine hK _ _ ?_
            clear hK K qa
            generalize hGA : (w5.alloc (.cells #[.int .i64 0, .int .i64 0, .int .i64 0, .int .i64 0, .int .i64 0, .int .i64 0, .int .i64 0, .string ⟨#[]⟩, .string ⟨#[]⟩, .int .i64 0, .int .i64 0, .slice none 0 0, .string ⟨#[]⟩] 24)) = Wa at hMx hMc hcur hzx hzc hN5 ⊢
            generalize hGX : w5.heap.size = gx at hMx hgx hzx hN5 ⊢
            clear hGA hGX
            refine wpAny_ready (rs := [3]) (by kernel_rfl) (by simp) ?_
            refine AllReady.cons rfl (fun K hK => ?_) AllReady.nil
            go_simp
            go_wp2_with (go_at_call 10; refine (HSM.out _).mono ?_; rintro e w6 ⟨rfl, hb6⟩)
            have hN5 := hN5.below hb6
            have hMx := hMx.below hb6
            have hzx := Nat.lt_of_lt_of_le hzx hb6.size
            have hMc := hMc.below hb6
            have hcur := hcur.trans (hb6.mono (Nat.le_of_lt hzc))
            have hzc := Nat.lt_of_lt_of_le hzc hb6.size
            clear hb6
            change wpAny _ _ _ _ _ #[true, true, true, true, true, false, false] _ _
            exact TAIL w6 gx m5 A5 c5 ⟨hMx, hMc, ok5, hN5, hcur, hgx⟩
        · go_simp
          have hMx : MBlk (W0.alloc (.cells #[.int .i64 0, .int .i64 0, .int .i64 0, .int .i64 0, .int .i64 0, .int .i64 0, .int .i64 0, .string ⟨#[]⟩, .string ⟨#[]⟩, .int .i64 0, .int .i64 0, .slice none 0 0, .string ⟨#[]⟩] 24)).drew W0.heap.size zeroM none 0 := heap_alloc_new W0 _
          have qa : Below W0.heap.size W0.drew (W0.alloc (.cells #[.int .i64 0, .int .i64 0, .int .i64 0, .int .i64 0, .int .i64 0, .int .i64 0, .int .i64 0, .string ⟨#[]⟩, .string ⟨#[]⟩, .int .i64 0, .int .i64 0, .slice none 0 0, .string ⟨#[]⟩] 24)).drew := (Below.refl _ W0.drew).alloc (Nat.le_refl _) (.cells #[.int .i64 0, .int .i64 0, .int .i64 0, .int .i64 0, .int .i64 0, .int .i64 0, .int .i64 0, .string ⟨#[]⟩, .string ⟨#[]⟩, .int .i64 0, .int .i64 0, .slice none 0 0, .string ⟨#[]⟩] 24)
          have hzx : W0.heap.size < (W0.alloc (.cells #[.int .i64 0, .int .i64 0, .int .i64 0, .int .i64 0, .int .i64 0, .int .i64 0, .int .i64 0, .string ⟨#[]⟩, .string ⟨#[]⟩, .int .i64 0, .int .i64 0, .slice none 0 0, .string ⟨#[]⟩] 24)).drew.heap.size := (show W0.heap.size < (W0.alloc (.cells #[.int .i64 0, .int .i64 0, .int .i64 0, .int .i64 0, .int .i64 0, .int .i64 0, .int .i64 0, .string ⟨#[]⟩, .string ⟨#[]⟩, .int .i64 0, .int .i64 0, .slice none 0 0, .string ⟨#[]⟩] 24)).heap.size by simp)
          have hgx : g < W0.heap.size := hzc
          have hMc := hMc.below qa
          have hcur := hcur.trans (qa.mono (Nat.le_of_lt hgx))
          have hzc := Nat.lt_of_lt_of_le hzc qa.size
          refine hK _ _ ?_
          clear hK K qa
          generalize hGA : (W0.alloc (.cells #[.int .i64 0, .int .i64 0, .int .i64 0, .int .i64 0, .int .i64 0, .int .i64 0, .int .i64 0, .string ⟨#[]⟩, .string ⟨#[]⟩, .int .i64 0, .int .i64 0, .slice none 0 0, .string ⟨#[]⟩] 24)).drew = Wa at hMx hMc hcur hzx hzc  ⊢
          generalize hGX : W0.heap.size = gx at hMx hgx hzx  ⊢
          clear hGA hGX
          refine wpAny_ready (rs := [1]) (by kernel_rfl) (by simp) ?_
          refine AllReady.cons rfl (fun K hK => ?_) AllReady.nil
          go_simp
          go_wp2_with (go_at_call 13; refine (HMA.out _ hcur).mono ?_; rintro e w5 ⟨m5, A5, c5, rfl, ok5, ho5, hb5⟩)
          have hN5 := RdN.of_own (p := fun b => b ≠ g ∧ b ≠ gx) ho5 rfl (fun b hb => ⟨by omega, by omega⟩)
          have hMx := hMx.below hb5
          have hzx := Nat.lt_of_lt_of_le hzx hb5.size
          have hMc := hMc.below hb5
          have hcur := hcur.trans (hb5.mono (Nat.le_of_lt hzc))
          have hzc := Nat.lt_of_lt_of_le hzc hb5.size
          clear hb5 ho5
          refine wpAny_ready (rs := [3]) (by kernel_rfl) (by simp) ?_
          refine AllReady.cons rfl (fun K hK => ?_) AllReady.nil
          go_simp
          go_wp2_with (go_at_call 10; refine (HSM.out _).mono ?_; rintro e w6 ⟨rfl, hb6⟩)
          have hN5 := hN5.below hb6
          have hMx := hMx.below hb6
          have hzx := Nat.lt_of_lt_of_le hzx hb6.size
          have hMc := hMc.below hb6
          have hcur := hcur.trans (hb6.mono (Nat.le_of_lt hzc))
          have hzc := Nat.lt_of_lt_of_le hzc hb6.size
          clear hb6
          change wpAny _ _ _ _ _ #[true, true, true, true, true, false, false] _ _
          exact TAIL w6 gx m5 A5 c5 ⟨hMx, hMc, ok5, hN5, hcur, hgx⟩
      · go_simp
        have hMx : MBlk (W0.alloc (.cells #[.int .i64 0, .int .i64 0, .int .i64 0, .int .i64 0, .int .i64 0, .int .i64 0, .int .i64 0, .string ⟨#[]⟩, .string ⟨#[]⟩, .int .i64 0, .int .i64 0, .slice none 0 0, .string ⟨#[]⟩] 24)).drew W0.heap.size zeroM none 0 := heap_alloc_new W0 _
        have qa : Below W0.heap.size W0.drew (W0.alloc (.cells #[.int .i64 0, .int .i64 0, .int .i64 0, .int .i64 0, .int .i64 0, .int .i64 0, .int .i64 0, .string ⟨#[]⟩, .string ⟨#[]⟩, .int .i64 0, .int .i64 0, .slice none 0 0, .string ⟨#[]⟩] 24)).drew := (Below.refl _ W0.drew).alloc (Nat.le_refl _) (.cells #[.int .i64 0, .int .i64 0, .int .i64 0, .int .i64 0, .int .i64 0, .int .i64 0, .int .i64 0, .string ⟨#[]⟩, .string ⟨#[]⟩, .int .i64 0, .int .i64 0, .slice none 0 0, .string ⟨#[]⟩] 24)
        have hzx : W0.heap.size < (W0.alloc (.cells #[.int .i64 0, .int .i64 0, .int .i64 0, .int .i64 0, .int .i64 0, .int .i64 0, .int .i64 0, .string ⟨#[]⟩, .string ⟨#[]⟩, .int .i64 0, .int .i64 0, .slice none 0 0, .string ⟨#[]⟩] 24)).drew.heap.size := (show W0.heap.size < (W0.alloc (.cells #[.int .i64 0, .int .i64 0, .int .i64 0, .int .i64 0, .int .i64 0, .int .i64 0, .int .i64 0, .string ⟨#[]⟩, .string ⟨#[]⟩, .int .i64 0, .int .i64 0, .slice none 0 0, .string ⟨#[]⟩] 24)).heap.size by simp)
        have hgx : g < W0.heap.size := hzc
        have hMc := hMc.below qa
        have hcur := hcur.trans (qa.mono (Nat.le_of_lt hgx))
        have hzc := Nat.lt_of_lt_of_le hzc qa.size
        refine hK _ _ ?_
        clear hK K qa
        generalize hGA : (W0.alloc (.cells #[.int .i64 0, .int .i64 0, .int .i64 0, .int .i64 0, .int .i64 0, .int .i64 0, .int .i64 0, .string ⟨#[]⟩, .string ⟨#[]⟩, .int .i64 0, .int .i64 0, .slice none 0 0, .string ⟨#[]⟩] 24)).drew = Wa at hMx hMc hcur hzx hzc  ⊢
        generalize hGX : W0.heap.size = gx at hMx hgx hzx  ⊢
        clear hGA hGX
        refine wpAny_ready (rs := [1, 2]) (by kernel_rfl) (by simp) ?_
        refine AllReady.cons rfl (fun K hK => ?_) (AllReady.cons rfl (fun K hK => ?_) AllReady.nil)
        · go_simp
          go_wp2_with (go_at_call 13; refine (HMA.out _ hcur).mono ?_; rintro e w5 ⟨m5, A5, c5, rfl, ok5, ho5, hb5⟩)
          have hN5 := RdN.of_own (p := fun b => b ≠ g ∧ b ≠ gx) ho5 rfl (fun b hb => ⟨by omega, by omega⟩)
          have hMx := hMx.below hb5
          have hzx := Nat.lt_of_lt_of_le hzx hb5.size
          have hMc := hMc.below hb5
          have hcur := hcur.trans (hb5.mono (Nat.le_of_lt hzc))
          have hzc := Nat.lt_of_lt_of_le hzc hb5.size
          clear hb5 ho5
          refine wpAny_ready (rs := [2]) (by kernel_rfl) (by simp) ?_
          refine AllReady.cons rfl (fun K hK => ?_) AllReady.nil
          obtain ⟨d0, d1, d2, d3, d4, d5, d6, d7, d8, d9, d10, d11, d12⟩ := hMc.all
          go_simp
          refine hK _ _ ?_
          clear hK K d0 d1 d2 d3 d4 d5 d6 d7 d8 d9 d10 d11 d12
          refine wpAny_ready (rs := [3]) (by kernel_rfl) (by simp) ?_
          refine AllReady.cons rfl (fun K hK => ?_) AllReady.nil
          go_simp
          go_wp2_with (go_at_call 10; refine (HSM.out _).mono ?_; rintro e w6 ⟨rfl, hb6⟩)
          have hN5 := hN5.below hb6
          have hMx := hMx.below hb6
          have hzx := Nat.lt_of_lt_of_le hzx hb6.size
          have hMc := hMc.below hb6
          have hcur := hcur.trans (hb6.mono (Nat.le_of_lt hzc))
          have hzc := Nat.lt_of_lt_of_le hzc hb6.size
          clear hb6
          change wpAny _ _ _ _ _ #[true, true, true, true, true, false, false] _ _
          exact TAIL w6 gx m5 A5 c5 ⟨hMx, hMc, ok5, hN5, hcur, hgx⟩
        · obtain ⟨d0, d1, d2, d3, d4, d5, d6, d7, d8, d9, d10, d11, d12⟩ := hMc.all
          go_simp
          refine hK _ _ ?_
          clear hK K d0 d1 d2 d3 d4 d5 d6 d7 d8 d9 d10 d11 d12
          refine wpAny_ready (rs := [1]) (by kernel_rfl) (by simp) ?_
          refine AllReady.cons rfl (fun K hK => ?_) AllReady.nil
          go_simp
          go_wp2_with (go_at_call 13; refine (HMA.out _ hcur).mono ?_; rintro e w5 ⟨m5, A5, c5, rfl, ok5, ho5, hb5⟩)
          have hN5 := RdN.of_own (p := fun b => b ≠ g ∧ b ≠ gx) ho5 rfl (fun b hb => ⟨by omega, by omega⟩)
          have hMx := hMx.below hb5
          have hzx := Nat.lt_of_lt_of_le hzx hb5.size
          have hMc := hMc.below hb5
          have hcur := hcur.trans (hb5.mono (Nat.le_of_lt hzc))
          have hzc := Nat.lt_of_lt_of_le hzc hb5.size
          clear hb5 ho5
          refine wpAny_ready (rs := [3]) (by kernel_rfl) (by simp) ?_
          refine AllReady.cons rfl (fun K hK => ?_) AllReady.nil
          go_simp
          go_wp2_with (go_at_call 10; refine (HSM.out _).mono ?_; rintro e w6 ⟨rfl, hb6⟩)
          have hN5 := hN5.below hb6
          have hMx := hMx.below hb6
          have hzx := Nat.lt_of_lt_of_le hzx hb6.size
          have hMc := hMc.below hb6
          have hcur := hcur.trans (hb6.mono (Nat.le_of_lt hzc))
          have hzc := Nat.lt_of_lt_of_le hzc hb6.size
          clear hb6
          change wpAny _ _ _ _ _ #[true, true, true, true, true, false, false] _ _
          exact TAIL w6 gx m5 A5 c5 ⟨hMx, hMc, ok5, hN5, hcur, hgx⟩
    case tail =>
      rintro Wa gx m5 A5 c5 ⟨hMx, hMc, ok5, hN5, hcur, hgx⟩
      refine wpAny_ready (rs := [5]) (by kernel_rfl) (by simp) ?_
      refine AllReady.cons rfl (fun K hK => ?_) AllReady.nil
      obtain ⟨d0, d1, d2, d3, d4, d5, d6, d7, d8, d9, d10, d11, d12⟩ := hMx.all
      obtain ⟨f0, f1, f2, f3, f4, f5, f6, f7, f8, f9, f10, f11, f12⟩ := hMx.allF
      go_simp
      refine hK _ _ ?_
      clear hK K d0 d1 d2 d3 d4 d5 d6 d7 d8 d9 d10 d11 d12 f0 f1 f2 f3 f4 f5 f6 f7 f8 f9 f10 f11 f12
      refine wpAny_ready (rs := [6]) (by kernel_rfl) (by simp) ?_
      refine AllReady.cons rfl (fun K hK => ?_) AllReady.nil
      have hMx := hMx.putAll m5 A5 c5
      have hMc := hMc.otherAll (show gx ≠ g by omega) m5 A5 c5
      have hN5 := hN5.setAll (fun b h => h.2) m5 A5 c5
      have hcur := putAll_below hcur (Nat.le_of_lt hgx) m5 A5 c5
      generalize hGB : (((((((((((((Wa.setCell ⟨gx, 0, none⟩ (.int .i64 m5.kind)).setCell ⟨gx, 1, none⟩ (.int .i64 m5.src)).setCell ⟨gx, 2, none⟩ (.int .i64 m5.dst)).setCell ⟨gx, 3, none⟩ (.int .i64 m5.number)).setCell ⟨gx, 4, none⟩ (.int .i64 m5.day)).setCell ⟨gx, 5, none⟩ (.int .i64 m5.lot)).setCell ⟨gx, 6, none⟩ (.int .i64 m5.other)).setCell ⟨gx, 7, none⟩ (.string ⟨m5.code.toArray⟩)).setCell ⟨gx, 8, none⟩ (.string ⟨m5.country.toArray⟩)).setCell ⟨gx, 9, none⟩ (.int .i64 m5.quantity)).setCell ⟨gx, 10, none⟩ (.int .i64 m5.amount)).setCell ⟨gx, 11, none⟩ (.slice A5 m5.list.length c5)).setCell ⟨gx, 12, none⟩ (.string ⟨m5.text.toArray⟩)) = Wb at hMx hMc hN5 hcur ⊢
      clear hGB
      obtain ⟨d0, d1, d2, d3, d4, d5, d6, d7, d8, d9, d10, d11, d12⟩ := hMc.all
      obtain ⟨f0, f1, f2, f3, f4, f5, f6, f7, f8, f9, f10, f11, f12⟩ := hMc.allF
      go_simp
      refine hK _ _ ?_
      clear hK K d0 d1 d2 d3 d4 d5 d6 d7 d8 d9 d10 d11 d12 f0 f1 f2 f3 f4 f5 f6 f7 f8 f9 f10 f11 f12
      have hMx := hMx.otherAll (show g ≠ gx by omega) m2 A c
      have hN5 := hN5.setAll (fun b h => h.1) m2 A c
      have hMc := hMc.putAll m2 A c
      have hcur := putAll_below hcur (Nat.le_refl _) m2 A c
      refine wpAny_done (by kernel_rfl) ?_ _
      go_wp2_with fail
      go_meet
      exact ⟨m5, A5, c5, gx, rfl, hMx, hMc, ok5, hN5, RdN.of_B (HR.out.below hcur) (fun b hb => by omega), hcur, hgx⟩
  case rest =>
    obtain ⟨m5, A5, c5, gx, rfl, hM, hMc, ok5, hN5, hNr, hcur, hgx⟩ := hcut
    obtain ⟨wd, rfl⟩ : ∃ x, x = wc := ⟨_, rfl⟩
    obtain ⟨j, hj⟩ : ∃ j : Nat, k = (j : Int) := ⟨k.toNat, by omega⟩
    have hj1 : j < 13 := by omega
    subst hj
    go_upto_block 0 with (go_at_call 15; refine (HW.out _).mono ?_; rintro e w1 ⟨rfl, rfl⟩)
    go_cut [19, 20, 21, 22, 23, 24, 25, 26, 27, 28, 29, 30, 31, 32, 33, 34, 35, 36, 37, 38, 39, 40, 41, 42, 43, 44, 45, 46, 47, 48, 49, 50, 51, 52, 53, 54, 55, 56, 57, 58, 59, 60, 61, 62, 63, 64, 65, 66, 67, 68, 69, 70, 71, 72, 73, 74, 75, 76, 77, 78, 79, 80, 81] (fun s19 s20 s21 s22 s23 s24 s25 s26 s27 s28 s29 s30 s31 s32 s33 s34 s35 s36 s37 s38 s39 s40 s41 s42 s43 s44 s45 s46 s47 s48 s49 s50 s51 s52 s53 s54 s55 s56 s57 s58 s59 s60 s61 s62 s63 s64 s65 s66 s67 s68 s69 s70 s71 s72 s73 s74 s75 s76 s77 s78 s79 s80 s81 wx => FDone w g gx wx)
    case first =>
      have hb5 := ok5.bd
      have hbr := HB.out
      obtain ⟨d0, d1, d2, d3, d4, d5, d6, d7, d8, d9, d10, d11, d12⟩ := hM.all
      obtain ⟨f0, f1, f2, f3, f4, f5, f6, f7, f8, f9, f10, f11, f12⟩ := hM.allF
      obtain ⟨e0, e1, e2, e3, e4, e5, e6, e7, e8, e9, e10, e11, e12⟩ := hMc.all
      have HN5 := Lib.hid hN5
      have HNR := Lib.hid hNr
      have HM := Lib.hid hM
      have HC := Lib.hid hcur
      clear hN5 hNr hM hMc hcur HMA HSM HR HT HW
      match j, hj1 with
      | 0, _ =>
        go_wp2_with fail
        go_meet
        exact ⟨_, _, _, HM.out.setKind m2.kind, ⟨hb5.code, hb5.country, hb5.list, hb5.text⟩, (HN5.out.imp (q := fun b => b ≠ gx) (fun b _ h => h.2)).set (fun b h => h) 0 _, HC.out.setCell (p := ⟨gx, 0, none⟩) (Nat.le_of_lt hgx) _, hgx⟩
      | 1, _ =>
        go_wp2_with fail
        go_meet
        exact ⟨_, _, _, HM.out.setSrc m2.src, ⟨hb5.code, hb5.country, hb5.list, hb5.text⟩, (HN5.out.imp (q := fun b => b ≠ gx) (fun b _ h => h.2)).set (fun b h => h) 1 _, HC.out.setCell (p := ⟨gx, 1, none⟩) (Nat.le_of_lt hgx) _, hgx⟩
      | 2, _ =>
        go_wp2_with fail
        go_meet
        exact ⟨_, _, _, HM.out.setDst m2.dst, ⟨hb5.code, hb5.country, hb5.list, hb5.text⟩, (HN5.out.imp (q := fun b => b ≠ gx) (fun b _ h => h.2)).set (fun b h => h) 2 _, HC.out.setCell (p := ⟨gx, 2, none⟩) (Nat.le_of_lt hgx) _, hgx⟩
      | 3, _ =>
        go_wp2_with fail
        go_meet
        exact ⟨_, _, _, HM.out.setNumber m2.number, ⟨hb5.code, hb5.country, hb5.list, hb5.text⟩, (HN5.out.imp (q := fun b => b ≠ gx) (fun b _ h => h.2)).set (fun b h => h) 3 _, HC.out.setCell (p := ⟨gx, 3, none⟩) (Nat.le_of_lt hgx) _, hgx⟩
      | 4, _ =>
        go_wp2_with fail
        go_meet
        exact ⟨_, _, _, HM.out.setDay m2.day, ⟨hb5.code, hb5.country, hb5.list, hb5.text⟩, (HN5.out.imp (q := fun b => b ≠ gx) (fun b _ h => h.2)).set (fun b h => h) 4 _, HC.out.setCell (p := ⟨gx, 4, none⟩) (Nat.le_of_lt hgx) _, hgx⟩
      | 5, _ =>
        go_wp2_with fail
        go_meet
        exact ⟨_, _, _, HM.out.setLot m2.lot, ⟨hb5.code, hb5.country, hb5.list, hb5.text⟩, (HN5.out.imp (q := fun b => b ≠ gx) (fun b _ h => h.2)).set (fun b h => h) 5 _, HC.out.setCell (p := ⟨gx, 5, none⟩) (Nat.le_of_lt hgx) _, hgx⟩
      | 6, _ =>
        go_wp2_with fail
        go_meet
        exact ⟨_, _, _, HM.out.setOther m2.other, ⟨hb5.code, hb5.country, hb5.list, hb5.text⟩, (HN5.out.imp (q := fun b => b ≠ gx) (fun b _ h => h.2)).set (fun b h => h) 6 _, HC.out.setCell (p := ⟨gx, 6, none⟩) (Nat.le_of_lt hgx) _, hgx⟩
      | 7, _ =>
        go_wp2_with fail
        go_meet
        exact ⟨_, _, _, HM.out.setCode m2.code, ⟨hbr.code, hb5.country, hb5.list, hb5.text⟩, (HN5.out.imp (q := fun b => b ≠ gx) (fun b _ h => h.2)).set (fun b h => h) 7 _, HC.out.setCell (p := ⟨gx, 7, none⟩) (Nat.le_of_lt hgx) _, hgx⟩
      | 8, _ =>
        go_wp2_with fail
        go_meet
        exact ⟨_, _, _, HM.out.setCountry m2.country, ⟨hb5.code, hbr.country, hb5.list, hb5.text⟩, (HN5.out.imp (q := fun b => b ≠ gx) (fun b _ h => h.2)).set (fun b h => h) 8 _, HC.out.setCell (p := ⟨gx, 8, none⟩) (Nat.le_of_lt hgx) _, hgx⟩
      | 9, _ =>
        go_wp2_with fail
        go_meet
        exact ⟨_, _, _, HM.out.setQuantity m2.quantity, ⟨hb5.code, hb5.country, hb5.list, hb5.text⟩, (HN5.out.imp (q := fun b => b ≠ gx) (fun b _ h => h.2)).set (fun b h => h) 9 _, HC.out.setCell (p := ⟨gx, 9, none⟩) (Nat.le_of_lt hgx) _, hgx⟩
      | 10, _ =>
        go_wp2_with fail
        go_meet
        exact ⟨_, _, _, HM.out.setAmount m2.amount, ⟨hb5.code, hb5.country, hb5.list, hb5.text⟩, (HN5.out.imp (q := fun b => b ≠ gx) (fun b _ h => h.2)).set (fun b h => h) 10 _, HC.out.setCell (p := ⟨gx, 10, none⟩) (Nat.le_of_lt hgx) _, hgx⟩
      | 11, _ =>
        go_wp2_with fail
        go_meet
        exact ⟨_, _, _, HM.out.setList m2.list A c, ⟨hb5.code, hb5.country, hbr.list, hb5.text⟩, HNR.out.set (fun b h => h) 11 _, HC.out.setCell (p := ⟨gx, 11, none⟩) (Nat.le_of_lt hgx) _, hgx⟩
      | 12, _ =>
        go_wp2_with fail
        go_meet
        exact ⟨_, _, _, HM.out.setText m2.text, ⟨hb5.code, hb5.country, hb5.list, hbr.text⟩, (HN5.out.imp (q := fun b => b ≠ gx) (fun b _ h => h.2)).set (fun b h => h) 12 _, HC.out.setCell (p := ⟨gx, 12, none⟩) (Nat.le_of_lt hgx) _, hgx⟩
    case rest =>
      obtain ⟨we, rfl⟩ : ∃ x, x = wc := ⟨_, rfl⟩
      obtain ⟨m6, A6, c6, hM, hb6, hN, hcur, _⟩ := hcut
      have hlt := hM.lt
      have HEE := Lib.hid (fun (W : World) (h : Below we.heap.size we W) => encode_err m6 A6 c6 W (hN.rd.below h) hb6 (HT.out.belowB (hcur.trans (h.mono (by omega))) hg))
      have HSE := Lib.hid (fun (W : World) (h : Below we.heap.size we W) => segments_err m6 A6 c6 W (hN.rd.below h) hb6 (HT.out.belowB (hcur.trans (h.mono (by omega))) hg))
      have HRE := Lib.hid (fun (W : World) (h : Below we.heap.size we W) => refMessage_any m6 A6 c6 W (hN.rd.below h) hb6)
      have HVE := Lib.hid (fun (W : World) (h : Below we.heap.size we W) => validate_m m6 A6 c6 W (hN.rd.below h) hb6)
      have HAW := Lib.hid (fun (W : World) (h : Below we.heap.size we W) => awakeM_any W (HT.out.belowB (hcur.trans (h.mono (by omega))) hg))
      have HCU := Lib.hid hcur
      clear hN hb6 hcur HT HMA HSM HR HW ok5 hN5 hNr hMc
      rcases validM_cases m6 with hv | hv | hv | hv
      all_goals
        rw [hv] at HEE HSE HRE HVE
        clear hv
        obtain ⟨d0, d1, d2, d3, d4, d5, d6, d7, d8, d9, d10, d11, d12⟩ := hM.all
        go_wp2_with fail
        refine (HEE.out _ (Below.refl _ _)).mono ?_
        rintro e w2 ⟨B2, k2, e2, rfl, hb2⟩
        have hM2 := hM.below hb2
        clear d0 d1 d2 d3 d4 d5 d6 d7 d8 d9 d10 d11 d12
        obtain ⟨d0, d1, d2, d3, d4, d5, d6, d7, d8, d9, d10, d11, d12⟩ := hM2.all
        go_wp2_with fail
        refine (HSE.out _ hb2).mono ?_
        rintro e w3 ⟨B3, k3, e3, rfl, hb3⟩
        have hM3 := hM2.below hb3
        have hB3 := hb2.trans (hb3.mono hb2.size)
        clear d0 d1 d2 d3 d4 d5 d6 d7 d8 d9 d10 d11 d12
        obtain ⟨d0, d1, d2, d3, d4, d5, d6, d7, d8, d9, d10, d11, d12⟩ := hM3.all
        go_wp2_with fail
        refine (HRE.out _ hB3).mono ?_
        rintro e w4 ⟨rfl, hb4⟩
        have hM4 := hM3.below hb4
        have hB4 := hB3.trans (hb4.mono hB3.size)
        clear d0 d1 d2 d3 d4 d5 d6 d7 d8 d9 d10 d11 d12
        obtain ⟨d0, d1, d2, d3, d4, d5, d6, d7, d8, d9, d10, d11, d12⟩ := hM4.all
        go_wp2_with fail
        refine (HVE.out _ hB4).mono ?_
        rintro e w5 ⟨rfl, hb5⟩
        have hB5 := hB4.trans (hb5.mono hB4.size)
        go_wp2_with fail
        refine (HAW.out _ hB5).mono ?_
        rintro e w6 ⟨rfl, hb6⟩
        have hB6 := hB5.trans (hb6.mono hB5.size)
        go_wp2_with fail
        go_ret
        have hBF := HCU.out.trans (hB6.mono (by omega))
        first | exact ⟨rfl, hBF⟩ | (rw [← hg] at hBF; exact ⟨rfl, hBF⟩)
end messageValidateField
end Go.Proofs.YtmjlnckmhdgoiaaDoor
