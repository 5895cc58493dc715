/- The contract of the reference's Append. -/
import Derived.Test.YtefphkefgfoklaaGv
import Derived.Test.YtefphkefgfoklaaOrd
namespace Go.Proofs.Ytefphkefgfoklaa
open Go.RowKit
set_option linter.unusedVariables false

theorem OwnX.shapeB {w : World} {base : Nat} {e : TypeId} {size : Nat} {v : Value} {n : Nat} {xs : List Value} (h : OwnX w base e size v n xs) : ∃ A cap, v = .slice A n cap ∧ Rd w A xs ∧ n ≤ cap ∧ cap ≤ maxLen ∧ ∀ a, A = some a → base ≤ a.block := by
  obtain ⟨A, cap, rfl, h1, h2, h3⟩ := h.shape
  refine ⟨A, cap, rfl, h1, h2, h3, fun a ha => ?_⟩
  subst ha
  rcases h.2 with ⟨e, _⟩ | ⟨g, off, cap', cur, e, hb, _⟩
  · cases e
  · injection e with e1 _ _
    injection e1 with e1
    subst e1
    exact hb
/-- a slice of entries, to be read, in a block from B on -/
def EnsAt (B : Nat) (w : World) (v : Value) (l : List En) : Prop := ∃ A c, v = .slice A l.length c ∧ Rd w A (ensCs l) ∧ l.length ≤ c ∧ c ≤ maxLen ∧ ∀ a, A = some a → B ≤ a.block
theorem EnsAt.below {B : Nat} {w w' : World} {v : Value} {l : List En} (h : EnsAt B w v l) (hb : Below w.heap.size w w') : EnsAt B w' v l := by
  obtain ⟨A, c, h1, h2, h3⟩ := h
  exact ⟨A, c, h1, h2.below hb, h3⟩
theorem EnsAt.mono {B B' : Nat} {w : World} {v : Value} {l : List En} (h : EnsAt B w v l) (hb : B' ≤ B) : EnsAt B' w v l := by
  obtain ⟨A, c, h1, h2, h3, h4, h5⟩ := h
  exact ⟨A, c, h1, h2, h3, h4, fun a ha => Nat.le_trans hb (h5 a ha)⟩
theorem EnsAt.of_own {w : World} {B : Nat} {v : Value} {l : List En} (h : w.ownsRow B 26 6 v l.length (ensCs l)) : EnsAt B w v l := by
  obtain ⟨A, c, e, h1, h2, h3⟩ := (OwnX.of_row h).shapeB
  exact ⟨A, c, e, h1, h2, h3⟩
def AppX (l : List En) (x : En) (w : World) (e : Ending) (w' : World) : Prop :=
  ∃ v, e = .returned (.tuple #[v, .int .i64 (ledF (l ++ [x]))]) ∧ Below w.heap.size w w' ∧ (ledF (l ++ [x]) ≠ 0 → v = .slice none 0 0) ∧ (ledF (l ++ [x]) = 0 → EnsAt w.heap.size w' v (l ++ [x]))
theorem AppRet.x {l : List En} {x : En} {w : World} {e : Ending} {w' : World} (h : AppRet l x w e w') : AppX l x w e w' := by
  obtain ⟨v, h1, h2, h3, h4⟩ := h
  exact ⟨v, h1, h2, h3, fun h0 => EnsAt.of_own (h4 h0)⟩
theorem app_done {l : List En} {x : En} {n : Nat} (hn : l.length = n) (hz : ledF (l ++ [x]) = 0) {w w' : World} {B : Nat} {A : Option Addr} {c : Nat} (ho : OwnX w' B 26 6 (.slice A (n + 1) c) (n + 1) (ensCs l ++ enCs x)) (hB : w.heap.size ≤ B) (hb : Below w.heap.size w w') :
    AppX l x w (.returned (.tuple #[.slice A (n + 1) c, .int .i64 0])) w' := by
  subst hn
  obtain ⟨A', c', e, h1, h2, h3, h4⟩ := ho.shapeB
  injection e with e1 _ e3
  subst e1; subst e3
  refine ⟨_, by rw [hz], hb, fun h => absurd hz h, fun _ => ⟨A, c, by simp, by rw [ensCs_snoc]; exact h1, by simpa using h2, h3, fun a ha => Nat.le_trans hB (h4 a ha)⟩⟩
theorem app_bad {l : List En} {x : En} {m : Int} (hm : ledF (l ++ [x]) = m) (h0 : m ≠ 0) {w w' : World} (hb : Below w.heap.size w w') : AppX l x w (.returned (.tuple #[.slice none 0 0, .int .i64 m])) w' :=
  ⟨_, by rw [hm], hb, fun _ => rfl, fun h => absurd (hm.symm.trans h) h0⟩
set_option maxRecDepth 100000 in
set_option maxHeartbeats 4000000 in
theorem refAppend_any (A : Option Addr) (c : Nat) (l : List En) (x : En) (w : World) (h : SlE w A l) (hc : l.length ≤ c) (hcm : c ≤ 9223372036854775807) :
    Calls Try.prog 20 #[.slice A l.length c, enV x] w (AppX l x w) := by
  have hs := ledF_snoc l x
  have q0 := (Below.refl w.heap.size w).alloc (Nat.le_refl _) (.cells #[.int .i64 x.num, .int .i64 x.day, .int .i64 x.kind, .int .i64 x.lot, .int .i64 x.amt, .int .i64 x.cause] 26)
  have g0 := heap_alloc_new w (.cells #[.int .i64 x.num, .int .i64 x.day, .int .i64 x.kind, .int .i64 x.lot, .int .i64 x.amt, .int .i64 x.cause] 26)
  have HRL := Lib.hid (fun (W : World) (hb : Below w.heap.size w W) => refLedger_any A c l W (h.below hb) hc hcm)
  have HRM := Lib.hid (fun (W : World) (hb : Below w.heap.size w W) (hv : ledF l = 0) => refMay_any A c l x W (h.below hb) hv)
  have X0 : Hid (BoxAt (w.alloc (.cells #[.int .i64 x.num, .int .i64 x.day, .int .i64 x.kind, .int .i64 x.lot, .int .i64 x.amt, .int .i64 x.cause] 26)) w.heap.size w.heap.size x) := ⟨g0, Nat.le_refl _⟩
  have Q0 := Lib.hid q0
  have HS := Lib.hid h
  have hll := h.len
  clear q0 g0 h hcm
  unfold enV at *
  by_cases hv : ledF l = 0
  · rw [if_pos hv] at hs
    have HV := Lib.hid hv
    have HRM := Lib.hid (fun W hb => HRM.out W hb HV.out)
    rw [hv] at HRL
    clear hv
    generalize hmm : mayF l x = m at hs HRM
    clear hmm
    have HSM := Lib.hid hs
    clear hs
    by_cases hm : m = 0
    · subst hm
      have HZ := Lib.hid HSM.out
      go_enter Try.func20, Try.ntmps20
      go_wp2_with (first
        | (go_at_call 22; refine (HRL.out _ Q0.out).mono ?_; rintro e w2 ⟨rfl, hb2⟩; have Q2 := Lib.hid (Q0.out.trans (hb2.mono Q0.out.size)); have X2 := Lib.hid (X0.out.below hb2); clear hb2; obtain ⟨x0, x1, x2, x3, x4, x5⟩ := X2.out.cell)
        | (go_at_call 40; refine (HRM.out _ Q2.out).mono ?_; rintro e w3 ⟨rfl, hb3⟩; have Q3 := Lib.hid (Q2.out.trans (hb3.mono Q2.out.size)); have X3 := Lib.hid (X2.out.below hb3); clear hb3))
      clear x0 x1 x2 x3 x4 x5
      have hpx := X3.out.lt
      generalize hnn : l.length = n at *
      have HLN := Lib.hid hnn
      clear hnn
      obtain ⟨xn, xd, xk, xl, xa, xc⟩ := x
      obtain ⟨x0, x1, x2, x3, x4, x5⟩ := X3.out.cell
      simp only at x0 x1 x2 x3 x4 x5
      simp only
      generalize w3 = W at *
      have QW := Q3
      have HS := Lib.hid (HS.out.below Q3.out)
      obtain ⟨i0, hi0, hz0, hz1, hz2⟩ := info_parts entInfo
      refine wp_region_x 7 (by kernel_rfl) (fun w' => Below W.heap.size W w') ?_
      have hq : Hid (Below W.heap.size W W.drew) := (Below.refl _ _).drew
      have hsz : Hid (W.heap.size ≤ W.drew.heap.size) := Nat.le_refl _
      generalize hV : W.drew = V0 at hq hsz ⊢
      clear hV
      refine wpAnyX_take (i := 1) (v := .slice A n c) rfl (by kernel_rfl) (by kernel_rfl) (by kernel_rfl) (by kernel_rfl) (fun _ _ _ h => h) hq.out (Or.inl ⟨by rfl, fun w hS => by obtain ⟨rc, rf⟩ := below_cell hS rfl; go_simp⟩) ?_
      go_simp
      refine wpAnyX_take (i := 3) (v := .agg #[.int .i64 xn, .int .i64 xd, .int .i64 xk, .int .i64 xl, .int .i64 xa, .int .i64 xc]) rfl (by kernel_rfl) (by kernel_rfl) (by kernel_rfl) (by kernel_rfl) (fun _ _ _ h => h) hq.out (Or.inl ⟨by rfl, fun w hS => by obtain ⟨rc, rf⟩ := below_cell hS rfl; go_simp⟩) ?_
      go_simp
      refine wpAnyX_ready (rs := [0, 4]) (by kernel_rfl) (by simp) (AllX.cons rfl (fun K hK => ?_) (AllX.cons rfl (fun K hK => ?_) AllX.nil))
      · go_simp
        have hsz0 := hsz
        have hb : Below V0.heap.size V0 (V0.alloc (.cells #[] 26)) := (Below.refl _ _).alloc (Nat.le_refl _) _
        have hq := Lib.hid (hq.out.trans (hb.mono hsz.out))
        have hsz := Lib.hid (Nat.le_trans hsz.out hb.size)
        have hO := Lib.hid (OwnX.lit0 V0 _ 26 6 hsz0.out)
        have hOge : Hid (W.heap.size ≤ V0.heap.size) := hsz0.out
        refine hK.out _ _ (fun _ => hq.out) ?_
        clear hK K hb hsz0
        generalize hV : (V0.alloc (.cells #[] 26)) = V1 at hO hOge hq hsz ⊢
        clear hV
        generalize hV : V0.heap.size = g0 at hO hOge hq hsz ⊢
        clear hV
        refine wpAnyX_ready (rs := [2, 4]) (by kernel_rfl) (by simp) (AllX.cons rfl (fun K hK => ?_) (AllX.cons rfl (fun K hK => ?_) AllX.nil))
        · refine step_append_zero V1 (by rfl) (.tmp 17) (.tmp 18) 23 (by rfl) _ 26 i0 _ 6 48 Try.underlying23 hi0 hz0 hz1 hz2 rfl (by omega) g0 0 (by rfl) hO.out A n c (ensCs l) (by rfl) (by rw [ensCs_len, HLN.out]) (HS.out.rd.below hq.out) (ensCs_one l) (by unfold maxLen; omega) (by omega) hsz.out ?_
          intro v w1 hown hb
          clear hO
          have hq := Lib.hid (hq.out.trans (hb.mono hsz.out))
          have hsz := Lib.hid (Nat.le_trans hsz.out hb.size)
          obtain ⟨A1, c1, rfl, _⟩ := OwnX.shape hown
          have hP := Lib.hid hown
          clear hown
          refine hK.out _ _ (fun _ => hq.out) ?_
          clear hK K hb
          go_simp
          generalize w1 = V2 at *
          refine wpAnyX_one (i := 4) (by kernel_rfl) rfl (fun K hK => ?_)
          go_simp
          have hsz0 := hsz
          have hb : Below V2.heap.size V2 (V2.alloc (.cells #[.int .i64 xn, .int .i64 xd, .int .i64 xk, .int .i64 xl, .int .i64 xa, .int .i64 xc] 26)) := (Below.refl _ _).alloc (Nat.le_refl _) _
          have hP := Lib.hid (hP.out.below hb)
          have hq := Lib.hid (hq.out.trans (hb.mono hsz.out))
          have hsz := Lib.hid (Nat.le_trans hsz.out hb.size)
          have hN := Lib.hid (Rd.new_ V2 [.int .i64 xn, .int .i64 xd, .int .i64 xk, .int .i64 xl, .int .i64 xa, .int .i64 xc] 26)
          have hNge : Hid (W.heap.size ≤ V2.heap.size) := hsz0.out
          refine hK.out _ _ (fun _ => hq.out) ?_
          clear hK K hb hsz0
          generalize hV : (V2.alloc (.cells #[.int .i64 xn, .int .i64 xd, .int .i64 xk, .int .i64 xl, .int .i64 xa, .int .i64 xc] 26)) = V3 at hOge hP hN hNge hq hsz ⊢
          clear hV
          generalize hV : V2.heap.size = g1 at hOge hP hN hNge hq hsz ⊢
          clear hV
          refine wpAnyX_one (i := 5) (by kernel_rfl) rfl (fun K hK => ?_)
          refine step_append_x V3 (by rfl) (.tmp 19) (.tmp 21) 23 (by rfl) _ 26 i0 _ 6 48 Try.underlying23 hi0 hz0 hz1 hz2 rfl (by omega) (.slice A1 n c1) n (ensCs l) (by rfl) hP.out (some ⟨g1, 0, none⟩) 1 1 [.int .i64 xn, .int .i64 xd, .int .i64 xk, .int .i64 xl, .int .i64 xa, .int .i64 xc] (by rfl) rfl hN.out (by intro u hu; simp at hu; rcases hu with rfl | rfl | rfl | rfl | rfl | rfl <;> rfl) (by unfold maxLen; omega) (by omega) hsz.out ?_
          intro v w1 hown hg
          have hq := Lib.hid (hq.out.grown hg hsz.out (fun j e => (hP.out.block_lt e).1))
          have hsz := Lib.hid (Nat.le_trans hsz.out hg.size)
          clear hP
          clear hN
          obtain ⟨A2, c2, rfl, _⟩ := OwnX.shape hown
          have hF := Lib.hid hown
          clear hown hg
          refine hK.out _ _ (fun _ => hq.out) ?_
          clear hK K
          go_simp
          generalize w1 = V4 at *
          refine wpAnyX_one (i := 6) (by kernel_rfl) rfl (fun K hK => ?_)
          go_simp
          refine hK.out _ _ (fun _ => hq.out) ?_
          clear hK K
          refine wpAnyX_one (i := 7) (by kernel_rfl) rfl (fun K hK => ?_)
          go_simp
          refine hK.out _ _ (fun _ => hq.out) ?_
          clear hK K
          refine wpAnyX_done (by kernel_rfl) ?_
          go_wp2_with fail
          go_ret2
          exact app_done HLN.out HZ.out hF.out QW.out.size (QW.out.trans (hq.out.mono QW.out.size))
        · go_simp
          have hsz0 := hsz
          have hb : Below V1.heap.size V1 (V1.alloc (.cells #[.int .i64 xn, .int .i64 xd, .int .i64 xk, .int .i64 xl, .int .i64 xa, .int .i64 xc] 26)) := (Below.refl _ _).alloc (Nat.le_refl _) _
          have hO := Lib.hid (hO.out.below hb)
          have hq := Lib.hid (hq.out.trans (hb.mono hsz.out))
          have hsz := Lib.hid (Nat.le_trans hsz.out hb.size)
          have hN := Lib.hid (Rd.new_ V1 [.int .i64 xn, .int .i64 xd, .int .i64 xk, .int .i64 xl, .int .i64 xa, .int .i64 xc] 26)
          have hNge : Hid (W.heap.size ≤ V1.heap.size) := hsz0.out
          refine hK.out _ _ (fun _ => hq.out) ?_
          clear hK K hb hsz0
          generalize hV : (V1.alloc (.cells #[.int .i64 xn, .int .i64 xd, .int .i64 xk, .int .i64 xl, .int .i64 xa, .int .i64 xc] 26)) = V5 at hO hOge hN hNge hq hsz ⊢
          clear hV
          generalize hV : V1.heap.size = g1 at hO hOge hN hNge hq hsz ⊢
          clear hV
          refine wpAnyX_one (i := 2) (by kernel_rfl) rfl (fun K hK => ?_)
          refine step_append_zero V5 (by rfl) (.tmp 17) (.tmp 18) 23 (by rfl) _ 26 i0 _ 6 48 Try.underlying23 hi0 hz0 hz1 hz2 rfl (by omega) g0 0 (by rfl) hO.out A n c (ensCs l) (by rfl) (by rw [ensCs_len, HLN.out]) (HS.out.rd.below hq.out) (ensCs_one l) (by unfold maxLen; omega) (by omega) hsz.out ?_
          intro v w1 hown hb
          clear hO
          have hN := Lib.hid (hN.out.below hb)
          have hq := Lib.hid (hq.out.trans (hb.mono hsz.out))
          have hsz := Lib.hid (Nat.le_trans hsz.out hb.size)
          obtain ⟨A1, c1, rfl, _⟩ := OwnX.shape hown
          have hP := Lib.hid hown
          clear hown
          refine hK.out _ _ (fun _ => hq.out) ?_
          clear hK K hb
          go_simp
          generalize w1 = V6 at *
          refine wpAnyX_one (i := 5) (by kernel_rfl) rfl (fun K hK => ?_)
          refine step_append_x V6 (by rfl) (.tmp 19) (.tmp 21) 23 (by rfl) _ 26 i0 _ 6 48 Try.underlying23 hi0 hz0 hz1 hz2 rfl (by omega) (.slice A1 n c1) n (ensCs l) (by rfl) hP.out (some ⟨g1, 0, none⟩) 1 1 [.int .i64 xn, .int .i64 xd, .int .i64 xk, .int .i64 xl, .int .i64 xa, .int .i64 xc] (by rfl) rfl hN.out (by intro u hu; simp at hu; rcases hu with rfl | rfl | rfl | rfl | rfl | rfl <;> rfl) (by unfold maxLen; omega) (by omega) hsz.out ?_
          intro v w1 hown hg
          have hq := Lib.hid (hq.out.grown hg hsz.out (fun j e => (hP.out.block_lt e).1))
          have hsz := Lib.hid (Nat.le_trans hsz.out hg.size)
          clear hN
          clear hP
          obtain ⟨A2, c2, rfl, _⟩ := OwnX.shape hown
          have hF := Lib.hid hown
          clear hown hg
          refine hK.out _ _ (fun _ => hq.out) ?_
          clear hK K
          go_simp
          generalize w1 = V7 at *
          refine wpAnyX_one (i := 6) (by kernel_rfl) rfl (fun K hK => ?_)
          go_simp
          refine hK.out _ _ (fun _ => hq.out) ?_
          clear hK K
          refine wpAnyX_one (i := 7) (by kernel_rfl) rfl (fun K hK => ?_)
          go_simp
          refine hK.out _ _ (fun _ => hq.out) ?_
          clear hK K
          refine wpAnyX_done (by kernel_rfl) ?_
          go_wp2_with fail
          go_ret2
          exact app_done HLN.out HZ.out hF.out QW.out.size (QW.out.trans (hq.out.mono QW.out.size))
      · go_simp
        have hsz0 := hsz
        have hb : Below V0.heap.size V0 (V0.alloc (.cells #[.int .i64 xn, .int .i64 xd, .int .i64 xk, .int .i64 xl, .int .i64 xa, .int .i64 xc] 26)) := (Below.refl _ _).alloc (Nat.le_refl _) _
        have hq := Lib.hid (hq.out.trans (hb.mono hsz.out))
        have hsz := Lib.hid (Nat.le_trans hsz.out hb.size)
        have hN := Lib.hid (Rd.new_ V0 [.int .i64 xn, .int .i64 xd, .int .i64 xk, .int .i64 xl, .int .i64 xa, .int .i64 xc] 26)
        have hNge : Hid (W.heap.size ≤ V0.heap.size) := hsz0.out
        refine hK.out _ _ (fun _ => hq.out) ?_
        clear hK K hb hsz0
        generalize hV : (V0.alloc (.cells #[.int .i64 xn, .int .i64 xd, .int .i64 xk, .int .i64 xl, .int .i64 xa, .int .i64 xc] 26)) = V8 at hN hNge hq hsz ⊢
        clear hV
        generalize hV : V0.heap.size = g1 at hN hNge hq hsz ⊢
        clear hV
        refine wpAnyX_one (i := 0) (by kernel_rfl) rfl (fun K hK => ?_)
        go_simp
        have hsz0 := hsz
        have hb : Below V8.heap.size V8 (V8.alloc (.cells #[] 26)) := (Below.refl _ _).alloc (Nat.le_refl _) _
        have hN := Lib.hid (hN.out.below hb)
        have hq := Lib.hid (hq.out.trans (hb.mono hsz.out))
        have hsz := Lib.hid (Nat.le_trans hsz.out hb.size)
        have hO := Lib.hid (OwnX.lit0 V8 _ 26 6 hsz0.out)
        have hOge : Hid (W.heap.size ≤ V8.heap.size) := hsz0.out
        refine hK.out _ _ (fun _ => hq.out) ?_
        clear hK K hb hsz0
        generalize hV : (V8.alloc (.cells #[] 26)) = V9 at hN hNge hO hOge hq hsz ⊢
        clear hV
        generalize hV : V8.heap.size = g0 at hN hNge hO hOge hq hsz ⊢
        clear hV
        refine wpAnyX_one (i := 2) (by kernel_rfl) rfl (fun K hK => ?_)
        refine step_append_zero V9 (by rfl) (.tmp 17) (.tmp 18) 23 (by rfl) _ 26 i0 _ 6 48 Try.underlying23 hi0 hz0 hz1 hz2 rfl (by omega) g0 0 (by rfl) hO.out A n c (ensCs l) (by rfl) (by rw [ensCs_len, HLN.out]) (HS.out.rd.below hq.out) (ensCs_one l) (by unfold maxLen; omega) (by omega) hsz.out ?_
        intro v w1 hown hb
        clear hO
        have hN := Lib.hid (hN.out.below hb)
        have hq := Lib.hid (hq.out.trans (hb.mono hsz.out))
        have hsz := Lib.hid (Nat.le_trans hsz.out hb.size)
        obtain ⟨A1, c1, rfl, _⟩ := OwnX.shape hown
        have hP := Lib.hid hown
        clear hown
        refine hK.out _ _ (fun _ => hq.out) ?_
        clear hK K hb
        go_simp
        generalize w1 = V10 at *
        refine wpAnyX_one (i := 5) (by kernel_rfl) rfl (fun K hK => ?_)
        refine step_append_x V10 (by rfl) (.tmp 19) (.tmp 21) 23 (by rfl) _ 26 i0 _ 6 48 Try.underlying23 hi0 hz0 hz1 hz2 rfl (by omega) (.slice A1 n c1) n (ensCs l) (by rfl) hP.out (some ⟨g1, 0, none⟩) 1 1 [.int .i64 xn, .int .i64 xd, .int .i64 xk, .int .i64 xl, .int .i64 xa, .int .i64 xc] (by rfl) rfl hN.out (by intro u hu; simp at hu; rcases hu with rfl | rfl | rfl | rfl | rfl | rfl <;> rfl) (by unfold maxLen; omega) (by omega) hsz.out ?_
        intro v w1 hown hg
        have hq := Lib.hid (hq.out.grown hg hsz.out (fun j e => (hP.out.block_lt e).1))
        have hsz := Lib.hid (Nat.le_trans hsz.out hg.size)
        clear hN
        clear hP
        obtain ⟨A2, c2, rfl, _⟩ := OwnX.shape hown
        have hF := Lib.hid hown
        clear hown hg
        refine hK.out _ _ (fun _ => hq.out) ?_
        clear hK K
        go_simp
        generalize w1 = V11 at *
        refine wpAnyX_one (i := 6) (by kernel_rfl) rfl (fun K hK => ?_)
        go_simp
        refine hK.out _ _ (fun _ => hq.out) ?_
        clear hK K
        refine wpAnyX_one (i := 7) (by kernel_rfl) rfl (fun K hK => ?_)
        go_simp
        refine hK.out _ _ (fun _ => hq.out) ?_
        clear hK K
        refine wpAnyX_done (by kernel_rfl) ?_
        go_wp2_with fail
        go_ret2
        exact app_done HLN.out HZ.out hF.out QW.out.size (QW.out.trans (hq.out.mono QW.out.size))
    · have HM0 := Lib.hid hm
      have hm1 : (m == 0) = false := by simpa using hm
      clear hm
      go_enter Try.func20, Try.ntmps20
      go_wp2_with (first
        | (go_at_call 22; refine (HRL.out _ Q0.out).mono ?_; rintro e w2 ⟨rfl, hb2⟩; have Q2 := Lib.hid (Q0.out.trans (hb2.mono Q0.out.size)); have X2 := Lib.hid (X0.out.below hb2); clear hb2; obtain ⟨x0, x1, x2, x3, x4, x5⟩ := X2.out.cell)
        | (go_at_call 40; refine (HRM.out _ Q2.out).mono ?_; rintro e w3 ⟨rfl, hb3⟩; have Q3 := Lib.hid (Q2.out.trans (hb3.mono Q2.out.size)); clear hb3))
      go_ret2
      exact app_bad HSM.out HM0.out Q3.out
  · rw [if_neg hv] at hs
    generalize hmm : ledF l = m at hv hs HRL
    clear hmm HRM
    have HSM := Lib.hid hs
    have HM0 := Lib.hid hv
    have hm1 : (m == 0) = false := by simpa using hv
    clear hv hs
    go_enter Try.func20, Try.ntmps20
    go_wp2_with (go_at_call 22; refine (HRL.out _ Q0.out).mono ?_; rintro e w2 ⟨rfl, hb2⟩; have Q2 := Lib.hid (Q0.out.trans (hb2.mono Q0.out.size)); clear hb2)
    go_ret2
    exact app_bad HSM.out HM0.out Q2.out
end Go.Proofs.Ytefphkefgfoklaa
