/- What the walks of the laws share: the state behind a made ledger and a made entry; reading a ledger that was cut; rows of five cells. -/
import Derived.Test.YtefphkefgfoklaaHp
import Derived.Test.YtefphkefgfoklaaHq
import Derived.Deep.CutBlock
namespace Go.Proofs.Ytefphkefgfoklaa
open Go.RowKit
set_option linter.unusedVariables false

/-- the state behind a made ledger and a made entry, which lies in block g -/
theorem SA.start {w w1 w2 : World} {g : Nat} {A : Option Addr} {c : Nat} {L : List En} {x : En} (hE : EnsAt w.heap.size w1 (.slice A L.length c) L) (hl : L.length ≤ 30) (hb1 : Below w.heap.size w w1) (hb2 : Below w1.heap.size w1 w2) (hg : g = w2.heap.size) :
    SA w (w2.alloc (.cells #[.int .i64 x.num, .int .i64 x.day, .int .i64 x.kind, .int .i64 x.lot, .int .i64 x.amt, .int .i64 x.cause] 26)) g (.slice A L.length c) x L := by
  subst hg
  obtain ⟨A', c', e, h1, h2, h3, _⟩ := hE
  injection e with e1 _ e3
  subst e1; subst e3
  have q := (Below.refl w2.heap.size w2).alloc (Nat.le_refl _) (.cells #[.int .i64 x.num, .int .i64 x.day, .int .i64 x.kind, .int .i64 x.lot, .int .i64 x.amt, .int .i64 x.cause] 26)
  have hb : Below w.heap.size w w2 := hb1.trans (hb2.mono hb1.size)
  exact SA.mk0 ((RdN.of_rd (h1.below hb2)).below q) h2 h3 (by omega) (heap_alloc_new w2 _) (hb.trans (q.mono hb.size)) hb.size
theorem SA.slA {w wx : World} {g n c : Nat} {A : Option Addr} {y : En} {L : List En} (h : SA w wx g (.slice A n c) y L) (hl : L.length ≤ 1000000000) : SlE wx A L := by
  obtain ⟨A', c', e, h1, _⟩ := h.ens
  injection e with e1 _ _
  subst e1
  exact ⟨h1.rd, hl⟩
theorem Quiet.below_to {B : Nat} {w w' : World} (h : Below B w w') : Below B w w'.drew := ⟨h.os, h.tape, h.output, h.size, h.block⟩
theorem SA.of_ens {w w1 : World} {g : Nat} {y : En} {L : List En} {A : Option Addr} {c : Nat} (hr : SlE w1 A L) (hc : L.length ≤ c) (hcm : c ≤ maxLen) (hl : L.length ≤ 5000000000000)
    (hb : w1.heap[g]? = some (.cells (enArr y) 26 (0, 0))) (hw : Below w.heap.size w w1) (hk : ∀ a, A = some a → g < a.block) (hg : w.heap.size ≤ g) : SA w w1 g (.slice A L.length c) y L :=
  SA.mk0 (fun j u hu => by
    obtain ⟨ad, ha, hc⟩ := hr.rd j u hu
    exact ⟨ad, ha, by have := hk ad ha; omega, hc⟩) hc hcm hl hb hw hg
theorem app_err {w W : World} {g n c : Nat} {A : Option Addr} {y : En} {L : List En} {m : Int} (h : SA w W g (.slice A L.length c) y L) (hl : L.length ≤ 1000000) (hm : ledF (L ++ [y]) = m) (h0 : m ≠ 0) :
    Calls Try.prog 11 #[.slice A L.length c, enV y] W fun e w' => e = .returned (.tuple #[.slice none 0 0, .int .i64 m]) ∧ Below W.heap.size W w' :=
  (append_any A c L y W (h.slA (by omega))).mono fun e w' ha => by
    obtain ⟨v, h1, h2, h3, _⟩ := ha
    rw [hm] at h1 h3
    rw [h3 h0] at h1
    exact ⟨h1, h2⟩
theorem SlE.front {w : World} {A : Option Addr} {l r : List En} (h : SlE w A (l ++ r)) : SlE w A l := by
  have e : ensCs l = (ensCs (l ++ r)).take (l.length * 6) := by
    unfold ensCs
    rw [List.flatMap_append, List.take_append_of_le_length (by rw [flat_len enCs 6 (fun _ => rfl)]; exact Nat.le_refl _), List.take_of_length_le (by rw [flat_len enCs 6 (fun _ => rfl)]; exact Nat.le_refl _)]
  exact ⟨by rw [e]; exact h.rd.take _, by have := h.len; rw [List.length_append] at this; omega⟩
theorem headE_run (W : World) (A : Option Addr) (n c k : Nat) (hk : k ≤ c) :
    (Instr.slice 23 (.slice A n c) none (some (.int .i64 (k : Int))) none).run Try.prog W = .ok (.slice A k c) W := by
  rw [run_slice_h W 23 A n c (by kernel_rfl) .i64 (k : Int) (by omega) (by omega)]
  have hs : (sizeOf (Try.prog.elem 23)).run Try.prog W = .ok 6 W := by kernel_rfl
  rw [hs]
  have : A.map (fun x => x.add 0) = A := by cases A <;> simp [Addr.add]
  simp [sliced, Result.andThen, this]
theorem quietQ {P : Program} {f : FuncId} {args : Array Value} {w : World} {n : Nat} {v : Value} (h : Calls P f args (w.drewN n) fun e w' => e = .returned v ∧ Quiet (w.drewN n) w') : Calls P f args (w.drewN n) fun e w'' => e = .returned v ∧ ∃ m, w'' = w.drewN m :=
  h.mono fun _ _ ⟨a, m, b⟩ => ⟨a, n + m, by rw [b, World.drewN_drewN]⟩
def put5 (W : World) (b : Nat) (v0 v1 v2 v3 v4 : Value) : World := ((((W.setCell ⟨b, 0, none⟩ v0).setCell ⟨b, 1, none⟩ v1).setCell ⟨b, 2, none⟩ v2).setCell ⟨b, 3, none⟩ v3).setCell ⟨b, 4, none⟩ v4
theorem quiet_to {B : Nat} {w w' : World} (h : Below B w w') : Below B w w'.drew := ⟨h.os, h.tape, h.output, h.size, h.block⟩
theorem put5_row (W : World) (b : Nat) (t : TypeId) (a0 a1 a2 a3 a4 v0 v1 v2 v3 v4 : Value) (h : W.heap[b]? = some (.cells #[a0, a1, a2, a3, a4] t (0, 0))) :
    (put5 W b v0 v1 v2 v3 v4).heap[b]? = some (.cells #[v0, v1, v2, v3, v4] t (0, 0)) := by
  have h0 := heap_setCell_same W b 0 _ _ v0 h
  have h1 := heap_setCell_same _ b 1 _ _ v1 h0
  have h2 := heap_setCell_same _ b 2 _ _ v2 h1
  have h3 := heap_setCell_same _ b 3 _ _ v3 h2
  have h4 := heap_setCell_same _ b 4 _ _ v4 h3
  exact h4
theorem put5_below (w : World) {B b : Nat} {W : World} (h : Below B w W) (hb : B ≤ b) (v0 v1 v2 v3 v4 : Value) : Below B w (put5 W b v0 v1 v2 v3 v4) :=
  ((((h.setCell (p := ⟨b, 0, none⟩) hb _).setCell (p := ⟨b, 1, none⟩) hb _).setCell (p := ⟨b, 2, none⟩) hb _).setCell (p := ⟨b, 3, none⟩) hb _).setCell (p := ⟨b, 4, none⟩) hb _
theorem row5 {W : World} {b : Nat} {t : TypeId} {v0 v1 v2 v3 v4 : Value} (h : W.heap[b]? = some (.cells #[v0, v1, v2, v3, v4] t (0, 0))) :
    (W.cell? ⟨b, 0, none⟩ = some v0 ∧ W.cell? ⟨b, 1, none⟩ = some v1 ∧ W.cell? ⟨b, 2, none⟩ = some v2 ∧ W.cell? ⟨b, 3, none⟩ = some v3 ∧ W.cell? ⟨b, 4, none⟩ = some v4) ∧
    W.frozen? ⟨b, 0, none⟩ = false ∧ W.frozen? ⟨b, 1, none⟩ = false ∧ W.frozen? ⟨b, 2, none⟩ = false ∧ W.frozen? ⟨b, 3, none⟩ = false ∧ W.frozen? ⟨b, 4, none⟩ = false := by
  refine ⟨⟨?_, ?_, ?_, ?_, ?_⟩, frozen_of_row _ _ _ _ _ h, frozen_of_row _ _ _ _ _ h, frozen_of_row _ _ _ _ _ h, frozen_of_row _ _ _ _ _ h, frozen_of_row _ _ _ _ _ h⟩ <;> (rw [cell_of_row _ _ _ _ _ _ h]; rfl)
/-- the effect of an entry of a valid ledger is small -/
theorem eff_small {L : List En} {x : En} (h : ledF (L ++ [x]) = 0) : -64000000000000 ≤ effA L x ∧ effA L x ≤ 64000000000000 := by
  obtain ⟨h1, h2⟩ := ledF_snoc_ok.1 h
  obtain ⟨_, hr, _, _, h9⟩ := mayF_zero h2
  exact effA_bd h1 hr (fun hk => (h9 hk).1)
/-- what a reversal takes back -/
theorem rev_of {L : List En} {x : En} (h : ledF (L ++ [x]) = 0) (hl : L.length ≤ 30) (h9 : x.kind = 9) : ∃ kk : Nat, x.amt = (kk : Int) + 1 ∧ kk < L.length ∧ ∃ z : En, L[kk]? = some z ∧ effK L x = z.kind ∧ effA L x = -z.amt ∧ 1 ≤ z.amt ∧ z.amt ≤ 64000000000000 := by
  obtain ⟨h1, h2⟩ := ledF_snoc_ok.1 h
  obtain ⟨_, hr, _, _, hk⟩ := mayF_zero h2
  have ha := (range_iff.1 hr).2.2.2.1.1
  obtain ⟨hle, _⟩ := hk h9
  obtain ⟨kk, hkk⟩ : ∃ kk : Nat, x.amt = (kk : Int) + 1 := ⟨(x.amt - 1).toNat, by omega⟩
  have hkl : kk < L.length := by omega
  have hz := nth_get hkl
  obtain ⟨hzr, _, _⟩ := ledF_mem h1 kk _ hz
  have hza := (range_iff.1 hzr).2.2.2.1
  obtain ⟨e1, e2⟩ := eff_rev (x := L) h9
  rw [hkk] at e1 e2
  exact ⟨kk, hkk, hkl, _, hz, e1, e2, hza⟩
theorem bal_small {L : List En} (h : ledF L = 0) (hl : L.length ≤ 60) (lot : Int) : (balF L lot).within 1000000000000000000 := (balF_within h lot).mono (by omega)
theorem baInfo : (Try.prog.info? 37).map (fun i => (i.zero, i.size, i.bytes)) = some (some (.agg #[.int .i64 0, .int .i64 0, .int .i64 0, .int .i64 0, .int .i64 0]), 5, 40) := by kernel_rfl
theorem bs_nil (w : World) (B : Nat) : w.ownsRow B 37 5 (.slice none 0 0) 0 (tgsCs []) := ⟨by simp [tgsCs], .inl ⟨rfl, rfl⟩⟩
theorem tgsCs_snoc (t : List Tg) (x : Tg) : tgsCs (t ++ [x]) = tgsCs t ++ tgCs x := by simp [tgsCs]
end Go.Proofs.Ytefphkefgfoklaa
