/- Entries that came in; the state of a law that holds an entry in a block of its own. -/
import Derived.Test.YtefphkefgfoklaaHo
import Derived.Test.YtefphkefgfoklaaFlat
namespace Go.Proofs.Ytefphkefgfoklaa
open Go.Joins Go.ChangeShapes Go.WideShapes Go.RowKit Go.Deep
set_option linter.unusedVariables false

def toEn : List Int → En
  | [a, b, c, d, e, f] => ⟨a, b, c, d, e, f⟩
  | _ => default
theorem toEn_cs {zs : List Int} (h : zs.length = 6) : enCs (toEn zs) = ints zs := by
  match zs, h with
  | [a, b, c, d, e, f], _ => rfl
theorem ens_rows : ∀ (rows : List (List Int)), (∀ zs ∈ rows, zs.length = 6) → ensCs (rows.map toEn) = rows.flatMap ints
  | [], _ => rfl
  | r :: rs, h => by
    have ih := ens_rows rs (fun zs hz => h zs (by simp [hz]))
    have h0 := toEn_cs (h r (by simp))
    unfold ensCs at *
    simp only [List.map_cons, List.flatMap_cons, ih, h0]
def EBd (x : En) : Prop := inB [x.num, x.day, x.kind, x.lot, x.amt, x.cause]
theorem enFields : ∃ fs : Array Field, Try.prog.underlying 26 = some (.struct fs) ∧ oneCellFields Try.prog fs = true ∧ fs.size = 6 ∧ Try.prog.cellsOf 26 = 6 ∧ fs.toList.map (·.type) = List.replicate 6 3 :=
  ⟨_, Try.underlying26, by kernel_rfl, by kernel_rfl, by kernel_rfl, by kernel_rfl⟩
theorem fields_int {fs : Array Field} {n : Nat} (h : fs.toList.map (·.type) = List.replicate n 3) (j : Nat) (f : Field) (hj : fs[j]? = some f) : Try.prog.underlying f.type = some (.int .i64) := by
  have h1 : f.type ∈ fs.toList.map (·.type) := List.mem_map.2 ⟨f, by simpa using Array.mem_of_getElem? hj, rfl⟩
  rw [h] at h1
  rw [(List.mem_replicate.1 h1).2]
  exact Try.underlying3
section
variable {H : Type} {enc : TypeId × Value → H} {w : World} {r : Reach} {b0 : Nat} {v : Value} {d : DataW H} {p : List MemPlace}
set_option maxRecDepth 100000 in
/-- an entry that came in -/
theorem open_en (hv : Value.okWide Try.prog w r b0 26 v) (h : DataW.Trod enc Try.prog w 0 (fun _ => true) true 26 v d p) : ∃ x : En, v = enV x ∧ EBd x := by
  obtain ⟨fs, hs, hone, hsz, hC, hall⟩ := enFields
  obtain ⟨zs, rfl, hl, hb⟩ := open_flat1 hs hone (hC.trans hsz.symm) (fields_int hall) hv h
  rw [hsz] at hl
  match zs, hl with
  | [a, b, c, d, e, f], _ => exact ⟨⟨a, b, c, d, e, f⟩, rfl, hb⟩
set_option maxRecDepth 100000 in
/-- a slice of entries that came in -/
theorem open_ens (hv : Value.okWide Try.prog w r b0 23 v) (h : DataW.Trod enc Try.prog w 0 (fun _ => true) true 23 v d p) (hz : (DataW.weights Try.prog 23 d).all (· ≤ reachBytes) = true) :
    ∃ A c, ∃ L : List En, v = .slice A L.length c ∧ L.length ≤ c ∧ c ≤ maxLen ∧ L.length ≤ 5000000000000 ∧ (∀ x ∈ L, EBd x) ∧ Rd w A (ensCs L) := by
  obtain ⟨fs, hs, hone, hsz, hC, hall⟩ := enFields
  obtain ⟨A, c, rows, rfl, h1, h2, h3, h4, h5⟩ := open_flat Try.underlying23 hs hone (hC.trans hsz.symm) (fields_int hall) hv h hz
  have hby : Try.prog.bytesOf 26 = 48 := by kernel_rfl
  rw [hby] at h3
  refine ⟨A, c, rows.map toEn, by simp, by simpa using h1, h2, by simp; omega, fun x hx => ?_, ?_⟩
  · obtain ⟨zs, hzs, rfl⟩ := List.mem_map.1 hx
    obtain ⟨hl, hb⟩ := h4 zs hzs
    rw [hsz] at hl
    match zs, hl with
    | [a, b, c, d, e, f], _ => exact hb
  · rw [ens_rows rows (fun zs hzs => (h4 zs hzs).1.trans hsz)]
    exact h5
end
/-- the cells cs lie at A, in another block than g -/
def RdN (w : World) (g : Nat) (A : Option Addr) (cs : List Value) : Prop := ∀ j u, cs[j]? = some u → ∃ ad, A = some ad ∧ ad.block ≠ g ∧ w.cell? (ad.add j) = some u
theorem RdN.rd {w : World} {g : Nat} {A : Option Addr} {cs : List Value} (h : RdN w g A cs) : Rd w A cs := fun j u hu => by
  obtain ⟨ad, e, _, hc⟩ := h j u hu
  exact ⟨ad, e, hc⟩
theorem RdN.keep {w w' : World} {g : Nat} {A : Option Addr} {cs : List Value} (h : RdN w g A cs) (hk : ∀ p : Addr, p.block < w.heap.size → p.block ≠ g → w'.cell? p = w.cell? p) : RdN w' g A cs := fun j u hu => by
  obtain ⟨ad, e, hn, hc⟩ := h j u hu
  have hl := cell_lt hc
  exact ⟨ad, e, hn, (hk _ hl (by rw [add_block]; exact hn)).trans hc⟩
theorem RdN.of_rd {w : World} {A : Option Addr} {cs : List Value} (h : Rd w A cs) : RdN w w.heap.size A cs := fun j u hu => by
  obtain ⟨ad, e, hc⟩ := h j u hu
  have hl := cell_lt hc
  rw [add_block] at hl
  exact ⟨ad, e, by omega, hc⟩
def enArr (y : En) : Array Value := #[.int .i64 y.num, .int .i64 y.day, .int .i64 y.kind, .int .i64 y.lot, .int .i64 y.amt, .int .i64 y.cause]
/-- entries L in v, and the entry y in the law's own block g -/
structure SA (w wx : World) (g : Nat) (v : Value) (y : En) (L : List En) : Prop where
  ens : ∃ A c, v = .slice A L.length c ∧ RdN wx g A (ensCs L) ∧ L.length ≤ c ∧ c ≤ 9223372036854775807
  len : L.length ≤ 5000000000000
  box : wx.heap[g]? = some (.cells (enArr y) 26 (0, 0))
  bel : Below w.heap.size w wx
  ge : w.heap.size ≤ g
section
variable {w wx w' : World} {g : Nat} {v : Value} {y : En} {L : List En}
theorem SA.lt (h : SA w wx g v y L) : g < wx.heap.size := (Array.getElem?_eq_some_iff.1 h.box).1
theorem SA.below (h : SA w wx g v y L) (hb : Below wx.heap.size wx w') : SA w w' g v y L := by
  obtain ⟨A, c, e, h1, h2⟩ := h.ens
  exact ⟨⟨A, c, e, h1.keep (fun p hp _ => hb.cell hp), h2⟩, h.len, (hb.block _ h.lt).trans h.box, h.bel.trans (hb.mono (Nat.le_trans h.ge (Nat.le_of_lt h.lt))), h.ge⟩
theorem SA.put (h : SA w wx g v y L) (z : En) : SA w (put6 wx g (.int .i64 z.num) (.int .i64 z.day) (.int .i64 z.kind) (.int .i64 z.lot) (.int .i64 z.amt) (.int .i64 z.cause)) g v z L := by
  obtain ⟨A, c, e, h1, h2⟩ := h.ens
  have hb : ∀ i, i ≠ g → (put6 wx g (.int .i64 z.num) (.int .i64 z.day) (.int .i64 z.kind) (.int .i64 z.lot) (.int .i64 z.amt) (.int .i64 z.cause)).heap[i]? = wx.heap[i]? := fun i hi => by
    unfold put6
    rw [Below.heap_setCell _ _ _ _ hi, Below.heap_setCell _ _ _ _ hi, Below.heap_setCell _ _ _ _ hi, Below.heap_setCell _ _ _ _ hi, Below.heap_setCell _ _ _ _ hi, Below.heap_setCell _ _ _ _ hi]
  exact ⟨⟨A, c, e, h1.keep (fun p _ hp => World.cell?_of_block (hb _ hp)), h2⟩, h.len, put6_row _ _ _ _ _ _ _ _ _ _ _ _ _ _ _ h.box, h.bel.trans (put6_below wx (Below.refl _ _) h.ge _ _ _ _ _ _), h.ge⟩
theorem SA.set (h : SA w wx g v y L) (j : Nat) (u : Value) {z : En} (hz : (enArr y).setIfInBounds j u = enArr z) : SA w (wx.setCell ⟨g, j, none⟩ u) g v z L := by
  obtain ⟨A, c, e, h1, h2⟩ := h.ens
  refine ⟨⟨A, c, e, h1.keep (fun p _ hp => World.cell?_of_block (Below.heap_setCell _ _ _ _ hp)), h2⟩, h.len, ?_, h.bel.trans ((Below.refl _ _).setCell (p := ⟨g, j, none⟩) h.ge _), h.ge⟩
  rw [heap_setCell_same _ _ j _ _ _ h.box, hz]
theorem SA.cells (h : SA w wx g v y L) : (wx.cell? ⟨g, 0, none⟩ = some (.int .i64 y.num) ∧ wx.cell? ⟨g, 1, none⟩ = some (.int .i64 y.day) ∧ wx.cell? ⟨g, 2, none⟩ = some (.int .i64 y.kind) ∧ wx.cell? ⟨g, 3, none⟩ = some (.int .i64 y.lot) ∧ wx.cell? ⟨g, 4, none⟩ = some (.int .i64 y.amt) ∧ wx.cell? ⟨g, 5, none⟩ = some (.int .i64 y.cause)) ∧
    wx.frozen? ⟨g, 0, none⟩ = false ∧ wx.frozen? ⟨g, 1, none⟩ = false ∧ wx.frozen? ⟨g, 2, none⟩ = false ∧ wx.frozen? ⟨g, 3, none⟩ = false ∧ wx.frozen? ⟨g, 4, none⟩ = false ∧ wx.frozen? ⟨g, 5, none⟩ = false := cells6 h.box
theorem SA.sl (h : SA w wx g v y L) (hl : L.length ≤ 1000000000) : ∃ A c, v = .slice A L.length c ∧ SlE wx A L ∧ L.length ≤ c ∧ c ≤ 9223372036854775807 := by
  obtain ⟨A, c, e, h1, h2⟩ := h.ens
  exact ⟨A, c, e, ⟨h1.rd, hl⟩, h2⟩
end
theorem SA.mk0 {w w1 : World} {g : Nat} {y : En} {L : List En} {A : Option Addr} {c : Nat} (hr : RdN w1 g A (ensCs L)) (hc : L.length ≤ c) (hcm : c ≤ maxLen) (hl : L.length ≤ 5000000000000)
    (hb : w1.heap[g]? = some (.cells (enArr y) 26 (0, 0))) (hw : Below w.heap.size w w1) (hg : w.heap.size ≤ g) : SA w w1 g (.slice A L.length c) y L :=
  ⟨⟨A, c, rfl, hr, hc, by unfold maxLen at hcm; omega⟩, hl, hb, hw, hg⟩
theorem EnsAt.rdn {w1 : World} {g : Nat} {v : Value} {L : List En} {B : Nat} (h : EnsAt B w1 v L) (hB : g < B) : ∃ A c, v = .slice A L.length c ∧ RdN w1 g A (ensCs L) ∧ L.length ≤ c ∧ c ≤ maxLen := by
  obtain ⟨A, c, e, h1, h2, h3, h4⟩ := h
  refine ⟨A, c, e, fun j u hu => ?_, h2, h3⟩
  obtain ⟨ad, ha, hc⟩ := h1 j u hu
  exact ⟨ad, ha, by have := h4 ad ha; omega, hc⟩
theorem RdN.below {w w' : World} {g : Nat} {A : Option Addr} {cs : List Value} (h : RdN w g A cs) (hb : Below w.heap.size w w') : RdN w' g A cs := h.keep fun _ hp _ => hb.cell hp
/-- what Append leaves -/
def resF (L : List En) (y : En) : List En := if ledF (L ++ [y]) = 0 then L ++ [y] else []
theorem AppX.res {L : List En} {y : En} {w w' : World} {e : Ending} (h : AppX L y w e w') (hl : L.length ≤ 1000000) : ∃ A c, e = .returned (.tuple #[.slice A (resF L y).length c, .int .i64 (ledF (L ++ [y]))]) ∧ Below w.heap.size w w' ∧ SlE w' A (resF L y) := by
  obtain ⟨v, h1, h2, h3, h4⟩ := h
  unfold resF
  by_cases hz : ledF (L ++ [y]) = 0
  · rw [if_pos hz]
    obtain ⟨A, c, rfl, hr, _⟩ := h4 hz
    exact ⟨A, c, h1, h2, hr, by simp; omega⟩
  · rw [if_neg hz]
    have := h3 hz
    subst this
    exact ⟨none, 0, h1, h2, Rd.nil _ _, by simp⟩
/-- a source over numbers that came in -/
theorem src_new {w w0 : World} {A : Option Addr} {c : Nat} {l : List Int} (h : SlI w0 A c l) (hb : Below w0.heap.size w0 w) (hl : l.length ≤ 20000000000000) : Src (w.alloc (.cells #[.slice A l.length c, .int .i64 0] 30)) w.heap.size A c l 0 :=
  ⟨heap_alloc_new w _, Nat.zero_le _, (RdB.of_rd (h.below hb).rd).below ((Below.refl _ _).alloc (Nat.le_refl _) _), hl⟩
end Go.Proofs.Ytefphkefgfoklaa
