/- The contract of add: what a reversal must not be. -/
import Derived.Test.YtefphkefgfoklaaGg
namespace Go.Proofs.Ytefphkefgfoklaa
open Go.RowKit
set_option linter.unusedVariables false
set_option maxRecDepth 100000 in
set_option maxHeartbeats 4000000 in
theorem add_state9 (B pa : Nat) (l : List En) (x : En) (w : World) (h : Acc w B pa l) (hB : B ≤ w.heap.size) (hv : ledF l = 0) (hl : l.length < 2000) (hr : rangeB x = true) (hn : x.num = (l.length : Int) + 1) (h9 : x.kind = 9) (hx : x.amt ≤ (l.length : Int)) (ho : (nth l x.amt).kind = 9) :
    Calls Try.prog 30 #[.pointer (some ⟨pa, 0, none⟩), enV x] w (IsRet B 17 w) := by
  obtain ⟨pc, b1, b2, n1, n2, v, h⟩ := h
  have HR := Lib.hid (fun W => inRange_any x W)
  rw [hr] at HR
  obtain ⟨_, _, ⟨xl0, xl1⟩, ⟨hamt, hamt2⟩, _⟩ := range_iff.1 hr
  obtain ⟨k, hk⟩ : ∃ k : Nat, x.amt = (k : Int) + 1 := ⟨(x.amt - 1).toNat, by omega⟩
  have hkn : k < l.length := by omega
  obtain ⟨_, hold, _⟩ := ledF_mem hv _ _ (nth_get hkn)
  rw [hk] at ho
  have HB := fun w3 => acc_box (w3 := w3) h hB x
  have HPX := Lib.hid (h.apart_box)
  have HLN := Lib.hid h.len
  have HN2 := Lib.hid h.len.2
  have HV := Lib.hid hv
  have HR1 := Lib.hid hr
  obtain ⟨xn, xd, xk, xl, xa, xc⟩ := x
  unfold enV at *
  unfold enCs at HB
  simp only at *
  subst hn; subst h9; subst hk
  have HB := Lib.hid HB
  have HH := Lib.hid h
  clear h hr hv
  have HOLD := Lib.hid hold
  have HO := Lib.hid ho
  have HAMT := Lib.hid (And.intro xl0 (And.intro xl1 (And.intro hamt hamt2)))
  clear hold ho hamt hamt2 xl0 xl1
  have hc1 := HH.out.cell.2.1
  have hpl := HH.out.lt.1
  obtain ⟨g, cap, rfl, _⟩ := HH.out.entry hkn
  generalize hnn : l.length = n at hc1 hl hx HR HB ⊢
  have HL := Lib.hid hnn
  clear hnn
  go_enter Try.func30, Try.ntmps30
  go_wp2_with (go_at_call 42; refine (HR.out _).mono ?_; rintro e w3 ⟨rfl, hb3⟩)
  obtain ⟨A3, X3, q3⟩ := HB.out _ hb3
  clear hb3
  clear HB hc1 hpl HH HR
  obtain ⟨hgl, e0, e1, e2, e3, e4, e5⟩ := A3.entry' hkn
  obtain ⟨x0, x1, x2, x3, x4, x5⟩ := X3.cell
  obtain ⟨c0, c1, c2, c3⟩ := A3.cell
  have hpx := X3.lt
  obtain ⟨hpa, hpc, hb1, hb2⟩ := A3.lt
  simp only at x0 x1 x2 x3 x4 x5
  generalize nth l ((k : Int) + 1) = od at *
  have A3 := Lib.hid A3
  have X3 := Lib.hid X3
  generalize w.heap.size = px at *
  go_quiet (fail)
  have hqW1 : Below w3.heap.size w3 (w3.drewN nq) := drewN_below (Below.refl _ _) _
  generalize w3.drewN nq = W1 at hqW1 ⊢
  obtain ⟨rcW1, rfW1⟩ := bcell hqW1
  have hsW1 := hqW1.size
  go_wp2
  go_quiet (fail)
  have hqW2 : Below w3.heap.size w3 (W1.drewN nq) := drewN_below (hqW1) _
  generalize W1.drewN nq = W2 at hqW2 ⊢
  clear rcW1 rfW1 hsW1
  obtain ⟨rcW2, rfW2⟩ := bcell hqW2
  have hsW2 := hqW2.size
  go_wp2
  go_quiet (fail)
  have hqW3 : Below w3.heap.size w3 (W2.drewN nq) := drewN_below (hqW2) _
  generalize W2.drewN nq = W3 at hqW3 ⊢
  clear rcW2 rfW2 hsW2
  obtain ⟨rcW3, rfW3⟩ := bcell hqW3
  have hsW3 := hqW3.size
  go_wp2
  have s1 : IntKind.i64.wrap ((k : Int) + 1 - 1) = (k : Int) := by rw [show (k : Int) + 1 - 1 = k by omega]; exact IntWalk.i64_in _ (by omega)
  have s2 : IntKind.i64.wrap (k : Int) = (k : Int) := IntWalk.i64_in _ (by omega)
  have s3 : (k : Int) < n := by omega
  have f1 : W3.cell? ⟨pa, 1, none⟩ = some (.slice (some ⟨g, 0, none⟩) n cap) := (rcW3 _ _ hpa).trans c1
  have f2 : W3.cell? ⟨px, 4, none⟩ = some (.int .i64 ((k : Int) + 1)) := (rcW3 _ _ hpx).trans x4
  have g0 : W3.cell? ⟨g, k * 6, none⟩ = _ := (rcW3 _ _ hgl).trans e0
  have g1 : W3.cell? ⟨g, k * 6 + 1, none⟩ = _ := (rcW3 _ _ hgl).trans e1
  have g2 : W3.cell? ⟨g, k * 6 + 2, none⟩ = _ := (rcW3 _ _ hgl).trans e2
  have g3 : W3.cell? ⟨g, k * 6 + 3, none⟩ = _ := (rcW3 _ _ hgl).trans e3
  have g4 : W3.cell? ⟨g, k * 6 + 4, none⟩ = _ := (rcW3 _ _ hgl).trans e4
  have g5 : W3.cell? ⟨g, k * 6 + 5, none⟩ = _ := (rcW3 _ _ hgl).trans e5
  have hpa3 := Nat.lt_of_lt_of_le hpa hsW3
  have hpx3 := Nat.lt_of_lt_of_le hpx hsW3
  have hgl3 := Nat.lt_of_lt_of_le hgl hsW3
  go_region_held3 (fun w' => Below W3.heap.size W3 w' ∧ w'.cell? ⟨pa, 1, none⟩ = some (.slice (some ⟨g, 0, none⟩) n cap) ∧ w'.cell? ⟨px, 4, none⟩ = some (.int .i64 ((k : Int) + 1)) ∧ w'.cell? ⟨g, k * 6, none⟩ = some (.int .i64 od.num) ∧ w'.cell? ⟨g, k * 6 + 1, none⟩ = some (.int .i64 od.day) ∧ w'.cell? ⟨g, k * 6 + 2, none⟩ = some (.int .i64 od.kind) ∧ w'.cell? ⟨g, k * 6 + 3, none⟩ = some (.int .i64 od.lot) ∧ w'.cell? ⟨g, k * 6 + 4, none⟩ = some (.int .i64 od.amt) ∧ w'.cell? ⟨g, k * 6 + 5, none⟩ = some (.int .i64 od.cause))
    ((refine (fun h => ⟨h, (Below.cell (p := ⟨pa, 1, none⟩) h hpa3).trans f1, (Below.cell (p := ⟨px, 4, none⟩) h hpx3).trans f2, (Below.cell (p := ⟨g, k * 6, none⟩) h hgl3).trans g0, (Below.cell (p := ⟨g, k * 6 + 1, none⟩) h hgl3).trans g1, (Below.cell (p := ⟨g, k * 6 + 2, none⟩) h hgl3).trans g2, (Below.cell (p := ⟨g, k * 6 + 3, none⟩) h hgl3).trans g3, (Below.cell (p := ⟨g, k * 6 + 4, none⟩) h hgl3).trans g4, (Below.cell (p := ⟨g, k * 6 + 5, none⟩) h hgl3).trans g5⟩ : Below W3.heap.size W3 _ → _) ?_; first | exact (Below.refl _ _).drew | exact ((Below.refl _ _).drew).alloc (by simp) _ | exact ((Below.refl _ _).alloc (by simp) _).drew))
    (fail)
  clear s1 s2 s3
  go_wp2
  have q4 : Below w3.heap.size w3 ((W3.alloc (.cells (enCs od).toArray 26)).drew) := (hqW3.alloc hsW3 _).drew
  have O4 : BoxAt ((W3.alloc (.cells (enCs od).toArray 26)).drew) B W3.heap.size od := ⟨heap_alloc_new W3 _, Nat.le_trans (Nat.le_trans X3.out.base (Nat.le_of_lt hpx)) hsW3⟩
  have hBw3 : B ≤ w3.heap.size := Nat.le_trans X3.out.base (Nat.le_of_lt hpx)
  have hpo : px ≠ W3.heap.size := Nat.ne_of_lt hpx3
  unfold enCs at q4 O4
  generalize W3.heap.size = po at *
  generalize (W3.alloc (.cells [.int .i64 od.num, .int .i64 od.day, .int .i64 od.kind, .int .i64 od.lot, .int .i64 od.amt, .int .i64 od.cause].toArray 26)).drew = W4 at *
  clear f1 f2 g0 g1 g2 g3 g4 g5 hpa3 hpx3 hgl3 rcW3 rfW3 hsW3 hqW3 c0 c1 c2 c3 e0 e1 e2 e3 e4 e5 x0 x1 x2 x3 x4 x5 hpa hpc hb1 hb2 hpx hgl
  have A4 := Lib.hid (A3.out.below q4)
  have X4 := Lib.hid (X3.out.below q4)
  have q4 := q3.trans (q4.mono hBw3)
  clear A3 X3
  obtain ⟨x0, x1, x2, x3, x4, x5⟩ := X4.out.cell
  obtain ⟨o0, o1, o2, o3, o4, o5⟩ := O4.cell
  obtain ⟨c0, c1, c2, c3⟩ := A4.out.cell
  obtain ⟨hpa, hpc, hb1, hb2⟩ := A4.out.lt
  have hpx := X4.out.lt
  have hpo1 := O4.lt
  have O4 := Lib.hid O4
  simp only at x0 x1 x2 x3 x4 x5
  have hko : (od.kind == 9) = true := by simpa using HO.out
  go_quiet (fail)
  have hqW5 : Below W4.heap.size W4 (W4.drewN nq) := drewN_below (Below.refl _ _) _
  generalize W4.drewN nq = W5 at hqW5 ⊢
  obtain ⟨rcW5, rfW5⟩ := bcell hqW5
  have hsW5 := hqW5.size
  go_wp2
  go_ret
  exact ⟨rfl, q4.trans (hqW5.mono (Nat.le_trans hB (Nat.le_of_lt hpx)))⟩
set_option maxRecDepth 100000 in
set_option maxHeartbeats 4000000 in
theorem add_state (B pa : Nat) (l : List En) (x : En) (w : World) (h : Acc w B pa l) (hB : B ≤ w.heap.size) (hv : ledF l = 0) (hl : l.length < 2000) (hr : rangeB x = true) (hn : x.num = (l.length : Int) + 1) (h9 : x.kind = 9) (hx : x.amt ≤ (l.length : Int)) (ho : (nth l x.amt).kind ≠ 9) (hrev : revB l x.amt = true) :
    Calls Try.prog 30 #[.pointer (some ⟨pa, 0, none⟩), enV x] w (IsRet B 17 w) := by
  obtain ⟨pc, b1, b2, n1, n2, v, h⟩ := h
  have HR := Lib.hid (fun W => inRange_any x W)
  rw [hr] at HR
  obtain ⟨_, _, ⟨xl0, xl1⟩, ⟨hamt, hamt2⟩, _⟩ := range_iff.1 hr
  obtain ⟨k, hk⟩ : ∃ k : Nat, x.amt = (k : Int) + 1 := ⟨(x.amt - 1).toNat, by omega⟩
  have hkn : k < l.length := by omega
  obtain ⟨_, hold, _⟩ := ledF_mem hv _ _ (nth_get hkn)
  rw [hk] at ho
  have HB := fun w3 => acc_box (w3 := w3) h hB x
  have HPX := Lib.hid (h.apart_box)
  have HLN := Lib.hid h.len
  have HN2 := Lib.hid h.len.2
  have HV := Lib.hid hv
  have HR1 := Lib.hid hr
  obtain ⟨xn, xd, xk, xl, xa, xc⟩ := x
  unfold enV at *
  unfold enCs at HB
  simp only at *
  subst hn; subst h9; subst hk
  have HB := Lib.hid HB
  have HREV := Lib.hid hrev
  clear hrev
  have HH := Lib.hid h
  clear h hr hv
  have HOLD := Lib.hid hold
  have HO := Lib.hid ho
  have HAMT := Lib.hid (And.intro xl0 (And.intro xl1 (And.intro hamt hamt2)))
  clear hold ho hamt hamt2 xl0 xl1
  have hc1 := HH.out.cell.2.1
  have hpl := HH.out.lt.1
  obtain ⟨g, cap, rfl, _⟩ := HH.out.entry hkn
  generalize hnn : l.length = n at hc1 hl hx HR HB ⊢
  have HL := Lib.hid hnn
  clear hnn
  go_enter Try.func30, Try.ntmps30
  go_wp2_with (go_at_call 42; refine (HR.out _).mono ?_; rintro e w3 ⟨rfl, hb3⟩)
  obtain ⟨A3, X3, q3⟩ := HB.out _ hb3
  clear hb3
  clear HB hc1 hpl HH HR
  obtain ⟨hgl, e0, e1, e2, e3, e4, e5⟩ := A3.entry' hkn
  obtain ⟨x0, x1, x2, x3, x4, x5⟩ := X3.cell
  obtain ⟨c0, c1, c2, c3⟩ := A3.cell
  have hpx := X3.lt
  obtain ⟨hpa, hpc, hb1, hb2⟩ := A3.lt
  simp only at x0 x1 x2 x3 x4 x5
  generalize nth l ((k : Int) + 1) = od at *
  have A3 := Lib.hid A3
  have X3 := Lib.hid X3
  generalize w.heap.size = px at *
  go_quiet (fail)
  have hqW1 : Below w3.heap.size w3 (w3.drewN nq) := drewN_below (Below.refl _ _) _
  generalize w3.drewN nq = W1 at hqW1 ⊢
  obtain ⟨rcW1, rfW1⟩ := bcell hqW1
  have hsW1 := hqW1.size
  go_wp2
  go_quiet (fail)
  have hqW2 : Below w3.heap.size w3 (W1.drewN nq) := drewN_below (hqW1) _
  generalize W1.drewN nq = W2 at hqW2 ⊢
  clear rcW1 rfW1 hsW1
  obtain ⟨rcW2, rfW2⟩ := bcell hqW2
  have hsW2 := hqW2.size
  go_wp2
  go_quiet (fail)
  have hqW3 : Below w3.heap.size w3 (W2.drewN nq) := drewN_below (hqW2) _
  generalize W2.drewN nq = W3 at hqW3 ⊢
  clear rcW2 rfW2 hsW2
  obtain ⟨rcW3, rfW3⟩ := bcell hqW3
  have hsW3 := hqW3.size
  go_wp2
  have s1 : IntKind.i64.wrap ((k : Int) + 1 - 1) = (k : Int) := by rw [show (k : Int) + 1 - 1 = k by omega]; exact IntWalk.i64_in _ (by omega)
  have s2 : IntKind.i64.wrap (k : Int) = (k : Int) := IntWalk.i64_in _ (by omega)
  have s3 : (k : Int) < n := by omega
  have f1 : W3.cell? ⟨pa, 1, none⟩ = some (.slice (some ⟨g, 0, none⟩) n cap) := (rcW3 _ _ hpa).trans c1
  have f2 : W3.cell? ⟨px, 4, none⟩ = some (.int .i64 ((k : Int) + 1)) := (rcW3 _ _ hpx).trans x4
  have g0 : W3.cell? ⟨g, k * 6, none⟩ = _ := (rcW3 _ _ hgl).trans e0
  have g1 : W3.cell? ⟨g, k * 6 + 1, none⟩ = _ := (rcW3 _ _ hgl).trans e1
  have g2 : W3.cell? ⟨g, k * 6 + 2, none⟩ = _ := (rcW3 _ _ hgl).trans e2
  have g3 : W3.cell? ⟨g, k * 6 + 3, none⟩ = _ := (rcW3 _ _ hgl).trans e3
  have g4 : W3.cell? ⟨g, k * 6 + 4, none⟩ = _ := (rcW3 _ _ hgl).trans e4
  have g5 : W3.cell? ⟨g, k * 6 + 5, none⟩ = _ := (rcW3 _ _ hgl).trans e5
  have hpa3 := Nat.lt_of_lt_of_le hpa hsW3
  have hpx3 := Nat.lt_of_lt_of_le hpx hsW3
  have hgl3 := Nat.lt_of_lt_of_le hgl hsW3
  go_region_held3 (fun w' => Below W3.heap.size W3 w' ∧ w'.cell? ⟨pa, 1, none⟩ = some (.slice (some ⟨g, 0, none⟩) n cap) ∧ w'.cell? ⟨px, 4, none⟩ = some (.int .i64 ((k : Int) + 1)) ∧ w'.cell? ⟨g, k * 6, none⟩ = some (.int .i64 od.num) ∧ w'.cell? ⟨g, k * 6 + 1, none⟩ = some (.int .i64 od.day) ∧ w'.cell? ⟨g, k * 6 + 2, none⟩ = some (.int .i64 od.kind) ∧ w'.cell? ⟨g, k * 6 + 3, none⟩ = some (.int .i64 od.lot) ∧ w'.cell? ⟨g, k * 6 + 4, none⟩ = some (.int .i64 od.amt) ∧ w'.cell? ⟨g, k * 6 + 5, none⟩ = some (.int .i64 od.cause))
    ((refine (fun h => ⟨h, (Below.cell (p := ⟨pa, 1, none⟩) h hpa3).trans f1, (Below.cell (p := ⟨px, 4, none⟩) h hpx3).trans f2, (Below.cell (p := ⟨g, k * 6, none⟩) h hgl3).trans g0, (Below.cell (p := ⟨g, k * 6 + 1, none⟩) h hgl3).trans g1, (Below.cell (p := ⟨g, k * 6 + 2, none⟩) h hgl3).trans g2, (Below.cell (p := ⟨g, k * 6 + 3, none⟩) h hgl3).trans g3, (Below.cell (p := ⟨g, k * 6 + 4, none⟩) h hgl3).trans g4, (Below.cell (p := ⟨g, k * 6 + 5, none⟩) h hgl3).trans g5⟩ : Below W3.heap.size W3 _ → _) ?_; first | exact (Below.refl _ _).drew | exact ((Below.refl _ _).drew).alloc (by simp) _ | exact ((Below.refl _ _).alloc (by simp) _).drew))
    (fail)
  clear s1 s2 s3
  go_wp2
  have q4 : Below w3.heap.size w3 ((W3.alloc (.cells (enCs od).toArray 26)).drew) := (hqW3.alloc hsW3 _).drew
  have O4 : BoxAt ((W3.alloc (.cells (enCs od).toArray 26)).drew) B W3.heap.size od := ⟨heap_alloc_new W3 _, Nat.le_trans (Nat.le_trans X3.out.base (Nat.le_of_lt hpx)) hsW3⟩
  have hBw3 : B ≤ w3.heap.size := Nat.le_trans X3.out.base (Nat.le_of_lt hpx)
  have hpo : px ≠ W3.heap.size := Nat.ne_of_lt hpx3
  unfold enCs at q4 O4
  generalize W3.heap.size = po at *
  generalize (W3.alloc (.cells [.int .i64 od.num, .int .i64 od.day, .int .i64 od.kind, .int .i64 od.lot, .int .i64 od.amt, .int .i64 od.cause].toArray 26)).drew = W4 at *
  clear f1 f2 g0 g1 g2 g3 g4 g5 hpa3 hpx3 hgl3 rcW3 rfW3 hsW3 hqW3 c0 c1 c2 c3 e0 e1 e2 e3 e4 e5 x0 x1 x2 x3 x4 x5 hpa hpc hb1 hb2 hpx hgl
  have A4 := Lib.hid (A3.out.below q4)
  have X4 := Lib.hid (X3.out.below q4)
  have q4 := q3.trans (q4.mono hBw3)
  clear A3 X3
  obtain ⟨x0, x1, x2, x3, x4, x5⟩ := X4.out.cell
  obtain ⟨o0, o1, o2, o3, o4, o5⟩ := O4.cell
  obtain ⟨c0, c1, c2, c3⟩ := A4.out.cell
  obtain ⟨hpa, hpc, hb1, hb2⟩ := A4.out.lt
  have hpx := X4.out.lt
  have hpo1 := O4.lt
  have O4 := Lib.hid O4
  simp only at x0 x1 x2 x3 x4 x5
  have hko : (od.kind == 9) = false := by simpa using HO.out
  have hlk : ∀ n : Nat, (Instr.lookup 61 (.map (some b2)) (.int .i64 od.num) false).run Try.prog (W4.drewN n) = .ok (.bool true) (W4.drewN n) := fun n => by
    have e := HOLD.out
    have := look_rev (w := W4.drewN n) A4.out.rev od.num (by rw [e]; omega) (by rw [e]; omega)
    rw [this, e, HREV.out]
  go_quiet (fail)
  have hqW5 : Below W4.heap.size W4 (W4.drewN nq) := drewN_below (Below.refl _ _) _
  generalize W4.drewN nq = W5 at hqW5 ⊢
  obtain ⟨rcW5, rfW5⟩ := bcell hqW5
  have hsW5 := hqW5.size
  go_wp2
  go_ret
  exact ⟨rfl, q4.trans (hqW5.mono (Nat.le_trans hB (Nat.le_of_lt hpx)))⟩
set_option maxRecDepth 100000 in
set_option maxHeartbeats 4000000 in
theorem add_conflict (B pa : Nat) (l : List En) (x : En) (w : World) (h : Acc w B pa l) (hB : B ≤ w.heap.size) (hv : ledF l = 0) (hl : l.length < 2000) (hr : rangeB x = true) (hn : x.num = (l.length : Int) + 1) (h9 : x.kind = 9) (hx : x.amt ≤ (l.length : Int)) (ho : (nth l x.amt).kind ≠ 9) (hrev : revB l x.amt = false) (hlot : (nth l x.amt).lot ≠ x.lot) :
    Calls Try.prog 30 #[.pointer (some ⟨pa, 0, none⟩), enV x] w (IsRet B 14 w) := by
  obtain ⟨pc, b1, b2, n1, n2, v, h⟩ := h
  have HR := Lib.hid (fun W => inRange_any x W)
  rw [hr] at HR
  obtain ⟨_, _, ⟨xl0, xl1⟩, ⟨hamt, hamt2⟩, _⟩ := range_iff.1 hr
  obtain ⟨k, hk⟩ : ∃ k : Nat, x.amt = (k : Int) + 1 := ⟨(x.amt - 1).toNat, by omega⟩
  have hkn : k < l.length := by omega
  obtain ⟨_, hold, _⟩ := ledF_mem hv _ _ (nth_get hkn)
  rw [hk] at ho
  have HB := fun w3 => acc_box (w3 := w3) h hB x
  have HPX := Lib.hid (h.apart_box)
  have HLN := Lib.hid h.len
  have HN2 := Lib.hid h.len.2
  have HV := Lib.hid hv
  have HR1 := Lib.hid hr
  obtain ⟨xn, xd, xk, xl, xa, xc⟩ := x
  unfold enV at *
  unfold enCs at HB
  simp only at *
  subst hn; subst h9; subst hk
  have HB := Lib.hid HB
  have HREV := Lib.hid hrev
  clear hrev
  have HLOT := Lib.hid hlot
  clear hlot
  have HH := Lib.hid h
  clear h hr hv
  have HOLD := Lib.hid hold
  have HO := Lib.hid ho
  have HAMT := Lib.hid (And.intro xl0 (And.intro xl1 (And.intro hamt hamt2)))
  clear hold ho hamt hamt2 xl0 xl1
  have hc1 := HH.out.cell.2.1
  have hpl := HH.out.lt.1
  obtain ⟨g, cap, rfl, _⟩ := HH.out.entry hkn
  generalize hnn : l.length = n at hc1 hl hx HR HB ⊢
  have HL := Lib.hid hnn
  clear hnn
  go_enter Try.func30, Try.ntmps30
  go_wp2_with (go_at_call 42; refine (HR.out _).mono ?_; rintro e w3 ⟨rfl, hb3⟩)
  obtain ⟨A3, X3, q3⟩ := HB.out _ hb3
  clear hb3
  clear HB hc1 hpl HH HR
  obtain ⟨hgl, e0, e1, e2, e3, e4, e5⟩ := A3.entry' hkn
  obtain ⟨x0, x1, x2, x3, x4, x5⟩ := X3.cell
  obtain ⟨c0, c1, c2, c3⟩ := A3.cell
  have hpx := X3.lt
  obtain ⟨hpa, hpc, hb1, hb2⟩ := A3.lt
  simp only at x0 x1 x2 x3 x4 x5
  generalize nth l ((k : Int) + 1) = od at *
  have A3 := Lib.hid A3
  have X3 := Lib.hid X3
  generalize w.heap.size = px at *
  go_quiet (fail)
  have hqW1 : Below w3.heap.size w3 (w3.drewN nq) := drewN_below (Below.refl _ _) _
  generalize w3.drewN nq = W1 at hqW1 ⊢
  obtain ⟨rcW1, rfW1⟩ := bcell hqW1
  have hsW1 := hqW1.size
  go_wp2
  go_quiet (fail)
  have hqW2 : Below w3.heap.size w3 (W1.drewN nq) := drewN_below (hqW1) _
  generalize W1.drewN nq = W2 at hqW2 ⊢
  clear rcW1 rfW1 hsW1
  obtain ⟨rcW2, rfW2⟩ := bcell hqW2
  have hsW2 := hqW2.size
  go_wp2
  go_quiet (fail)
  have hqW3 : Below w3.heap.size w3 (W2.drewN nq) := drewN_below (hqW2) _
  generalize W2.drewN nq = W3 at hqW3 ⊢
  clear rcW2 rfW2 hsW2
  obtain ⟨rcW3, rfW3⟩ := bcell hqW3
  have hsW3 := hqW3.size
  go_wp2
  have s1 : IntKind.i64.wrap ((k : Int) + 1 - 1) = (k : Int) := by rw [show (k : Int) + 1 - 1 = k by omega]; exact IntWalk.i64_in _ (by omega)
  have s2 : IntKind.i64.wrap (k : Int) = (k : Int) := IntWalk.i64_in _ (by omega)
  have s3 : (k : Int) < n := by omega
  have f1 : W3.cell? ⟨pa, 1, none⟩ = some (.slice (some ⟨g, 0, none⟩) n cap) := (rcW3 _ _ hpa).trans c1
  have f2 : W3.cell? ⟨px, 4, none⟩ = some (.int .i64 ((k : Int) + 1)) := (rcW3 _ _ hpx).trans x4
  have g0 : W3.cell? ⟨g, k * 6, none⟩ = _ := (rcW3 _ _ hgl).trans e0
  have g1 : W3.cell? ⟨g, k * 6 + 1, none⟩ = _ := (rcW3 _ _ hgl).trans e1
  have g2 : W3.cell? ⟨g, k * 6 + 2, none⟩ = _ := (rcW3 _ _ hgl).trans e2
  have g3 : W3.cell? ⟨g, k * 6 + 3, none⟩ = _ := (rcW3 _ _ hgl).trans e3
  have g4 : W3.cell? ⟨g, k * 6 + 4, none⟩ = _ := (rcW3 _ _ hgl).trans e4
  have g5 : W3.cell? ⟨g, k * 6 + 5, none⟩ = _ := (rcW3 _ _ hgl).trans e5
  have hpa3 := Nat.lt_of_lt_of_le hpa hsW3
  have hpx3 := Nat.lt_of_lt_of_le hpx hsW3
  have hgl3 := Nat.lt_of_lt_of_le hgl hsW3
  go_region_held3 (fun w' => Below W3.heap.size W3 w' ∧ w'.cell? ⟨pa, 1, none⟩ = some (.slice (some ⟨g, 0, none⟩) n cap) ∧ w'.cell? ⟨px, 4, none⟩ = some (.int .i64 ((k : Int) + 1)) ∧ w'.cell? ⟨g, k * 6, none⟩ = some (.int .i64 od.num) ∧ w'.cell? ⟨g, k * 6 + 1, none⟩ = some (.int .i64 od.day) ∧ w'.cell? ⟨g, k * 6 + 2, none⟩ = some (.int .i64 od.kind) ∧ w'.cell? ⟨g, k * 6 + 3, none⟩ = some (.int .i64 od.lot) ∧ w'.cell? ⟨g, k * 6 + 4, none⟩ = some (.int .i64 od.amt) ∧ w'.cell? ⟨g, k * 6 + 5, none⟩ = some (.int .i64 od.cause))
    ((refine (fun h => ⟨h, (Below.cell (p := ⟨pa, 1, none⟩) h hpa3).trans f1, (Below.cell (p := ⟨px, 4, none⟩) h hpx3).trans f2, (Below.cell (p := ⟨g, k * 6, none⟩) h hgl3).trans g0, (Below.cell (p := ⟨g, k * 6 + 1, none⟩) h hgl3).trans g1, (Below.cell (p := ⟨g, k * 6 + 2, none⟩) h hgl3).trans g2, (Below.cell (p := ⟨g, k * 6 + 3, none⟩) h hgl3).trans g3, (Below.cell (p := ⟨g, k * 6 + 4, none⟩) h hgl3).trans g4, (Below.cell (p := ⟨g, k * 6 + 5, none⟩) h hgl3).trans g5⟩ : Below W3.heap.size W3 _ → _) ?_; first | exact (Below.refl _ _).drew | exact ((Below.refl _ _).drew).alloc (by simp) _ | exact ((Below.refl _ _).alloc (by simp) _).drew))
    (fail)
  clear s1 s2 s3
  go_wp2
  have q4 : Below w3.heap.size w3 ((W3.alloc (.cells (enCs od).toArray 26)).drew) := (hqW3.alloc hsW3 _).drew
  have O4 : BoxAt ((W3.alloc (.cells (enCs od).toArray 26)).drew) B W3.heap.size od := ⟨heap_alloc_new W3 _, Nat.le_trans (Nat.le_trans X3.out.base (Nat.le_of_lt hpx)) hsW3⟩
  have hBw3 : B ≤ w3.heap.size := Nat.le_trans X3.out.base (Nat.le_of_lt hpx)
  have hpo : px ≠ W3.heap.size := Nat.ne_of_lt hpx3
  unfold enCs at q4 O4
  generalize W3.heap.size = po at *
  generalize (W3.alloc (.cells [.int .i64 od.num, .int .i64 od.day, .int .i64 od.kind, .int .i64 od.lot, .int .i64 od.amt, .int .i64 od.cause].toArray 26)).drew = W4 at *
  clear f1 f2 g0 g1 g2 g3 g4 g5 hpa3 hpx3 hgl3 rcW3 rfW3 hsW3 hqW3 c0 c1 c2 c3 e0 e1 e2 e3 e4 e5 x0 x1 x2 x3 x4 x5 hpa hpc hb1 hb2 hpx hgl
  have A4 := Lib.hid (A3.out.below q4)
  have X4 := Lib.hid (X3.out.below q4)
  have q4 := q3.trans (q4.mono hBw3)
  clear A3 X3
  obtain ⟨x0, x1, x2, x3, x4, x5⟩ := X4.out.cell
  obtain ⟨o0, o1, o2, o3, o4, o5⟩ := O4.cell
  obtain ⟨c0, c1, c2, c3⟩ := A4.out.cell
  obtain ⟨hpa, hpc, hb1, hb2⟩ := A4.out.lt
  have hpx := X4.out.lt
  have hpo1 := O4.lt
  have O4 := Lib.hid O4
  simp only at x0 x1 x2 x3 x4 x5
  have hko : (od.kind == 9) = false := by simpa using HO.out
  have hlk : ∀ n : Nat, (Instr.lookup 61 (.map (some b2)) (.int .i64 od.num) false).run Try.prog (W4.drewN n) = .ok (.bool false) (W4.drewN n) := fun n => by
    have e := HOLD.out
    have := look_rev (w := W4.drewN n) A4.out.rev od.num (by rw [e]; omega) (by rw [e]; omega)
    rw [this, e, HREV.out]
  go_quiet (fail)
  have hqW5 : Below W4.heap.size W4 (W4.drewN nq) := drewN_below (Below.refl _ _) _
  generalize W4.drewN nq = W5 at hqW5 ⊢
  obtain ⟨rcW5, rfW5⟩ := bcell hqW5
  have hsW5 := hqW5.size
  have hlt : (od.lot == xl) = false := by simpa using HLOT.out
  go_wp2
  go_ret
  exact ⟨rfl, q4.trans (hqW5.mono (Nat.le_trans hB (Nat.le_of_lt hpx)))⟩

end Go.Proofs.Ytefphkefgfoklaa
