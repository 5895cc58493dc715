/- The law's helpers small and awake; a message that came in. -/
import Derived.Test.YtmjlnckmhdgoiaaDoorMc
import Derived.Test.YtmjlnckmhdgoiaaDoorSt
import Derived.Test.YtmjlnckmhdgoiaaDoorAgg
namespace Go.Proofs.YtmjlnckmhdgoiaaDoor
open Go.Joins Go.ChangeShapes Go.WideShapes Go.RowKit Go.Deep
set_option linter.unusedVariables false

def smallM (m : Msg) : Msg := { m with list := m.list.take 70, text := m.text.take 210 }
theorem msgFields : ∃ fs : Array Field, Tryd.prog.underlying 24 = some (.struct fs) ∧ oneCellFields Tryd.prog fs = true ∧ fs.size = 13 ∧ Tryd.prog.cellsOf 24 = 13 ∧ fs.toList.map (·.type) = [3, 3, 3, 3, 3, 3, 3, 9, 9, 3, 3, 22, 9] :=
  ⟨_, Tryd.underlying24, by kernel_rfl, by kernel_rfl, by kernel_rfl, by kernel_rfl⟩
set_option maxRecDepth 100000 in
/-- a message that came in -/
theorem open_msg {H : Type} {enc : TypeId × Value → H} {w : World} {r : Reach} {b0 : Nat} {v : Value} {d : DataW H} {p : List MemPlace} (hv : Value.okWide Tryd.prog w r b0 24 v) (h : DataW.Trod enc Tryd.prog w 0 (fun _ => true) true 24 v d p) :
    ∃ (m : Msg) (A : Option Addr) (c : Nat), v = msgV m A c ∧ Rd w A (ints m.list) ∧ m.list.length ≤ c ∧ c ≤ maxLen ∧ MBd m := by
  obtain ⟨fs, hs, hone, hsz, hC, hty⟩ := msgFields
  obtain ⟨cs, n, rfl, hl, hf⟩ := open_aggN hs hone (hC.trans hsz.symm) hv h
  rw [hsz] at hl
  obtain ⟨fl⟩ := fs
  match fl, hsz with
  | [f0, f1, f2, f3, f4, f5, f6, f7, f8, f9, f10, f11, f12], _ =>
    match cs, hl with
    | [c0, c1, c2, c3, c4, c5, c6, c7, c8, c9, c10, c11, c12], _ =>
      simp only [List.map_cons, List.map_nil, List.cons.injEq, and_true] at hty
      obtain ⟨t0, t1, t2, t3, t4, t5, t6, t7, t8, t9, t10, t11, t12⟩ := hty
      obtain ⟨y0, g0⟩ := hf 0 f0 c0 rfl rfl
      rw [t0] at g0
      obtain ⟨n0, e0, _, _⟩ := DataW.trod_int Tryd.underlying3 g0
      simp only [List.cons.injEq, and_true] at e0
      subst e0
      obtain ⟨y1, g1⟩ := hf 1 f1 c1 rfl rfl
      rw [t1] at g1
      obtain ⟨n1, e1, _, _⟩ := DataW.trod_int Tryd.underlying3 g1
      simp only [List.cons.injEq, and_true] at e1
      subst e1
      obtain ⟨y2, g2⟩ := hf 2 f2 c2 rfl rfl
      rw [t2] at g2
      obtain ⟨n2, e2, _, _⟩ := DataW.trod_int Tryd.underlying3 g2
      simp only [List.cons.injEq, and_true] at e2
      subst e2
      obtain ⟨y3, g3⟩ := hf 3 f3 c3 rfl rfl
      rw [t3] at g3
      obtain ⟨n3, e3, _, _⟩ := DataW.trod_int Tryd.underlying3 g3
      simp only [List.cons.injEq, and_true] at e3
      subst e3
      obtain ⟨y4, g4⟩ := hf 4 f4 c4 rfl rfl
      rw [t4] at g4
      obtain ⟨n4, e4, _, _⟩ := DataW.trod_int Tryd.underlying3 g4
      simp only [List.cons.injEq, and_true] at e4
      subst e4
      obtain ⟨y5, g5⟩ := hf 5 f5 c5 rfl rfl
      rw [t5] at g5
      obtain ⟨n5, e5, _, _⟩ := DataW.trod_int Tryd.underlying3 g5
      simp only [List.cons.injEq, and_true] at e5
      subst e5
      obtain ⟨y6, g6⟩ := hf 6 f6 c6 rfl rfl
      rw [t6] at g6
      obtain ⟨n6, e6, _, _⟩ := DataW.trod_int Tryd.underlying3 g6
      simp only [List.cons.injEq, and_true] at e6
      subst e6
      obtain ⟨y7, g7⟩ := hf 7 f7 c7 rfl rfl
      rw [t7] at g7
      obtain ⟨s7, e7, _, k7⟩ := DataW.trod_string Tryd.underlying9 g7
      simp only [List.cons.injEq, and_true] at e7
      subst e7
      obtain ⟨y8, g8⟩ := hf 8 f8 c8 rfl rfl
      rw [t8] at g8
      obtain ⟨s8, e8, _, k8⟩ := DataW.trod_string Tryd.underlying9 g8
      simp only [List.cons.injEq, and_true] at e8
      subst e8
      obtain ⟨y9, g9⟩ := hf 9 f9 c9 rfl rfl
      rw [t9] at g9
      obtain ⟨n9, e9, _, _⟩ := DataW.trod_int Tryd.underlying3 g9
      simp only [List.cons.injEq, and_true] at e9
      subst e9
      obtain ⟨y10, g10⟩ := hf 10 f10 c10 rfl rfl
      rw [t10] at g10
      obtain ⟨n10, e10, _, _⟩ := DataW.trod_int Tryd.underlying3 g10
      simp only [List.cons.injEq, and_true] at e10
      subst e10
      obtain ⟨y11, g11⟩ := hf 11 f11 c11 rfl rfl
      rw [t11] at g11
      obtain ⟨A, c, l, e11, hr, hlc, hcm, _, _⟩ := open_fieldI Tryd.underlying22 Tryd.underlying3 (by kernel_rfl) g11
      subst e11
      obtain ⟨y12, g12⟩ := hf 12 f12 c12 rfl rfl
      rw [t12] at g12
      obtain ⟨s12, e12, _, k12⟩ := DataW.trod_string Tryd.underlying9 g12
      simp only [List.cons.injEq, and_true] at e12
      subst e12
      refine ⟨⟨n0, n1, n2, n3, n4, n5, n6, s7.data.toList, s8.data.toList, n9, n10, l, s12.data.toList⟩, A, c, ?_, hr, hlc, hcm, ?_⟩
      · cases s7; cases s8; cases s12; rfl
      · exact ⟨k7, k8, Nat.le_trans hlc hcm, k12⟩
theorem text_head (s : Bs) (k : Nat) : ({ data := s.toArray } : ByteArray).extract 0 k = { data := (s.take k).toArray } := by
  apply ByteArray.ext
  simp [ByteArray.extract, ByteArray.copySlice]
set_option maxHeartbeats 4000000 in
set_option maxRecDepth 100000 in
theorem small_any (m : Msg) (A : Option Addr) (c : Nat) (w : World) (hc : m.list.length ≤ c) (hb : MBd m) :
    Calls Tryd.prog 10 #[msgV m A c] w fun e w' => e = .returned (msgV (smallM m) A c) ∧ Below w.heap.size w w' := by
  obtain ⟨k1, k2, k3, k4⟩ := hb
  have q0 := (Below.refl w.heap.size w).alloc (Nat.le_refl _) (.cells (msgC m A c) 24)
  by_cases h1 : 70 < m.list.length <;> by_cases h2 : 210 < m.text.length
  · have hr := fun W => headI_run W A m.list.length c 70 (by omega)
    have HL : Hid (70 = (m.list.take 70).length) := by show _ = _; rw [List.length_take]; omega
    have HT : Hid (({ data := m.text.toArray } : ByteArray).extract 0 210 = { data := (m.text.take 210).toArray }) := text_head _ _
    go_enter Tryd.func10, Tryd.ntmps10
    go_wp2
    refine bodyPost_ret (v := .agg #[.int .i64 m.kind, .int .i64 m.src, .int .i64 m.dst, .int .i64 m.number, .int .i64 m.day, .int .i64 m.lot, .int .i64 m.other, .string ⟨m.code.toArray⟩, .string ⟨m.country.toArray⟩, .int .i64 m.quantity, .int .i64 m.amount, Value.slice A 70 c, .string (({ data := m.text.toArray } : ByteArray).extract 0 210)]) (by simp [results, Tryd.results10, go_sem]) rfl ⟨?_, ((Below.refl _ _).alloc (Nat.le_refl _) _).alloc (by simp) _⟩
    rw [HT.out, show (Value.slice A 70 c) = .slice A (m.list.take 70).length c by rw [← HL.out]]
    rfl
  · have hr := fun W => headI_run W A m.list.length c 70 (by omega)
    have h2' : m.text.length ≤ 210 := by omega
    have HL : Hid (70 = (m.list.take 70).length) := by show _ = _; rw [List.length_take]; omega
    have HT : Hid (m.text = m.text.take 210) := by show _ = _; rw [List.take_of_length_le h2']
    go_enter Tryd.func10, Tryd.ntmps10
    go_wp2
    refine bodyPost_ret (v := .agg #[.int .i64 m.kind, .int .i64 m.src, .int .i64 m.dst, .int .i64 m.number, .int .i64 m.day, .int .i64 m.lot, .int .i64 m.other, .string ⟨m.code.toArray⟩, .string ⟨m.country.toArray⟩, .int .i64 m.quantity, .int .i64 m.amount, Value.slice A 70 c, .string ⟨m.text.toArray⟩]) (by simp [results, Tryd.results10, go_sem]) rfl ⟨?_, ((Below.refl _ _).alloc (Nat.le_refl _) _).alloc (by simp) _⟩
    rw [show (Value.slice A 70 c) = .slice A (m.list.take 70).length c by rw [← HL.out], show (Value.string ⟨m.text.toArray⟩) = .string ⟨(m.text.take 210).toArray⟩ by rw [← HT.out]]
    rfl
  · have h1' : m.list.length ≤ 70 := by omega
    have HL : Hid (m.list.length = (m.list.take 70).length) := by show _ = _; rw [List.length_take]; omega
    have HT : Hid (({ data := m.text.toArray } : ByteArray).extract 0 210 = { data := (m.text.take 210).toArray }) := text_head _ _
    go_enter Tryd.func10, Tryd.ntmps10
    go_wp2
    refine bodyPost_ret (v := .agg #[.int .i64 m.kind, .int .i64 m.src, .int .i64 m.dst, .int .i64 m.number, .int .i64 m.day, .int .i64 m.lot, .int .i64 m.other, .string ⟨m.code.toArray⟩, .string ⟨m.country.toArray⟩, .int .i64 m.quantity, .int .i64 m.amount, Value.slice A m.list.length c, .string (({ data := m.text.toArray } : ByteArray).extract 0 210)]) (by simp [results, Tryd.results10, go_sem]) rfl ⟨?_, ((Below.refl _ _).alloc (Nat.le_refl _) _).alloc (by simp) _⟩
    rw [HT.out, show (Value.slice A m.list.length c) = .slice A (m.list.take 70).length c by rw [← HL.out]]
    rfl
  · have h1' : m.list.length ≤ 70 := by omega
    have h2' : m.text.length ≤ 210 := by omega
    have HL : Hid (m.list.length = (m.list.take 70).length) := by show _ = _; rw [List.length_take]; omega
    have HT : Hid (m.text = m.text.take 210) := by show _ = _; rw [List.take_of_length_le h2']
    go_enter Tryd.func10, Tryd.ntmps10
    go_wp2
    refine bodyPost_ret (v := .agg #[.int .i64 m.kind, .int .i64 m.src, .int .i64 m.dst, .int .i64 m.number, .int .i64 m.day, .int .i64 m.lot, .int .i64 m.other, .string ⟨m.code.toArray⟩, .string ⟨m.country.toArray⟩, .int .i64 m.quantity, .int .i64 m.amount, Value.slice A m.list.length c, .string ⟨m.text.toArray⟩]) (by simp [results, Tryd.results10, go_sem]) rfl ⟨?_, ((Below.refl _ _).alloc (Nat.le_refl _) _).alloc (by simp) _⟩
    rw [show (Value.slice A m.list.length c) = .slice A (m.list.take 70).length c by rw [← HL.out], show (Value.string ⟨m.text.toArray⟩) = .string ⟨(m.text.take 210).toArray⟩ by rw [← HT.out]]
    rfl
end Go.Proofs.YtmjlnckmhdgoiaaDoor
