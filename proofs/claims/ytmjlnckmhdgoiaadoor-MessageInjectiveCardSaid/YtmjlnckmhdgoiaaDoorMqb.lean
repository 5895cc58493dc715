/- Contract of customsref06.SameMessage, part. -/
import Derived.Test.YtmjlnckmhdgoiaaDoorMqa
namespace Go.Proofs.YtmjlnckmhdgoiaaDoor
open Go.RowKit
set_option linter.unusedVariables false

set_option maxHeartbeats 4000000 in
set_option maxRecDepth 100000 in
theorem sameM_no0 (m n : Msg) (A A' : Option Addr) (c c' : Nat) (w : World) (h : Rd w A (ints m.list)) (h' : Rd w A' (ints n.list)) (hl : m.list.length ≤ 9223372036854775807) (hd : m.kind ≠ n.kind) :
    Calls Tryd.prog 21 #[msgV m A c, .agg #[.int .i64 n.kind, .int .i64 n.src, .int .i64 n.dst, .int .i64 n.number, .int .i64 n.day, .int .i64 n.lot, .int .i64 n.other, .string ⟨n.code.toArray⟩, .string ⟨n.country.toArray⟩, .int .i64 n.quantity, .int .i64 n.amount, .slice A' n.list.length c', .string ⟨n.text.toArray⟩]] w fun e w' => e = .returned (.bool false) ∧ Below w.heap.size w w' := by
  have q := two_below w (.cells (msgC m A c) 24) (.cells #[.int .i64 n.kind, .int .i64 n.src, .int .i64 n.dst, .int .i64 n.number, .int .i64 n.day, .int .i64 n.lot, .int .i64 n.other, .string ⟨n.code.toArray⟩, .string ⟨n.country.toArray⟩, .int .i64 n.quantity, .int .i64 n.amount, .slice A' n.list.length c', .string ⟨n.text.toArray⟩] 24)
  have hb : (m.kind == n.kind) = false := by rw [beq_eq_false_iff_ne]; exact hd
  clear hd
  go_enter Tryd.func21, Tryd.ntmps21
  go_wp2_with fail
  go_ret
  exact ⟨rfl, q⟩
set_option maxHeartbeats 4000000 in
set_option maxRecDepth 100000 in
theorem sameM_no1 (m n : Msg) (A A' : Option Addr) (c c' : Nat) (w : World) (h : Rd w A (ints m.list)) (h' : Rd w A' (ints n.list)) (hl : m.list.length ≤ 9223372036854775807) (hd : m.src ≠ n.src) :
    Calls Tryd.prog 21 #[msgV m A c, .agg #[.int .i64 m.kind, .int .i64 n.src, .int .i64 n.dst, .int .i64 n.number, .int .i64 n.day, .int .i64 n.lot, .int .i64 n.other, .string ⟨n.code.toArray⟩, .string ⟨n.country.toArray⟩, .int .i64 n.quantity, .int .i64 n.amount, .slice A' n.list.length c', .string ⟨n.text.toArray⟩]] w fun e w' => e = .returned (.bool false) ∧ Below w.heap.size w w' := by
  have q := two_below w (.cells (msgC m A c) 24) (.cells #[.int .i64 m.kind, .int .i64 n.src, .int .i64 n.dst, .int .i64 n.number, .int .i64 n.day, .int .i64 n.lot, .int .i64 n.other, .string ⟨n.code.toArray⟩, .string ⟨n.country.toArray⟩, .int .i64 n.quantity, .int .i64 n.amount, .slice A' n.list.length c', .string ⟨n.text.toArray⟩] 24)
  have hb : (m.src == n.src) = false := by rw [beq_eq_false_iff_ne]; exact hd
  clear hd
  go_enter Tryd.func21, Tryd.ntmps21
  go_wp2_with fail
  go_ret
  exact ⟨rfl, q⟩
set_option maxHeartbeats 4000000 in
set_option maxRecDepth 100000 in
theorem sameM_no2 (m n : Msg) (A A' : Option Addr) (c c' : Nat) (w : World) (h : Rd w A (ints m.list)) (h' : Rd w A' (ints n.list)) (hl : m.list.length ≤ 9223372036854775807) (hd : m.dst ≠ n.dst) :
    Calls Tryd.prog 21 #[msgV m A c, .agg #[.int .i64 m.kind, .int .i64 m.src, .int .i64 n.dst, .int .i64 n.number, .int .i64 n.day, .int .i64 n.lot, .int .i64 n.other, .string ⟨n.code.toArray⟩, .string ⟨n.country.toArray⟩, .int .i64 n.quantity, .int .i64 n.amount, .slice A' n.list.length c', .string ⟨n.text.toArray⟩]] w fun e w' => e = .returned (.bool false) ∧ Below w.heap.size w w' := by
  have q := two_below w (.cells (msgC m A c) 24) (.cells #[.int .i64 m.kind, .int .i64 m.src, .int .i64 n.dst, .int .i64 n.number, .int .i64 n.day, .int .i64 n.lot, .int .i64 n.other, .string ⟨n.code.toArray⟩, .string ⟨n.country.toArray⟩, .int .i64 n.quantity, .int .i64 n.amount, .slice A' n.list.length c', .string ⟨n.text.toArray⟩] 24)
  have hb : (m.dst == n.dst) = false := by rw [beq_eq_false_iff_ne]; exact hd
  clear hd
  go_enter Tryd.func21, Tryd.ntmps21
  go_wp2_with fail
  go_ret
  exact ⟨rfl, q⟩
set_option maxHeartbeats 4000000 in
set_option maxRecDepth 100000 in
theorem sameM_no3 (m n : Msg) (A A' : Option Addr) (c c' : Nat) (w : World) (h : Rd w A (ints m.list)) (h' : Rd w A' (ints n.list)) (hl : m.list.length ≤ 9223372036854775807) (hd : m.number ≠ n.number) :
    Calls Tryd.prog 21 #[msgV m A c, .agg #[.int .i64 m.kind, .int .i64 m.src, .int .i64 m.dst, .int .i64 n.number, .int .i64 n.day, .int .i64 n.lot, .int .i64 n.other, .string ⟨n.code.toArray⟩, .string ⟨n.country.toArray⟩, .int .i64 n.quantity, .int .i64 n.amount, .slice A' n.list.length c', .string ⟨n.text.toArray⟩]] w fun e w' => e = .returned (.bool false) ∧ Below w.heap.size w w' := by
  have q := two_below w (.cells (msgC m A c) 24) (.cells #[.int .i64 m.kind, .int .i64 m.src, .int .i64 m.dst, .int .i64 n.number, .int .i64 n.day, .int .i64 n.lot, .int .i64 n.other, .string ⟨n.code.toArray⟩, .string ⟨n.country.toArray⟩, .int .i64 n.quantity, .int .i64 n.amount, .slice A' n.list.length c', .string ⟨n.text.toArray⟩] 24)
  have hb : (m.number == n.number) = false := by rw [beq_eq_false_iff_ne]; exact hd
  clear hd
  go_enter Tryd.func21, Tryd.ntmps21
  go_wp2_with fail
  go_ret
  exact ⟨rfl, q⟩
end Go.Proofs.YtmjlnckmhdgoiaaDoor
