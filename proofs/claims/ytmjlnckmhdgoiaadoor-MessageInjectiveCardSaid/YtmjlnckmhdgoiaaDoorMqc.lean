/- Contract of customsref06.SameMessage, part. -/
import Derived.Test.YtmjlnckmhdgoiaaDoorMqa
namespace Go.Proofs.YtmjlnckmhdgoiaaDoor
open Go.RowKit
set_option linter.unusedVariables false

set_option maxHeartbeats 4000000 in
set_option maxRecDepth 100000 in
theorem sameM_no4 (m n : Msg) (A A' : Option Addr) (c c' : Nat) (w : World) (h : Rd w A (ints m.list)) (h' : Rd w A' (ints n.list)) (hl : m.list.length ≤ 9223372036854775807) (hd : m.day ≠ n.day) :
    Calls Tryd.prog 21 #[msgV m A c, .agg #[.int .i64 m.kind, .int .i64 m.src, .int .i64 m.dst, .int .i64 m.number, .int .i64 n.day, .int .i64 n.lot, .int .i64 n.other, .string ⟨n.code.toArray⟩, .string ⟨n.country.toArray⟩, .int .i64 n.quantity, .int .i64 n.amount, .slice A' n.list.length c', .string ⟨n.text.toArray⟩]] w fun e w' => e = .returned (.bool false) ∧ Below w.heap.size w w' := by
  have q := two_below w (.cells (msgC m A c) 24) (.cells #[.int .i64 m.kind, .int .i64 m.src, .int .i64 m.dst, .int .i64 m.number, .int .i64 n.day, .int .i64 n.lot, .int .i64 n.other, .string ⟨n.code.toArray⟩, .string ⟨n.country.toArray⟩, .int .i64 n.quantity, .int .i64 n.amount, .slice A' n.list.length c', .string ⟨n.text.toArray⟩] 24)
  have hb : (m.day == n.day) = false := by rw [beq_eq_false_iff_ne]; exact hd
  clear hd
  go_enter Tryd.func21, Tryd.ntmps21
  go_wp2_with fail
  go_ret
  exact ⟨rfl, q⟩
set_option maxHeartbeats 4000000 in
set_option maxRecDepth 100000 in
theorem sameM_no5 (m n : Msg) (A A' : Option Addr) (c c' : Nat) (w : World) (h : Rd w A (ints m.list)) (h' : Rd w A' (ints n.list)) (hl : m.list.length ≤ 9223372036854775807) (hd : m.lot ≠ n.lot) :
    Calls Tryd.prog 21 #[msgV m A c, .agg #[.int .i64 m.kind, .int .i64 m.src, .int .i64 m.dst, .int .i64 m.number, .int .i64 m.day, .int .i64 n.lot, .int .i64 n.other, .string ⟨n.code.toArray⟩, .string ⟨n.country.toArray⟩, .int .i64 n.quantity, .int .i64 n.amount, .slice A' n.list.length c', .string ⟨n.text.toArray⟩]] w fun e w' => e = .returned (.bool false) ∧ Below w.heap.size w w' := by
  have q := two_below w (.cells (msgC m A c) 24) (.cells #[.int .i64 m.kind, .int .i64 m.src, .int .i64 m.dst, .int .i64 m.number, .int .i64 m.day, .int .i64 n.lot, .int .i64 n.other, .string ⟨n.code.toArray⟩, .string ⟨n.country.toArray⟩, .int .i64 n.quantity, .int .i64 n.amount, .slice A' n.list.length c', .string ⟨n.text.toArray⟩] 24)
  have hb : (m.lot == n.lot) = false := by rw [beq_eq_false_iff_ne]; exact hd
  clear hd
  go_enter Tryd.func21, Tryd.ntmps21
  go_wp2_with fail
  go_ret
  exact ⟨rfl, q⟩
set_option maxHeartbeats 4000000 in
set_option maxRecDepth 100000 in
theorem sameM_no6 (m n : Msg) (A A' : Option Addr) (c c' : Nat) (w : World) (h : Rd w A (ints m.list)) (h' : Rd w A' (ints n.list)) (hl : m.list.length ≤ 9223372036854775807) (hd : m.other ≠ n.other) :
    Calls Tryd.prog 21 #[msgV m A c, .agg #[.int .i64 m.kind, .int .i64 m.src, .int .i64 m.dst, .int .i64 m.number, .int .i64 m.day, .int .i64 m.lot, .int .i64 n.other, .string ⟨n.code.toArray⟩, .string ⟨n.country.toArray⟩, .int .i64 n.quantity, .int .i64 n.amount, .slice A' n.list.length c', .string ⟨n.text.toArray⟩]] w fun e w' => e = .returned (.bool false) ∧ Below w.heap.size w w' := by
  have q := two_below w (.cells (msgC m A c) 24) (.cells #[.int .i64 m.kind, .int .i64 m.src, .int .i64 m.dst, .int .i64 m.number, .int .i64 m.day, .int .i64 m.lot, .int .i64 n.other, .string ⟨n.code.toArray⟩, .string ⟨n.country.toArray⟩, .int .i64 n.quantity, .int .i64 n.amount, .slice A' n.list.length c', .string ⟨n.text.toArray⟩] 24)
  have hb : (m.other == n.other) = false := by rw [beq_eq_false_iff_ne]; exact hd
  clear hd
  go_enter Tryd.func21, Tryd.ntmps21
  go_wp2_with fail
  go_ret
  exact ⟨rfl, q⟩
set_option maxHeartbeats 4000000 in
set_option maxRecDepth 100000 in
theorem sameM_no7 (m n : Msg) (A A' : Option Addr) (c c' : Nat) (w : World) (h : Rd w A (ints m.list)) (h' : Rd w A' (ints n.list)) (hl : m.list.length ≤ 9223372036854775807) (hd : m.code ≠ n.code) :
    Calls Tryd.prog 21 #[msgV m A c, .agg #[.int .i64 m.kind, .int .i64 m.src, .int .i64 m.dst, .int .i64 m.number, .int .i64 m.day, .int .i64 m.lot, .int .i64 m.other, .string ⟨n.code.toArray⟩, .string ⟨n.country.toArray⟩, .int .i64 n.quantity, .int .i64 n.amount, .slice A' n.list.length c', .string ⟨n.text.toArray⟩]] w fun e w' => e = .returned (.bool false) ∧ Below w.heap.size w w' := by
  have q := two_below w (.cells (msgC m A c) 24) (.cells #[.int .i64 m.kind, .int .i64 m.src, .int .i64 m.dst, .int .i64 m.number, .int .i64 m.day, .int .i64 m.lot, .int .i64 m.other, .string ⟨n.code.toArray⟩, .string ⟨n.country.toArray⟩, .int .i64 n.quantity, .int .i64 n.amount, .slice A' n.list.length c', .string ⟨n.text.toArray⟩] 24)
  have hb : (m.code == n.code) = false := by rw [beq_eq_false_iff_ne]; exact hd
  clear hd
  go_enter Tryd.func21, Tryd.ntmps21
  go_wp2_with fail
  go_ret
  exact ⟨rfl, q⟩
end Go.Proofs.YtmjlnckmhdgoiaaDoor
