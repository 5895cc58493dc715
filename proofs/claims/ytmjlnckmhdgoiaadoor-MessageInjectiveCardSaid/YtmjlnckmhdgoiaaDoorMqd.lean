/- Contract of customsref06.SameMessage, part. -/
import Derived.Test.YtmjlnckmhdgoiaaDoorMqb
import Derived.Test.YtmjlnckmhdgoiaaDoorMqc
namespace Go.Proofs.YtmjlnckmhdgoiaaDoor
open Go.RowKit
set_option linter.unusedVariables false

set_option maxHeartbeats 4000000 in
set_option maxRecDepth 100000 in
theorem sameM_no8 (m n : Msg) (A A' : Option Addr) (c c' : Nat) (w : World) (h : Rd w A (ints m.list)) (h' : Rd w A' (ints n.list)) (hl : m.list.length ≤ 9223372036854775807) (hd : m.country ≠ n.country) :
    Calls Tryd.prog 21 #[msgV m A c, .agg #[.int .i64 m.kind, .int .i64 m.src, .int .i64 m.dst, .int .i64 m.number, .int .i64 m.day, .int .i64 m.lot, .int .i64 m.other, .string ⟨m.code.toArray⟩, .string ⟨n.country.toArray⟩, .int .i64 n.quantity, .int .i64 n.amount, .slice A' n.list.length c', .string ⟨n.text.toArray⟩]] w fun e w' => e = .returned (.bool false) ∧ Below w.heap.size w w' := by
  have q := two_below w (.cells (msgC m A c) 24) (.cells #[.int .i64 m.kind, .int .i64 m.src, .int .i64 m.dst, .int .i64 m.number, .int .i64 m.day, .int .i64 m.lot, .int .i64 m.other, .string ⟨m.code.toArray⟩, .string ⟨n.country.toArray⟩, .int .i64 n.quantity, .int .i64 n.amount, .slice A' n.list.length c', .string ⟨n.text.toArray⟩] 24)
  have hb : (m.country == n.country) = false := by rw [beq_eq_false_iff_ne]; exact hd
  clear hd
  go_enter Tryd.func21, Tryd.ntmps21
  go_wp2_with fail
  go_ret
  exact ⟨rfl, q⟩
set_option maxHeartbeats 4000000 in
set_option maxRecDepth 100000 in
theorem sameM_no9 (m n : Msg) (A A' : Option Addr) (c c' : Nat) (w : World) (h : Rd w A (ints m.list)) (h' : Rd w A' (ints n.list)) (hl : m.list.length ≤ 9223372036854775807) (hd : m.quantity ≠ n.quantity) :
    Calls Tryd.prog 21 #[msgV m A c, .agg #[.int .i64 m.kind, .int .i64 m.src, .int .i64 m.dst, .int .i64 m.number, .int .i64 m.day, .int .i64 m.lot, .int .i64 m.other, .string ⟨m.code.toArray⟩, .string ⟨m.country.toArray⟩, .int .i64 n.quantity, .int .i64 n.amount, .slice A' n.list.length c', .string ⟨n.text.toArray⟩]] w fun e w' => e = .returned (.bool false) ∧ Below w.heap.size w w' := by
  have q := two_below w (.cells (msgC m A c) 24) (.cells #[.int .i64 m.kind, .int .i64 m.src, .int .i64 m.dst, .int .i64 m.number, .int .i64 m.day, .int .i64 m.lot, .int .i64 m.other, .string ⟨m.code.toArray⟩, .string ⟨m.country.toArray⟩, .int .i64 n.quantity, .int .i64 n.amount, .slice A' n.list.length c', .string ⟨n.text.toArray⟩] 24)
  have hb : (m.quantity == n.quantity) = false := by rw [beq_eq_false_iff_ne]; exact hd
  clear hd
  go_enter Tryd.func21, Tryd.ntmps21
  go_wp2_with fail
  go_ret
  exact ⟨rfl, q⟩
set_option maxHeartbeats 4000000 in
set_option maxRecDepth 100000 in
theorem sameM_no10 (m n : Msg) (A A' : Option Addr) (c c' : Nat) (w : World) (h : Rd w A (ints m.list)) (h' : Rd w A' (ints n.list)) (hl : m.list.length ≤ 9223372036854775807) (hd : m.amount ≠ n.amount) :
    Calls Tryd.prog 21 #[msgV m A c, .agg #[.int .i64 m.kind, .int .i64 m.src, .int .i64 m.dst, .int .i64 m.number, .int .i64 m.day, .int .i64 m.lot, .int .i64 m.other, .string ⟨m.code.toArray⟩, .string ⟨m.country.toArray⟩, .int .i64 m.quantity, .int .i64 n.amount, .slice A' n.list.length c', .string ⟨n.text.toArray⟩]] w fun e w' => e = .returned (.bool false) ∧ Below w.heap.size w w' := by
  have q := two_below w (.cells (msgC m A c) 24) (.cells #[.int .i64 m.kind, .int .i64 m.src, .int .i64 m.dst, .int .i64 m.number, .int .i64 m.day, .int .i64 m.lot, .int .i64 m.other, .string ⟨m.code.toArray⟩, .string ⟨m.country.toArray⟩, .int .i64 m.quantity, .int .i64 n.amount, .slice A' n.list.length c', .string ⟨n.text.toArray⟩] 24)
  have hb : (m.amount == n.amount) = false := by rw [beq_eq_false_iff_ne]; exact hd
  clear hd
  go_enter Tryd.func21, Tryd.ntmps21
  go_wp2_with fail
  go_ret
  exact ⟨rfl, q⟩
set_option maxHeartbeats 4000000 in
set_option maxRecDepth 100000 in
theorem sameM_no11 (m n : Msg) (A A' : Option Addr) (c c' : Nat) (w : World) (h : Rd w A (ints m.list)) (h' : Rd w A' (ints n.list)) (hl : m.list.length ≤ 9223372036854775807) (hd : m.text ≠ n.text) :
    Calls Tryd.prog 21 #[msgV m A c, .agg #[.int .i64 m.kind, .int .i64 m.src, .int .i64 m.dst, .int .i64 m.number, .int .i64 m.day, .int .i64 m.lot, .int .i64 m.other, .string ⟨m.code.toArray⟩, .string ⟨m.country.toArray⟩, .int .i64 m.quantity, .int .i64 m.amount, .slice A' n.list.length c', .string ⟨n.text.toArray⟩]] w fun e w' => e = .returned (.bool false) ∧ Below w.heap.size w w' := by
  have q := two_below w (.cells (msgC m A c) 24) (.cells #[.int .i64 m.kind, .int .i64 m.src, .int .i64 m.dst, .int .i64 m.number, .int .i64 m.day, .int .i64 m.lot, .int .i64 m.other, .string ⟨m.code.toArray⟩, .string ⟨m.country.toArray⟩, .int .i64 m.quantity, .int .i64 m.amount, .slice A' n.list.length c', .string ⟨n.text.toArray⟩] 24)
  have hb : (m.text == n.text) = false := by rw [beq_eq_false_iff_ne]; exact hd
  clear hd
  go_enter Tryd.func21, Tryd.ntmps21
  go_wp2_with fail
  go_ret
  exact ⟨rfl, q⟩
set_option maxHeartbeats 4000000 in
set_option maxRecDepth 100000 in
theorem sameM_no12 (m n : Msg) (A A' : Option Addr) (c c' : Nat) (w : World) (h : Rd w A (ints m.list)) (h' : Rd w A' (ints n.list)) (hl : m.list.length ≤ 9223372036854775807) (hd : m.list ≠ n.list) :
    Calls Tryd.prog 21 #[msgV m A c, .agg #[.int .i64 m.kind, .int .i64 m.src, .int .i64 m.dst, .int .i64 m.number, .int .i64 m.day, .int .i64 m.lot, .int .i64 m.other, .string ⟨m.code.toArray⟩, .string ⟨m.country.toArray⟩, .int .i64 m.quantity, .int .i64 m.amount, .slice A' n.list.length c', .string ⟨m.text.toArray⟩]] w fun e w' => e = .returned (.bool false) ∧ Below w.heap.size w w' := by
  have q := two_below w (.cells (msgC m A c) 24) (.cells #[.int .i64 m.kind, .int .i64 m.src, .int .i64 m.dst, .int .i64 m.number, .int .i64 m.day, .int .i64 m.lot, .int .i64 m.other, .string ⟨m.code.toArray⟩, .string ⟨m.country.toArray⟩, .int .i64 m.quantity, .int .i64 m.amount, .slice A' n.list.length c', .string ⟨m.text.toArray⟩] 24)
  have HS := Lib.hid (fun W hb => same02_no A A' c c' m.list n.list W (h.below hb) (h'.below hb) hl hd)
  clear hd
  go_enter Tryd.func21, Tryd.ntmps21
  go_wp2_with fail
  refine (HS.out _ q).mono ?_
  rintro e w1 ⟨rfl, hq⟩
  go_wp2_with fail
  go_ret
  exact ⟨rfl, q.trans (hq.below _)⟩
theorem sameM_no (m n : Msg) (A A' : Option Addr) (c c' : Nat) (w : World) (h : Rd w A (ints m.list)) (h' : Rd w A' (ints n.list)) (hl : m.list.length ≤ 9223372036854775807) (hne : m ≠ n) :
    Calls Tryd.prog 21 #[msgV m A c, msgV n A' c'] w fun e w' => e = .returned (.bool false) ∧ Below w.heap.size w w' := by
  by_cases e0 : m.kind = n.kind
  case neg => have := sameM_no0 m n A A' c c' w h h' hl e0; exact this
  by_cases e1 : m.src = n.src
  case neg => have := sameM_no1 m n A A' c c' w h h' hl e1; rw [e0] at this; exact this
  by_cases e2 : m.dst = n.dst
  case neg => have := sameM_no2 m n A A' c c' w h h' hl e2; rw [e0, e1] at this; exact this
  by_cases e3 : m.number = n.number
  case neg => have := sameM_no3 m n A A' c c' w h h' hl e3; rw [e0, e1, e2] at this; exact this
  by_cases e4 : m.day = n.day
  case neg => have := sameM_no4 m n A A' c c' w h h' hl e4; rw [e0, e1, e2, e3] at this; exact this
  by_cases e5 : m.lot = n.lot
  case neg => have := sameM_no5 m n A A' c c' w h h' hl e5; rw [e0, e1, e2, e3, e4] at this; exact this
  by_cases e6 : m.other = n.other
  case neg => have := sameM_no6 m n A A' c c' w h h' hl e6; rw [e0, e1, e2, e3, e4, e5] at this; exact this
  by_cases e7 : m.code = n.code
  case neg => have := sameM_no7 m n A A' c c' w h h' hl e7; rw [e0, e1, e2, e3, e4, e5, e6] at this; exact this
  by_cases e8 : m.country = n.country
  case neg => have := sameM_no8 m n A A' c c' w h h' hl e8; rw [e0, e1, e2, e3, e4, e5, e6, e7] at this; exact this
  by_cases e9 : m.quantity = n.quantity
  case neg => have := sameM_no9 m n A A' c c' w h h' hl e9; rw [e0, e1, e2, e3, e4, e5, e6, e7, e8] at this; exact this
  by_cases e10 : m.amount = n.amount
  case neg => have := sameM_no10 m n A A' c c' w h h' hl e10; rw [e0, e1, e2, e3, e4, e5, e6, e7, e8, e9] at this; exact this
  by_cases e11 : m.text = n.text
  case neg => have := sameM_no11 m n A A' c c' w h h' hl e11; rw [e0, e1, e2, e3, e4, e5, e6, e7, e8, e9, e10] at this; exact this
  by_cases e12 : m.list = n.list
  case neg => have := sameM_no12 m n A A' c c' w h h' hl e12; rw [e0, e1, e2, e3, e4, e5, e6, e7, e8, e9, e10, e11] at this; exact this
  exact absurd (by cases m; cases n; simp_all) hne
end Go.Proofs.YtmjlnckmhdgoiaaDoor
