/- Messages in plain data: validity, and the segments of a message. -/
import Derived.Test.YtmjlnckmhdgoiaaGreatDoorSb
import Derived.Lib.ItoaNum
namespace Go.Proofs.YtmjlnckmhdgoiaaGreatDoor
set_option linter.unusedVariables false

structure Msg where
  kind : Int
  src : Int
  dst : Int
  number : Int
  day : Int
  lot : Int
  other : Int
  code : Bs
  country : Bs
  quantity : Int
  amount : Int
  list : List Int
  text : Bs
def outB (n lo hi : Int) : Bool := decide (n < lo) || decide (hi < n)
theorem outB_false {n lo hi : Int} : outB n lo hi = false ↔ lo ≤ n ∧ n ≤ hi := by
  unfold outB
  rw [Bool.or_eq_false_iff, decide_eq_false_iff_not, decide_eq_false_iff_not]
  omega
def inRange (lo hi : Nat) (c : UInt8) : Bool := decide (lo ≤ c.toNat) && decide (c.toNat ≤ hi)
def allIn (lo hi : Nat) (s : Bs) : Bool := s.all (inRange lo hi)
def codeB (s : Bs) : Bool := decide (s.length ≤ 8) && (decide (s.length % 2 = 0) && allIn 48 57 s)
def countryB (s : Bs) : Bool := decide (s.length = 0) || (decide (s.length = 2) && allIn 65 90 s)
def amtB (n : Int) : Bool := outB n (-1000000000000) 1000000000000
def rangeB (m : Msg) : Bool := outB m.kind 1 60 || (outB m.src 0 999 || (outB m.dst 0 999 || (outB m.number 0 1000000000 || (outB m.day 0 36524 || (outB m.lot 0 1000000000 || (outB m.other 0 1000000000 || (outB m.quantity 0 1000000000 || amtB m.amount)))))))
def formB (m : Msg) : Bool := !codeB m.code || !countryB m.country
def longB (m : Msg) : Bool := decide (64 < m.list.length) || decide (200 < m.text.length)
/-- what Validate returns: 0, 1 (not valid), 2 (range), 8 (a limit) -/
def validM (m : Msg) : Int := if rangeB m = true then 2 else if formB m = true then 1 else if longB m = true then 8 else if m.list.any amtB = true then 2 else 0
theorem validM_zero {m : Msg} : validM m = 0 ↔ rangeB m = false ∧ formB m = false ∧ longB m = false ∧ m.list.any amtB = false := by
  unfold validM
  cases rangeB m <;> cases formB m <;> cases longB m <;> cases m.list.any amtB <;> simp
theorem all_step {lo hi : Nat} {s : Bs} {k : Nat} (h : k < s.length) : allIn lo hi (s.drop k) = (inRange lo hi s[k] && allIn lo hi (s.drop (k + 1))) := by
  unfold allIn; rw [List.drop_eq_getElem_cons h, List.all_cons]
theorem any_step {l : List Int} {k : Nat} (h : k < l.length) : (l.drop k).any amtB = (amtB l[k] || (l.drop (k + 1)).any amtB) := by
  rw [List.drop_eq_getElem_cons h, List.any_cons]
end Go.Proofs.YtmjlnckmhdgoiaaGreatDoor
