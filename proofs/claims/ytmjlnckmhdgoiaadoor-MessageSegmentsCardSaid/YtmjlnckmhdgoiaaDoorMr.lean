/- Contracts of customsref02.Digits and Number, and of customsref06.element. -/
import Derived.Test.YtmjlnckmhdgoiaaDoorMl
namespace Go.Proofs.YtmjlnckmhdgoiaaDoor
open Go.RowKit
set_option linter.unusedVariables false

theorem dec_small {k : Nat} (h : k < 10) : Lib.decDigits k = [UInt8.ofNat (48 + k)] := by rw [Lib.decDigits, dif_pos h]
theorem dec_big {k : Nat} (h : ¬ k < 10) : Lib.decDigits k = Lib.decDigits (k / 10) ++ [UInt8.ofNat (48 + k % 10)] := by rw [Lib.decDigits, dif_neg h]
theorem dec_len {k : Nat} (h : k ≤ 9223372036854775807) : (Lib.decDigits k).length ≤ 20 := by rw [Lib.decDigits_length]; exact Lib.nDigits_le20 k (by omega)
def DigRel (n : Nat) (w : World) (g : Nat) (x s : Value) (wr : World) : Prop := ∃ t : Bs, x = .int .i64 (g : Int) ∧ s = .string ⟨t.toArray⟩ ∧ Lib.decDigits n = Lib.decDigits g ++ t ∧ g ≤ 9223372036854775807 ∧ Below w.heap.size w wr
theorem conv_one (w : World) (c : UInt8) (x : Int) (hx : x = (c.toNat : Int)) : (convert 32 9 (.slice (some ⟨w.heap.size, 0, none⟩) 1 1)).run Tryd.prog (w.alloc (.cells #[.int .u8 x] 5)) = .ok (.string ⟨#[c]⟩) (w.alloc (.cells #[.int .u8 x] 5)) := by
  subst hx
  exact conv_back (w.alloc (.cells #[.int .u8 (c.toNat : Int)] 5)) (some ⟨w.heap.size, 0, none⟩) 1 [c] (RdB.new w (u8s [c]) 5 (0, 0) _ rfl).rd
set_option maxHeartbeats 2000000 in
set_option maxRecDepth 100000 in
theorem digits_any (n : Nat) (w : World) (hn : n ≤ 9223372036854775807) :
    Calls Tryd.prog 52 #[.int .i64 (n : Int)] w fun e w' => e = .returned (.string ⟨(Lib.decDigits n).toArray⟩) ∧ Below w.heap.size w w' := by
  go_enter Tryd.func52, Tryd.ntmps52
  go_wp2
  go_loopg [0, 3] n (fun g x s wr => DigRel n w g x s wr)
  case atStart => exact ⟨[], rfl, rfl, by simp, hn, Below.refl _ _⟩
  case round =>
    obtain ⟨t, rfl, rfl, hd, hg, hb⟩ := hrel
    have HD := Lib.hid hd
    have HB := Lib.hid hb
    clear hd hb
    obtain ⟨c, hc, hce⟩ : ∃ c : UInt8, (48 + (gk : Int) % 10) = (c.toNat : Int) ∧ c = UInt8.ofNat (48 + gk % 10) := ⟨_, by rw [dig_toNat (Nat.mod_lt _ (by omega))]; omega, rfl⟩
    have htl : t.length ≤ 20 := by have h1 := dec_len hn; rw [HD.out, List.length_append] at h1; omega
    have hcv := conv_one wr c _ hc
    have hcat := cat_bytes [c] t
    have HCE := Lib.hid hce
    have hcb : (48 + (gk : Int) % 10) ≤ 255 := by omega
    clear hce hc
    by_cases hlt : gk < 10
    · have hq : ((gk : Int) / 10 == 0) = true := by rw [beq_iff_eq]; omega
      have HE : Hid (Lib.decDigits n = [c] ++ t) := by show _ = _; rw [HD.out, dec_small hlt, HCE.out, Nat.mod_eq_of_lt hlt]
      clear HD HCE
      go_wp2
      go_ret
      exact ⟨by rw [HE.out]; rfl, HB.out.alloc HB.out.size _⟩
    · have hq : ((gk : Int) / 10 == 0) = false := by rw [beq_eq_false_iff_ne]; omega
      have HE : Hid (Lib.decDigits n = Lib.decDigits (gk / 10) ++ ([c] ++ t)) := by show _ = _; rw [HD.out, dec_big hlt, HCE.out, List.append_assoc]
      clear HD HCE
      go_wp2
      go_roundg (gk / 10)
      case measure => omega
      case rel => exact ⟨[c] ++ t, by go_num, rfl, HE.out, by omega, HB.out.alloc HB.out.size _⟩
theorem number02_any (n : Int) (w : World) (h0 : -9223372036854775807 ≤ n) (h1 : n ≤ 9223372036854775807) :
    Calls Tryd.prog 46 #[.int .i64 n] w fun e w' => e = .returned (.string ⟨(Lib.itoa n).toArray⟩) ∧ Below w.heap.size w w' := by
  by_cases hneg : n < 0
  · obtain ⟨k, hk⟩ : ∃ k : Nat, -n = (k : Int) := ⟨n.natAbs, by omega⟩
    have HD := Lib.hid (digits_any k w (by omega))
    have HE : Hid (Lib.itoa n = [45] ++ Lib.decDigits k) := by show _ = _; unfold Lib.itoa; rw [if_pos hneg, show n.natAbs = k by omega]; rfl
    have hcat := cat_bytes [45] (Lib.decDigits k)
    have hsl := dec_len (k := k) (by omega)
    generalize Lib.decDigits k = s at HD HE hcat hsl
    go_enter Tryd.func46, Tryd.ntmps46
    go_wp2_with fail
    refine HD.out.mono ?_
    rintro e w1 ⟨rfl, hb⟩
    go_wp2_with fail
    go_ret
    exact ⟨by rw [HE.out]; rfl, hb⟩
  · obtain ⟨k, rfl⟩ : ∃ k : Nat, n = (k : Int) := ⟨n.toNat, by omega⟩
    have HD := Lib.hid (digits_any k w (by omega))
    have HE : Hid (Lib.itoa (k : Int) = Lib.decDigits k) := by show _ = _; unfold Lib.itoa; rw [if_neg hneg, Int.toNat_natCast]
    generalize Lib.decDigits k = s at HD HE
    go_enter Tryd.func46, Tryd.ntmps46
    go_wp2_with fail
    refine HD.out.mono ?_
    rintro e w1 ⟨rfl, hb⟩
    go_wp2_with fail
    go_ret
    exact ⟨by rw [HE.out]; rfl, hb⟩
theorem element_any (s : Bs) (w : World) : Calls Tryd.prog 45 #[.string ⟨s.toArray⟩] w (ElRet w (elT s)) := by
  by_cases h : s = []
  · subst h
    go_enter Tryd.func45, Tryd.ntmps45
    go_wp2_with fail
    go_ret
    exact ⟨none, 0, rfl, OwnStr.nil_ _ _, Below.refl _ _⟩
  · have HE : Hid (elT s = [s]) := by show _ = _; unfold elT; rw [if_neg h]
    have h2 : s.isEmpty = false := by simpa using h
    go_enter Tryd.func45, Tryd.ntmps45
    go_wp2_with fail
    go_ret
    rw [HE.out]
    exact ⟨_, 1, rfl, own_one w s w.heap.size (Nat.le_refl _), (Below.refl _ _).alloc (Nat.le_refl _) _⟩
end Go.Proofs.YtmjlnckmhdgoiaaDoor
