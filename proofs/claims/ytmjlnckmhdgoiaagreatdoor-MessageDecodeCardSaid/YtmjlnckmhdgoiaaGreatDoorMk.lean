/- Adler-32 in plain data; contracts of the two Checksums. -/
import Derived.Test.YtmjlnckmhdgoiaaGreatDoorSl
namespace Go.Proofs.YtmjlnckmhdgoiaaGreatDoor
open Go.RowKit
set_option linter.unusedVariables false

def adStep (p : Int × Int) (c : UInt8) : Int × Int := ((p.1 + c.toNat) % 65521, (p.2 + (p.1 + c.toNat) % 65521) % 65521)
def adF (l : Bs) : Int × Int := l.foldl adStep (1, 0)
def adlF (l : Bs) : Int := (adF l).2 * 65536 + (adF l).1
theorem adF_snoc (l : Bs) (c : UInt8) : adF (l ++ [c]) = adStep (adF l) c := by simp [adF, List.foldl_append]
theorem adF_take {l : Bs} {k : Nat} (h : k < l.length) : adF (l.take (k + 1)) = adStep (adF (l.take k)) l[k] := by
  rw [List.take_succ_eq_append_getElem h, adF_snoc]
theorem adF_bd (l : Bs) : 0 ≤ (adF l).1 ∧ (adF l).1 < 65521 ∧ 0 ≤ (adF l).2 ∧ (adF l).2 < 65521 := by
  rcases List.eq_nil_or_concat l with rfl | ⟨r, c, rfl⟩
  · decide
  · rw [List.concat_eq_append, adF_snoc]
    unfold adStep
    refine ⟨by simp only; omega, by simp only; omega, by simp only; omega, by simp only; omega⟩
def sumB : Bs → Nat
  | [] => 0
  | c :: r => c.toNat + sumB r
theorem sumB_append (a b : Bs) : sumB (a ++ b) = sumB a + sumB b := by
  induction a with
  | nil => simp [sumB]
  | cons x r ih => simp only [List.cons_append, sumB, ih]; omega
theorem adF_sum : ∀ (l r : Bs), l.reverse = r → (adF l).1 = (1 + (sumB l : Int)) % 65521
  | l, [], h => by
    have : l = [] := by simpa using h
    subst this
    rfl
  | l, c :: r, h => by
    have hl : l = r.reverse ++ [c] := by rw [← List.reverse_reverse l, h]; simp
    subst hl
    have ih := adF_sum r.reverse r (by simp)
    rw [adF_snoc, sumB_append]
    show ((adF r.reverse).1 + c.toNat) % 65521 = _
    rw [ih]
    simp only [sumB]
    omega
theorem sumB_set : ∀ {l : Bs} {k : Nat} (h : k < l.length) (v : UInt8), sumB (l.set k v) + l[k].toNat = sumB l + v.toNat
  | c :: r, 0, h, v => by simp only [List.set_cons_zero, sumB, List.getElem_cons_zero]; omega
  | c :: r, k + 1, h, v => by
    have := sumB_set (l := r) (k := k) (by simpa using h) v
    simp only [List.set_cons_succ, sumB, List.getElem_cons_succ]
    omega
theorem adl_set {l : Bs} {k : Nat} (h : k < l.length) (v : UInt8) : adlF (l.set k v) = adlF l ↔ v = l[k] := by
  constructor
  · intro he
    have h1 := adF_bd l
    have h2 := adF_bd (l.set k v)
    have e1 := adF_sum l _ rfl
    have e2 := adF_sum (l.set k v) _ rfl
    have hs := sumB_set h v
    have b1 := v.toNat_lt
    have b2 := l[k].toNat_lt
    unfold adlF at he
    have hx : (adF (l.set k v)).1 = (adF l).1 := by omega
    rw [hx, e1] at e2
    have : v.toNat = l[k].toNat := by omega
    exact UInt8.toNat_inj.1 this
  · intro hv
    rw [hv, List.set_getElem_self]
theorem xor_same (a b : UInt8) : a ^^^ b = a ↔ b = 0 := by
  constructor
  · intro h
    have : a ^^^ (a ^^^ b) = a ^^^ a := by rw [h]
    rwa [← UInt8.xor_assoc, UInt8.xor_self, UInt8.zero_xor] at this
  · rintro rfl
    exact UInt8.xor_zero
theorem adl_wiki : adlF [87, 105, 107, 105, 112, 101, 100, 105, 97] = 300286872 := by decide
def AdRel (l : Bs) (w : World) (g : Nat) (x y i : Value) (wr : World) : Prop :=
  ∃ (k : Nat) (p q : Int), k + g = l.length ∧ i = .int .i64 (k : Int) ∧ x = .int .i64 p ∧ y = .int .i64 q ∧ adF (l.take k) = (p, q) ∧ w = wr
set_option maxHeartbeats 1000000 in
theorem checksum_any (A : Option Addr) (c : Nat) (l : Bs) (w : World) (hr : Rd w A (u8s l)) (hl : l.length ≤ 1000000000) :
    Calls Tryz.prog 43 #[.slice A l.length c] w fun e w' => e = .returned (.int .i64 (adlF l)) ∧ w = w' := by
  go_enter Tryz.func43, Tryz.ntmps43
  go_wp2
  go_loopg [3, 4, 9] l.length (fun g x y i wr => AdRel l w g x y i wr)
  case atStart => exact ⟨0, 1, 0, by omega, rfl, rfl, rfl, rfl, rfl⟩
  case round =>
    obtain ⟨k, p, q, hk, rfl, rfl, rfl, hh, rfl⟩ := hrel
    have HK := Lib.hid hk
    have hk2 : k ≤ l.length := by omega
    have hbd := adF_bd (l.take k)
    rw [hh] at hbd
    obtain ⟨b1, b2, b3, b4⟩ : 0 ≤ p ∧ p < 65521 ∧ 0 ≤ q ∧ q < 65521 := hbd
    have HH := Lib.hid hh
    clear hk hh
    by_cases hlt : k < l.length
    · obtain ⟨b0, off, rfl, hc⟩ := hr.at_lit (u8s_at hlt)
      have H1 := Lib.hid (adF_take hlt)
      have hy := l[k].toNat_lt
      generalize l[k] = y at *
      have m1 : 0 ≤ (p + (y.toNat : Int)) % 65521 := by omega
      have m2 : (p + (y.toNat : Int)) % 65521 < 65521 := by omega
      have H2 : Hid (adF (l.take (k + 1)) = ((p + (y.toNat : Int)) % 65521, (q + (p + (y.toNat : Int)) % 65521) % 65521)) := by
        show _ = _
        rw [H1.out, HH.out]; rfl
      clear H1 HH
      go_wp2
      go_roundg (l.length - (k + 1))
      case measure => have := HK.out; omega
      case rel => exact ⟨k + 1, _, _, by omega, by go_num, rfl, rfl, H2.out, rfl⟩
    · have hge : l.length ≤ k := by omega
      have H4 : Hid (adlF l = q * 65536 + p) := by
        show _ = _
        have := HH.out
        rw [List.take_of_length_le hge] at this
        unfold adlF; rw [this]
      clear HH
      go_wp2
      go_ret
      exact ⟨by rw [H4.out]; rfl, rfl⟩

set_option maxHeartbeats 1000000 in
theorem refChecksum_any (A : Option Addr) (c : Nat) (l : Bs) (w : World) (hr : Rd w A (u8s l)) (hl : l.length ≤ 1000000000) :
    Calls Tryz.prog 51 #[.slice A l.length c] w fun e w' => e = .returned (.int .i64 (adlF l)) ∧ w = w' := by
  go_enter Tryz.func51, Tryz.ntmps51
  go_wp2
  go_loopg [3, 4, 5] l.length (fun g x y i wr => AdRel l w g x y i wr)
  case atStart => exact ⟨0, 1, 0, by omega, rfl, rfl, rfl, rfl, rfl⟩
  case round =>
    obtain ⟨k, p, q, hk, rfl, rfl, rfl, hh, rfl⟩ := hrel
    have HK := Lib.hid hk
    have hk2 : k ≤ l.length := by omega
    have hbd := adF_bd (l.take k)
    rw [hh] at hbd
    obtain ⟨b1, b2, b3, b4⟩ : 0 ≤ p ∧ p < 65521 ∧ 0 ≤ q ∧ q < 65521 := hbd
    have HH := Lib.hid hh
    clear hk hh
    by_cases hlt : k < l.length
    · obtain ⟨b0, off, rfl, hc⟩ := hr.at_lit (u8s_at hlt)
      have H1 := Lib.hid (adF_take hlt)
      have hy := l[k].toNat_lt
      generalize l[k] = y at *
      have m1 : 0 ≤ (p + (y.toNat : Int)) % 65521 := by omega
      have m2 : (p + (y.toNat : Int)) % 65521 < 65521 := by omega
      have H2 : Hid (adF (l.take (k + 1)) = ((p + (y.toNat : Int)) % 65521, (q + (p + (y.toNat : Int)) % 65521) % 65521)) := by
        show _ = _
        rw [H1.out, HH.out]; rfl
      clear H1 HH
      go_wp2
      go_roundg (l.length - (k + 1))
      case measure => have := HK.out; omega
      case rel => exact ⟨k + 1, _, _, by omega, by go_num, rfl, rfl, H2.out, rfl⟩
    · have hge : l.length ≤ k := by omega
      have H4 : Hid (adlF l = q * 65536 + p) := by
        show _ = _
        have := HH.out
        rw [List.take_of_length_le hge] at this
        unfold adlF; rw [this]
      clear HH
      go_wp2
      go_ret
      exact ⟨by rw [H4.out]; rfl, rfl⟩
end Go.Proofs.YtmjlnckmhdgoiaaGreatDoor
