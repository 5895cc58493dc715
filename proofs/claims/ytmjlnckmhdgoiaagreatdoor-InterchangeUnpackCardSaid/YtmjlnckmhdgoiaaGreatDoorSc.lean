/- Slices of bytes, strings, elements and segments in memory: what reads below a block B (RdB), so that writing from B on does not touch it. -/
import Derived.Test.YtmjlnckmhdgoiaaGreatDoorFrame
import Derived.Test.YtmjlnckmhdgoiaaGreatDoorSa
import Derived.Lib.Hide
namespace Go.Proofs.YtmjlnckmhdgoiaaGreatDoor
open Go.RowKit

/-- the cells cs lie at the address A, in a block below B -/
def RdB (w : World) (B : Nat) (A : Option Addr) (cs : List Value) : Prop := ∀ j u, cs[j]? = some u → ∃ ad, A = some ad ∧ ad.block < B ∧ w.cell? (ad.add j) = some u
section
variable {w w' : World} {B B' : Nat} {A : Option Addr} {cs : List Value}
theorem RdB.nil (w : World) (B : Nat) (A : Option Addr) : RdB w B A [] := fun j u h => by simp at h
theorem RdB.rd (h : RdB w B A cs) : Rd w A cs := fun j u hu => by
  obtain ⟨ad, rfl, _, hc⟩ := h j u hu
  exact ⟨ad, rfl, hc⟩
theorem RdB.of_rd (h : Rd w A cs) : RdB w w.heap.size A cs := fun j u hu => by
  obtain ⟨ad, rfl, hc⟩ := h j u hu
  exact ⟨ad, rfl, by have := cell_lt hc; rwa [add_block] at this, hc⟩
theorem RdB.keep (h : RdB w B A cs) (hk : ∀ p : Addr, p.block < B → w'.cell? p = w.cell? p) : RdB w' B A cs := fun j u hu => by
  obtain ⟨ad, rfl, hb, hc⟩ := h j u hu
  exact ⟨ad, rfl, hb, (hk _ (by rw [add_block]; exact hb)).trans hc⟩
theorem RdB.below (h : RdB w B A cs) (hb : Below B w w') : RdB w' B A cs := h.keep fun _ hp => hb.cell hp
theorem RdB.mono (h : RdB w B A cs) (hB : B ≤ B') : RdB w B' A cs := fun j u hu => by
  obtain ⟨ad, e, hb, hc⟩ := h j u hu
  exact ⟨ad, e, by omega, hc⟩
theorem RdB.drop (h : RdB w B A cs) (k : Nat) : RdB w B (A.map (·.add k)) (cs.drop k) := fun j u hu => by
  rw [List.getElem?_drop] at hu
  obtain ⟨ad, rfl, hb, hc⟩ := h _ u hu
  exact ⟨ad.add k, rfl, by rw [add_block]; exact hb, by rw [add_two]; exact hc⟩
theorem RdB.take (h : RdB w B A cs) (k : Nat) : RdB w B A (cs.take k) := fun j u hu => by
  by_cases hj : j < k
  · rw [List.getElem?_take_of_lt hj] at hu; exact h j u hu
  · rw [List.getElem?_take_eq_none (by omega)] at hu; cases hu
/-- cell k, at an address written out -/
theorem Rd.at_lit (h : Rd w A cs) {k : Nat} {u : Value} (hk : cs[k]? = some u) : ∃ b off, A = some ⟨b, off, none⟩ ∧ w.cell? ⟨b, off + k, none⟩ = some u := by
  cases cs with
  | nil => simp at hk
  | cons x xs =>
    obtain ⟨b, off, hA, hc⟩ := Rd.lit h
    exact ⟨b, off, hA, hc k u hk⟩
end

def u8 (c : UInt8) : Value := .int .u8 (c.toNat : Int)
def u8s (l : Bs) : List Value := l.map u8
def str (l : Bs) : Value := .string ⟨l.toArray⟩
def strs (l : List Bs) : List Value := l.map str
theorem u8s_len (l : Bs) : (u8s l).length = l.length := by simp [u8s]
theorem strs_len (l : List Bs) : (strs l).length = l.length := by simp [strs]
theorem u8s_one (l : Bs) : ∀ u ∈ u8s l, u.oneCell' = true := by
  intro u hu
  obtain ⟨x, _, rfl⟩ := List.mem_map.1 hu
  rfl
theorem strs_one (l : List Bs) : ∀ u ∈ strs l, u.oneCell' = true := by
  intro u hu
  obtain ⟨x, _, rfl⟩ := List.mem_map.1 hu
  rfl
theorem u8s_get {l : Bs} {k : Nat} (h : k < l.length) : (u8s l)[k]? = some (u8 l[k]) := by simp [u8s, List.getElem?_map, List.getElem?_eq_getElem h]
theorem strs_get {l : List Bs} {k : Nat} (h : k < l.length) : (strs l)[k]? = some (str l[k]) := by simp [strs, List.getElem?_map, List.getElem?_eq_getElem h]

/-- an element: a slice of strings -/
def ElAt (w : World) (B : Nat) (v : Value) (e : List Bs) : Prop := ∃ A c, v = .slice A e.length c ∧ RdB w B A (strs e)
/-- the elements at A -/
def ElsAt (w : World) (B : Nat) (A : Option Addr) (l : List (List Bs)) : Prop := ∃ cs : List Value, cs.length = l.length ∧ RdB w B A cs ∧ ∀ (i : Nat) (e : List Bs), l[i]? = some e → ∃ v, cs[i]? = some v ∧ ElAt w B v e
/-- the two cells of a segment -/
def SegAt (w : World) (B : Nat) (t v : Value) (s : Seg) : Prop := t = str s.tag ∧ ∃ A c, v = .slice A s.els.length c ∧ ElsAt w B A s.els
def SegsAt (w : World) (B : Nat) (A : Option Addr) (l : List Seg) : Prop := ∃ cs : List Value, cs.length = l.length * 2 ∧ RdB w B A cs ∧ ∀ (i : Nat) (s : Seg), l[i]? = some s → ∃ t v, cs[i * 2]? = some t ∧ cs[i * 2 + 1]? = some v ∧ SegAt w B t v s
section
variable {w w' : World} {B B' : Nat}
theorem ElAt.below {v : Value} {e : List Bs} (h : ElAt w B v e) (hb : Below B w w') : ElAt w' B v e := by
  obtain ⟨A, c, h1, h2⟩ := h
  exact ⟨A, c, h1, h2.below hb⟩
theorem ElAt.mono {v : Value} {e : List Bs} (h : ElAt w B v e) (hB : B ≤ B') : ElAt w B' v e := by
  obtain ⟨A, c, h1, h2⟩ := h
  exact ⟨A, c, h1, h2.mono hB⟩
theorem ElsAt.below {A : Option Addr} {l : List (List Bs)} (h : ElsAt w B A l) (hb : Below B w w') : ElsAt w' B A l := by
  obtain ⟨cs, h1, h2, h3⟩ := h
  exact ⟨cs, h1, h2.below hb, fun i e he => by obtain ⟨v, a, b⟩ := h3 i e he; exact ⟨v, a, b.below hb⟩⟩
theorem ElsAt.mono {A : Option Addr} {l : List (List Bs)} (h : ElsAt w B A l) (hB : B ≤ B') : ElsAt w B' A l := by
  obtain ⟨cs, h1, h2, h3⟩ := h
  exact ⟨cs, h1, h2.mono hB, fun i e he => by obtain ⟨v, a, b⟩ := h3 i e he; exact ⟨v, a, b.mono hB⟩⟩
theorem ElsAt.nil (w : World) (B : Nat) (A : Option Addr) : ElsAt w B A [] := ⟨[], rfl, RdB.nil _ _ _, fun i e h => by simp at h⟩
theorem SegAt.below {t v : Value} {s : Seg} (h : SegAt w B t v s) (hb : Below B w w') : SegAt w' B t v s := by
  obtain ⟨h0, A, c, h1, h2⟩ := h
  exact ⟨h0, A, c, h1, h2.below hb⟩
theorem SegAt.mono {t v : Value} {s : Seg} (h : SegAt w B t v s) (hB : B ≤ B') : SegAt w B' t v s := by
  obtain ⟨h0, A, c, h1, h2⟩ := h
  exact ⟨h0, A, c, h1, h2.mono hB⟩
theorem SegsAt.below {A : Option Addr} {l : List Seg} (h : SegsAt w B A l) (hb : Below B w w') : SegsAt w' B A l := by
  obtain ⟨cs, h1, h2, h3⟩ := h
  exact ⟨cs, h1, h2.below hb, fun i s hs => by obtain ⟨t, v, a, b, c⟩ := h3 i s hs; exact ⟨t, v, a, b, c.below hb⟩⟩
theorem SegsAt.mono {A : Option Addr} {l : List Seg} (h : SegsAt w B A l) (hB : B ≤ B') : SegsAt w B' A l := by
  obtain ⟨cs, h1, h2, h3⟩ := h
  exact ⟨cs, h1, h2.mono hB, fun i s hs => by obtain ⟨t, v, a, b, c⟩ := h3 i s hs; exact ⟨t, v, a, b, c.mono hB⟩⟩
theorem SegsAt.nil (w : World) (B : Nat) (A : Option Addr) : SegsAt w B A [] := ⟨[], rfl, RdB.nil _ _ _, fun i e h => by simp at h⟩
set_option maxRecDepth 100000 in
/-- element k, at an address written out -/
theorem ElsAt.get {A : Option Addr} {l : List (List Bs)} (h : ElsAt w B A l) {k : Nat} (hk : k < l.length) :
    ∃ b off A' c', A = some ⟨b, off, none⟩ ∧ b < B ∧ w.cell? ⟨b, off + k, none⟩ = some (.slice A' l[k].length c') ∧ RdB w B A' (strs l[k]) := by
  obtain ⟨cs, h1, h2, h3⟩ := h
  obtain ⟨v, hv, A', c', rfl, hr⟩ := h3 k _ (List.getElem?_eq_getElem hk)
  obtain ⟨b, off, rfl, hc⟩ := h2.rd.at_lit hv
  obtain ⟨ad, h4, h5, _⟩ := h2 k _ hv
  injection h4 with h4
  subst h4
  exact ⟨b, off, A', c', rfl, h5, hc, hr⟩
set_option maxRecDepth 100000 in
/-- segment k, at an address written out -/
theorem SegsAt.get {A : Option Addr} {l : List Seg} (h : SegsAt w B A l) {k : Nat} (hk : k < l.length) :
    ∃ b off A' c', A = some ⟨b, off, none⟩ ∧ b < B ∧ w.cell? ⟨b, off + k * 2, none⟩ = some (str l[k].tag) ∧ w.cell? ⟨b, off + (k * 2 + 1), none⟩ = some (.slice A' l[k].els.length c') ∧ ElsAt w B A' l[k].els := by
  obtain ⟨cs, h1, h2, h3⟩ := h
  obtain ⟨t, v, ht, hv, rfl, A', c', rfl, hr⟩ := h3 k _ (List.getElem?_eq_getElem hk)
  obtain ⟨b, off, rfl, hc⟩ := h2.rd.at_lit hv
  obtain ⟨b2, off2, e2, hc2⟩ := h2.rd.at_lit ht
  injection e2 with e2
  injection e2 with e3 e4
  subst e3; subst e4
  obtain ⟨ad, h4, h5, _⟩ := h2 _ _ hv
  injection h4 with h4
  subst h4
  exact ⟨b, off, A', c', rfl, h5, hc2, hc, hr⟩
end
end Go.Proofs.YtmjlnckmhdgoiaaGreatDoor
