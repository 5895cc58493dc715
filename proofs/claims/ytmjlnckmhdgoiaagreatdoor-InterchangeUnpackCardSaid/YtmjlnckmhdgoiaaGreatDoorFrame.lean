/- The frame of a law's proof, over any program: from 'the walk returns true and has written nothing that was there' to the row's post; slices of ints that came in. -/
import Derived.Test.YtmjlnckmhdgoiaaGreatDoorMem
import Derived.ProofKit
import Derived.OpenShut
import Derived.ChangeOld
import Derived.SizedLaws
namespace Go.Proofs.YtmjlnckmhdgoiaaGreatDoor
open Go.ChangeShapes Go.WideShapes Go.ChangeAt Go.RowKit

theorem trodAll_below {H : Type} {enc : TypeId × Value → H} {P : Program} (hl : laidOutB P = true) {W W' : World} (hb : Below W.heap.size W W') :
    ∀ (ts : List TypeId) (vs : List Value) (ds : List (DataW H)) (p : List MemPlace), (∀ t ∈ ts, P.readableRec t = true ∧ t < P.types.size) → DataW.TrodAll enc P W 0 (fun _ => true) true ts vs ds p →
      DataW.TrodAll enc P W' 0 (fun b => decide (b < W.heap.size)) true ts vs ds p
  | [], [], [], p, _, h => h
  | t :: ts, v :: vs, d :: ds, p, ht, ⟨p1, q1, h1, h2, e⟩ => by
    refine ⟨p1, q1, Below.trod hl (ht t (by simp)).1 (ht t (by simp)).2 h1 hb ?_, trodAll_below hl hb ts vs ds q1 (fun t' h' => ht t' (by simp [h'])) h2, e⟩
    obtain ⟨m, hm⟩ := h1
    exact DataW.trod_lt m _ _ _ hm
  | [], [], _ :: _, _, _, h => by cases h
  | [], _ :: _, _, _, _, h => by cases h
  | _ :: _, [], _, _, _, h => by cases h
  | _ :: _, _ :: _, [], _, _, h => by cases h

theorem law_post {H : Type} {enc : TypeId × Value → H} {P : Program} {f : Func} {s : ChangeSpec} {apart fresh handsOn : Bool} {W W' : World} {args : Array Value} {ds gs : List (DataW H)} {before : List MemPlace}
    (hl : laidOutB P = true) (hrec : f.params.toList.all (fun t => P.readableRec t && decide (t < P.types.size)) = true) (hvars : s.vars = []) (tb : TypeId) (htyp : f.resultTypes = #[tb]) (hb : P.underlying tb = some .bool)
    (hW : DataW.Whole enc P f.params.toList s.vars apart W args.toList ds gs before)
    (hfn : ∀ e : List (DataW H), e = ds ++ gs → (s.fn H e).results = [.lit (.bool true)] ∧ (s.fn H e).args = ds ∧ (s.fn H e).vars = [])
    (bel : Below W.heap.size W W') : s.post enc P f apart fresh handsOn false W args (.bool true) W' := by
  have hW' := hW
  obtain ⟨p, q, hA, hV, rfl, hfz, hnd⟩ := hW
  obtain ⟨h1, h2, h3⟩ := hfn _ rfl
  refine ⟨ds, gs, _, [], p, [], hW', ?_, ?_, ?_, bel.frame _, fun h => by cases h⟩
  · rw [h1, htyp]
    exact trodAll_mk1 (shut_bool hb _)
  · rw [h2]
    refine trodAll_below hl bel _ _ _ _ (fun t ht => ?_) hA
    have := List.all_eq_true.1 hrec t ht
    simpa using this
  · rw [h3, hvars]
    rfl

def ints (l : List Int) : List Value := l.map (Value.int .i64)
theorem ints_one (l : List Int) : ∀ u ∈ ints l, u.oneCell' = true := by
  intro u hu
  obtain ⟨x, _, rfl⟩ := List.mem_map.1 hu
  rfl
theorem ints_len (l : List Int) : (ints l).length = l.length := by simp [ints]
/-- a slice of ints that came in -/
structure SlI (w : World) (A : Option Addr) (c : Nat) (l : List Int) : Prop where
  rd : Rd w A (ints l)
  nil : A = none → c = 0
  le : l.length ≤ c
  max : c * 8 ≤ 140737488351232
  wf : ∀ x ∈ l, -9223372036854775808 ≤ x ∧ x ≤ 9223372036854775807
theorem wf_bd {x : Int} (h : (Lit.int .i64 x).wf = true) : -9223372036854775808 ≤ x ∧ x ≤ 9223372036854775807 := bounds_i64 h
theorem SlI.below {w w' : World} {A : Option Addr} {c : Nat} {l : List Int} (h : SlI w A c l) (hb : Below w.heap.size w w') : SlI w' A c l := ⟨h.rd.below hb, h.nil, h.le, h.max, h.wf⟩
theorem SlI.lt {w : World} {A : Option Addr} {c : Nat} {l : List Int} (h : SlI w A c l) : l.length * 8 ≤ 140737488351232 := by have := h.le; have := h.max; omega

theorem open_slI {H : Type} {enc : TypeId × Value → H} {P : Program} {W : World} {base : Nat} {r : Reach} {t e : TypeId} {v : Value} {d : DataW H} {p : List MemPlace} (ht : P.underlying t = some (.slice e)) (he : P.underlying e = some (.int .i64)) (hc : P.cellsOf e = 1) (hby : P.bytesOf e = 8)
    (hv : Value.okWide P W r base t v) (h : DataW.Trod enc P W 0 (fun _ => true) true t v d p) (hs : (DataW.weights P t d).all (· ≤ reachBytes) = true) :
    ∃ A c l, v = .slice A l.length c ∧ SlI W A c l := by
  obtain ⟨a, len, cap, rfl⟩ := okWide_slice ht hv
  obtain ⟨fuel, hf⟩ := h
  rcases open_ints ht he hc hf with ⟨hcs, hx⟩ | ⟨x, l, c, zs, hcs, _, hl, hm, hz, hx, hcell, hwz⟩
  · simp [Value.cells] at hcs
    obtain ⟨rfl, rfl, rfl⟩ := hcs
    exact ⟨none, 0, [], rfl, ⟨Rd.nil _ _, fun _ => rfl, Nat.le_refl _, by omega, fun x hx => by cases hx⟩⟩
  · simp [Value.cells] at hcs
    obtain ⟨rfl, rfl, rfl⟩ := hcs
    simp only [if_true] at hz
    have hlen : (zs.take len).length = len := by rw [List.length_take]; omega
    refine ⟨some x, cap, zs.take len, by rw [hlen], ⟨fun j u hu => ⟨x, rfl, ?_⟩, (fun h => by cases h), by rw [hlen]; exact hl, ?_, fun n hn => wf_bd (hwz n (List.mem_of_mem_take hn))⟩⟩
    · simp only [ints, List.getElem?_map, Option.map_eq_some_iff] at hu
      obtain ⟨n, hn, rfl⟩ := hu
      by_cases hj : j < len
      · rw [List.getElem?_take_of_lt hj] at hn
        have hj2 : j < zs.length := by omega
        rw [hcell j hj2, List.getD, hn]
        rfl
      · rw [List.getElem?_take_eq_none (by omega)] at hn; cases hn
    · simp only [Prod.mk.injEq] at hx
      obtain ⟨rfl, _⟩ := hx
      simp only [DataW.weights, ht, List.all_cons, Bool.and_eq_true, decide_eq_true_eq, hby] at hs
      have h1 := hs.1
      simp only [lits, List.length_map, List.length_take, List.length_drop, reachBytes] at h1
      omega
theorem Rd.lit {w : World} {A : Option Addr} {x : Value} {xs : List Value} (h : Rd w A (x :: xs)) : ∃ b off, A = some ⟨b, off, none⟩ ∧ ∀ j u, (x :: xs)[j]? = some u → w.cell? ⟨b, off + j, none⟩ = some u := by
  obtain ⟨ad, rfl, hc⟩ := h 0 x rfl
  obtain ⟨b, off, sp⟩ := ad
  have : sp = none := by
    cases sp with
    | none => rfl
    | some s =>
      exfalso
      unfold Addr.add World.cell? at hc
      simp only [if_true] at hc
      split at hc
      · simp at hc
      · cases hc
  subst this
  refine ⟨b, off, rfl, fun j u hu => ?_⟩
  obtain ⟨ad, h1, h2⟩ := h j u hu
  injection h1 with h1
  subst h1
  rwa [Addr.add_lit] at h2
/-- the cell of element k, at an address written out -/
theorem Rd.int {w : World} {A : Option Addr} {l : List Int} (h : Rd w A (ints l)) {k : Nat} (hk : k < l.length) : ∃ b off, A = some ⟨b, off, none⟩ ∧ w.cell? ⟨b, off + k, none⟩ = some (.int .i64 (l[k]?.getD 0)) := by
  cases l with
  | nil => simp at hk
  | cons x xs =>
    obtain ⟨b, off, hA, hc⟩ := Rd.lit (x := .int .i64 x) (xs := ints xs) h
    refine ⟨b, off, hA, hc k _ ?_⟩
    have : (ints (x :: xs))[k]? = some (.int .i64 ((x :: xs)[k]?.getD 0)) := by
      rw [ints, List.getElem?_map, List.getElem?_eq_getElem hk]
      rfl
    exact this
end Go.Proofs.YtmjlnckmhdgoiaaGreatDoor
