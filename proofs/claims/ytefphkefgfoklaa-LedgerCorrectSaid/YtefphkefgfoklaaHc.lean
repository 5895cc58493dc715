/- slices.Sorted(maps.Keys(m)) at a map of the call's own: its keys, ascending. -/
import Derived.Test.YtefphkefgfoklaaShelf
import Derived.Test.YtefphkefgfoklaaHb
import Derived.Test.YtefphkefgfoklaaMap
import Derived.Lib.SlKeysI
namespace Go.Proofs.Ytefphkefgfoklaa
open Go.RowKit Go.Maps Go.Sort Go.Shelf
set_option linter.unusedVariables false

theorem asc_of_pairwise : ∀ {l : List Int}, l.Pairwise (fun a b => a ≤ b) → l.Nodup → Asc l
  | [], _, _ => trivial
  | a :: r, h, hn => by
    rw [List.pairwise_cons] at h
    rw [List.nodup_cons] at hn
    refine ⟨fun b hb => ?_, asc_of_pairwise h.2 hn.2⟩
    have h1 := h.1 b hb
    have : a ≠ b := fun e => hn.1 (by rw [e]; exact hb)
    omega
/-- the keys of a map, in ascending order -/
theorem keys_of {P : Program} {kt : TypeId} {w : World} {b n : Nat} {M : Int → Option Value} (hk : P.underlying kt = some (.int .i64)) {D : DataW Value} (hown : w.ownsMap P kt tok b n D)
    (hs : ∀ x, (Lit.int .i64 x).wf = true → Maps.has D (.int .i64 x) = (M x).isSome ∧ ∀ z, D.atKey (.int .i64 x) z = ((M x).map DataW.held).getD z) {ss : List Int} (hp : ss.Perm (intKeys D)) :
    Asc (ss.mergeSort leI) ∧ (∀ x, (Lit.int .i64 x).wf = true → (x ∈ ss.mergeSort leI ↔ (M x).isSome = true)) ∧ (∀ x ∈ ss.mergeSort leI, (Lit.int .i64 x).wf = true) ∧ (ss.mergeSort leI).length ≤ n := by
  obtain ⟨es, hD, hpw, _⟩ := hown.entries (int_keyed hk)
  obtain ⟨es', hD', hko⟩ := hown.keysOf
  obtain rfl : es = es' := by rw [hD] at hD'; simpa using hD'
  have hkl : ∀ p ∈ es, ∃ x, p.1 = .int .i64 x := fun p hp => by obtain ⟨v, hv⟩ := hko p hp; obtain ⟨x, _, hx, _⟩ := Maps.keyOf_i64 hk hv; exact ⟨x, hx⟩
  have hsz := hown.size_le
  have hwf := intKeys_wf hown hk
  subst hD
  have hnd : (intKeys (.map es)).Nodup := by
    show (es.map fun p => Go.intOf p.1).Nodup
    refine List.pairwise_map.2 (hpw.imp_of_mem fun {p q} hp' hq' hne e => hne ?_)
    obtain ⟨a, ha⟩ := hkl p hp'
    obtain ⟨c, hc⟩ := hkl q hq'
    rw [ha, hc] at e ⊢
    exact congrArg _ e
  have hmem : ∀ x, x ∈ intKeys (.map es) ↔ Maps.has (.map es) (.int .i64 x) = true := fun x => by
    rw [has_eq, List.any_eq_true]
    show x ∈ es.map (fun p => Go.intOf p.1) ↔ _
    rw [List.mem_map]
    constructor
    · rintro ⟨p, hp', rfl⟩
      obtain ⟨a, ha⟩ := hkl p hp'
      exact ⟨p, hp', by rw [ha]; simp [Lit.sameKey, Go.intOf]⟩
    · rintro ⟨p, hp', hs'⟩
      obtain ⟨a, ha⟩ := hkl p hp'
      rw [ha] at hs'
      exact ⟨p, hp', by rw [ha]; simpa [Lit.sameKey, Go.intOf] using hs'⟩
  have hperm := (List.mergeSort_perm ss leI).trans hp
  have tr : ∀ a b c : Int, leI a b = true → leI b c = true → leI a c = true := fun a b c h1 h2 => by simp only [leI, decide_eq_true_eq] at *; exact Int.le_trans h1 h2
  have tot : ∀ a b : Int, (leI a b || leI b a) = true := fun a b => by simp only [leI, Bool.or_eq_true, decide_eq_true_eq]; exact Int.le_total a b
  refine ⟨asc_of_pairwise ((List.pairwise_mergeSort tr tot ss).imp (fun h => by simpa [leI] using h)) (hperm.nodup_iff.2 hnd), fun x hx => ?_, fun x hx => hwf x (hperm.mem_iff.1 hx), ?_⟩
  · rw [hperm.mem_iff, hmem x, (hs x hx).1]
  · rw [hperm.length_eq]
    show (es.map fun p => Go.intOf p.1).length ≤ n
    rw [List.length_map]
    exact hsz
theorem sortsA (m : Nat) : AnyZI.SortsIn Try.prog Try.sortedA_ren Fence.wide m :=
  ⟨fun blk off cap ss W hH hblk hsz => callsIn_wide.2 (Try.slices_Sort_int blk off cap ss W hH hblk hsz), fun p cap W => callsIn_wide.2 (Try.slices_Sort_int_none p cap W)⟩
abbrev keysFn (g : Nat) : Value := .func (.func 49) #[] #[.pointer (some ⟨g, 0, none⟩)]
theorem keys_any (mb : Option Nat) (W : World) : Calls Try.prog 34 #[.map mb] W fun e w' => e = .returned (keysFn W.heap.size) ∧ w' = W.alloc (.cells #[.map mb] 60) :=
  (callsIn_wide (n := 5)).1 (AnyZI.keys_in Try.keysA Fence.wide 5 trivial rfl mb W)
def SortRet (B n : Nat) (M : Int → Option Value) (w : World) (e : Ending) (w' : World) : Prop :=
  ∃ v ks, e = .returned v ∧ Asc ks ∧ (∀ x, (Lit.int .i64 x).wf = true → (x ∈ ks ↔ (M x).isSome = true)) ∧ (∀ x ∈ ks, (Lit.int .i64 x).wf = true) ∧ ks.length ≤ n ∧ w'.ownsRow B 3 1 v ks.length (ints ks) ∧ Below B w w'
theorem sorted_any (b n : Nat) (M : Int → Option Value) (w : World) (h : MapIs Try.prog 3 w b n M) (hn : n ≤ 1000000) :
    Calls Try.prog 33 #[keysFn w.heap.size] (w.alloc (.cells #[.map (some b)] 60)) (SortRet (w.heap.size + 1) n M (w.alloc (.cells #[.map (some b)] 60))) := by
  obtain ⟨D, hown, hs⟩ := h
  refine (callsIn_wide (n := 5)).1 ?_
  have hbl := hown.lt
  have hsz := hown.size_le
  have hseq : SeqGives Fence.wide 2 Try.prog 49 #[.pointer (some ⟨w.heap.size, 0, none⟩)] encZ (fun ss => ss.Perm (intKeys D)) (Maps.size D) (w.alloc (.cells #[.map (some b)] 60)) :=
    AnyZI.keys_gives (ρ := Try.keysA_ren) { Try.keysA with } Fence.wide _ trivial rfl (by omega) w.heap.size b n D _ (by simp) (by simp) (by
      obtain ⟨es, clock, hb, Ft, hs, hD⟩ := hown
      exact ⟨es, clock, (Below.heap_alloc _ _ b hbl).trans hb, Ft, hs, hD⟩)
  have cS := AnyZI.sorted_in Try.sortedA Fence.wide 5 trivial trivial trivial trivial rfl (by omega) (sortsA _) (enters_of Try.func48 (by kernel_rfl) rfl) 49 #[.pointer (some ⟨w.heap.size, 0, none⟩)] trivial (enters_of Try.func49 (by kernel_rfl) rfl) _ _ (by unfold maxLen; omega) (by omega) _ hseq
  refine cS.mono ?_
  rintro e w' ⟨v, ss, rfl, hS, hrow, hnil, hb⟩
  obtain ⟨k1, k2, k3, k4⟩ := keys_of Try.underlying3 hown hs hS
  have e1 : (w.alloc (.cells #[.map (some b)] 60)).heap.size = w.heap.size + 1 := by simp
  rw [e1] at hrow hb
  refine ⟨v, ss.mergeSort leI, rfl, k1, k2, k3, k4, ?_, hb⟩
  rw [List.length_mergeSort]
  exact hrow
end Go.Proofs.Ytefphkefgfoklaa
