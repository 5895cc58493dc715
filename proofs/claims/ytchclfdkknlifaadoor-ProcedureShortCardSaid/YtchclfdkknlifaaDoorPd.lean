/- Path is the shortest way, and the first one of its length: plain lists. -/
import Derived.Test.YtchclfdkknlifaaDoorPb
namespace Go.Proofs.YtchclfdkknlifaaDoor

def leads : Int → List Int → Option Int
  | f, [] => some f
  | f, a :: s => if (nextF f a).2 = 0 then leads (nextF f a).1 s else none
def lexLe : List Int → List Int → Bool
  | [], _ => true
  | _ :: _, [] => false
  | x :: a, y :: s => decide (x < y) || (x == y && lexLe a s)
/-- shorter, or of the same length and not after -/
def sle (a s : List Int) : Prop := a.length < s.length ∨ (a.length = s.length ∧ lexLe a s = true)
instance (a s : List Int) : Decidable (sle a s) := by unfold sle; infer_instance

theorem lexLe_refl : ∀ a, lexLe a a = true
  | [] => rfl
  | x :: a => by simp [lexLe, lexLe_refl a]
theorem lexLe_trans : ∀ a b c, a.length = b.length → b.length = c.length → lexLe a b = true → lexLe b c = true → lexLe a c = true
  | [], _, _, _, _, _, _ => rfl
  | _ :: _, [], _, h, _, _, _ => by simp at h
  | _ :: _, _ :: _, [], _, h, _, _ => by simp at h
  | x :: a, y :: b, z :: c, h1, h2, h3, h4 => by
    simp only [lexLe, Bool.or_eq_true, decide_eq_true_eq, Bool.and_eq_true, beq_iff_eq] at h3 h4 ⊢
    rcases h3 with h3 | ⟨rfl, h3⟩
    · rcases h4 with h4 | ⟨rfl, h4⟩
      · exact .inl (by omega)
      · exact .inl h3
    · rcases h4 with h4 | ⟨rfl, h4⟩
      · exact .inl h4
      · exact .inr ⟨rfl, lexLe_trans a b c (by simpa using h1) (by simpa using h2) h3 h4⟩
theorem lexLe_snoc (x : Int) : ∀ a b, a.length = b.length → lexLe a b = true → lexLe (a ++ [x]) (b ++ [x]) = true
  | [], [], _, _ => by simp [lexLe]
  | [], _ :: _, h, _ => by simp at h
  | _ :: _, [], h, _ => by simp at h
  | y :: a, z :: b, h1, h2 => by
    simp only [List.cons_append, lexLe, Bool.or_eq_true, decide_eq_true_eq, Bool.and_eq_true, beq_iff_eq] at h2 ⊢
    rcases h2 with h2 | ⟨rfl, h2⟩
    · exact .inl h2
    · exact .inr ⟨rfl, lexLe_snoc x a b (by simpa using h1) h2⟩
theorem sle_trans {a b c : List Int} (h1 : sle a b) (h2 : sle b c) : sle a c := by
  rcases h1 with h1 | ⟨e1, h1⟩
  · rcases h2 with h2 | ⟨e2, h2⟩
    · exact .inl (by omega)
    · exact .inl (by omega)
  · rcases h2 with h2 | ⟨e2, h2⟩
    · exact .inl (by omega)
    · exact .inr ⟨by omega, lexLe_trans a b c e1 e2 h1 h2⟩
theorem sle_snoc {a b : List Int} (x : Int) (h : sle a b) : sle (a ++ [x]) (b ++ [x]) := by
  rcases h with h | ⟨e, h⟩
  · exact .inl (by simpa using h)
  · exact .inr ⟨by simpa using e, lexLe_snoc x a b e h⟩
/-- the paths between all procedures, once -/
def pathTab : List (List (Option (List Int))) := [[some [], some [1], some [1, 2], some [1, 5], some [1, 6], some [1, 7], some [1, 8], some [1, 8, 9], some [1, 11], some [1, 8, 11], some [1, 12], some [1, 13], some [1, 14], some [1, 2, 4]], [none, some [], some [2], some [5], some [6], some [7], some [8], some [8, 9], some [11], some [8, 11], some [12], some [13], some [14], some [2, 4]], [none, some [3], some [], some [3, 5], some [3, 6], some [3, 7], some [3, 8], some [3, 8, 9], some [3, 11], some [3, 8, 11], some [3, 12], some [3, 13], some [14], some [4]], [none, some [2, 3], some [2], some [], some [6], some [7], some [8], some [8, 9], some [11], some [8, 11], some [12], some [13], some [14], some [2, 4]], [none, some [2, 3], some [2], some [5], some [], some [5, 7], some [8], some [8, 9], some [11], some [8, 11], some [12], some [5, 13], some [14], some [2, 4]], [none, some [2, 3], some [2], some [5], some [5, 6], some [], some [8], some [8, 9], some [11], some [8, 11], some [12], some [5, 13], some [14], some [2, 4]], [none, none, none, none, none, none, some [], some [9], none, some [11], none, none, none, none], [none, none, none, none, none, none, some [10], some [], none, some [10, 11], none, none, none, none], [none, none, none, none, none, none, none, none, some [], none, none, none, none, none], [none, none, none, none, none, none, none, none, none, some [], none, none, none, none], [none, none, none, none, none, none, none, none, none, none, some [], none, none, none], [none, none, none, none, none, none, none, none, none, none, none, some [], none, none], [none, none, none, none, none, none, none, none, none, none, none, none, some [], none], [none, none, none, none, none, none, none, none, none, none, none, none, none, some []]]
def pt (f t : Nat) : Option (List Int) := (pathTab.getD f []).getD t none
theorem pathTab_fin : ∀ f t : Fin 14, pathF f.1 t.1 = pt f.1 t.1 := by decide +kernel
/-- one more action never beats the table -/
theorem pt_step : ∀ f u : Fin 14, ∀ x : Fin 15, ∀ a, pt f.1 u.1 = some a → (nextF u.1 x.1).2 = 0 → ((pt f.1 (nextF u.1 x.1).1.toNat).elim false fun b => decide (sle b (a ++ [(x.1 : Int)]))) = true := by
  have h : ∀ f u : Fin 14, ∀ x : Fin 15, ((pt f.1 u.1).elim true fun a => if (nextF u.1 x.1).2 = 0 then ((pt f.1 (nextF u.1 x.1).1.toNat).elim false fun b => decide (sle b (a ++ [(x.1 : Int)]))) else true) = true := by decide +kernel
  intro f u x a ha hn
  have := h f u x
  rw [ha] at this
  simpa [hn] using this
theorem pt_self : ∀ f : Fin 14, pt f.1 f.1 = some [] := by decide +kernel
theorem leads_snoc : ∀ (s : List Int) (f x : Int), leads f (s ++ [x]) = (leads f s).bind fun u => if (nextF u x).2 = 0 then some (nextF u x).1 else none
  | [], f, x => by simp [leads]
  | a :: s, f, x => by
    simp only [List.cons_append, leads]
    split
    · exact leads_snoc s _ x
    · rfl
theorem leads_bd : ∀ (s : List Int) (f t : Int), 0 ≤ f → f ≤ 13 → leads f s = some t → 0 ≤ t ∧ t ≤ 13
  | [], f, t, h0, h1, h => by simp only [leads, Option.some.injEq] at h; subst h; exact ⟨h0, h1⟩
  | a :: s, f, t, h0, h1, h => by
    simp only [leads] at h
    split at h
    · exact leads_bd s _ t (nextF_bd f a).1 (nextF_bd f a).2 h
    · cases h
theorem nextF_ok_bd {p a : Int} (h : (nextF p a).2 = 0) : 1 ≤ a ∧ a ≤ 14 := by
  by_cases c : 0 ≤ p ∧ p ≤ 13 ∧ 1 ≤ a ∧ a ≤ 14
  · exact c.2.2
  · rw [nextF_out c] at h; simp at h
theorem pathF_pt {f t : Int} (h0 : 0 ≤ f) (h1 : f ≤ 13) (h2 : 0 ≤ t) (h3 : t ≤ 13) : pathF f t = pt f.toNat t.toNat := by
  obtain ⟨m, rfl⟩ := Int.eq_ofNat_of_zero_le h0
  obtain ⟨n, rfl⟩ := Int.eq_ofNat_of_zero_le h2
  exact pathTab_fin ⟨m, by omega⟩ ⟨n, by omega⟩
/-- what leads from f to t is not before Path's list -/
theorem short (f : Int) (h0 : 0 ≤ f) (h1 : f ≤ 13) (r : List Int) : ∀ t, leads f r.reverse = some t → ∃ a, pathF f t = some a ∧ sle a r.reverse := by
  induction r with
  | nil =>
    intro t h
    simp only [List.reverse_nil, leads, Option.some.injEq] at h
    subst h
    refine ⟨[], ?_, .inr ⟨rfl, rfl⟩⟩
    rw [pathF_pt h0 h1 h0 h1]
    exact pt_self ⟨f.toNat, by omega⟩
  | cons x r ih =>
    intro t h
    rw [List.reverse_cons] at h ⊢
    rw [leads_snoc] at h
    cases hu : leads f r.reverse with
    | none => rw [hu] at h; cases h
    | some u =>
      rw [hu] at h
      simp only [Option.bind_some] at h
      split at h
      · rename_i hn
        injection h with h
        obtain ⟨a, ha, hs⟩ := ih u hu
        have hub := leads_bd _ _ _ h0 h1 hu
        have hxb := nextF_ok_bd hn
        rw [pathF_pt h0 h1 hub.1 hub.2] at ha
        have key := pt_step ⟨f.toNat, by omega⟩ ⟨u.toNat, by omega⟩ ⟨x.toNat, by omega⟩ a ha
        simp only [Int.toNat_of_nonneg hub.1, Int.toNat_of_nonneg (by omega : 0 ≤ x)] at key
        have key := key hn
        rw [h] at key
        have htb : 0 ≤ t ∧ t ≤ 13 := by rw [← h]; exact nextF_bd u x
        rw [pathF_pt h0 h1 htb.1 htb.2]
        cases hb : pt f.toNat t.toNat with
        | none => rw [hb] at key; simp at key
        | some b =>
          rw [hb] at key
          simp only [Option.elim_some, decide_eq_true_eq] at key
          exact ⟨b, rfl, sle_trans key (sle_snoc x hs)⟩
      · cases h
end Go.Proofs.YtchclfdkknlifaaDoor
