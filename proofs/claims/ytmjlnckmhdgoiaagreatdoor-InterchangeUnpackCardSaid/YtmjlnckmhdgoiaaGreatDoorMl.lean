/- Plain facts on numerals, and that the segments of a message tell the message. -/
import Derived.Test.YtmjlnckmhdgoiaaGreatDoorMi
namespace Go.Proofs.YtmjlnckmhdgoiaaGreatDoor
set_option linter.unusedVariables false

def valD (s : Bs) : Nat := s.foldl (fun n c => 10 * n + (c.toNat - 48)) 0
theorem valD_snoc (s : Bs) (c : UInt8) : valD (s ++ [c]) = 10 * valD s + (c.toNat - 48) := by simp [valD, List.foldl_append]
theorem dig_toNat {d : Nat} (h : d < 10) : (UInt8.ofNat (48 + d)).toNat = 48 + d := by rw [UInt8.toNat_ofNat']; omega
theorem dec_val : ∀ u : Nat, valD (Lib.decDigits u) = u := by
  intro u
  induction u using Nat.strongRecOn with
  | _ u ih =>
    rw [Lib.decDigits]
    by_cases h : u < 10
    · rw [dif_pos h]
      show 10 * 0 + ((UInt8.ofNat (48 + u)).toNat - 48) = u
      rw [dig_toNat h]; omega
    · rw [dif_neg h, valD_snoc, ih _ (by omega), dig_toNat (Nat.mod_lt _ (by omega))]
      omega
theorem dec_digits : ∀ (u : Nat), ∀ c ∈ Lib.decDigits u, 48 ≤ c.toNat ∧ c.toNat ≤ 57 := by
  intro u
  induction u using Nat.strongRecOn with
  | _ u ih =>
    rw [Lib.decDigits]
    by_cases h : u < 10
    · rw [dif_pos h]
      intro c hc
      simp only [List.mem_singleton] at hc
      subst hc
      rw [dig_toNat h]; omega
    · rw [dif_neg h]
      intro c hc
      rcases List.mem_append.1 hc with hc | hc
      · exact ih _ (by omega) c hc
      · simp only [List.mem_singleton] at hc
        subst hc
        rw [dig_toNat (Nat.mod_lt _ (by omega))]
        have := Nat.mod_lt u (show 0 < 10 by omega)
        omega
theorem dec_ne (u : Nat) : Lib.decDigits u ≠ [] := by
  intro h
  have := congrArg List.length h
  rw [Lib.decDigits_length] at this
  have h2 := Lib.nDigits_pos u
  simp at this
  omega
theorem dec_inj {a b : Nat} (h : Lib.decDigits a = Lib.decDigits b) : a = b := by rw [← dec_val a, ← dec_val b, h]
theorem itoa_inj {a b : Int} (h : Lib.itoa a = Lib.itoa b) : a = b := by
  unfold Lib.itoa at h
  by_cases ha : a < 0 <;> by_cases hb : b < 0
  · rw [if_pos ha, if_pos hb, List.cons.injEq] at h
    have := dec_inj h.2
    omega
  · rw [if_pos ha, if_neg hb] at h
    have := dec_digits b.toNat 45 (by rw [← h]; simp)
    exact absurd this (by decide)
  · rw [if_neg ha, if_pos hb] at h
    have := dec_digits a.toNat 45 (by rw [h]; simp)
    exact absurd this (by decide)
  · rw [if_neg ha, if_neg hb] at h
    have := dec_inj h
    omega
theorem elN_inj {a b : Int} (h : elN a = elN b) : a = b := itoa_inj (by simpa [elN] using h)
theorem elT_inj {a b : Bs} (h : elT a = elT b) : a = b := by
  unfold elT at h
  split at h <;> split at h
  · simp_all
  · simp at h
  · simp at h
  · simpa using h
theorem itoas_inj : ∀ {a b : List Int}, a.map Lib.itoa = b.map Lib.itoa → a = b
  | [], [], _ => rfl
  | [], _ :: _, h => by simp at h
  | _ :: _, [], h => by simp at h
  | x :: a, y :: b, h => by
    simp only [List.map_cons, List.cons.injEq] at h
    rw [itoa_inj h.1, itoas_inj h.2]
/-- the first segment with a tag -/
def atTag (t : Bs) : List Seg → Option Seg
  | [] => none
  | s :: r => if s.tag = t then some s else atTag t r
theorem atTag_append (t : Bs) (a b : List Seg) : atTag t (a ++ b) = (atTag t a).or (atTag t b) := by
  induction a with
  | nil => rfl
  | cons s r ih =>
    simp only [List.cons_append, atTag]
    split
    · rfl
    · exact ih
theorem atTag_opt (t : Bs) (b : Bool) (s : Seg) : atTag t (optS b s) = if b = true ∧ s.tag = t then some s else none := by
  cases b <;> simp [optS, atTag]
theorem atTag_MSG (m : Msg) : atTag tMSG (segsM m) = some (sMSG m) := rfl
theorem atTag_LOT (m : Msg) : atTag tLOT (segsM m) = if lotB m = true then some (sLOT m) else none := by
  unfold segsM descM
  simp only [List.cons_append, atTag, atTag_append, atTag_opt]
  simp only [sMSG, sLOT, sGDS, sLST, sTXT, sEND, tMSG, tLOT, tGDS, tLST, tTXT, tEND]
  cases lotB m <;> simp
theorem atTag_GDS (m : Msg) : atTag tGDS (segsM m) = if gdsB m = true then some (sGDS m) else none := by
  unfold segsM descM
  simp only [List.cons_append, atTag, atTag_append, atTag_opt]
  simp only [sMSG, sLOT, sGDS, sLST, sTXT, sEND, tMSG, tLOT, tGDS, tLST, tTXT, tEND]
  cases gdsB m <;> simp
theorem atTag_LST (m : Msg) : atTag tLST (segsM m) = if lstB m = true then some (sLST m) else none := by
  unfold segsM descM
  simp only [List.cons_append, atTag, atTag_append, atTag_opt]
  simp only [sMSG, sLOT, sGDS, sLST, sTXT, sEND, tMSG, tLOT, tGDS, tLST, tTXT, tEND]
  cases lstB m <;> simp
theorem atTag_TXT (m : Msg) : atTag tTXT (segsM m) = if txtB m = true then some (sTXT m) else none := by
  unfold segsM descM
  simp only [List.cons_append, atTag, atTag_append, atTag_opt]
  simp only [sMSG, sLOT, sGDS, sLST, sTXT, sEND, tMSG, tLOT, tGDS, tLST, tTXT, tEND]
  cases txtB m <;> simp
theorem opt_inj {a b : Bool} {s t : Seg} (h : (if a = true then some s else none) = (if b = true then some t else none)) : a = b ∧ (a = true → s = t) := by
  cases a <;> cases b <;> simp at h ⊢
  exact h
theorem segsM_inj {m n : Msg} (h : segsM m = segsM n) : m = n := by
  have h1 := congrArg (atTag tMSG) h
  have h2 := congrArg (atTag tLOT) h
  have h3 := congrArg (atTag tGDS) h
  have h4 := congrArg (atTag tLST) h
  have h5 := congrArg (atTag tTXT) h
  rw [atTag_MSG, atTag_MSG] at h1
  rw [atTag_LOT, atTag_LOT] at h2
  rw [atTag_GDS, atTag_GDS] at h3
  rw [atTag_LST, atTag_LST] at h4
  rw [atTag_TXT, atTag_TXT] at h5
  clear h
  obtain ⟨g2, k2⟩ := opt_inj h2
  obtain ⟨g3, k3⟩ := opt_inj h3
  obtain ⟨g4, k4⟩ := opt_inj h4
  obtain ⟨g5, k5⟩ := opt_inj h5
  clear h2 h3 h4 h5
  simp only [Option.some.injEq, sMSG, Seg.mk.injEq, List.cons.injEq, true_and, and_true] at h1
  obtain ⟨e1, e2, e3, e4, e5⟩ := h1
  have e1 := elN_inj e1
  have e2 := elN_inj e2
  have e3 := elN_inj e3
  have e4 := elN_inj e4
  have e5 := elN_inj e5
  have e67 : m.lot = n.lot ∧ m.other = n.other := by
    cases hb : lotB m with
    | true =>
      have := k2 hb
      simp only [sLOT, Seg.mk.injEq, List.cons.injEq, true_and, and_true] at this
      exact ⟨elN_inj this.1, elN_inj this.2⟩
    | false =>
      rw [hb] at g2
      have g2 := g2.symm
      simp only [lotB, Bool.or_eq_false_iff, bne_eq_false_iff_eq] at hb g2
      exact ⟨hb.1.trans g2.1.symm, hb.2.trans g2.2.symm⟩
  have e8 : m.code = n.code ∧ m.country = n.country ∧ m.quantity = n.quantity ∧ m.amount = n.amount := by
    cases hb : gdsB m with
    | true =>
      have := k3 hb
      simp only [sGDS, Seg.mk.injEq, List.cons.injEq, true_and, and_true] at this
      exact ⟨elT_inj this.1, elT_inj this.2.1, elN_inj this.2.2.1, elN_inj this.2.2.2⟩
    | false =>
      rw [hb] at g3
      have g3 := g3.symm
      simp only [gdsB, Bool.or_eq_false_iff, bne_eq_false_iff_eq] at hb g3
      exact ⟨hb.1.trans g3.1.symm, hb.2.1.trans g3.2.1.symm, hb.2.2.1.trans g3.2.2.1.symm, hb.2.2.2.trans g3.2.2.2.symm⟩
  have e9 : m.list = n.list := by
    cases hb : lstB m with
    | true =>
      have := k4 hb
      simp only [sLST, Seg.mk.injEq, List.cons.injEq, true_and, and_true] at this
      exact itoas_inj this
    | false =>
      rw [hb] at g4
      have g4 := g4.symm
      simp only [lstB, decide_eq_false_iff_not] at hb g4
      rw [List.eq_nil_of_length_eq_zero (l := m.list) (by omega), List.eq_nil_of_length_eq_zero (l := n.list) (by omega)]
  have e10 : m.text = n.text := by
    cases hb : txtB m with
    | true =>
      have := k5 hb
      simp only [sTXT, Seg.mk.injEq, List.cons.injEq, true_and, and_true] at this
      exact elT_inj this
    | false =>
      rw [hb] at g5
      have g5 := g5.symm
      simp only [txtB, bne_eq_false_iff_eq] at hb g5
      exact hb.trans g5.symm
  obtain ⟨e6, e7⟩ := e67
  obtain ⟨f1, f2, f3, f4⟩ := e8
  cases m
  cases n
  simp only at *
  subst e1 e2 e3 e4 e5 e6 e7 f1 f2 f3 f4 e9 e10
  rfl
theorem enc_inj {m n : Msg} (hm : OkM m) (hn : OkM n) (h : encAll (segsM m) = encAll (segsM n)) : m = n := by
  have h1 := decode_enc (segsM_ok hm)
  have h2 := decode_enc (segsM_ok hn)
  rw [h, h2] at h1
  exact segsM_inj (by injection h1 with h1; exact h1.symm)
end Go.Proofs.YtmjlnckmhdgoiaaGreatDoor
