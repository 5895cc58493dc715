/- Next, Decode and Encode in plain lists: the program's and the reference's reading agree for all bytes; round trips. -/
import Derived.Test.YtmjlnckmhdgoiaaGreatDoorSa
namespace Go.Proofs.YtmjlnckmhdgoiaaGreatDoor

def noSeg : Seg := ⟨[], []⟩
def nextW (rd : Bs → Seg) (b : Bs) : Seg × Nat × Int := match findF 39 b with
  | none => (noSeg, 0, 5)
  | some n => if validF (rd (b.take n)) = 0 ∧ encS (rd (b.take n)) = b.take (n + 1) then (rd (b.take n), n + 1, 0) else (noSeg, 0, 4)
def nextF (b : Bs) : Seg × Nat × Int := nextW parseF b
set_option maxRecDepth 100000 in
theorem find_lt {d : UInt8} : ∀ {b : Bs} {n : Nat}, findF d b = some n → n < b.length ∧ b[n]? = some d
  | [], n, h => by simp [findF] at h
  | x :: r, n, h => by
    by_cases h1 : x = 63
    · subst h1
      cases r with
      | nil => simp [findF] at h
      | cons y r' =>
        rw [find_pair] at h
        obtain ⟨m, hm, rfl⟩ := Option.map_eq_some_iff.1 h
        have := find_lt hm
        exact ⟨by simp; omega, by simpa using this.2⟩
    · by_cases h2 : x = d
      · subst h2
        rw [find_hit h1] at h
        injection h with h
        subst h
        simp
      · rw [find_step h1 h2] at h
        obtain ⟨m, hm, rfl⟩ := Option.map_eq_some_iff.1 h
        have := find_lt hm
        exact ⟨by simp; omega, by simpa using this.2⟩
theorem take_succ_body {b : Bs} {n : Nat} {s : Seg} (hn : n < b.length) (h : encS s = b.take (n + 1)) : b.take n = body s := by
  have e : b.take n = (b.take (n + 1)).take n := by rw [List.take_take]; congr 1; omega
  have hl : (encS s).length = n + 1 := by rw [h, List.length_take]; omega
  unfold encS at hl h
  simp at hl
  rw [e, ← h, ← hl, List.take_left']
  rfl
set_option maxRecDepth 100000 in
theorem next_same (b : Bs) : nextW readF b = nextF b := by
  unfold nextF nextW
  cases hf : findF 39 b with
  | none => rfl
  | some n =>
    have hn := (find_lt hf).1
    simp only
    by_cases h1 : validF (parseF (b.take n)) = 0 ∧ encS (parseF (b.take n)) = b.take (n + 1)
    · have hb := take_succ_body hn h1.2
      have : readF (b.take n) = parseF (b.take n) := by
        have := read_body h1.1
        rw [← hb] at this
        exact this
      rw [this]
    · by_cases h2 : validF (readF (b.take n)) = 0 ∧ encS (readF (b.take n)) = b.take (n + 1)
      · exfalso
        have hb := take_succ_body hn h2.2
        have : parseF (b.take n) = readF (b.take n) := by
          have := parse_body h2.1
          rw [← hb] at this
          exact this
        rw [this] at h1
        exact h1 h2
      · rw [if_neg h1, if_neg h2]
set_option maxRecDepth 100000 in
/-- what Next accepts -/
theorem next_ok {b : Bs} {s : Seg} {n : Nat} (h : nextF b = (s, n, 0)) : validF s = 0 ∧ n = (encS s).length ∧ b = encS s ++ b.drop n := by
  unfold nextF nextW at h
  cases hf : findF 39 b with
  | none => rw [hf] at h; simp at h
  | some k =>
    rw [hf] at h
    have hk := (find_lt hf).1
    simp only at h
    by_cases c : validF (parseF (b.take k)) = 0 ∧ encS (parseF (b.take k)) = b.take (k + 1)
    · rw [if_pos c] at h
      simp only [Prod.mk.injEq, and_true] at h
      obtain ⟨rfl, rfl⟩ := h
      refine ⟨c.1, ?_, ?_⟩
      · rw [c.2, List.length_take]; omega
      · rw [c.2, List.take_append_drop]
    · rw [if_neg c] at h; simp at h
set_option maxRecDepth 100000 in
theorem next_err (b : Bs) : (nextF b).2.2 = 0 ∨ nextF b = (noSeg, 0, 4) ∨ nextF b = (noSeg, 0, 5) := by
  unfold nextF nextW
  cases findF 39 b with
  | none => exact .inr (.inr rfl)
  | some k =>
    simp only
    split
    · exact .inl rfl
    · exact .inr (.inl rfl)
set_option maxRecDepth 100000 in
theorem next_enc {s : Seg} (h : validF s = 0) (m : Bs) : nextF (encS s ++ m) = (s, (encS s).length, 0) := by
  have h1 := (validF_zero.1 h).1
  have e1 : (encS s ++ m).take (body s).length = body s := by unfold encS; rw [List.append_assoc, List.take_left']; rfl
  have e2 : (encS s).length = (body s).length + 1 := by simp [encS]
  have e3 : (encS s ++ m).take ((body s).length + 1) = encS s := by rw [← e2, List.take_left']; rfl
  unfold nextF nextW
  rw [find_enc h1]
  simp only
  rw [e1, e3, parse_body h, if_pos ⟨h, rfl⟩, e2]

/-- Decode: b are the bytes that are left, l the segments so far, o the offset -/
def decF : Nat → Bs → List Seg → Nat → List Seg × Nat × Int
  | 0, _, l, o => (l, o, 0)
  | f + 1, b, l, o => if b = [] then (l, o, 0) else if (nextF b).2.2 = 0 then decF f (b.drop (nextF b).2.1) (l ++ [(nextF b).1]) (o + (nextF b).2.1) else ([], o, (nextF b).2.2)
def decodeF (b : Bs) : List Seg × Nat × Int := decF b.length b [] 0
def encAll : List Seg → Bs
  | [] => []
  | s :: r => encS s ++ encAll r
theorem encAll_append (a b : List Seg) : encAll (a ++ b) = encAll a ++ encAll b := by
  induction a with
  | nil => rfl
  | cons s r ih => simp [encAll, ih]
theorem encS_pos (s : Seg) : 0 < (encS s).length := by simp [encS]
theorem next_pos {b : Bs} (h : (nextF b).2.2 = 0) : 0 < (nextF b).2.1 ∧ (nextF b).2.1 ≤ b.length := by
  obtain ⟨h1, h2, h3⟩ := next_ok (b := b) (s := (nextF b).1) (n := (nextF b).2.1) (by rw [← h])
  have := encS_pos (nextF b).1
  have h4 := congrArg List.length h3
  simp only [List.length_append, List.length_drop] at h4
  omega
set_option maxRecDepth 100000 in
theorem decF_ok : ∀ (f : Nat) (b : Bs) (l : List Seg) (o : Nat) {r : List Seg} {n : Nat}, b.length ≤ f → decF f b l o = (r, n, 0) → ∃ t, r = l ++ t ∧ b = encAll t ∧ n = o + b.length ∧ ∀ s ∈ t, validF s = 0
  | 0, b, l, o, r, n, hf, h => by
    have : b = [] := List.eq_nil_of_length_eq_zero (by omega)
    subst this
    simp only [decF, Prod.mk.injEq, and_true] at h
    obtain ⟨rfl, rfl⟩ := h
    exact ⟨[], by simp, rfl, by simp, fun s hs => by cases hs⟩
  | f + 1, b, l, o, r, n, hf, h => by
    unfold decF at h
    by_cases hb : b = []
    · rw [if_pos hb] at h
      simp only [Prod.mk.injEq, and_true] at h
      obtain ⟨rfl, rfl⟩ := h
      subst hb
      exact ⟨[], by simp, rfl, by simp, fun s hs => by cases hs⟩
    · rw [if_neg hb] at h
      by_cases he : (nextF b).2.2 = 0
      · rw [if_pos he] at h
        obtain ⟨k1, k2, k3⟩ := next_ok (b := b) (s := (nextF b).1) (n := (nextF b).2.1) (by rw [← he])
        have hp := next_pos he
        obtain ⟨t, t1, t2, t3, t4⟩ := decF_ok f _ _ _ (by rw [List.length_drop]; omega) h
        refine ⟨(nextF b).1 :: t, by rw [t1]; simp, ?_, ?_, ?_⟩
        · unfold encAll; rw [← t2]; exact k3
        · rw [t3, List.length_drop]; omega
        · intro s hs
          rcases List.mem_cons.1 hs with rfl | hs
          · exact k1
          · exact t4 s hs
      · rw [if_neg he] at h
        simp only [Prod.mk.injEq] at h
        exact absurd h.2.2 he
set_option maxRecDepth 100000 in
theorem decF_enc : ∀ (t : List Seg) (f : Nat) (l : List Seg) (o : Nat), (∀ s ∈ t, validF s = 0) → (encAll t).length ≤ f → decF f (encAll t) l o = (l ++ t, o + (encAll t).length, 0)
  | [], f, l, o, _, _ => by
    cases f <;> simp [decF, encAll]
  | s :: t, f, l, o, hv, hf => by
    have hp := encS_pos s
    unfold encAll at hf ⊢
    rw [List.length_append] at hf
    cases f with
    | zero => omega
    | succ f =>
      unfold decF
      have hne : encS s ++ encAll t ≠ [] := by
        intro hh
        have := congrArg List.length hh
        rw [List.length_append, List.length_nil] at this
        omega
      rw [if_neg hne, next_enc (hv s (by simp)), if_pos rfl]
      simp only
      rw [List.drop_left' rfl, decF_enc t f _ _ (fun x hx => hv x (by simp [hx])) (by omega)]
      simp
      omega
theorem decode_enc {t : List Seg} (h : ∀ s ∈ t, validF s = 0) : decodeF (encAll t) = (t, (encAll t).length, 0) := by
  unfold decodeF
  rw [decF_enc t _ [] 0 h (Nat.le_refl _)]
  simp
theorem decode_ok {b : Bs} {r : List Seg} {n : Nat} (h : decodeF b = (r, n, 0)) : b = encAll r ∧ n = b.length ∧ ∀ s ∈ r, validF s = 0 := by
  obtain ⟨t, t1, t2, t3, t4⟩ := decF_ok _ _ _ _ (Nat.le_refl _) h
  simp only [List.nil_append] at t1
  subst t1
  exact ⟨t2, by omega, t4⟩
/-- Encode: the error of the first segment that is not valid -/
def encE? : List Seg → Int
  | [] => 0
  | s :: r => if validF s ≠ 0 then validF s else encE? r
set_option maxRecDepth 100000 in
theorem encE?_zero : ∀ {l : List Seg}, encE? l = 0 ↔ ∀ s ∈ l, validF s = 0
  | [] => by simp [encE?]
  | s :: r => by
    unfold encE?
    by_cases h : validF s = 0
    · rw [if_neg (by simp [h])]
      simp only [encE?_zero (l := r), List.forall_mem_cons, h, true_and]
    · rw [if_pos (by simpa using h)]
      simp [h]
end Go.Proofs.YtmjlnckmhdgoiaaGreatDoor
