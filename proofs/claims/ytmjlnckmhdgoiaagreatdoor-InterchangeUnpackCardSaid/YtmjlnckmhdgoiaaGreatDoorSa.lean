/- Segments in plain lists of bytes: validity, the encoding, two ways of reading it, and that both read every encoding of a valid segment. -/
namespace Go.Proofs.YtmjlnckmhdgoiaaGreatDoor

abbrev Bs := List UInt8
structure Seg where
  tag : Bs
  els : List (List Bs)
def letterB (c : UInt8) : Bool := decide (65 ≤ c.toNat) && decide (c.toNat ≤ 90)
def digitB (c : UInt8) : Bool := decide (48 ≤ c.toNat) && decide (c.toNat ≤ 57)
def tagGo : Nat → Bs → Bool
  | _, [] => true
  | i, c :: r => (letterB c || (digitB c && decide (i ≠ 0))) && tagGo (i + 1) r
def isTagF (t : Bs) : Bool := decide (t.length = 3) && tagGo 0 t
def longE (e : List Bs) : Bool := decide (100 < e.length) || e.any (fun c => decide (1000 < c.length))
def isLongF (els : List (List Bs)) : Bool := decide (100 < els.length) || els.any longE
def lastBad : List Bs → Bool
  | [] => false
  | [c] => c.isEmpty
  | _ :: r => lastBad r
def endBad : List (List Bs) → Bool
  | [] => false
  | [e] => e.isEmpty || lastBad e
  | e :: r => lastBad e || endBad r
/-- what Validate returns: 0, 1 (not valid), 8 (a limit) -/
def validF (s : Seg) : Int := if isTagF s.tag = false then 1 else if isLongF s.els = true then 8 else if endBad s.els = true then 1 else 0
def spec (c : UInt8) : Bool := decide (c.toNat = 43) || decide (c.toNat = 58) || decide (c.toNat = 63) || decide (c.toNat = 39)
def esc (c : UInt8) : Bs := if spec c = true then [63, c] else [c]
def encC : Bs → Bs
  | [] => []
  | c :: r => esc c ++ encC r
/-- the components behind the first one -/
def encR : List Bs → Bs
  | [] => []
  | c :: r => 58 :: (encC c ++ encR r)
def encE : List Bs → Bs
  | [] => []
  | c :: r => encC c ++ encR r
def encL : List (List Bs) → Bs
  | [] => []
  | e :: r => 43 :: (encE e ++ encL r)
def body (s : Seg) : Bs := s.tag ++ encL s.els
def encS (s : Seg) : Bs := body s ++ [39]

/-- the first byte c that is not part of a pair -/
def findF (c : UInt8) : Bs → Option Nat
  | [] => none
  | x :: r => if x = 63 then (match r with | [] => none | _ :: r' => (findF c r').map (· + 2)) else if x = c then some 0 else (findF c r).map (· + 1)
def onHead (p : Bs) : List Bs → List Bs
  | [] => [p]
  | x :: r => (p ++ x) :: r
def cutF (c : UInt8) : Bs → List Bs
  | [] => [[]]
  | x :: r => if x = 63 then (match r with | [] => [[63]] | y :: r' => onHead [63, y] (cutF c r')) else if x = c then [] :: cutF c r else onHead [x] (cutF c r)
def plainF : Bs → Bs
  | [] => []
  | x :: r => if x = 63 then (match r with | [] => [63] | y :: r' => y :: plainF r') else x :: plainF r
def elF (p : Bs) : List Bs := if p = [] then [] else (cutF 58 p).map plainF
def parseF (b : Bs) : Seg := match cutF 43 b with | [] => ⟨[], []⟩ | t :: r => ⟨t, r.map elF⟩

theorem onHead_ne (p : Bs) (l : List Bs) : onHead p l ≠ [] := by cases l <;> simp [onHead]
set_option maxRecDepth 100000 in
theorem cutF_ne (c : UInt8) (b : Bs) : cutF c b ≠ [] := by
  unfold cutF
  cases b with
  | nil => simp
  | cons x r =>
    simp only
    split
    · cases r with
      | nil => simp
      | cons y r' => exact onHead_ne _ _
    · split
      · simp
      · exact onHead_ne _ _

/-- escaped text: neither '+' nor ':' nor an apostrophe stands in it outside a pair -/
theorem esc_spec {c : UInt8} (h : spec c = true) : esc c = [63, c] := by unfold esc; rw [if_pos h]
theorem esc_plain {c : UInt8} (h : spec c = false) : esc c = [c] := by unfold esc; rw [if_neg (by simp [h])]
theorem spec_false {c : UInt8} (h : spec c = false) : c ≠ 43 ∧ c ≠ 58 ∧ c ≠ 63 ∧ c ≠ 39 := by
  refine ⟨?_, ?_, ?_, ?_⟩ <;> (rintro rfl; revert h; decide)
/-- cut and find pass over a prefix that holds no separator -/
theorem find_step {d : UInt8} {x : UInt8} {r : Bs} (h : x ≠ 63) (h2 : x ≠ d) : findF d (x :: r) = (findF d r).map (· + 1) := by
  conv => lhs; unfold findF
  rw [if_neg h, if_neg h2]
theorem find_pair {d : UInt8} {y : UInt8} {r : Bs} : findF d (63 :: y :: r) = (findF d r).map (· + 2) := by
  conv => lhs; unfold findF
  rw [if_pos rfl]
theorem find_hit {d : UInt8} {r : Bs} (h : d ≠ 63) : findF d (d :: r) = some 0 := by
  conv => lhs; unfold findF
  rw [if_neg h, if_pos rfl]
theorem cut_step {d : UInt8} {x : UInt8} {r : Bs} (h : x ≠ 63) (h2 : x ≠ d) : cutF d (x :: r) = onHead [x] (cutF d r) := by
  conv => lhs; unfold cutF
  rw [if_neg h, if_neg h2]
theorem cut_pair {d : UInt8} {y : UInt8} {r : Bs} : cutF d (63 :: y :: r) = onHead [63, y] (cutF d r) := by
  conv => lhs; unfold cutF
  rw [if_pos rfl]
theorem cut_hit {d : UInt8} {r : Bs} (h : d ≠ 63) : cutF d (d :: r) = [] :: cutF d r := by
  conv => lhs; unfold cutF
  rw [if_neg h, if_pos rfl]
theorem onHead_app (p q : Bs) (l : List Bs) : onHead p (onHead q l) = onHead (p ++ q) l := by
  cases l <;> simp [onHead]
theorem onHead_nil {l : List Bs} (h : l ≠ []) : onHead [] l = l := by
  cases l with
  | nil => exact absurd rfl h
  | cons x r => rfl
/-- text in which no d stands outside a pair, and no pair is open at its end -/
inductive Clean (d : UInt8) : Bs → Prop
  | nil : Clean d []
  | one {x : UInt8} {r : Bs} : x ≠ 63 → x ≠ d → Clean d r → Clean d (x :: r)
  | pair {y : UInt8} {r : Bs} : Clean d r → Clean d (63 :: y :: r)
theorem Clean.append {d : UInt8} {a b : Bs} (h : Clean d a) (h2 : Clean d b) : Clean d (a ++ b) := by
  induction h with
  | nil => exact h2
  | one h1 h3 _ ih => exact .one h1 h3 ih
  | pair _ ih => exact .pair ih
theorem Clean.cut {d : UInt8} {a : Bs} (h : Clean d a) (b : Bs) : cutF d (a ++ b) = onHead a (cutF d b) := by
  induction h with
  | nil => exact (onHead_nil (cutF_ne _ _)).symm
  | one h1 h3 _ ih => rw [List.cons_append, cut_step h1 h3, ih, onHead_app]; rfl
  | pair _ ih => rw [List.cons_append, List.cons_append, cut_pair, ih, onHead_app]; rfl
theorem Clean.find {d : UInt8} {a : Bs} (h : Clean d a) (b : Bs) : findF d (a ++ b) = (findF d b).map (· + a.length) := by
  induction h with
  | nil => simp
  | one h1 h3 _ ih => rw [List.cons_append, find_step h1 h3, ih]; cases findF d b <;> simp; omega
  | pair _ ih => rw [List.cons_append, List.cons_append, find_pair, ih]; cases findF d b <;> simp; omega
theorem clean_esc {d : UInt8} (c : UInt8) (hd : d = 43 ∨ d = 58 ∨ d = 39) : Clean d (esc c) := by
  cases h : spec c
  · rw [esc_plain h]
    obtain ⟨h1, h2, h3, h4⟩ := spec_false h
    refine .one h3 ?_ .nil
    rcases hd with rfl | rfl | rfl <;> assumption
  · rw [esc_spec h]; exact .pair .nil
theorem clean_encC {d : UInt8} (hd : d = 43 ∨ d = 58 ∨ d = 39) : ∀ c, Clean d (encC c)
  | [] => .nil
  | c :: r => (clean_esc c hd).append (clean_encC hd r)
theorem clean_one {d x : UInt8} (h1 : x ≠ 63) (h2 : x ≠ d) : Clean d [x] := .one h1 h2 .nil
theorem clean_encR {d : UInt8} (hd : d = 43 ∨ d = 39) : ∀ e, Clean d (encR e)
  | [] => .nil
  | c :: r => (clean_one (x := 58) (by decide) (by rcases hd with rfl | rfl <;> decide)).append ((clean_encC (by rcases hd with rfl | rfl <;> simp) c).append (clean_encR hd r))
theorem clean_encE {d : UInt8} (hd : d = 43 ∨ d = 39) : ∀ e, Clean d (encE e)
  | [] => .nil
  | c :: r => (clean_encC (by rcases hd with rfl | rfl <;> simp) c).append (clean_encR hd r)
theorem clean_encL : ∀ l, Clean 39 (encL l)
  | [] => .nil
  | e :: r => (clean_one (x := 43) (by decide) (by decide)).append ((clean_encE (.inr rfl) e).append (clean_encL r))
set_option maxRecDepth 100000 in
theorem clean_tag {d : UInt8} (hd : d = 43 ∨ d = 58 ∨ d = 39) : ∀ (t : Bs) (i : Nat), tagGo i t = true → Clean d t
  | [], _, _ => .nil
  | c :: r, i, h => by
    unfold tagGo at h
    simp only [Bool.and_eq_true] at h
    have h1 : spec c = false := by
      have := h.1
      simp only [letterB, digitB, Bool.or_eq_true, Bool.and_eq_true, decide_eq_true_eq] at this
      simp only [spec, Bool.or_eq_false_iff, decide_eq_false_iff_not]
      omega
    obtain ⟨a1, a2, a3, a4⟩ := spec_false h1
    refine .one a3 ?_ (clean_tag hd r (i + 1) h.2)
    rcases hd with rfl | rfl | rfl <;> assumption
theorem clean_body {s : Seg} (h : isTagF s.tag = true) : Clean 39 (body s) := by
  unfold isTagF at h
  simp only [Bool.and_eq_true] at h
  exact (clean_tag (.inr (.inr rfl)) _ _ h.2).append (clean_encL _)
/-- the apostrophe is the first one -/
theorem find_enc {s : Seg} (h : isTagF s.tag = true) (m : Bs) : findF 39 (encS s ++ m) = some (body s).length := by
  unfold encS
  rw [List.append_assoc, (clean_body h).find, List.singleton_append, find_hit (by decide)]
  simp

set_option maxRecDepth 100000 in
theorem plain_esc (c : UInt8) (r : Bs) : plainF (esc c ++ r) = c :: plainF r := by
  cases h : spec c
  · rw [esc_plain h]
    obtain ⟨_, _, h3, _⟩ := spec_false h
    show plainF (c :: r) = _
    conv => lhs; unfold plainF
    rw [if_neg h3]
  · rw [esc_spec h]
    show plainF (63 :: c :: r) = _
    conv => lhs; unfold plainF
    rw [if_pos rfl]
theorem plain_encC : ∀ c, plainF (encC c) = c
  | [] => rfl
  | c :: r => by show plainF (esc c ++ encC r) = _; rw [plain_esc, plain_encC r]
set_option maxRecDepth 100000 in
theorem cut_encR : ∀ (e : List Bs) (p : Bs), Clean 58 p → cutF 58 (p ++ encR e) = p :: e.map encC
  | [], p, h => by
    show cutF 58 (p ++ []) = _
    rw [h.cut]
    show onHead p [[]] = _
    simp [onHead]
  | c :: r, p, h => by
    show cutF 58 (p ++ 58 :: (encC c ++ encR r)) = _
    rw [h.cut, cut_hit (by decide), cut_encR r (encC c) (clean_encC (.inr (.inl rfl)) c)]
    simp [onHead]
set_option maxRecDepth 100000 in
theorem el_enc {e : List Bs} (h : lastBad e = false) : elF (encE e) = e := by
  cases e with
  | nil => rfl
  | cons c r =>
    have hne : encE (c :: r) ≠ [] := by
      intro hh
      unfold encE at hh
      rw [List.append_eq_nil_iff] at hh
      cases r with
      | nil =>
        cases c with
        | nil => simp [lastBad] at h
        | cons x y =>
          have := hh.1
          unfold encC at this
          rw [List.append_eq_nil_iff] at this
          have h3 := this.1
          unfold esc at h3
          split at h3 <;> simp at h3
      | cons d r' => simp [encR] at hh
    unfold elF
    rw [if_neg hne]
    show (cutF 58 (encC c ++ encR r)).map plainF = _
    rw [cut_encR r (encC c) (clean_encC (.inr (.inl rfl)) c)]
    simp [plain_encC, Function.comp_def]
set_option maxRecDepth 100000 in
theorem cut_encL : ∀ (l : List (List Bs)) (p : Bs), Clean 43 p → cutF 43 (p ++ encL l) = p :: l.map encE
  | [], p, h => by
    show cutF 43 (p ++ []) = _
    rw [h.cut]
    show onHead p [[]] = _
    simp [onHead]
  | e :: r, p, h => by
    show cutF 43 (p ++ 43 :: (encE e ++ encL r)) = _
    rw [h.cut, cut_hit (by decide), cut_encL r (encE e) (clean_encE (.inl rfl) e)]
    simp [onHead]
set_option maxRecDepth 100000 in
theorem endBad_all : ∀ {l : List (List Bs)}, endBad l = false → ∀ e ∈ l, lastBad e = false
  | [], _, e, he => by cases he
  | [x], h, e, he => by
    simp only [endBad, Bool.or_eq_false_iff] at h
    simp only [List.mem_singleton] at he
    subst he
    exact h.2
  | x :: y :: r, h, e, he => by
    simp only [endBad, Bool.or_eq_false_iff] at h
    rcases List.mem_cons.1 he with rfl | he
    · exact h.1
    · exact endBad_all (l := y :: r) (by simpa [endBad] using h.2) e he
theorem validF_zero {s : Seg} : validF s = 0 ↔ isTagF s.tag = true ∧ isLongF s.els = false ∧ endBad s.els = false := by
  unfold validF
  cases isTagF s.tag <;> cases isLongF s.els <;> cases endBad s.els <;> simp
set_option maxRecDepth 100000 in
/-- the program's reading of an encoding -/
theorem parse_body {s : Seg} (h : validF s = 0) : parseF (body s) = s := by
  obtain ⟨h1, _, h3⟩ := validF_zero.1 h
  unfold isTagF at h1
  simp only [Bool.and_eq_true] at h1
  unfold parseF body
  rw [cut_encL _ _ (clean_tag (.inl rfl) _ _ h1.2)]
  have : s.els.map (elF ∘ encE) = s.els := by
    conv => rhs; rw [← List.map_id s.els]
    exact List.map_congr_left fun e he => el_enc (endBad_all h3 e he)
  simp only [List.map_map, this]

/-- the reference's reading: the state is the elements so far (none: the tag is being read), and the word -/
structure RSt where
  tag : Bs
  els : Option (List (List Bs))
def putLast (e : List (List Bs)) (w : Bs) : List (List Bs) := match e.reverse with | [] => [] | x :: r => (r.reverse) ++ [x ++ [w]]
/-- the end of a word: colon is whether a ':' ends it -/
def wordEnd (els : List (List Bs)) (w : Bs) (colon : Bool) : List (List Bs) :=
  if (decide (0 < w.length) || decide (0 < (els.getLastD []).length) || colon) = true then putLast els w else els
def readE (els : List (List Bs)) (w : Bs) : Bs → List (List Bs)
  | [] => wordEnd els w false
  | x :: r => if x = 63 then (match r with | [] => wordEnd els (w ++ [63]) false | y :: r' => readE els (w ++ [y]) r') else
    if x = 43 then readE (wordEnd els w false ++ [[]]) [] r else if x = 58 then readE (wordEnd els w true) [] r else readE els (w ++ [x]) r
def readT (w : Bs) : Bs → Seg
  | [] => ⟨w, []⟩
  | x :: r => if x = 63 then (match r with | [] => ⟨w ++ [63], []⟩ | y :: r' => readT (w ++ [y]) r') else
    if x = 43 then ⟨w, readE [[]] [] r⟩ else if x = 58 then ⟨w, []⟩ else readT (w ++ [x]) r
def readF (b : Bs) : Seg := readT [] b
set_option maxRecDepth 100000 in
theorem readE_esc (els : List (List Bs)) (w : Bs) (c : UInt8) (r : Bs) : readE els w (esc c ++ r) = readE els (w ++ [c]) r := by
  cases h : spec c
  · rw [esc_plain h]
    obtain ⟨h1, h2, h3, _⟩ := spec_false h
    show readE els w (c :: r) = _
    conv => lhs; unfold readE
    rw [if_neg h3, if_neg h1, if_neg h2]
  · rw [esc_spec h]
    show readE els w (63 :: c :: r) = _
    conv => lhs; unfold readE
    rw [if_pos rfl]
theorem readE_encC (els : List (List Bs)) : ∀ (c w r : Bs), readE els w (encC c ++ r) = readE els (w ++ c) r
  | [], w, r => by simp [encC]
  | c :: c', w, r => by
    show readE els w ((esc c ++ encC c') ++ r) = _
    rw [List.append_assoc, readE_esc, readE_encC els c' (w ++ [c]) r]
    simp
theorem getLastD_snoc (l : List (List Bs)) (x : List Bs) : (l ++ [x]).getLastD [] = x := by simp [List.getLastD_eq_getLast?]
theorem putLast_snoc (l : List (List Bs)) (x : List Bs) (w : Bs) : putLast (l ++ [x]) w = l ++ [x ++ [w]] := by simp [putLast]
set_option maxRecDepth 100000 in
/-- the components of an element, from the word on: r are the bytes that follow the element -/
theorem readE_encR (l : List (List Bs)) : ∀ (e : List Bs) (x : List Bs) (w : Bs) (r : Bs), lastBad (w :: e) = false →
    (r = [] ∨ ∃ r', r = 43 :: r') → readE (l ++ [x]) w (encR e ++ r) = (match r with | [] => l ++ [x ++ w :: e] | _ :: r' => readE (l ++ [x ++ w :: e] ++ [[]]) [] r')
  | [], x, w, r, h, hr => by
    have hw : 0 < w.length := by cases w <;> simp [lastBad] at h ⊢
    have e1 : wordEnd (l ++ [x]) w false = l ++ [x ++ [w]] := by unfold wordEnd; rw [if_pos (by simp [hw]), putLast_snoc]
    rcases hr with rfl | ⟨r', rfl⟩
    · show readE (l ++ [x]) w [] = _
      conv => lhs; unfold readE
      rw [e1]
    · show readE (l ++ [x]) w (43 :: r') = _
      conv => lhs; unfold readE
      rw [if_neg (by decide), if_pos rfl, e1]
  | c :: e, x, w, r, h, hr => by
    have e1 : wordEnd (l ++ [x]) w true = l ++ [x ++ [w]] := by unfold wordEnd; rw [if_pos (by simp), putLast_snoc]
    show readE (l ++ [x]) w (58 :: (encC c ++ encR e) ++ r) = _
    rw [List.cons_append]
    conv => lhs; unfold readE
    rw [if_neg (by decide), if_neg (by decide), if_pos rfl, e1, List.append_assoc, readE_encC]
    have := readE_encR l e (x ++ [w]) ([] ++ c) r (by simpa [lastBad] using h) hr
    rw [this]
    simp
set_option maxRecDepth 100000 in
theorem readE_encE (l : List (List Bs)) (e : List Bs) (r : Bs) (h : lastBad e = false) (hr : r = [] ∨ ∃ r', r = 43 :: r') :
    readE (l ++ [[]]) [] (encE e ++ r) = (match r with | [] => l ++ [e] | _ :: r' => readE (l ++ [e] ++ [[]]) [] r') := by
  cases e with
  | nil =>
    have e1 : wordEnd (l ++ [[]]) [] false = l ++ [[]] := by unfold wordEnd; rw [if_neg (by simp)]
    rcases hr with rfl | ⟨r', rfl⟩
    · show readE (l ++ [[]]) [] [] = _
      conv => lhs; unfold readE
      rw [e1]
    · show readE (l ++ [[]]) [] (43 :: r') = _
      conv => lhs; unfold readE
      rw [if_neg (by decide), if_pos rfl, e1]
  | cons c e =>
    show readE (l ++ [[]]) [] ((encC c ++ encR e) ++ r) = _
    rw [List.append_assoc, readE_encC]
    have := readE_encR l e [] ([] ++ c) r (by simpa using h) hr
    rw [this]
    rcases hr with rfl | ⟨r', rfl⟩ <;> simp
set_option maxRecDepth 100000 in
theorem readE_encL : ∀ (m l : List (List Bs)) (e : List Bs), lastBad e = false → (∀ x ∈ m, lastBad x = false) → readE (l ++ [[]]) [] (encE e ++ encL m) = l ++ e :: m
  | [], l, e, h, _ => by
    have := readE_encE l e [] h (.inl rfl)
    simpa [encL] using this
  | x :: m, l, e, h, hm => by
    show readE (l ++ [[]]) [] (encE e ++ (43 :: (encE x ++ encL m))) = _
    rw [readE_encE l e _ h (.inr ⟨_, rfl⟩)]
    simp only
    rw [readE_encL m (l ++ [e]) x (hm x (by simp)) (fun y hy => hm y (by simp [hy]))]
    simp
set_option maxRecDepth 100000 in
theorem readT_clean : ∀ (t : Bs) (i : Nat) (w r : Bs), tagGo i t = true → readT w (t ++ r) = readT (w ++ t) r
  | [], _, w, r, _ => by simp
  | c :: t, i, w, r, h => by
    have hc := clean_tag (d := 43) (.inl rfl) (c :: t) i h
    have hc2 := clean_tag (d := 58) (.inr (.inl rfl)) (c :: t) i h
    have ht : tagGo (i + 1) t = true := by unfold tagGo at h; simp only [Bool.and_eq_true] at h; exact h.2
    have h63 : c ≠ 63 := by
      rintro rfl
      unfold tagGo at h
      simp only [Bool.and_eq_true] at h
      have := h.1
      simp [letterB, digitB] at this
    have h43 : c ≠ 43 := by
      cases hc with
      | one a b _ => exact b
      | pair _ => exact absurd rfl h63
    have h58 : c ≠ 58 := by
      cases hc2 with
      | one a b _ => exact b
      | pair _ => exact absurd rfl h63
    rw [List.cons_append]
    conv => lhs; unfold readT
    rw [if_neg h63, if_neg h43, if_neg h58, readT_clean t (i + 1) (w ++ [c]) r ht]
    simp
set_option maxRecDepth 100000 in
theorem read_body {s : Seg} (h : validF s = 0) : readF (body s) = s := by
  obtain ⟨h1, _, h3⟩ := validF_zero.1 h
  unfold isTagF at h1
  simp only [Bool.and_eq_true] at h1
  have ha := endBad_all h3
  obtain ⟨t, els⟩ := s
  simp only at h1 ha
  unfold readF body
  simp only
  rw [readT_clean t 0 [] _ h1.2, List.nil_append]
  cases els with
  | nil => rfl
  | cons e m =>
    show readT t (43 :: (encE e ++ encL m)) = _
    conv => lhs; unfold readT
    rw [if_neg (by decide), if_pos rfl]
    have := readE_encL m [] e (ha e (by simp)) (fun x hx => ha x (by simp [hx]))
    simp only [List.nil_append] at this
    rw [this]
end Go.Proofs.YtmjlnckmhdgoiaaGreatDoor
