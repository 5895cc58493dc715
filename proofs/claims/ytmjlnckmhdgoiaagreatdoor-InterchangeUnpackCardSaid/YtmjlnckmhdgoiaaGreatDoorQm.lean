/- Plain: interchanges, packed and unpacked, by the program and by the reference. -/
import Derived.Test.YtmjlnckmhdgoiaaGreatDoorQd
import Derived.Test.YtmjlnckmhdgoiaaGreatDoorQj
import Derived.Test.YtmjlnckmhdgoiaaGreatDoorQg
import Derived.Test.YtmjlnckmhdgoiaaGreatDoorSr
import Derived.Test.YtmjlnckmhdgoiaaGreatDoorFrame
namespace Go.Proofs.YtmjlnckmhdgoiaaGreatDoor
set_option linter.unusedVariables false

structure Ich where
  sender : Int
  receiver : Int
  number : Int
  msgs : List Msg
def zeroI : Ich := ⟨0, 0, 0, []⟩
def tUNB : Bs := [85, 78, 66]
def tUNZ : Bs := [85, 78, 90]
def sUNB (x : Ich) : Seg := ⟨tUNB, [elN x.sender, elN x.receiver, elN x.number]⟩
def segsL : List Msg → List Seg
  | [] => []
  | m :: r => segsM m ++ segsL r
def bodyL (l : List Msg) : Bs := encAll (segsL l)
def sUNZ (l : List Msg) : Seg := ⟨tUNZ, [elN (l.length : Int), elN (adlF (bodyL l))]⟩
def ichSegs (x : Ich) : List Seg := sUNB x :: (segsL x.msgs ++ [sUNZ x.msgs])
def errL : List Msg → Int
  | [] => 0
  | m :: r => if validM m = 0 then errL r else validM m
def ichB (x : Ich) : Bool := outB x.sender 0 999 || (outB x.receiver 0 999 || outB x.number 0 1000000000)
def packE (x : Ich) : Int := if ichB x = true then 2 else if 1000 < x.msgs.length then 8 else errL x.msgs
def packF (x : Ich) : Bs × Int := if packE x = 0 then (encAll (ichSegs x), 0) else ([], packE x)
theorem segsL_append (a b : List Msg) : segsL (a ++ b) = segsL a ++ segsL b := by
  induction a with
  | nil => rfl
  | cons m r ih => show segsM m ++ segsL (r ++ b) = _; rw [ih]; exact (List.append_assoc ..).symm
theorem bodyL_snoc (a : List Msg) (m : Msg) : bodyL (a ++ [m]) = bodyL a ++ encAll (segsM m) := by
  unfold bodyL
  rw [segsL_append, encAll_append]
  show _ ++ encAll (segsM m ++ []) = _
  rw [List.append_nil]
theorem errL_zero : ∀ {l : List Msg}, errL l = 0 ↔ ∀ m ∈ l, OkM m
  | [] => by simp [errL]
  | m :: r => by
    unfold errL
    by_cases h : validM m = 0
    · rw [if_pos h, errL_zero (l := r)]
      simp only [List.mem_cons, forall_eq_or_imp]
      exact ⟨fun h2 => ⟨okM_iff.1 h, h2⟩, fun h2 => h2.2⟩
    · rw [if_neg h]
      exact ⟨fun h2 => absurd h2 h, fun h2 => absurd (okM_iff.2 (h2 m (by simp))) h⟩
structure OkI (x : Ich) : Prop where
  s : 0 ≤ x.sender ∧ x.sender ≤ 999
  r : 0 ≤ x.receiver ∧ x.receiver ≤ 999
  n : 0 ≤ x.number ∧ x.number ≤ 1000000000
  l : x.msgs.length ≤ 1000
  m : ∀ m ∈ x.msgs, OkM m
theorem packE_zero {x : Ich} : packE x = 0 ↔ OkI x := by
  unfold packE
  by_cases h : ichB x = true
  · rw [if_pos h]
    refine ⟨fun h2 => (by cases h2), fun h2 => ?_⟩
    have : ichB x = false := by
      unfold ichB
      rw [outB_false.2 h2.s, outB_false.2 h2.r, outB_false.2 h2.n]
      rfl
    rw [this] at h
    cases h
  · rw [if_neg h]
    have h0 : ichB x = false := by simpa using h
    unfold ichB at h0
    rw [Bool.or_eq_false_iff, Bool.or_eq_false_iff, outB_false, outB_false, outB_false] at h0
    by_cases h1 : 1000 < x.msgs.length
    · rw [if_pos h1]
      exact ⟨fun h2 => (by cases h2), fun h2 => absurd h2.l (by omega)⟩
    · rw [if_neg h1, errL_zero]
      exact ⟨fun h2 => ⟨h0.1, h0.2.1, h0.2.2, by omega, h2⟩, fun h2 => h2.m⟩

/-! the messages -/
theorem judge_ok {m : Msg} {l y : List Seg} (h : (judge m l y).2 = 0) : OkM (judge m l y).1 ∧ l = segsM (judge m l y).1 := by
  unfold judge at h ⊢
  by_cases hv : validM m = 0
  · rw [if_pos hv] at h ⊢
    by_cases h1 : l = segsM m
    · rw [if_pos h1] at h ⊢
      exact ⟨okM_iff.1 hv, h1⟩
    · rw [if_neg h1] at h
      exfalso
      split at h <;> revert h <;> decide
  · rw [if_neg hv] at h
    exact absurd h (by decide)
theorem parseP_ok {l : List Seg} (h : (parseP l).2 = 0) : OkM (parseP l).1 ∧ l = segsM (parseP l).1 := by
  unfold parseP at h ⊢
  split at h
  · exact absurd h (by decide)
  · rename_i h0
    rw [if_neg h0]
    exact judge_ok h
/-- the program: at each END, the segments since the last one, counted anew, are a message's -/
noncomputable def msgsP : List Seg → List Seg → Option (List Msg)
  | cur, [] => if cur.length = 0 then some [] else none
  | cur, s :: r => if s.tag = tEND then (if (parseP (countF (cur ++ [s]))).2 = 0 then (msgsP [] r).map (fun l => (parseP (countF (cur ++ [s]))).1 :: l) else none) else msgsP (cur ++ [s]) r
def endS (cur : List Seg) (s : Seg) : Seg := ⟨tEND, [elT (Lib.decDigits (cur.length + 1)), elAt s 1]⟩
/-- the reference: at each END of two elements -/
noncomputable def msgsR : List Seg → List Seg → Option (List Msg)
  | cur, [] => if cur.length = 0 then some [] else none
  | cur, s :: r => if s.tag = tEND ∧ s.els.length = 2 then (if (parseR (cur ++ [endS cur s])).2 = 0 then (msgsR [] r).map (fun l => (parseR (cur ++ [endS cur s])).1 :: l) else none) else msgsR (cur ++ [s]) r
theorem descM_tags (m : Msg) : ∀ s ∈ descM m, s.tag ≠ tEND := by
  intro s hs
  have opt : ∀ {b : Bool} {t : Seg}, s ∈ optS b t → s = t := fun {b t} h => by
    unfold optS at h
    split at h
    · simpa using h
    · cases h
  unfold descM at hs
  simp only [List.mem_append, List.mem_cons] at hs
  rcases hs with rfl | h | h | h | h
  · exact show ¬ (tMSG = tEND) by decide
  · rw [opt h]; exact show ¬ (tLOT = tEND) by decide
  · rw [opt h]; exact show ¬ (tGDS = tEND) by decide
  · rw [opt h]; exact show ¬ (tLST = tEND) by decide
  · rw [opt h]; exact show ¬ (tTXT = tEND) by decide
/-- a list that holds an END ahead of its last segment is no message's -/
theorem parse_mid {a : List Seg} {t : Seg} (h : ∃ s ∈ a, s.tag = tEND) : (parseP (a ++ [t])).2 ≠ 0 := fun h2 => by
  obtain ⟨s, hs, ht⟩ := h
  have h3 := (parseP_ok h2).2
  generalize (parseP (a ++ [t])).1 = m at h3
  unfold segsM at h3
  have h4 := congrArg List.dropLast h3
  rw [List.dropLast_concat, List.dropLast_concat] at h4
  exact descM_tags m s (h4 ▸ hs) ht
/-- the last segment of a message has two elements -/
theorem parse_end {a : List Seg} {t : Seg} (h : t.els.length ≠ 2) : (parseP (a ++ [t])).2 ≠ 0 := fun h2 => by
  have h3 := (parseP_ok h2).2
  generalize (parseP (a ++ [t])).1 = m at h3
  have h4 := congrArg List.getLast? h3
  rw [segsM_last, List.getLast?_append] at h4
  simp only [List.getLast?_singleton, Option.some_or, Option.some.injEq] at h4
  rw [h4] at h
  exact h rfl
theorem msgsR_bad : ∀ (r cur : List Seg), (∃ s ∈ cur, s.tag = tEND) → msgsR cur r = none
  | [], cur, ⟨s, hs, _⟩ => by
    unfold msgsR
    rw [if_neg]
    intro h
    rw [List.eq_nil_of_length_eq_zero h] at hs
    cases hs
  | x :: r, cur, h => by
    unfold msgsR
    split
    · rw [if_neg]
      rw [← parse_same]
      exact parse_mid h
    · obtain ⟨s, hs, ht⟩ := h
      exact msgsR_bad r _ ⟨s, by simp [hs], ht⟩
theorem msgsP_end {cur r : List Seg} {s : Seg} (h : s.tag = tEND) : msgsP cur (s :: r) = if (parseP (countF (cur ++ [s]))).2 = 0 then (msgsP [] r).map (fun l => (parseP (countF (cur ++ [s]))).1 :: l) else none := by
  conv => lhs; unfold msgsP
  exact if_pos h
theorem msgsP_not {cur r : List Seg} {s : Seg} (h : ¬ s.tag = tEND) : msgsP cur (s :: r) = msgsP (cur ++ [s]) r := by
  conv => lhs; unfold msgsP
  exact if_neg h
theorem msgsR_end {cur r : List Seg} {s : Seg} (h : s.tag = tEND ∧ s.els.length = 2) : msgsR cur (s :: r) = if (parseR (cur ++ [endS cur s])).2 = 0 then (msgsR [] r).map (fun l => (parseR (cur ++ [endS cur s])).1 :: l) else none := by
  conv => lhs; unfold msgsR
  exact if_pos h
theorem msgsR_not {cur r : List Seg} {s : Seg} (h : ¬ (s.tag = tEND ∧ s.els.length = 2)) : msgsR cur (s :: r) = msgsR (cur ++ [s]) r := by
  conv => lhs; unfold msgsR
  exact if_neg h
theorem msgs_same : ∀ (r cur : List Seg), msgsP cur r = msgsR cur r
  | [], cur => rfl
  | s :: r, cur => by
    by_cases h1 : s.tag = tEND
    · rw [msgsP_end h1]
      by_cases h2 : s.els.length = 2
      · have e : countF (cur ++ [s]) = cur ++ [endS cur s] := by
          have hl : (cur ++ [s]).getLast? = some s := by simp
          rw [(countF_right hl h1 h2).1]
          unfold rightF
          rw [hl]
          simp only
          rw [if_pos ⟨h1, h2⟩, List.dropLast_concat, List.length_append, List.length_singleton]
          rfl
        rw [msgsR_end ⟨h1, h2⟩, e, parse_same, msgs_same r []]
      · rw [msgsR_not (fun h => h2 h.2), msgsR_bad r _ ⟨s, by simp, h1⟩]
        by_cases h3 : 0 < s.els.length
        · have e : countF (cur ++ [s]) = cur ++ [⟨s.tag, s.els.set 0 (elN ((cur ++ [s]).length : Int))⟩] := by
            unfold countF
            have hl : (cur ++ [s]).getLast? = some s := by simp
            rw [hl]
            simp only
            rw [if_pos ⟨h1, h3⟩, List.dropLast_concat]
          rw [e, if_neg]
          exact parse_end (by simp only [List.length_set]; exact h2)
        · have e : countF (cur ++ [s]) = cur ++ [s] := by
            unfold countF
            have hl : (cur ++ [s]).getLast? = some s := by simp
            rw [hl]
            simp only
            rw [if_neg (fun h => h3 h.2)]
          rw [e, if_neg]
          exact parse_end h2
    · rw [msgsP_not h1, msgsR_not (fun h => h1 h.1), msgs_same r]
theorem msgsP_pass : ∀ (a cur r : List Seg), (∀ s ∈ a, s.tag ≠ tEND) → msgsP cur (a ++ r) = msgsP (cur ++ a) r
  | [], cur, r, _ => by rw [List.append_nil]; rfl
  | s :: a, cur, r, h => by
    show msgsP cur (s :: (a ++ r)) = _
    rw [msgsP_not (h s (by simp)), msgsP_pass a _ r (fun x hx => h x (by simp [hx])), List.append_assoc]
    rfl
theorem count_segs (m : Msg) : countF (segsM m) = segsM m := by
  unfold countF
  rw [segsM_last]
  simp only
  rw [if_pos ⟨rfl, Nat.zero_lt_succ _⟩]
  unfold segsM
  rw [List.dropLast_concat, List.length_append, List.length_singleton]
  rfl
theorem msgsP_made : ∀ {l : List Msg}, (∀ m ∈ l, OkM m) → msgsP [] (segsL l) = some l
  | [], _ => rfl
  | m :: r, h => by
    show msgsP [] (descM m ++ [sEND m ((descM m).length + 1)] ++ segsL r) = _
    rw [List.append_assoc, msgsP_pass _ _ _ (descM_tags m)]
    show msgsP ([] ++ descM m) (sEND m ((descM m).length + 1) :: segsL r) = _
    have e : countF ([] ++ descM m ++ [sEND m ((descM m).length + 1)]) = segsM m := count_segs m
    rw [msgsP_end (show (sEND m ((descM m).length + 1)).tag = tEND from rfl), e, parse_segs (h m (by simp)), if_pos rfl, msgsP_made (l := r) (fun x hx => h x (by simp [hx]))]
    rfl

/-! the interchange -/
def hdS (l : List Seg) : Seg := (l.head?).getD noSeg
def lstS (l : List Seg) : Seg := (l.getLast?).getD noSeg
def midS (l : List Seg) : List Seg := (l.take (l.length - 1)).drop 1
def formL (l : List Seg) : Prop := 2 ≤ l.length ∧ (lstS l).tag = tUNZ ∧ (lstS l).els.length = 2
open Classical in
noncomputable def ichP (l : List Seg) : Option Ich :=
  if formL l ∧ (hdS l).els.length = 3 then
    (if (numBad (elAt (hdS l) 0) || numBad (elAt (hdS l) 1) || numBad (elAt (hdS l) 2)) = true ∨ hdS l ≠ sUNB ⟨numV (elAt (hdS l) 0), numV (elAt (hdS l) 1), numV (elAt (hdS l) 2), []⟩ then none
    else (msgsP [] (midS l)).map fun ms => ⟨numV (elAt (hdS l) 0), numV (elAt (hdS l) 1), numV (elAt (hdS l) 2), ms⟩)
  else none
open Classical in
noncomputable def ichR (l : List Seg) : Option Ich :=
  if formL l ∧ (hdS l).tag = tUNB then
    (match msgsR [] (midS l) with
    | none => none
    | some ms => if hdS l = sUNB ⟨rnF (elAt (hdS l) 0), rnF (elAt (hdS l) 1), rnF (elAt (hdS l) 2), []⟩ then some ⟨rnF (elAt (hdS l) 0), rnF (elAt (hdS l) 1), rnF (elAt (hdS l) 2), ms⟩ else none)
  else none
/-- both accept the same lists: those of a header, messages and a trailer -/
structure GI (l : List Seg) (x : Ich) : Prop where
  f : formL l
  h : hdS l = sUNB x
  m : msgsP [] (midS l) = some x.msgs
  p : OkI x
def goodI (o : Option Ich) : Option Ich := match o with
  | some x => if packE x = 0 then some x else none
  | none => none
theorem ichP_iff {l : List Seg} {x : Ich} : goodI (ichP l) = some x ↔ GI l x := by
  constructor
  · intro h
    unfold goodI at h
    split at h
    · rename_i y hy
      split at h
      · rename_i hp
        injection h with h
        subst h
        unfold ichP at hy
        split at hy
        · rename_i hf
          split at hy
          · cases hy
          · rename_i hb
            cases hm : msgsP [] (midS l) with
            | none => rw [hm] at hy; cases hy
            | some ms =>
              rw [hm] at hy
              injection hy with hy
              subst hy
              refine ⟨hf.1, ?_, hm, packE_zero.1 hp⟩
              exact Classical.byContradiction fun h2 => hb (.inr h2)
        · cases hy
      · cases h
    · cases h
  · rintro ⟨hf, hh, hm, hp⟩
    have e0 : elAt (sUNB x) 0 = elN x.sender := rfl
    have e1 : elAt (sUNB x) 1 = elN x.receiver := rfl
    have e2 : elAt (sUNB x) 2 = elN x.number := rfl
    have a0 := hp.s
    have a1 := hp.r
    have a2 := hp.n
    have hi : ichP l = some x := by
      unfold ichP
      rw [if_pos ⟨hf, by rw [hh]; rfl⟩, hh, e0, e1, e2, numV_elN (by omega) (by omega), numV_elN (by omega) (by omega), numV_elN (by omega) (by omega), numB_elN (by omega) (by omega), numB_elN (by omega) (by omega), numB_elN (by omega) (by omega), if_neg, hm]
      · rfl
      · rintro (h | h)
        · cases h
        · exact h rfl
    rw [hi]
    show (if packE x = 0 then some x else none) = some x
    rw [if_pos (packE_zero.2 hp)]
theorem ichR_iff {l : List Seg} {x : Ich} : goodI (ichR l) = some x ↔ GI l x := by
  constructor
  · intro h
    unfold goodI at h
    split at h
    · rename_i y hy
      split at h
      · rename_i hp
        injection h with h
        subst h
        unfold ichR at hy
        split at hy
        · rename_i hf
          split at hy
          · cases hy
          · rename_i ms hm
            split at hy
            · rename_i hb
              injection hy with hy
              subst hy
              exact ⟨hf.1, hb, by rw [msgs_same]; exact hm, packE_zero.1 hp⟩
            · cases hy
        · cases hy
      · cases h
    · cases h
  · rintro ⟨hf, hh, hm, hp⟩
    have e0 : elAt (sUNB x) 0 = elN x.sender := rfl
    have e1 : elAt (sUNB x) 1 = elN x.receiver := rfl
    have e2 : elAt (sUNB x) 2 = elN x.number := rfl
    have a0 := hp.s
    have a1 := hp.r
    have a2 := hp.n
    rw [msgs_same] at hm
    have hi : ichR l = some x := by
      unfold ichR
      rw [if_pos ⟨hf, by rw [hh]; rfl⟩, hh, e0, e1, e2, rn_elN (by omega) (by omega), rn_elN (by omega) (by omega), rn_elN (by omega) (by omega), hm]
      simp only
      rw [if_pos (show sUNB x = sUNB ⟨x.sender, x.receiver, x.number, []⟩ from rfl)]
    rw [hi]
    show (if packE x = 0 then some x else none) = some x
    rw [if_pos (packE_zero.2 hp)]
theorem ich_same (l : List Seg) : goodI (ichP l) = goodI (ichR l) := Option.ext fun x => by rw [ichP_iff, ichR_iff]
def finI (o : Option Ich) (b : Bs) : Ich × Int := match goodI o with
  | none => (zeroI, 4)
  | some x => if (packF x).1 = b then (x, 0) else (zeroI, 11)
noncomputable def unpackP (b : Bs) : Ich × Int := if (decodeF b).2.2 = 0 then finI (ichP (decodeF b).1) b else (zeroI, (decodeF b).2.2)
noncomputable def unpackR (b : Bs) : Ich × Int := if (decodeF b).2.2 = 0 then finI (ichR (decodeF b).1) b else (zeroI, (decodeF b).2.2)
theorem unpack_same (b : Bs) : unpackP b = unpackR b := by
  unfold unpackP unpackR finI
  rw [ich_same]
theorem segsL_ok : ∀ {l : List Msg}, (∀ m ∈ l, OkM m) → ∀ s ∈ segsL l, validF s = 0
  | [], _, s, hs => by cases hs
  | m :: r, h, s, hs => by
    rcases List.mem_append.1 hs with h1 | h1
    · exact segsM_ok (h m (by simp)) s h1
    · exact segsL_ok (l := r) (fun x hx => h x (by simp [hx])) s h1
theorem adl_bd (l : Bs) : 0 ≤ adlF l ∧ adlF l ≤ 4294967296 := by
  have := adF_bd l
  unfold adlF
  omega
theorem sUNB_ok {x : Ich} (h : OkI x) : validF (sUNB x) = 0 := by
  have a1 := elN_ok (n := x.sender) ⟨by have := h.s; omega, by have := h.s; omega⟩
  have a2 := elN_ok (n := x.receiver) ⟨by have := h.r; omega, by have := h.r; omega⟩
  have a3 := elN_ok (n := x.number) ⟨by have := h.n; omega, by have := h.n; omega⟩
  refine valid_of (by decide) (by simp) (fun e he => ?_) (by simp [endBad, a1.2.1, a2.2.1, a3.2.1, a3.2.2])
  simp only [List.mem_cons, List.not_mem_nil, or_false] at he
  rcases he with rfl | rfl | rfl
  · exact a1.1
  · exact a2.1
  · exact a3.1
theorem sUNZ_ok {l : List Msg} (h : l.length ≤ 1000) : validF (sUNZ l) = 0 := by
  have a1 := elN_ok (n := (l.length : Int)) ⟨by omega, by omega⟩
  have a2 := elN_ok (n := adlF (bodyL l)) ⟨by have := adl_bd (bodyL l); omega, by have := adl_bd (bodyL l); omega⟩
  refine valid_of (by decide) (by simp) (fun e he => ?_) (by simp [endBad, a1.2.1, a2.2.1, a2.2.2])
  simp only [List.mem_cons, List.not_mem_nil, or_false] at he
  rcases he with rfl | rfl
  · exact a1.1
  · exact a2.1
theorem ichSegs_ok {x : Ich} (h : OkI x) : ∀ s ∈ ichSegs x, validF s = 0 := by
  intro s hs
  unfold ichSegs at hs
  simp only [List.mem_cons, List.mem_append, List.not_mem_nil, or_false] at hs
  rcases hs with rfl | h1 | rfl
  · exact sUNB_ok h
  · exact segsL_ok h.m s h1
  · exact sUNZ_ok h.l
theorem packF_ok {x : Ich} (h : OkI x) : packF x = (encAll (ichSegs x), 0) := by
  unfold packF
  rw [if_pos (packE_zero.2 h)]
theorem gi_made {x : Ich} (h : OkI x) : GI (ichSegs x) x := by
  have e : ichSegs x = (sUNB x :: segsL x.msgs) ++ [sUNZ x.msgs] := rfl
  have e1 : lstS (ichSegs x) = sUNZ x.msgs := by unfold lstS; rw [e, List.getLast?_append]; rfl
  refine ⟨⟨?_, ?_, ?_⟩, rfl, ?_, h⟩
  · unfold ichSegs; simp
  · rw [e1]; rfl
  · rw [e1]; rfl
  · have e2 : midS (ichSegs x) = segsL x.msgs := by
      unfold midS
      have hl : (ichSegs x).length - 1 = (sUNB x :: segsL x.msgs).length := by rw [e, List.length_append, List.length_singleton]; omega
      rw [hl]
      conv => lhs; rw [e]
      rw [List.take_left]
      rfl
    rw [e2]
    exact msgsP_made h.m
/-- what is packed is unpacked -/
theorem unpack_pack {x : Ich} (h : OkI x) : unpackP (packF x).1 = (x, 0) := by
  rw [packF_ok h]
  unfold unpackP finI
  rw [decode_enc (ichSegs_ok h)]
  simp only [if_true]
  rw [ichP_iff.2 (gi_made h)]
  simp only
  rw [packF_ok h, if_pos rfl]
/-- what is unpacked was packed -/
theorem unpack_ok {b : Bs} (h : (unpackP b).2 = 0) : OkI (unpackP b).1 ∧ b = (packF (unpackP b).1).1 := by
  unfold unpackP at h ⊢
  split at h
  · rename_i h0
    rw [if_pos h0]
    unfold finI at h ⊢
    split at h
    · exact absurd h (show ¬ ((4 : Int) = 0) by decide)
    · rename_i x hx
      split at h
      · rename_i hb
        simp only [if_pos hb]
        exact ⟨(ichP_iff.1 hx).p, hb.symm⟩
      · exact absurd h (show ¬ ((11 : Int) = 0) by decide)
  · rename_i h0
    exact absurd h h0
theorem unpack_bad {b : Bs} (h : (unpackP b).2 ≠ 0) : (unpackP b).1 = zeroI := by
  unfold unpackP at h ⊢
  split at h
  · rename_i h0
    rw [if_pos h0]
    unfold finI at h ⊢
    split at h
    · rfl
    · rename_i x hx
      split at h
      · exact absurd rfl h
      · rename_i hb
        rw [if_neg hb]
  · rename_i h0
    rw [if_neg h0]
end Go.Proofs.YtmjlnckmhdgoiaaGreatDoor

/-! Plain: an interchange with a single byte replaced is never unpacked with the same three numbers. -/
namespace Go.Proofs.YtmjlnckmhdgoiaaGreatDoor
set_option linter.unusedVariables false

theorem encC_mem : ∀ {s : Bs} {c : UInt8}, c ∈ encC s → c = 63 ∨ c ∈ s
  | [], c, h => by cases h
  | x :: r, c, h => by
    rcases List.mem_append.1 (show c ∈ esc x ++ encC r from h) with h1 | h1
    · unfold esc at h1
      split at h1
      · simp only [List.mem_cons, List.not_mem_nil, or_false] at h1
        rcases h1 with h1 | h1
        · exact .inl h1
        · exact .inr (by simp [h1])
      · simp only [List.mem_cons, List.not_mem_nil, or_false] at h1
        exact .inr (by simp [h1])
    · rcases encC_mem h1 with h2 | h2
      · exact .inl h2
      · exact .inr (by simp [h2])
theorem itoa_digs {n : Int} (h : 0 ≤ n) : ∀ c ∈ Lib.itoa n, 48 ≤ c.toNat ∧ c.toNat ≤ 57 := by
  intro c hc
  unfold Lib.itoa at hc
  rw [if_neg (by omega)] at hc
  exact dec_digits _ c hc
theorem low_ne {c : UInt8} (h : c.toNat ≤ 63) : c ≠ 85 ∧ c ≠ 78 := by
  constructor <;> (rintro rfl; revert h; decide)
/-- the text of UNZ: 'U' and 'N' stand at its head alone -/
def Tl (T : Bs) : Prop := ∃ R : Bs, T = 85 :: 78 :: R ∧ ∀ c ∈ R, c ≠ 85 ∧ c ≠ 78
theorem tl_made {a b : Int} (ha : 0 ≤ a) (hb : 0 ≤ b) : Tl (encS ⟨tUNZ, [elN a, elN b]⟩) := by
  refine ⟨90 :: (43 :: (encC (Lib.itoa a) ++ (43 :: (encC (Lib.itoa b) ++ [39])))), ?_, ?_⟩
  · show (tUNZ ++ (43 :: ((encC (Lib.itoa a) ++ []) ++ (43 :: ((encC (Lib.itoa b) ++ []) ++ []))))) ++ [39] = _
    simp [tUNZ]
  · have hd : ∀ {n : Int}, 0 ≤ n → ∀ c ∈ encC (Lib.itoa n), c ≠ 85 ∧ c ≠ 78 := by
      intro n hn c hc
      rcases encC_mem hc with rfl | h
      · decide
      · exact low_ne (by have := itoa_digs hn c h; omega)
    intro c hc
    simp only [List.mem_cons, List.mem_append, List.not_mem_nil, or_false] at hc
    rcases hc with rfl | rfl | h | rfl | h | rfl
    · decide
    · decide
    · exact hd ha c h
    · decide
    · exact hd hb c h
    · decide
theorem Tl.at1 {T : Bs} (h : Tl T) : T[0]? = some 85 ∧ T[1]? = some 78 := by
  obtain ⟨R, rfl, _⟩ := h
  exact ⟨rfl, rfl⟩
theorem Tl.not1 {T : Bs} (h : Tl T) : (∀ i, 1 ≤ i → T[i]? ≠ some 85) ∧ (∀ i, 2 ≤ i → T[i]? ≠ some 78) := by
  obtain ⟨R, rfl, hR⟩ := h
  have k : ∀ (i : Nat) (c : UInt8), R[i]? = some c → c ≠ 85 ∧ c ≠ 78 := fun i c hc => hR c (List.mem_of_getElem? hc)
  constructor
  · intro i hi he
    match i, hi with
    | 1, _ => injection he with he; exact absurd he (by decide)
    | i + 2, _ => exact (k i _ he).1 rfl
  · intro i hi he
    match i, hi with
    | i + 2, _ => exact (k i _ he).2 rfl
theorem tails_half {c c' P P' T T' : Bs} {k : Nat} (h1 : c = P ++ T) (h2 : c' = P' ++ T') (hs : ∀ j, j ≠ k → c[j]? = c'[j]?) (t : Tl T) (t' : Tl T') (h : P'.length < P.length) : False := by
  have a0 : c[P.length]? = some 85 := by rw [h1, List.getElem?_append_right (Nat.le_refl _), Nat.sub_self]; exact t.at1.1
  have a1 : c[P.length + 1]? = some 78 := by rw [h1, List.getElem?_append_right (by omega), show P.length + 1 - P.length = 1 by omega]; exact t.at1.2
  have b0 : c'[P.length]? ≠ some 85 := by rw [h2, List.getElem?_append_right (by omega)]; exact t'.not1.1 _ (by omega)
  have b1 : c'[P.length + 1]? ≠ some 78 := by rw [h2, List.getElem?_append_right (by omega)]; exact t'.not1.2 _ (by omega)
  have k0 : P.length = k := Classical.byContradiction fun hne => b0 ((hs _ hne).symm.trans a0)
  have k1 : P.length + 1 = k := Classical.byContradiction fun hne => b1 ((hs _ hne).symm.trans a1)
  omega
theorem tails_same {P P' T T' : Bs} {k : Nat} {v : UInt8} (hs : P' ++ T' = (P ++ T).set k v) (t : Tl T) (t' : Tl T') : P.length = P'.length ∧ T.length = T'.length := by
  have hl := congrArg List.length hs
  rw [List.length_set, List.length_append, List.length_append] at hl
  have he : ∀ j, j ≠ k → (P ++ T)[j]? = (P' ++ T')[j]? := fun j hj => by rw [hs, List.getElem?_set_ne (fun h => hj h.symm)]
  have h1 : ¬ P'.length < P.length := fun h => tails_half rfl rfl he t t' h
  have h2 : ¬ P.length < P'.length := fun h => tails_half rfl rfl (fun j hj => (he j hj).symm) t' t h
  omega
theorem encAll_one (s : Seg) : encAll [s] = encS s := List.append_nil _
theorem ich_text (x : Ich) : encAll (ichSegs x) = encS (sUNB x) ++ (bodyL x.msgs ++ encS (sUNZ x.msgs)) := by
  show encS (sUNB x) ++ encAll (segsL x.msgs ++ [sUNZ x.msgs]) = _
  rw [encAll_append, encAll_one]
  rfl
theorem body_inj {l l' : List Msg} (h : ∀ m ∈ l, OkM m) (h' : ∀ m ∈ l', OkM m) (he : bodyL l = bodyL l') : l = l' := by
  have h1 := decode_enc (segsL_ok h)
  have h2 := decode_enc (segsL_ok h')
  unfold bodyL at he
  rw [he, h2] at h1
  injection h1 with h1
  have h3 := msgsP_made h
  rw [← h1, msgsP_made h'] at h3
  injection h3 with h3
  exact h3.symm
theorem encS_inj {s t : Seg} (h : validF s = 0) (h' : validF t = 0) (he : encS s = encS t) : s = t := by
  have h1 := decode_enc (t := [s]) (fun x hx => by simp only [List.mem_singleton] at hx; rw [hx]; exact h)
  have h2 := decode_enc (t := [t]) (fun x hx => by simp only [List.mem_singleton] at hx; rw [hx]; exact h')
  rw [encAll_one] at h1 h2
  rw [he, h2] at h1
  injection h1 with h1
  injection h1 with h1
  exact h1.symm
theorem set_id {l : Bs} {k : Nat} {v : UInt8} (hk : k < l.length) (h : l.set k v = l) : l[k]? = some v := by
  rw [← h, List.getElem?_set_self (by simpa using hk)]
theorem single {x y : Ich} (hx : OkI x) (hy : OkI y) {k : Nat} {v : UInt8} (hk : k < (packF x).1.length) (hv : (packF x).1[k]? ≠ some v) (h : (packF y).1 = (packF x).1.set k v) :
    ¬ (y.sender = x.sender ∧ y.receiver = x.receiver ∧ y.number = x.number) := by
  rintro ⟨e1, e2, e3⟩
  rw [packF_ok hx] at hk hv h
  rw [packF_ok hy] at h
  simp only [ich_text] at hk hv h
  have eH : encS (sUNB y) = encS (sUNB x) := by unfold sUNB; rw [e1, e2, e3]
  rw [eH] at h
  have tx : Tl (encS (sUNZ x.msgs)) := tl_made (by omega) (adl_bd _).1
  have ty : Tl (encS (sUNZ y.msgs)) := tl_made (by omega) (adl_bd _).1
  have hz := encS_inj (sUNZ_ok hy.l) (sUNZ_ok hx.l)
  have hb := body_inj hx.m hy.m
  have hc : encS (sUNZ y.msgs) = encS (sUNZ x.msgs) → adlF (bodyL y.msgs) = adlF (bodyL x.msgs) := fun he => by
    have := hz he
    unfold sUNZ at this
    injection this with _ this
    injection this with _ this
    injection this with this _
    exact elN_inj this
  have hd : x.msgs = y.msgs → encS (sUNZ y.msgs) = encS (sUNZ x.msgs) := fun he => by rw [he]
  generalize encS (sUNB x) = H at *
  generalize encS (sUNZ x.msgs) = T at *
  generalize encS (sUNZ y.msgs) = T' at *
  generalize bodyL x.msgs = B at *
  generalize bodyL y.msgs = B' at *
  have hl := tails_same (P := H ++ B) (P' := H ++ B') (T := T) (T' := T') (k := k) (v := v) (by rw [List.append_assoc, List.append_assoc]; exact h) tx ty
  rw [List.length_append, List.length_append] at hl
  rw [List.set_append] at h
  split at h
  · rename_i h1
    have h2 := List.append_inj_left h (by rw [List.length_set])
    rw [List.getElem?_append_left h1] at hv
    exact hv (set_id h1 h2.symm)
  · rename_i h1
    have h2 := List.append_cancel_left h
    rw [List.getElem?_append_right (by omega)] at hv
    rw [List.set_append] at h2
    split at h2
    · rename_i h3
      have h4 := List.append_inj h2 (by rw [List.length_set]; omega)
      rw [List.getElem?_append_left h3] at hv
      have h5 := hc h4.2
      rw [h4.1] at h5
      have h6 := (adl_set h3 v).1 h5
      rw [h6] at hv
      exact hv (List.getElem?_eq_getElem h3)
    · rename_i h3
      have h4 := List.append_inj h2 (by omega)
      rw [List.getElem?_append_right (by omega)] at hv
      have h5 := hd (hb h4.1.symm)
      rw [h5] at h4
      rw [List.length_append, List.length_append] at hk
      exact hv (set_id (by omega) h4.2.symm)
end Go.Proofs.YtmjlnckmhdgoiaaGreatDoor

/-! Lists of messages in memory; interchanges. -/
namespace Go.Proofs.YtmjlnckmhdgoiaaGreatDoor
open Go.RowKit
set_option linter.unusedVariables false

abbrev ichC (x : Ich) (A : Option Addr) (c : Nat) : Array Value := #[.int .i64 x.sender, .int .i64 x.receiver, .int .i64 x.number, .slice A x.msgs.length c]
abbrev ichV (x : Ich) (A : Option Addr) (c : Nat) : Value := .agg (ichC x A c)
theorem msgInfo : (Tryz.prog.info? 30).map (fun i => (i.zero, i.size, i.bytes)) = some (some (.agg #[.int .i64 0, .int .i64 0, .int .i64 0, .int .i64 0, .int .i64 0, .int .i64 0, .int .i64 0, .string ⟨#[]⟩, .string ⟨#[]⟩, .int .i64 0, .int .i64 0, .slice none 0 0, .string ⟨#[]⟩]), 13, 144) := by kernel_rfl
/-- the cells of message i of a list -/
def MsgIn (cs : List Value) (i : Nat) (m : Msg) (A : Option Addr) (c : Nat) : Prop := ∀ (j : Nat) (v : Value), (msgC m A c).toList[j]? = some v → cs[i * 13 + j]? = some v
def MsgsAt (w : World) (B : Nat) (A : Option Addr) (l : List Msg) : Prop := ∃ cs : List Value, cs.length = l.length * 13 ∧ RdB w B A cs ∧ ∀ (i : Nat) (m : Msg), l[i]? = some m → ∃ A' c', MsgIn cs i m A' c' ∧ RdB w B A' (ints m.list)
def MsgsOwn (w : World) (B : Nat) (v : Value) (l : List Msg) : Prop :=
  ∃ cs : List Value, w.ownsRow B 30 13 v l.length cs ∧ ∀ (i : Nat) (m : Msg), l[i]? = some m → ∃ A' c', MsgIn cs i m A' c' ∧ w.ownsRow B 3 1 (.slice A' m.list.length c') m.list.length (ints m.list)
theorem MsgIn.append {cs ds : List Value} {i : Nat} {m : Msg} {A : Option Addr} {c : Nat} (h : MsgIn cs i m A c) : MsgIn (cs ++ ds) i m A c := fun j v hj => by
  have h1 := h j v hj
  rw [List.getElem?_append_left (List.getElem?_eq_some_iff.1 h1).1]
  exact h1
theorem MsgIn.last {cs : List Value} {i : Nat} (h : cs.length = i * 13) (m : Msg) (A : Option Addr) (c : Nat) : MsgIn (cs ++ (msgC m A c).toList) i m A c := fun j v hj => by
  rw [List.getElem?_append_right (by omega), h, Nat.add_sub_cancel_left]
  exact hj
section
variable {w w' : World} {B B' : Nat} {v : Value} {A : Option Addr} {l : List Msg}
theorem MsgsAt.below (h : MsgsAt w B A l) (hb : Below B w w') : MsgsAt w' B A l := by
  obtain ⟨cs, h1, h2, h3⟩ := h
  exact ⟨cs, h1, h2.below hb, fun i m hm => by obtain ⟨a, c, e, f⟩ := h3 i m hm; exact ⟨a, c, e, f.below hb⟩⟩
theorem MsgsAt.mono (h : MsgsAt w B A l) (hB : B ≤ B') : MsgsAt w B' A l := by
  obtain ⟨cs, h1, h2, h3⟩ := h
  exact ⟨cs, h1, h2.mono hB, fun i m hm => by obtain ⟨a, c, e, f⟩ := h3 i m hm; exact ⟨a, c, e, f.mono hB⟩⟩
theorem MsgsAt.nil (w : World) (B : Nat) (A : Option Addr) : MsgsAt w B A [] := ⟨[], rfl, RdB.nil _ _ _, fun i e h => by simp at h⟩
/-- message k, at an address written out -/
theorem MsgsAt.get (h : MsgsAt w B A l) {k : Nat} (hk : k < l.length) :
    ∃ b off A' c', A = some ⟨b, off, none⟩ ∧ b < B ∧ (∀ (j : Nat) (v : Value), (msgC l[k] A' c').toList[j]? = some v → w.cell? ⟨b, off + k * 13 + j, none⟩ = some v) ∧ RdB w B A' (ints l[k].list) := by
  obtain ⟨cs, h1, h2, h3⟩ := h
  obtain ⟨A', c', hi, hr⟩ := h3 k _ (List.getElem?_eq_getElem hk)
  obtain ⟨b, off, rfl, hc⟩ := h2.rd.at_lit (hi 0 _ rfl)
  obtain ⟨ad, h4, h5, _⟩ := h2 _ _ (hi 0 _ rfl)
  injection h4 with h4
  subst h4
  refine ⟨b, off, A', c', rfl, h5, fun j v hj => ?_, hr⟩
  obtain ⟨b2, off2, e2, hc2⟩ := h2.rd.at_lit (hi j _ hj)
  injection e2 with e2
  injection e2 with e3 e4
  subst e3; subst e4
  rw [Nat.add_assoc]
  exact hc2
theorem MsgsOwn.nil_ (w : World) (B : Nat) : MsgsOwn w B (.slice none 0 0) [] := ⟨[], World.ownsRow_nil _ _ _ _, fun i e h => by simp at h⟩
theorem MsgsOwn.below (h : MsgsOwn w B v l) (hb : Below w.heap.size w w') : MsgsOwn w' B v l := by
  obtain ⟨cs, h1, h2⟩ := h
  exact ⟨cs, own_below h1 hb, fun i m hm => by obtain ⟨a, c, e, f⟩ := h2 i m hm; exact ⟨a, c, e, own_below f hb⟩⟩
theorem MsgsOwn.mono (h : MsgsOwn w B v l) (hb : B' ≤ B) : MsgsOwn w B' v l := by
  obtain ⟨cs, h1, h2⟩ := h
  exact ⟨cs, World.ownsRow.mono h1 hb, fun i m hm => by obtain ⟨a, c, e, f⟩ := h2 i m hm; exact ⟨a, c, e, World.ownsRow.mono f hb⟩⟩
/-- a store below the rows -/
theorem MsgsOwn.but {g : Nat} (h : MsgsOwn w B v l) (hb : But g w w') (hg : g < B) : MsgsOwn w' B v l := by
  obtain ⟨cs, h1, h2⟩ := h
  exact ⟨cs, own_but h1 hb hg, fun i m hm => by obtain ⟨a, c, e, f⟩ := h2 i m hm; exact ⟨a, c, e, own_but f hb hg⟩⟩
theorem MsgsOwn.push {m : Msg} {a' : Option Addr} {c' : Nat} {v' : Value} {cs : List Value} (h1 : w.ownsRow B 30 13 v l.length cs) (h2 : ∀ (i : Nat) (m : Msg), l[i]? = some m → ∃ A' c', MsgIn cs i m A' c' ∧ w.ownsRow B 3 1 (.slice A' m.list.length c') m.list.length (ints m.list))
    (hu : w.ownsRow B 3 1 (.slice a' m.list.length c') m.list.length (ints m.list)) (hg : w.grownBy w' v.ownBlock) (h3 : w'.ownsRow B 30 13 v' (l.length + 1) (cs ++ (msgC m a' c').toList)) : MsgsOwn w' B v' (l ++ [m]) := by
  have hcl : cs.length = l.length * 13 := h1.1
  refine ⟨cs ++ (msgC m a' c').toList, by rw [List.length_append]; exact h3, fun i x hx => ?_⟩
  by_cases hi : i < l.length
  · rw [List.getElem?_append_left hi] at hx
    obtain ⟨A', c2, e, f⟩ := h2 i x hx
    exact ⟨A', c2, e.append, World.ownsRow.kept f hg (own_ne h1 f (by decide))⟩
  · rw [List.getElem?_append_right (by omega)] at hx
    have h0 : i - l.length = 0 := by
      rcases Nat.eq_zero_or_pos (i - l.length) with h | h
      · exact h
      · rw [List.getElem?_eq_none (by simp; omega)] at hx; cases hx
    rw [h0] at hx
    simp at hx
    subst hx
    have hi2 : i = l.length := by omega
    subst hi2
    exact ⟨a', c', MsgIn.last hcl m a' c', World.ownsRow.kept hu hg (own_ne h1 hu (by decide))⟩
theorem MsgsOwn.at_ (h : MsgsOwn w B v l) : ∃ A c, v = .slice A l.length c ∧ l.length ≤ c ∧ MsgsAt w w.heap.size A l := by
  obtain ⟨cs, h1, h2⟩ := h
  obtain ⟨A, c, h3, h4, h5⟩ := own_shape h1
  refine ⟨A, c, h3, h5, cs, h1.1, h4, fun i m hm => ?_⟩
  obtain ⟨A', c', e, f⟩ := h2 i m hm
  obtain ⟨A2, c2, e2, r2, _⟩ := own_shape f
  injection e2 with e3 _ e4
  subst e3
  exact ⟨A', c', e, r2⟩
end
theorem msg_one (m : Msg) (A : Option Addr) (c : Nat) : ∀ u ∈ (msgC m A c).toList, u.oneCell' = true := by
  intro u hu
  simp only [List.mem_cons, List.not_mem_nil, or_false] at hu
  rcases hu with rfl | rfl | rfl | rfl | rfl | rfl | rfl | rfl | rfl | rfl | rfl | rfl | rfl <;> rfl
/-- append(list, m): the message lies in a block of its own first -/
theorem wpList_append_msg (w : World) {ops : Array Oper} {rest : List Oper} {o : Oper} {a : Act} {Q : Exit → Act → World → Prop} (hgd : o.guard = none) (s x : Operand)
    (ho : o.op = .call { callee := .builtin .append, args := #[s, x], argTypes := #[43, 43] })
    (B : Nat) (v : Value) (l : List Msg) (hs : a.eval s = v) (hown : MsgsOwn w B v l) (m : Msg) (A : Option Addr) (c : Nat) (hu : w.ownsRow B 3 1 (.slice A m.list.length c) m.list.length (ints m.list))
    (hx : a.eval x = .slice (some ⟨w.heap.size, 0, none⟩) 1 1) (hl : l.length ≤ 1000000000) (hB : B ≤ w.heap.size)
    (h : ∀ v' w', MsgsOwn w' B v' (l ++ [m]) → Below B w w' → wpList Tryz.prog ops Q rest (a.put o.dst v') w') :
    wpList Tryz.prog ops Q (o :: rest) a (w.alloc (.cells (msgC m A c) 30)) := by
  obtain ⟨cs, ho1, ho2⟩ := hown
  obtain ⟨i0, hi0, hz0, hz1, hz2⟩ := info_parts msgInfo
  refine wpList_append_new w hgd s x 43 ho B 30 i0 _ 13 144 Tryz.underlying43 hi0 hz0 hz1 hz2 rfl (by omega) v l.length cs (msgC m A c).toList rfl (msg_one m A c) hs ho1 hx (by unfold maxLen; omega) (by omega) hB ?_
  intro v' w' hown' hb' _ hg'
  exact h v' w' (MsgsOwn.push ho1 ho2 hu hg' hown') hb'
end Go.Proofs.YtmjlnckmhdgoiaaGreatDoor

/-! Plain: how long the encodings of messages and interchanges are. -/
namespace Go.Proofs.YtmjlnckmhdgoiaaGreatDoor
set_option linter.unusedVariables false

/-- a segment of a message or of an interchange: few, short elements -/
structure Sml (s : Seg) : Prop where
  t : s.tag.length = 3
  n : s.els.length ≤ 5
  e : ∀ e ∈ s.els, e.length ≤ 64
  c : ∀ e ∈ s.els, ∀ c ∈ e, c.length ≤ 200
theorem encR_sml : ∀ e : List Bs, (∀ c ∈ e, c.length ≤ 200) → (encR e).length ≤ 401 * e.length
  | [], _ => by simp [encR]
  | c :: r, h => by
    have h1 := encR_sml r (fun x hx => h x (by simp [hx]))
    have h2 := encC_len c
    have h3 := h c (by simp)
    simp only [encR, List.length_cons, List.length_append]
    omega
theorem encE_sml (e : List Bs) (h1 : e.length ≤ 64) (h : ∀ c ∈ e, c.length ≤ 200) : (encE e).length ≤ 25664 := by
  cases e with
  | nil => simp [encE]
  | cons c r =>
    have h2 := encR_sml r (fun x hx => h x (by simp [hx]))
    have h3 := encC_len c
    have h4 := h c (by simp)
    simp only [encE, List.length_append]
    simp only [List.length_cons] at h1
    omega
theorem encL_sml : ∀ l : List (List Bs), (∀ e ∈ l, e.length ≤ 64 ∧ ∀ c ∈ e, c.length ≤ 200) → (encL l).length ≤ 25665 * l.length
  | [], _ => by simp [encL]
  | e :: r, h => by
    have h1 := encL_sml r (fun x hx => h x (by simp [hx]))
    have h2 := h e (by simp)
    have h3 := encE_sml e h2.1 h2.2
    simp only [encL, List.length_cons, List.length_append]
    omega
theorem encS_sml {s : Seg} (h : Sml s) : (encS s).length ≤ 128330 := by
  have h1 := encL_sml s.els (fun e he => ⟨h.e e he, h.c e he⟩)
  have h2 := h.t
  have h3 := h.n
  simp only [encS, body, List.length_append, List.length_cons, List.length_nil]
  omega
theorem encAll_sml : ∀ (l : List Seg), (∀ s ∈ l, Sml s) → (encAll l).length ≤ 128330 * l.length
  | [], _ => by simp [encAll]
  | s :: r, h => by
    have h1 := encAll_sml r (fun x hx => h x (by simp [hx]))
    have h2 := encS_sml (h s (by simp))
    simp only [encAll, List.length_append, List.length_cons]
    omega
theorem sml_nums {t : Bs} {l : List Int} (ht : t.length = 3) (hl : l.length ≤ 5) (h : ∀ x ∈ l, In64 x) : Sml ⟨t, l.map elN⟩ := by
  refine ⟨ht, by simpa using hl, fun e he => ?_, fun e he c hc => ?_⟩
  · obtain ⟨x, hx, rfl⟩ := List.mem_map.1 he
    exact show (1 : Nat) ≤ 64 by omega
  · obtain ⟨x, hx, rfl⟩ := List.mem_map.1 he
    simp only [elN, List.mem_singleton] at hc
    subst hc
    have := Lib.itoa_length_le x (h x hx).1 (h x hx).2
    omega
theorem elN_sml {n : Int} (h : In64 n) : (elN n).length ≤ 64 ∧ ∀ c ∈ elN n, c.length ≤ 200 := by
  refine ⟨show (1 : Nat) ≤ 64 by omega, fun c hc => ?_⟩
  simp only [elN, List.mem_singleton] at hc
  subst hc
  have := Lib.itoa_length_le n h.1 h.2
  omega
theorem elT_sml {s : Bs} (h : s.length ≤ 200) : (elT s).length ≤ 64 ∧ ∀ c ∈ elT s, c.length ≤ 200 := by
  unfold elT
  split
  · exact ⟨by simp, fun c hc => by cases hc⟩
  · refine ⟨by simp, fun c hc => ?_⟩
    simp only [List.mem_singleton] at hc
    subst hc
    exact h
theorem sml_opt {b : Bool} {s x : Seg} (h : b = true → Sml s) (hx : x ∈ optS b s) : Sml x := by
  unfold optS at hx
  split at hx
  · rename_i hb
    simp only [List.mem_singleton] at hx
    rw [hx]
    exact h hb
  · cases hx
theorem segsM_sml {m : Msg} (ok : OkM m) : ∀ s ∈ segsM m, Sml s := by
  have i1 : In64 m.kind := ⟨by have := ok.kind; omega, by have := ok.kind; omega⟩
  have i2 : In64 m.src := ⟨by have := ok.src; omega, by have := ok.src; omega⟩
  have i3 : In64 m.dst := ⟨by have := ok.dst; omega, by have := ok.dst; omega⟩
  have i4 : In64 m.number := ⟨by have := ok.number; omega, by have := ok.number; omega⟩
  have i5 : In64 m.day := ⟨by have := ok.day; omega, by have := ok.day; omega⟩
  have i6 : In64 m.lot := ⟨by have := ok.lot; omega, by have := ok.lot; omega⟩
  have i7 : In64 m.other := ⟨by have := ok.other; omega, by have := ok.other; omega⟩
  have i8 : In64 m.quantity := ⟨by have := ok.quantity; omega, by have := ok.quantity; omega⟩
  have i9 : In64 m.amount := in64_of ok.amount
  have hd := descM_len m
  have i10 : In64 (((descM m).length + 1 : Nat) : Int) := ⟨by omega, by omega⟩
  intro s hs
  unfold segsM at hs
  rcases List.mem_append.1 hs with h | h
  · unfold descM at h
    simp only [List.mem_cons, List.mem_append] at h
    rcases h with rfl | h | h | h | h
    · exact sml_nums (l := [m.kind, m.src, m.dst, m.number, m.day]) rfl (by simp) (fun x hx => by simp only [List.mem_cons, List.not_mem_nil, or_false] at hx; rcases hx with rfl | rfl | rfl | rfl | rfl <;> assumption)
    · exact sml_opt (fun _ => sml_nums (l := [m.lot, m.other]) rfl (by simp) (fun x hx => by simp only [List.mem_cons, List.not_mem_nil, or_false] at hx; rcases hx with rfl | rfl <;> assumption)) h
    · refine sml_opt (fun _ => ?_) h
      have a1 := elT_sml (s := m.code) (by have := code_len ok.code; omega)
      have a2 := elT_sml (s := m.country) (by have := country_len ok.country; omega)
      have a3 := elN_sml i8
      have a4 := elN_sml i9
      refine ⟨rfl, show (4 : Nat) ≤ 5 by omega, fun e he => ?_, fun e he => ?_⟩ <;>
      · simp only [sGDS, List.mem_cons, List.not_mem_nil, or_false] at he
        rcases he with rfl | rfl | rfl | rfl
        · first | exact a1.1 | exact a1.2
        · first | exact a2.1 | exact a2.2
        · first | exact a3.1 | exact a3.2
        · first | exact a4.1 | exact a4.2
    · refine sml_opt (fun _ => ?_) h
      have a := maps_ok (l := m.list) (fun x hx => in64_of (ok.list x hx))
      refine ⟨rfl, show (1 : Nat) ≤ 5 by omega, fun e he => ?_, fun e he c hc => ?_⟩
      · simp only [sLST, List.mem_singleton] at he
        rw [he, List.length_map]
        exact ok.ll
      · simp only [sLST, List.mem_singleton] at he
        rw [he] at hc
        have := a.1 c hc
        omega
    · refine sml_opt (fun _ => ?_) h
      have a := elT_sml ok.tl
      refine ⟨rfl, show (1 : Nat) ≤ 5 by omega, fun e he => ?_, fun e he => ?_⟩ <;>
      · simp only [sTXT, List.mem_singleton] at he
        rw [he]
        first | exact a.1 | exact a.2
  · simp only [List.mem_singleton] at h
    rw [h]
    exact sml_nums (l := [(((descM m).length + 1 : Nat) : Int), m.number]) rfl (by simp) (fun x hx => by simp only [List.mem_cons, List.not_mem_nil, or_false] at hx; rcases hx with rfl | rfl <;> assumption)
theorem segsL_sml : ∀ {l : List Msg}, (∀ m ∈ l, OkM m) → ∀ s ∈ segsL l, Sml s
  | [], _, s, hs => by cases hs
  | m :: r, h, s, hs => by
    rcases List.mem_append.1 hs with h1 | h1
    · exact segsM_sml (h m (by simp)) s h1
    · exact segsL_sml (l := r) (fun x hx => h x (by simp [hx])) s h1
theorem segsL_len : ∀ (l : List Msg), (segsL l).length ≤ 6 * l.length
  | [] => by simp [segsL]
  | m :: r => by
    have h1 := segsL_len r
    have h2 := segsM_len m
    simp only [segsL, List.length_append, List.length_cons]
    omega
theorem body_len {l : List Msg} (h : ∀ m ∈ l, OkM m) (hl : l.length ≤ 1000) : (bodyL l).length ≤ 800000000 := by
  have h1 := encAll_sml _ (segsL_sml h)
  have h2 := segsL_len l
  unfold bodyL
  omega
theorem sUNB_sml {x : Ich} (h : OkI x) : Sml (sUNB x) :=
  sml_nums (l := [x.sender, x.receiver, x.number]) rfl (by simp) (fun n hn => by
    have := h.s; have := h.r; have := h.n
    simp only [List.mem_cons, List.not_mem_nil, or_false] at hn
    unfold In64
    rcases hn with rfl | rfl | rfl <;> omega)
theorem sUNZ_sml {l : List Msg} (h : l.length ≤ 1000) : Sml (sUNZ l) :=
  sml_nums (l := [(l.length : Int), adlF (bodyL l)]) rfl (by simp) (fun n hn => by
    have := adl_bd (bodyL l)
    simp only [List.mem_cons, List.not_mem_nil, or_false] at hn
    unfold In64
    rcases hn with rfl | rfl <;> omega)
theorem ichSegs_sml {x : Ich} (h : OkI x) : ∀ s ∈ ichSegs x, Sml s := by
  intro s hs
  unfold ichSegs at hs
  simp only [List.mem_cons, List.mem_append, List.not_mem_nil, or_false] at hs
  rcases hs with rfl | h1 | rfl
  · exact sUNB_sml h
  · exact segsL_sml h.m s h1
  · exact sUNZ_sml h.l
theorem ichSegs_len (x : Ich) : (ichSegs x).length ≤ 6 * x.msgs.length + 2 := by
  have := segsL_len x.msgs
  unfold ichSegs
  simp only [List.length_cons, List.length_append, List.length_nil]
  omega
theorem pack_len (x : Ich) : (packF x).1.length ≤ 900000000 := by
  unfold packF
  split
  · rename_i h
    have ok := packE_zero.1 h
    have h1 := encAll_sml _ (ichSegs_sml ok)
    have h2 := ichSegs_len x
    have h3 := ok.l
    show (encAll (ichSegs x)).length ≤ _
    omega
  · simp
theorem fits_sml {l : List Seg} (h : ∀ s ∈ l, Sml s) (hl : l.length ≤ 7000) : EncFits l := fun k _ => by
  have h1 := encAll_sml (l.take k) (fun s hs => h s (List.mem_of_mem_take hs))
  have h2 := List.length_take_le' k l
  omega
end Go.Proofs.YtmjlnckmhdgoiaaGreatDoor

/-! Plain: the sizes of decoded segments and of what is made of them. -/
namespace Go.Proofs.YtmjlnckmhdgoiaaGreatDoor
set_option linter.unusedVariables false

structure Dcd (l : List Seg) : Prop where
  n : l.length ≤ 1000000000
  f : ∀ s ∈ l, SFit s ∧ cntF s ≤ 100
theorem Dcd.of {b : Bs} (h : (decodeF b).2.2 = 0) (hl : b.length ≤ 1000000000) : Dcd (decodeF b).1 := by
  refine ⟨(decoded_fit h hl).1, fun s hs => ?_⟩
  have h2 : decodeF b = ((decodeF b).1, (decodeF b).2.1, 0) := by
    conv => rhs; rw [← h]
  exact valid_sfit ((decode_ok h2).2.2 s hs)
theorem Dcd.sub {l l' : List Seg} (h : Dcd l) (hs : ∀ s ∈ l', s ∈ l) (hn : l'.length ≤ l.length) : Dcd l' := ⟨by have := h.n; omega, fun s hs' => h.f s (hs s hs')⟩
theorem Dcd.fit {l : List Seg} (h : Dcd l) : ∀ s ∈ l, SFit s := fun s hs => (h.f s hs).1
theorem Dcd.cnt {l : List Seg} (h : Dcd l) : cntL l ≤ 10000000000000 := by
  have h1 := cnt_bd (n := 100) (fun s hs => (h.f s hs).2)
  have h2 := h.n
  omega
theorem fit_set0 {s : Seg} (h : SFit s ∧ cntF s ≤ 100) (n : Int) (hn : In64 n) : SFit ⟨s.tag, s.els.set 0 (elN n)⟩ ∧ cntF ⟨s.tag, s.els.set 0 (elN n)⟩ ≤ 100 := by
  have hl := Lib.itoa_length_le n hn.1 hn.2
  refine ⟨⟨by simp only [List.length_set]; exact h.1.n, fun e he => ?_, fun e he c hc => ?_⟩, ?_⟩
  · rcases List.mem_or_eq_of_mem_set he with h2 | h2
    · exact h.1.e e h2
    · subst h2; simp [elN]
  · rcases List.mem_or_eq_of_mem_set he with h2 | h2
    · exact h.1.w e h2 c hc
    · subst h2
      simp only [elN, List.mem_singleton] at hc
      subst hc
      omega
  · unfold cntF
    by_cases h0 : 0 < s.els.length
    · have : elAt ⟨s.tag, s.els.set 0 (elN n)⟩ 0 = elN n := by
        unfold elAt
        simp only
        rw [List.getElem?_set_self h0]
        rfl
      rw [this]
      exact show (1 : Nat) ≤ 100 by omega
    · have : s.els = [] := List.eq_nil_of_length_eq_zero (by omega)
      rw [this]
      exact show (0 : Nat) ≤ 100 by omega
theorem Dcd.count {l : List Seg} (h : Dcd l) : Dcd (countF l) := by
  refine ⟨by rw [countF_len]; exact h.n, fun s hs => ?_⟩
  unfold countF at hs
  split at hs
  · exact h.f s hs
  · rename_i s0 h0
    split at hs
    · rcases List.mem_append.1 hs with h2 | h2
      · exact h.f s (List.dropLast_subset l h2)
      · simp only [List.mem_singleton] at h2
        subst h2
        exact fit_set0 (h.f s0 (List.mem_of_getLast? h0)) _ ⟨by omega, by have := h.n; omega⟩
    · exact h.f s hs
theorem elT_le1 (x : Bs) : (elT x).length ≤ 1 := by unfold elT; split <;> simp
theorem endS_fit {cur : List Seg} {s : Seg} (h : SFit s ∧ cntF s ≤ 100) (hn : cur.length ≤ 1000000000) : SFit (endS cur s) ∧ cntF (endS cur s) ≤ 100 := by
  have hd := dec_len (k := cur.length + 1) (by omega)
  have hl := elT_le1 (Lib.decDigits (cur.length + 1))
  have hw : ∀ c ∈ elT (Lib.decDigits (cur.length + 1)), c.length ≤ 20 := by
    intro c hc
    unfold elT at hc
    split at hc
    · cases hc
    · simp only [List.mem_singleton] at hc
      subst hc
      exact hd
  refine ⟨⟨show (2 : Nat) ≤ _ by omega, fun e he => ?_, fun e he c hc => ?_⟩, ?_⟩
  · simp only [endS, List.mem_cons, List.not_mem_nil, or_false] at he
    rcases he with rfl | rfl
    · omega
    · exact h.1.len 1
  · simp only [endS, List.mem_cons, List.not_mem_nil, or_false] at he
    rcases he with rfl | rfl
    · have := hw c hc; omega
    · rcases el_mem s 1 with h2 | h2
      · rw [h2] at hc; cases hc
      · exact h.1.w _ h2 c hc
  · show (elT (Lib.decDigits (cur.length + 1))).length ≤ 100
    omega
theorem Dcd.ends {cur : List Seg} {s : Seg} (h : Dcd (cur ++ [s])) : Dcd (cur ++ [endS cur s]) := by
  have hn := h.n
  rw [List.length_append, List.length_singleton] at hn
  refine ⟨by rw [List.length_append, List.length_singleton]; omega, fun t ht => ?_⟩
  rcases List.mem_append.1 ht with h1 | h1
  · exact h.f t (by simp [h1])
  · simp only [List.mem_singleton] at h1
    subst h1
    exact endS_fit (h.f s (by simp)) (by omega)
theorem parseP_okM {l : List Seg} {q : Msg × Int} (h : parseP l = q) (h2 : q.2 = 0) : OkM q.1 := by
  subst h
  exact (parseP_ok h2).1
end Go.Proofs.YtmjlnckmhdgoiaaGreatDoor

/-! Contract of message.header. -/
namespace Go.Proofs.YtmjlnckmhdgoiaaGreatDoor
open Go.RowKit
set_option linter.unusedVariables false

theorem wpAnyX_take1 {P : Program} {ops : Array Oper} {Q : Exit → Act → World → Prop} {md : Region.Mode} {S : World → Prop} {x : Nat} {i : Nat} {oi : Oper} {v : Value} {fuel : Nat} {listed : Array Bool} {a : Act} {w : World} (hi : ops[i]? = some oi)
    (hb : (Region.noSelect ops && Region.free md ops listed i && (Region.ready md ops listed).contains i && waitsB md ops x i) = true)
    (hQ : ∀ c a w, Q (.panic c) (a.put oi.dst v) w → Q (.panic c) a w) (hS : S w) (hy : YieldsIf P ops S oi v a)
    (h : wpAnyX P md ops Q S x fuel (listed.setIfInBounds i true) (a.put oi.dst v) w) : wpAnyX P md ops Q S x (fuel + 1) listed a w := by
  simp only [Bool.and_eq_true] at hb
  exact wpAnyX_take hi hb.1.1.1 hb.1.1.2 hb.1.2 hb.2 hQ hS hy h
/-- block g holds the interchange -/
def IBlk (W : World) (g : Nat) (x : Ich) (A : Option Addr) (c : Nat) : Prop := W.heap[g]? = some (.cells (ichC x A c) 45 (0, 0))
section
variable {w w' W W' : World} {g gw B : Nat} {x : Ich} {A : Option Addr} {c : Nat}
theorem IBlk.lt (h : IBlk W g x A c) : g < W.heap.size := lt_of_block h
theorem IBlk.cell (h : IBlk W g x A c) (k : Nat) : W.cell? ⟨g, k, none⟩ = (ichC x A c)[k]? := cell_of_row _ _ _ _ _ _ h
theorem IBlk.all (h : IBlk W g x A c) : W.cell? ⟨g, 0, none⟩ = some (.int .i64 x.sender) ∧ W.cell? ⟨g, 1, none⟩ = some (.int .i64 x.receiver) ∧ W.cell? ⟨g, 2, none⟩ = some (.int .i64 x.number) ∧ W.cell? ⟨g, 3, none⟩ = some (.slice A x.msgs.length c) := ⟨h.cell 0, h.cell 1, h.cell 2, h.cell 3⟩
theorem IBlk.frozen (h : IBlk W g x A c) (k : Nat) : W.frozen? ⟨g, k, none⟩ = false := frozen_of_row _ _ _ _ _ h
theorem IBlk.belowB {B : Nat} (h : IBlk W g x A c) (hb : Below B W W') (hg : g < B) : IBlk W' g x A c := (hb.block g hg).trans h
theorem IBlk.below (h : IBlk W g x A c) (hb : Below W.heap.size W W') : IBlk W' g x A c := h.belowB hb h.lt
theorem IBlk.kept (h : IBlk W g x A c) {row : Option Nat} (hg : W.grownBy W' row) (hr : row ≠ some g) : IBlk W' g x A c := (hg.block g h.lt hr.symm).trans h
theorem IBlk.but {k : Nat} (h : IBlk W g x A c) (hb : But k W W') (hg : g ≠ k) : IBlk W' g x A c := (hb.block g hg).trans h
theorem Put.ich (h : Put gw B w w') (hm : IBlk w g x A c) (hg : g ≠ gw) : IBlk w' g x A c := (h.block g hm.lt hg (.inr (fun cs fr he => by
  unfold IBlk at hm
  rw [hm] at he
  injection he with he
  injection he with _ he _
  exact absurd he (by decide)))).trans hm
end
theorem els3 {w : World} {B : Nat} {v0 v1 v2 : Value} {e0 e1 e2 : List Bs} (hB : B ≤ w.heap.size) (h0 : OwnStr w B v0 e0) (h1 : OwnStr w B v1 e1) (h2 : OwnStr w B v2 e2) : ElsOwn (w.alloc (.cells #[v0, v1, v2] 60)) B (.slice (some ⟨w.heap.size, 0, none⟩) 3 3) [e0, e1, e2] := by
  have q := (Below.refl w.heap.size w).alloc (Nat.le_refl _) (.cells #[v0, v1, v2] 60)
  refine ⟨[v0, v1, v2], own_new w [v0, v1, v2] 60 1 3 B (by unfold maxLen; omega) rfl hB, fun i e he => ?_⟩
  match i, he with
  | 0, he => injection he with he; subst he; exact ⟨_, rfl, h0.below q⟩
  | 1, he => injection he with he; subst he; exact ⟨_, rfl, h1.below q⟩
  | 2, he => injection he with he; subst he; exact ⟨_, rfl, h2.below q⟩
  | i + 3, he => simp at he
def In64I (x : Ich) : Prop := In64 x.sender ∧ In64 x.receiver ∧ In64 x.number
def HdRet (w : World) (x : Ich) (e : Ending) (w' : World) : Prop := ∃ v, e = .returned v ∧ SegsOwn w' w.heap.size v [sUNB x] ∧ Below w.heap.size w w'
set_option maxRecDepth 100000 in
set_option maxHeartbeats 40000000 in
theorem header_any (x : Ich) (A : Option Addr) (c : Nat) (w : World) (hi : In64I x) (ht : Tab w) :
    Calls Tryz.prog 47 #[ichV x A c] w (HdRet w x) := by
  have q0 := (Below.refl w.heap.size w).alloc (Nat.le_refl _) (.cells (ichC x A c) 45)
  have hI0 : IBlk (w.alloc (.cells (ichC x A c) 45)) w.heap.size x A c := heap_alloc_new w _
  have hs0 : w.heap.size < (w.alloc (.cells (ichC x A c) 45)).heap.size := by simp
  obtain ⟨g1, hg1⟩ : ∃ g1, w.heap.size = g1 := ⟨_, rfl⟩
  rw [hg1] at hI0
  have ht0 := ht.below q0
  have htl := ht.lt
  generalize hW0 : w.alloc (.cells (ichC x A c) 45) = W0 at q0 hI0 hs0 ht0
  have q2 := (Below.refl W0.heap.size W0).alloc (Nat.le_refl _) (.cells #[.slice none 0 0] 81)
  have hWS : WS (W0.alloc (.cells #[.slice none 0 0] 81)) W0.heap.size (W0.heap.size + 1) [] := ⟨_, heap_alloc_new W0 _, SegsOwn.nil_ _ _, Nat.lt_succ_self _, by simp⟩
  have hI2 := hI0.below q2
  have ht2 := ht0.below q2
  have hB2 := q0.trans (q2.mono q0.size)
  have hz2 : W0.heap.size + 1 ≤ (W0.alloc (.cells #[.slice none 0 0] 81)).heap.size := by simp
  obtain ⟨d0, d1, d2, -⟩ := hI2.all
  clear ht ht0 hI0
  generalize hW2 : W0.alloc (.cells #[.slice none 0 0] 81) = W2 at q2 hWS hI2 ht2 hB2 hz2 d0 d1 d2
  have hg1w : g1 < W0.heap.size := by omega
  go_enter Tryz.func47, Tryz.ntmps47
  go_wp2_with fail
  generalize hgw : W0.heap.size = gw at *
  refine wp_region_x 12 (by kernel_rfl) (fun w' => (w'.cell? ⟨g1, 0, none⟩ = some (.int .i64 x.sender) ∧ w'.cell? ⟨g1, 1, none⟩ = some (.int .i64 x.receiver) ∧ w'.cell? ⟨g1, 2, none⟩ = some (.int .i64 x.number))) ?_
  have HS0 : Hid (W2.cell? ⟨g1, 0, none⟩ = some (.int .i64 x.sender) ∧ W2.cell? ⟨g1, 1, none⟩ = some (.int .i64 x.receiver) ∧ W2.cell? ⟨g1, 2, none⟩ = some (.int .i64 x.number)) := ⟨d0, d1, d2⟩
  have HS : Hid (W2.drew.cell? ⟨g1, 0, none⟩ = some (.int .i64 x.sender) ∧ W2.drew.cell? ⟨g1, 1, none⟩ = some (.int .i64 x.receiver) ∧ W2.drew.cell? ⟨g1, 2, none⟩ = some (.int .i64 x.number)) := HS0.out
  refine wpAnyX_take1 (i := 0) (v := .pointer (some ⟨gw, 0, none⟩)) rfl (by kernel_rfl) (fun _ _ _ h => h) HS.out (Or.inl ⟨by rfl, fun w hS => by (obtain ⟨q0, q1, q2⟩ := hS; go_simp)⟩) ?_
  go_simp
  refine wpAnyX_take1 (i := 1) (v := .pointer (some ⟨g1, 0, none⟩)) rfl (by kernel_rfl) (fun _ _ _ h => h) HS.out (Or.inl ⟨by rfl, fun w hS => by (obtain ⟨q0, q1, q2⟩ := hS; go_simp)⟩) ?_
  go_simp
  refine wpAnyX_take1 (i := 2) (v := .int .i64 x.sender) rfl (by kernel_rfl) (fun _ _ _ h => h) HS.out (Or.inl ⟨by rfl, fun w hS => by (obtain ⟨q0, q1, q2⟩ := hS; go_simp)⟩) ?_
  go_simp
  refine wpAnyX_take1 (i := 4) (v := .pointer (some ⟨g1, 1, none⟩)) rfl (by kernel_rfl) (fun _ _ _ h => h) HS.out (Or.inl ⟨by rfl, fun w hS => by (obtain ⟨q0, q1, q2⟩ := hS; go_simp)⟩) ?_
  go_simp
  refine wpAnyX_take1 (i := 5) (v := .int .i64 x.receiver) rfl (by kernel_rfl) (fun _ _ _ h => h) HS.out (Or.inl ⟨by rfl, fun w hS => by (obtain ⟨q0, q1, q2⟩ := hS; go_simp)⟩) ?_
  go_simp
  refine wpAnyX_take1 (i := 7) (v := .pointer (some ⟨g1, 2, none⟩)) rfl (by kernel_rfl) (fun _ _ _ h => h) HS.out (Or.inl ⟨by rfl, fun w hS => by (obtain ⟨q0, q1, q2⟩ := hS; go_simp)⟩) ?_
  go_simp
  refine wpAnyX_take1 (i := 8) (v := .int .i64 x.number) rfl (by kernel_rfl) (fun _ _ _ h => h) HS.out (Or.inl ⟨by rfl, fun w hS => by (obtain ⟨q0, q1, q2⟩ := hS; go_simp)⟩) ?_
  go_simp
  have hlg1 : g1 < W2.heap.size := hI2.lt
  refine wpAnyX_one (i := 3) (by kernel_rfl) rfl (fun K hK => ?_)
  go_simp
  go_wp2_with (go_at_call 46; refine (number_any x.sender hi.1.1 hi.1.2 W2.drew ht2).mono ?_; rintro e w4 ⟨A4, c4, rfl, ho4, hb4⟩)
  have hb4 : Below W2.heap.size W2 w4 := ⟨hb4.os, hb4.tape, hb4.output, hb4.size, hb4.block⟩
  have ht4 := ht2.below hb4
  refine hK.out _ _ (fun _ => ⟨(hb4.cell (p := ⟨g1, 0, none⟩) hlg1).trans HS0.out.1, (hb4.cell (p := ⟨g1, 1, none⟩) hlg1).trans HS0.out.2.1, (hb4.cell (p := ⟨g1, 2, none⟩) hlg1).trans HS0.out.2.2⟩) ?_
  clear hK K
  refine wpAnyX_one (i := 6) (by kernel_rfl) rfl (fun K hK => ?_)
  go_simp
  go_wp2_with (go_at_call 46; refine (number_any x.receiver hi.2.1.1 hi.2.1.2 w4 ht4).mono ?_; rintro e w5 ⟨A5, c5, rfl, ho5, hb5⟩)
  have hb5a := hb4.trans (hb5.mono hb4.size)
  have ht5 := ht4.below hb5
  refine hK.out _ _ (fun _ => ⟨(hb5a.cell (p := ⟨g1, 0, none⟩) hlg1).trans HS0.out.1, (hb5a.cell (p := ⟨g1, 1, none⟩) hlg1).trans HS0.out.2.1, (hb5a.cell (p := ⟨g1, 2, none⟩) hlg1).trans HS0.out.2.2⟩) ?_
  clear hK K
  refine wpAnyX_one (i := 9) (by kernel_rfl) rfl (fun K hK => ?_)
  go_simp
  go_wp2_with (go_at_call 46; refine (number_any x.number hi.2.2.1 hi.2.2.2 w5 ht5).mono ?_; rintro e w6 ⟨A6, c6, rfl, ho6, hb6⟩)
  have hb6a := hb5a.trans (hb6.mono hb5a.size)
  refine hK.out _ _ (fun _ => ⟨(hb6a.cell (p := ⟨g1, 0, none⟩) hlg1).trans HS0.out.1, (hb6a.cell (p := ⟨g1, 1, none⟩) hlg1).trans HS0.out.2.1, (hb6a.cell (p := ⟨g1, 2, none⟩) hlg1).trans HS0.out.2.2⟩) ?_
  clear hK K
  have hz : gw + 1 ≤ w6.heap.size := Nat.le_trans hz2 hb6a.size
  have ho4' : OwnStr w6 (gw + 1) (.slice A4 (elN x.sender).length c4) (elN x.sender) := ((ho4.mono (B' := gw + 1) hz2).below hb5).below hb6
  have ho5' : OwnStr w6 (gw + 1) (.slice A5 (elN x.receiver).length c5) (elN x.receiver) := (ho5.mono (B' := gw + 1) (Nat.le_trans hz2 hb4.size)).below hb6
  have ho6' : OwnStr w6 (gw + 1) (.slice A6 (elN x.number).length c6) (elN x.number) := ho6.mono (B' := gw + 1) (Nat.le_trans hz2 hb5a.size)
  have hEL := els3 (w := w6) hz ho4' ho5' ho6'
  have qe := (Below.refl w6.heap.size w6).alloc (Nat.le_refl _) (.cells #[.slice A4 (elN x.sender).length c4, .slice A5 (elN x.receiver).length c5, .slice A6 (elN x.number).length c6] 60)
  have hb7 := hb6a.trans (qe.mono hb6a.size)
  have hWSe := (hWS.below hb6a).below qe
  refine wpAnyX_one (i := 10) (by kernel_rfl) rfl (fun K hK => ?_)
  go_simp
  refine hK.out _ _ (fun _ => ⟨(hb7.cell (p := ⟨g1, 0, none⟩) hlg1).trans HS0.out.1, (hb7.cell (p := ⟨g1, 1, none⟩) hlg1).trans HS0.out.2.1, (hb7.cell (p := ⟨g1, 2, none⟩) hlg1).trans HS0.out.2.2⟩) ?_
  clear hK K
  refine wpAnyX_one (i := 11) (by kernel_rfl) rfl (fun K hK => ?_)
  go_simp
  go_wp2_with (go_at_call 45; refine (put_any gw (gw + 1) [] tUNB _ 3 _ _ hWSe hEL (by simp)).mono ?_; rintro e wp ⟨rfl, hws, hput⟩)
  have hBp := (hB2.trans (hb7.mono hB2.size)).trans ((hput.below (by omega) (by have := qe.size; omega)).mono (by omega))
  have hDp1 : WS wp gw (gw + 1) [sUNB x] := hws
  have hIp := hput.ich (hI2.below hb7) (by omega)
  refine hK.out _ _ (fun _ => ⟨hIp.cell 0, hIp.cell 1, hIp.cell 2⟩) ?_
  clear hK K
  refine wpAnyX_done (by kernel_rfl) ?_
  obtain ⟨v5, hcw5, hso5, _, _⟩ := hDp1
  obtain ⟨A7, c7, hv7, _, _⟩ := hso5.at_
  have hv7 : v5 = .slice A7 1 c7 := hv7
  subst hv7
  have hcc5 : wp.cell? ⟨gw, 0, none⟩ = some (.slice A7 1 c7) := by rw [cell_of_row _ _ _ _ _ _ hcw5]; rfl
  go_wp2_with fail
  go_ret
  exact ⟨_, rfl, SegsOwn.mono (B := gw + 1) (B' := w.heap.size) hso5 (by omega), hBp⟩
end Go.Proofs.YtmjlnckmhdgoiaaGreatDoor

/-! Rows of segments of the call's own that grow by other such rows; the contract of customsref06.inner. -/
namespace Go.Proofs.YtmjlnckmhdgoiaaGreatDoor
open Go.RowKit
set_option linter.unusedVariables false

theorem ownx_ne {w : World} {B B' : Nat} {e e' : TypeId} {size n size' n' : Nat} {v u : Value} {xs xs' : List Value} (h : OwnX w B e size v n xs) (h' : w.ownsRow B' e' size' u n' xs') (hne : e ≠ e') : u.ownBlock = none ∨ u.ownBlock ≠ v.ownBlock := by
  rcases h'.2 with ⟨rfl, _⟩ | ⟨g', cap', cur', rfl, _, hh', _⟩
  · exact .inl (by simp [Value.ownBlock])
  · refine .inr ?_
    rcases h.2 with ⟨rfl, _⟩ | ⟨g, off, cap, cur, rfl, _, hh, _⟩
    · simp [Value.ownBlock]
    · intro e2
      simp only [Value.ownBlock, Option.some.injEq] at e2
      subst e2
      rw [hh] at hh'
      injection hh' with hh'
      injection hh' with _ ht
      exact hne ht
/-- a row of segments of the call's own, somewhere in a block -/
def SgX (w : World) (B : Nat) (v : Value) (l : List Seg) : Prop :=
  ∃ cs : List Value, OwnX w B 57 2 v l.length cs ∧ ∀ (i : Nat) (s : Seg), l[i]? = some s → cs[i * 2]? = some (str s.tag) ∧ ∃ u, cs[i * 2 + 1]? = some u ∧ ElsOwn w B u s.els
theorem SgX.of {w : World} {B : Nat} {v : Value} {l : List Seg} (h : SegsOwn w B v l) : SgX w B v l := by
  obtain ⟨cs, h1, h2⟩ := h
  exact ⟨cs, OwnX.of_row h1, h2⟩
theorem SgX.nil_ (w : World) (B : Nat) : SgX w B (.slice none 0 0) [] := ⟨[], OwnX.nil_ _ _ _ _, fun i e h => by simp at h⟩
section
variable {w w' : World} {B B' : Nat} {v : Value} {l : List Seg}
theorem SgX.below (h : SgX w B v l) (hb : Below w.heap.size w w') : SgX w' B v l := by
  obtain ⟨cs, h1, h2⟩ := h
  exact ⟨cs, h1.below hb, fun i s hs => by obtain ⟨a, u, b, c⟩ := h2 i s hs; exact ⟨a, u, b, c.below hb⟩⟩
theorem SgX.mono (h : SgX w B v l) (hb : B' ≤ B) : SgX w B' v l := by
  obtain ⟨cs, h1, h2⟩ := h
  exact ⟨cs, h1.mono hb, fun i s hs => by obtain ⟨a, u, b, c⟩ := h2 i s hs; exact ⟨a, u, b, c.mono hb⟩⟩
theorem SgX.at_ (h : SgX w B v l) : ∃ A c, v = .slice A l.length c ∧ l.length ≤ c ∧ SegsAt w w.heap.size A l := by
  obtain ⟨cs, h1, h2⟩ := h
  obtain ⟨A, c, h3, h4, h5, _⟩ := h1.shape
  refine ⟨A, c, h3, h5, cs, h1.1, RdB.of_rd h4, fun i s hs => ?_⟩
  obtain ⟨a, u, b, e⟩ := h2 i s hs
  obtain ⟨A', c', h6, h7⟩ := e.at_
  exact ⟨_, _, a, b, rfl, A', c', h6, h7⟩
theorem elsOwn_one {u : Value} {l : List (List Bs)} (h : ElsOwn w B u l) : u.oneCell' = true := by
  obtain ⟨A, c, rfl, _⟩ := h.at_
  rfl
theorem segs_one {cs : List Value} (hc : cs.length = l.length * 2) (h : ∀ (i : Nat) (s : Seg), l[i]? = some s → cs[i * 2]? = some (str s.tag) ∧ ∃ u, cs[i * 2 + 1]? = some u ∧ ElsOwn w B u s.els) : ∀ u ∈ cs, u.oneCell' = true := by
  intro u hu
  obtain ⟨j, hj⟩ := List.getElem?_of_mem hu
  have hjl := (List.getElem?_eq_some_iff.1 hj).1
  have hk : j / 2 < l.length := by omega
  obtain ⟨a, y, b, e⟩ := h (j / 2) _ (List.getElem?_eq_getElem hk)
  rcases Nat.mod_two_eq_zero_or_one j with h0 | h1
  · rw [show j / 2 * 2 = j by omega] at a
    rw [a] at hj
    injection hj with hj
    rw [← hj]
    rfl
  · rw [show j / 2 * 2 + 1 = j by omega] at b
    rw [b] at hj
    injection hj with hj
    rw [← hj]
    exact elsOwn_one e
theorem ElsOwn.grownX {l : List (List Bs)} {u : Value} (h : ElsOwn w B u l) {n : Nat} {xs : List Value} {B2 size : Nat} (hv : OwnX w B2 57 size v n xs) (hg : w.grownBy w' v.ownBlock) : ElsOwn w' B u l := by
  obtain ⟨cs, h3, h4⟩ := h
  exact ⟨cs, World.ownsRow.kept h3 hg (ownx_ne hv h3 (by decide)), fun i e he => by obtain ⟨y, a, b⟩ := h4 i e he; exact ⟨y, a, World.ownsRow.kept b hg (ownx_ne hv b (by decide))⟩⟩
theorem below_grownX {n size : Nat} {e : TypeId} {xs : List Value} (h : OwnX w B e size v n xs) (hB : B ≤ w.heap.size) (hg : w.grownBy w' v.ownBlock) : Below B w w' :=
  (Below.refl _ _).grown hg hB (fun g e => (h.block_lt e).1)
theorem SgX.join {cs1 cs2 : List Value} {l1 l2 : List Seg} {v' : Value} (p1 : OwnX w B 57 2 v l1.length cs1) (p2 : ∀ (i : Nat) (s : Seg), l1[i]? = some s → cs1[i * 2]? = some (str s.tag) ∧ ∃ u, cs1[i * 2 + 1]? = some u ∧ ElsOwn w B u s.els)
    (hc2 : cs2.length = l2.length * 2) (q2 : ∀ (i : Nat) (s : Seg), l2[i]? = some s → cs2[i * 2]? = some (str s.tag) ∧ ∃ u, cs2[i * 2 + 1]? = some u ∧ ElsOwn w B u s.els)
    (hg : w.grownBy w' v.ownBlock) (r : OwnX w' B 57 2 v' (l1.length + l2.length) (cs1 ++ cs2)) : SgX w' B v' (l1 ++ l2) := by
  have hc1 : cs1.length = l1.length * 2 := p1.1
  refine ⟨cs1 ++ cs2, by rw [List.length_append]; exact r, fun i s hs => ?_⟩
  by_cases hi : i < l1.length
  · rw [List.getElem?_append_left hi] at hs
    obtain ⟨a, u, b, c⟩ := p2 i s hs
    exact ⟨by rw [List.getElem?_append_left (by omega)]; exact a, u, by rw [List.getElem?_append_left (by omega)]; exact b, c.grownX p1 hg⟩
  · rw [List.getElem?_append_right (by omega)] at hs
    obtain ⟨a, u, b, c⟩ := q2 _ s hs
    have e : i = l1.length + (i - l1.length) := by omega
    refine ⟨?_, u, ?_, c.grownX p1 hg⟩
    · rw [List.getElem?_append_right (by omega), hc1, show i * 2 - l1.length * 2 = (i - l1.length) * 2 by omega]
      exact a
    · rw [List.getElem?_append_right (by omega), hc1, show i * 2 + 1 - l1.length * 2 = (i - l1.length) * 2 + 1 by omega]
      exact b
end
/-- append(x, y...) of two such rows -/
theorem wpList_append_sgx (w : World) {ops : Array Oper} {rest : List Oper} {o : Oper} {a : Act} {Q : Exit → Act → World → Prop} (hgd : o.guard = none) (s x : Operand)
    (ho : o.op = .call { callee := .builtin .append, args := #[s, x], argTypes := #[27, 27] })
    (B : Nat) (v : Value) (l1 l2 : List Seg) (hs : a.eval s = v) (h1 : SgX w B v l1) (A : Option Addr) (n c : Nat) (hx : a.eval x = .slice A n c) (hn : l2.length = n) (h2 : SgX w B (.slice A n c) l2)
    (hl : l1.length + l2.length ≤ 1000000) (hB : B ≤ w.heap.size)
    (h : ∀ v' w', SgX w' B v' (l1 ++ l2) → Below B w w' → wpList Tryz.prog ops Q rest (a.put o.dst v') w') : wpList Tryz.prog ops Q (o :: rest) a w := by
  subst hn
  obtain ⟨cs1, p1, p2⟩ := h1
  obtain ⟨cs2, q1, q2⟩ := h2
  obtain ⟨i0, hi0, hz0, hz1, hz2⟩ := info_parts segInfo
  obtain ⟨A', c', e1, e2, _⟩ := q1.shape
  injection e1 with e1 _ _
  subst e1
  refine wpList_append_x w hgd s x 27 ho B 57 i0 _ 2 40 Tryz.underlying27 hi0 hz0 hz1 hz2 rfl (by omega) v l1.length cs1 hs p1 A l2.length c cs2 hx q1.1 e2 (segs_one q1.1 q2) (by unfold maxLen; omega) (by omega) hB ?_
  intro v' w' r1 r2 _
  exact h v' w' (SgX.join p1 p2 q1.1 q2 r2 r1) (below_grownX p1 hB r2)
/-- the same at a step of a region that draws -/
theorem step_append_sgx (w : World) {ops : Array Oper} {o : Oper} {a : Act} {K : Act → World → Prop} {Q : Exit → Act → World → Prop} {E : Prop} (hg : o.guard = none) (s x : Operand)
    (hop : o.op = .call { callee := .builtin .append, args := #[s, x], argTypes := #[27, 27] })
    (B : Nat) (v : Value) (l1 l2 : List Seg) (hs : a.eval s = v) (h1 : SgX w B v l1) (A : Option Addr) (n c : Nat) (hx : a.eval x = .slice A n c) (hn : l2.length = n) (h2 : SgX w B (.slice A n c) l2)
    (hl : l1.length + l2.length ≤ 1000000) (hB : B ≤ w.heap.size)
    (hK : ∀ v' w', SgX w' B v' (l1 ++ l2) → Below B w w' → w.grownBy w' v.ownBlock → K (a.put o.dst v') w') : if Region.wanted o (yielded ops a.tmps) = true then Oper.wp Tryz.prog o a w K Q else E := by
  subst hn
  have hw : Region.wanted o (yielded ops a.tmps) = true := by simp [Region.wanted, hg]
  rw [if_pos hw]
  obtain ⟨cs1, p1, p2⟩ := h1
  obtain ⟨cs2, q1, q2⟩ := h2
  obtain ⟨i0, hi0, hz0, hz1, hz2⟩ := info_parts segInfo
  obtain ⟨A', c', e1, e2, _⟩ := q1.shape
  injection e1 with e1 _ _
  subst e1
  obtain ⟨v', w', hrun, r1, r2, _⟩ := run_append_x (P := Tryz.prog) w B 27 o.type 57 i0 _ 2 40 Tryz.underlying27 hi0 hz0 hz1 hz2 rfl (by omega) v l1.length cs1 p1 A l2.length c cs2 q1.1 e2 (segs_one q1.1 q2) (by unfold maxLen; omega) (by omega) hB
  unfold Oper.wp
  simp [execOp, hop, resolve, invoke, builtin, hs, hx, hrun, Result.andThen]
  exact hK _ _ (SgX.join p1 p2 q1.1 q2 r2 r1) (below_grownX p1 hB r2) r2

/-! inner -/
theorem segsL_snoc {l : List Msg} {k : Nat} (h : k < l.length) : segsL (l.take (k + 1)) = segsL (l.take k) ++ segsM l[k] := by
  rw [List.take_succ_eq_append_getElem h, segsL_append]
  show _ ++ (segsM l[k] ++ []) = _
  rw [List.append_nil]
/-- message k, its cells one by one -/
theorem MsgsAt.cells {w : World} {B : Nat} {A : Option Addr} {l : List Msg} (h : MsgsAt w B A l) {k : Nat} (hk : k < l.length) :
    ∃ b off A' c', A = some ⟨b, off, none⟩ ∧ b < B ∧ RdB w B A' (ints l[k].list) ∧
      w.cell? ⟨b, off + k * 13, none⟩ = some (.int .i64 l[k].kind) ∧ w.cell? ⟨b, off + k * 13 + 1, none⟩ = some (.int .i64 l[k].src) ∧ w.cell? ⟨b, off + k * 13 + 2, none⟩ = some (.int .i64 l[k].dst) ∧ w.cell? ⟨b, off + k * 13 + 3, none⟩ = some (.int .i64 l[k].number) ∧
      w.cell? ⟨b, off + k * 13 + 4, none⟩ = some (.int .i64 l[k].day) ∧ w.cell? ⟨b, off + k * 13 + 5, none⟩ = some (.int .i64 l[k].lot) ∧ w.cell? ⟨b, off + k * 13 + 6, none⟩ = some (.int .i64 l[k].other) ∧ w.cell? ⟨b, off + k * 13 + 7, none⟩ = some (.string ⟨l[k].code.toArray⟩) ∧
      w.cell? ⟨b, off + k * 13 + 8, none⟩ = some (.string ⟨l[k].country.toArray⟩) ∧ w.cell? ⟨b, off + k * 13 + 9, none⟩ = some (.int .i64 l[k].quantity) ∧ w.cell? ⟨b, off + k * 13 + 10, none⟩ = some (.int .i64 l[k].amount) ∧ w.cell? ⟨b, off + k * 13 + 11, none⟩ = some (.slice A' l[k].list.length c') ∧ w.cell? ⟨b, off + k * 13 + 12, none⟩ = some (.string ⟨l[k].text.toArray⟩) := by
  obtain ⟨b, off, A', c', rfl, hb, hc, hr⟩ := h.get hk
  exact ⟨b, off, A', c', rfl, hb, hr, hc 0 _ rfl, hc 1 _ rfl, hc 2 _ rfl, hc 3 _ rfl, hc 4 _ rfl, hc 5 _ rfl, hc 6 _ rfl, hc 7 _ rfl, hc 8 _ rfl, hc 9 _ rfl, hc 10 _ rfl, hc 11 _ rfl, hc 12 _ rfl⟩
def InRel (l : List Msg) (w : World) (g : Nat) (v i : Value) (wr : World) : Prop :=
  ∃ (k : Nat) (A : Option Addr) (n c : Nat), k + g = l.length ∧ i = .int .i64 (k : Int) ∧ v = .slice A n c ∧ (segsL (l.take k)).length = n ∧ SgX wr w.heap.size (.slice A n c) (segsL (l.take k)) ∧ Below w.heap.size w wr
def InRet (w : World) (l : List Msg) (e : Ending) (w' : World) : Prop := ∃ v, e = .returned v ∧ SgX w' w.heap.size v (segsL l) ∧ Below w.heap.size w w'
set_option maxRecDepth 100000 in
set_option maxHeartbeats 40000000 in
theorem inner_any (A : Option Addr) (c : Nat) (l : List Msg) (w : World) (h : MsgsAt w w.heap.size A l) (ok : ∀ m ∈ l, OkM m) (hl : l.length ≤ 1000) :
    Calls Tryz.prog 50 #[.slice A l.length c] w (InRet w l) := by
  have HH := Lib.hid h
  have HOK := Lib.hid ok
  have HLL := Lib.hid hl
  have hnb := hl
  clear h ok hl
  generalize hnn : l.length = n at *
  have HNN := Lib.hid hnn
  clear hnn
  go_enter Tryz.func50, Tryz.ntmps50
  go_wp2
  go_loopg [3, 4] n (fun g v i wr => InRel l w g v i wr)
  case atStart => exact ⟨0, none, 0, 0, by have := HNN.out; omega, rfl, rfl, rfl, SgX.nil_ _ _, Below.refl _ _⟩
  case round =>
    obtain ⟨k, Ar, nr, cr, hk, rfl, rfl, hnr, ho, hb⟩ := hrel
    have HK := Lib.hid hk
    have HNR := Lib.hid hnr
    have HO := Lib.hid ho
    have HB := Lib.hid hb
    have hkn : k ≤ n := by have := HNN.out; omega
    clear hk hnr ho hb
    by_cases hlt : k < n
    · have hlt2 : k < l.length := by have := HNN.out; omega
      obtain ⟨b, off, Am, cm, rfl, hbl, hrm, f0, f1, f2, f3, f4, f5, f6, f7, f8, f9, f10, f11, f12⟩ := (HH.out.below HB.out).cells hlt2
      have HRS := Lib.hid (refSegments_any l[k] Am cm wr hrm.rd (HOK.out _ (List.getElem_mem _)))
      have HSN := Lib.hid (segsL_snoc hlt2)
      have HL2 : Hid ((segsL (l.take k)).length + (segsM l[k]).length ≤ 1000000) := by
        have h1 := segsL_len (l.take k)
        have h2 := segsM_len l[k]
        have h3 := List.length_take_le' k l
        have h4 := HLL.out
        have h5 := HNN.out
        show _ ≤ _
        omega
      clear hrm
      generalize l[k] = m at *
      go_wp2_with fail
      refine HRS.out.mono ?_
      rintro e W2 ⟨v2, rfl, ho2, hb2⟩
      have HO2 := Lib.hid ((SgX.of ho2).mono HB.out.size)
      have HO1 := Lib.hid (HO.out.below hb2)
      have HB2 := Lib.hid (HB.out.trans (hb2.mono HB.out.size))
      obtain ⟨A2, c2, rfl, _, _⟩ := HO2.out.at_
      clear ho2 hb2 HRS HO HB f0 f1 f2 f3 f4 f5 f6 f7 f8 f9 f10 f11 f12
      generalize hsm : (segsM m).length = n2 at *
      have HSM := Lib.hid hsm
      clear hsm
      go_wp2_with (refine wpList_append_sgx _ rfl _ _ rfl w.heap.size _ _ _ (by rfl) HO1.out _ _ _ (by rfl) HSM.out HO2.out (by have := HL2.out; have := HSM.out; omega) HB2.out.size ?_; intro v3 W3 ho3 hb3; obtain ⟨A3, c3, rfl, _, _⟩ := ho3.at_; have HO3 := Lib.hid ho3; have HB3 := Lib.hid (HB2.out.trans hb3); clear ho3 hb3)
      go_roundg (n - (k + 1))
      case measure => have := HK.out; have := HNN.out; omega
      case rel =>
        refine ⟨k + 1, A3, _, c3, by have := HNN.out; have := HK.out; omega, by go_num, rfl, by rw [HSN.out, List.length_append], ?_, HB3.out⟩
        rw [HSN.out]
        have h9 := HO3.out
        rw [List.length_append] at h9
        exact h9
    · have hge : n ≤ k := by omega
      go_wp2
      go_ret
      refine ⟨_, rfl, ?_, HB.out⟩
      have h1 := HO.out
      rw [List.take_of_length_le (show l.length ≤ k by have := HNN.out; omega)] at h1
      exact h1
end Go.Proofs.YtmjlnckmhdgoiaaGreatDoor

/-! A slice of slices of ints that came in. -/
namespace Go.Proofs.YtmjlnckmhdgoiaaGreatDoor
open Go.Joins Go.ChangeShapes Go.WideShapes Go.RowKit Go.Deep
set_option linter.unusedVariables false

/-- the rows L of ints, from A on, with room for c -/
structure RowsAt (w : World) (A : Option Addr) (c : Nat) (L : List (List Int)) : Prop where
  at_ : ∃ cs : List Value, cs.length = L.length ∧ Rd w A cs ∧ ∀ (i : Nat) (l : List Int), L[i]? = some l → ∃ A' c', cs[i]? = some (.slice A' l.length c') ∧ l.length ≤ c' ∧ c' ≤ 9223372036854775807 ∧ Rd w A' (ints l)
  le : L.length ≤ c
  max : c ≤ 9223372036854775807
theorem RowsAt.below {w w' : World} {A : Option Addr} {c : Nat} {L : List (List Int)} (h : RowsAt w A c L) (hb : Below w.heap.size w w') : RowsAt w' A c L := by
  obtain ⟨⟨cs, h1, h2, h3⟩, h4, h5⟩ := h
  exact ⟨⟨cs, h1, h2.below hb, fun i l hl => by obtain ⟨a, k, e1, e2, e3, e4⟩ := h3 i l hl; exact ⟨a, k, e1, e2, e3, e4.below hb⟩⟩, h4, h5⟩
/-- row k, at an address written out -/
theorem RowsAt.get {w : World} {A : Option Addr} {c : Nat} {L : List (List Int)} (h : RowsAt w A c L) {k : Nat} (hk : k < L.length) :
    ∃ b off A' c', A = some ⟨b, off, none⟩ ∧ w.cell? ⟨b, off + k, none⟩ = some (.slice A' L[k].length c') ∧ L[k].length ≤ c' ∧ c' ≤ 9223372036854775807 ∧ Rd w A' (ints L[k]) := by
  obtain ⟨⟨cs, h1, h2, h3⟩, h4, h5⟩ := h
  obtain ⟨A', c', e1, e2, e3, e4⟩ := h3 k _ (List.getElem?_eq_getElem hk)
  obtain ⟨b, off, rfl, hc⟩ := h2.at_lit e1
  exact ⟨b, off, A', c', rfl, hc, e2, e3, e4⟩
section
variable {H : Type} {enc : TypeId × Value → H} {w : World}
set_option maxRecDepth 100000 in
theorem open_intsV {fuel : Nat} {v : Value} {x : DataW H × List MemPlace} (h : DataW.trod enc Tryz.prog w 0 (fun _ => true) true fuel 22 [v] = some x) :
    ∃ (A' : Option Addr) (c' : Nat) (l : List Int), v = .slice A' l.length c' ∧ l.length ≤ c' ∧ c' ≤ 9223372036854775807 ∧ Rd w A' (ints l) := by
  rcases open_ints Tryz.underlying22 Tryz.underlying3 (by kernel_rfl) h with ⟨hcs, _⟩ | ⟨a, len, cap, zs, hcs, _, hl, hm, hz, _, hcell, _⟩
  · simp only [List.cons.injEq, and_true] at hcs
    subst hcs
    exact ⟨none, 0, [], rfl, Nat.le_refl _, by omega, Rd.nil _ _⟩
  · simp only [List.cons.injEq, and_true] at hcs
    subst hcs
    simp only [if_true] at hz
    have hlen : (zs.take len).length = len := by rw [List.length_take]; omega
    refine ⟨some a, cap, zs.take len, by rw [hlen], by rw [hlen]; exact hl, by unfold maxLen at hm; omega, fun j u hu => ⟨a, rfl, ?_⟩⟩
    simp only [ints, List.getElem?_map, Option.map_eq_some_iff] at hu
    obtain ⟨n, hn, rfl⟩ := hu
    by_cases hj : j < len
    · rw [List.getElem?_take_of_lt hj] at hn
      rw [hcell j (by omega), List.getD, hn]
      rfl
    · rw [List.getElem?_take_eq_none (by omega)] at hn; cases hn
set_option maxRecDepth 100000 in
theorem open_rows {base : Nat} {r : Reach} {v : Value} {d : DataW H} {p : List MemPlace} (hv : Value.okWide Tryz.prog w r base 42 v) (h : DataW.Trod enc Tryz.prog w 0 (fun _ => true) true 42 v d p) :
    ∃ (A : Option Addr) (c : Nat) (L : List (List Int)), v = .slice A L.length c ∧ RowsAt w A c L := by
  obtain ⟨a0, len0, cap0, rfl⟩ := okWide_slice Tryz.underlying42 hv
  obtain ⟨fuel, h⟩ := h
  have hce : Tryz.prog.cellsOf 22 = 1 := by kernel_rfl
  rcases open_slice Tryz.underlying42 h with ⟨hcs, _⟩ | ⟨a, len, cap, m, n, D, Pl, hcs, _, hl, hm, hmm, hx, hel⟩
  · simp [Value.cells] at hcs
    obtain ⟨rfl, rfl, rfl⟩ := hcs
    exact ⟨none, 0, [], rfl, ⟨[], rfl, Rd.nil _ _, fun i e he => by simp at he⟩, Nat.le_refl _, by omega⟩
  · simp [Value.cells] at hcs
    obtain ⟨rfl, rfl, rfl⟩ := hcs
    simp only [if_true] at hmm
    have key : ∀ i, i < len0 → ∃ (l : List Int) (u : Value), w.cell? (a.add i) = some u ∧ ∃ A' c', u = .slice A' l.length c' ∧ l.length ≤ c' ∧ c' ≤ 9223372036854775807 ∧ Rd w A' (ints l) := by
      intro i hi
      obtain ⟨cs', h1, h2⟩ := hel i (by omega)
      rw [hce, Nat.mul_one] at h1
      obtain ⟨_, hcl, hat⟩ := World.cells?_some h1
      match cs', hcl with
      | [u], _ =>
        obtain ⟨A', c', l, e1, e2, e3, e4⟩ := open_intsV h2
        exact ⟨l, u, by have := hat 0 (by omega); rw [add_two, Nat.add_zero] at this; exact this, A', c', e1, e2, e3, e4⟩
    let E : Nat → List Int := fun i => if hi : i < len0 then (key i hi).choose else []
    let U : Nat → Value := fun i => if hi : i < len0 then (key i hi).choose_spec.choose else undef
    have hEU : ∀ i, i < len0 → w.cell? (a.add i) = some (U i) ∧ ∃ A' c', U i = .slice A' (E i).length c' ∧ (E i).length ≤ c' ∧ c' ≤ 9223372036854775807 ∧ Rd w A' (ints (E i)) := by
      intro i hi
      have := (key i hi).choose_spec.choose_spec
      simp only [E, U, dif_pos hi]
      exact this
    have hEl : ((List.range len0).map E).length = len0 := by simp
    refine ⟨some a, cap0, (List.range len0).map E, by rw [hEl], ⟨(List.range len0).map U, by simp, fun j u hu => ⟨a, rfl, ?_⟩, fun i e he => ?_⟩, by rw [hEl]; exact hl, by unfold maxLen at hm; omega⟩
    · have hj : j < len0 := by have := (List.getElem?_eq_some_iff.1 hu).1; simpa using this
      rw [List.getElem?_map, List.getElem?_range hj] at hu
      simp only [Option.map_some, Option.some.injEq] at hu
      rw [← hu]
      exact (hEU j hj).1
    · have hj : i < len0 := by have := (List.getElem?_eq_some_iff.1 he).1; simpa using this
      rw [List.getElem?_map, List.getElem?_range hj] at he
      simp only [Option.map_some, Option.some.injEq] at he
      subst he
      obtain ⟨A', c', e1, e2, e3, e4⟩ := (hEU i hj).2
      exact ⟨A', c', by rw [List.getElem?_map, List.getElem?_range hj]; simp only [Option.map_some, e1], e2, e3, e4⟩
end
end Go.Proofs.YtmjlnckmhdgoiaaGreatDoor
