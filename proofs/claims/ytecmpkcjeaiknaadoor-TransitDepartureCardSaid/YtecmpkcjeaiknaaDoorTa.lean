/- The plain data of transits, and plain laws of them. -/
import Derived.Test.YtecmpkcjeaiknaaDoorFrame
import Derived.Test.YtecmpkcjeaiknaaDoorProg
namespace Go.Proofs.YtecmpkcjeaiknaaDoor
open Go.RowKit
set_option linter.unusedVariables false

/-- an ascending list with one number more -/
def riseF : List Int → Int → List Int
  | [], n => [n]
  | a :: r, n => if a < n then a :: riseF r n else if a = n then a :: r else n :: a :: r
def Asc : List Int → Prop
  | [] => True
  | a :: r => (∀ b ∈ r, a < b) ∧ Asc r
set_option maxRecDepth 100000 in
theorem rise_mem : ∀ (l : List Int) (n x : Int), x ∈ riseF l n ↔ x ∈ l ∨ x = n
  | [], n, x => by simp [riseF]
  | a :: r, n, x => by
    unfold riseF
    split
    · rw [List.mem_cons, rise_mem r n x, List.mem_cons]; exact or_assoc.symm
    · split
      · rename_i h; subst h
        simp only [List.mem_cons]
        constructor
        · intro h; exact .inl h
        · rintro (h | h)
          · exact h
          · exact .inl h
      · simp only [List.mem_cons]
        constructor
        · rintro (h | h | h)
          · exact .inr h
          · exact .inl (.inl h)
          · exact .inl (.inr h)
        · rintro ((h | h) | h)
          · exact .inr (.inl h)
          · exact .inr (.inr h)
          · exact .inl h
set_option maxRecDepth 100000 in
theorem rise_asc : ∀ (l : List Int) (n : Int), Asc l → Asc (riseF l n)
  | [], n, _ => by simp [riseF, Asc]
  | a :: r, n, h => by
    obtain ⟨h1, h2⟩ := h
    unfold riseF
    split
    · refine ⟨fun b hb => ?_, rise_asc r n h2⟩
      rcases (rise_mem r n b).1 hb with hb | rfl
      · exact h1 b hb
      · assumption
    · split
      · exact ⟨h1, h2⟩
      · refine ⟨fun b hb => ?_, h1, h2⟩
        rcases List.mem_cons.1 hb with rfl | hb
        · omega
        · have := h1 b hb; omega
set_option maxRecDepth 100000 in
/-- two ascending lists with the same members are one -/
theorem asc_ext : ∀ {l m : List Int}, Asc l → Asc m → (∀ x, x ∈ l ↔ x ∈ m) → l = m
  | [], [], _, _, _ => rfl
  | [], a :: r, _, _, h => by have := (h a).2 (by simp); cases this
  | a :: r, [], _, _, h => by have := (h a).1 (by simp); cases this
  | a :: r, b :: s, ha, hb, h => by
    have e : a = b := by
      rcases List.mem_cons.1 ((h a).1 (by simp)) with e | h1
      · exact e
      · rcases List.mem_cons.1 ((h b).2 (by simp)) with e | h2
        · exact e.symm
        · have := ha.1 b h2; have := hb.1 a h1; omega
    subst e
    have : r = s := asc_ext ha.2 hb.2 fun x => by
      constructor
      · intro hx
        rcases List.mem_cons.1 ((h x).1 (by simp [hx])) with e | h1
        · have := ha.1 x hx; omega
        · exact h1
      · intro hx
        rcases List.mem_cons.1 ((h x).2 (by simp [hx])) with e | h1
        · have := hb.1 x hx; omega
        · exact h1
    rw [this]
def risesF (l : List Int) (ns : List Int) : List Int := ns.foldl riseF l
theorem rises_mem : ∀ (ns l : List Int) (x : Int), x ∈ risesF l ns ↔ x ∈ l ∨ x ∈ ns
  | [], l, x => by simp [risesF]
  | n :: r, l, x => by
    show x ∈ risesF (riseF l n) r ↔ _
    rw [rises_mem r (riseF l n) x, rise_mem, List.mem_cons, or_assoc]
theorem rises_asc : ∀ (ns l : List Int), Asc l → Asc (risesF l ns)
  | [], l, h => h
  | n :: r, l, h => rises_asc r _ (rise_asc l n h)
theorem rises_append (l ns ms : List Int) : risesF l (ns ++ ms) = risesF (risesF l ns) ms := by simp [risesF, List.foldl_append]
/-- the ascending list of the members of l -/
def ascF (l : List Int) : List Int := risesF [] l
theorem ascF_mem (l : List Int) (x : Int) : x ∈ ascF l ↔ x ∈ l := by unfold ascF; rw [rises_mem]; simp
theorem ascF_asc (l : List Int) : Asc (ascF l) := rises_asc _ _ trivial
theorem ascF_ext {l m : List Int} (h : ∀ x, x ∈ l ↔ x ∈ m) : ascF l = ascF m := asc_ext (ascF_asc l) (ascF_asc m) fun x => by rw [ascF_mem, ascF_mem, h x]
theorem asc_filter (p : Int → Bool) : ∀ {l : List Int}, Asc l → Asc (l.filter p)
  | [], _ => trivial
  | a :: r, h => by
    rw [List.filter_cons]
    cases hp : p a with
    | true => exact ⟨fun b hb => h.1 b (List.mem_filter.1 hb).1, asc_filter p h.2⟩
    | false => exact asc_filter p h.2
/-- what is left of a without the members of b -/
def withoutF (a b : List Int) : List Int := ascF (a.filter fun x => !b.contains x)
/-- one incident -/
structure Inc where
  frm : Int
  num : Int
  lot : Int
  rem : Int
  aff : Int
deriving Inhabited
def affOf (lot : Int) (l : List Inc) : List Int := (l.filter fun x => x.lot == lot).map Inc.aff
def remOf (lot : Int) (l : List Inc) : List Int := (l.filter fun x => x.lot == lot).map Inc.rem
def sealsF (affixed : List Int) (lot : Int) (l : List Inc) : List Int := withoutF ((affixed ++ affOf lot l).filter fun x => !decide (x < 1)) (remOf lot l)
/-- the reference's way: all seals, of which those that are gone are left out -/
def goneB (lot : Int) (l : List Inc) (x : Int) : Bool := decide (x < 1) || l.any fun y => y.lot == lot && y.rem == x
def refSealsF (affixed : List Int) (lot : Int) (l : List Inc) : List Int := (ascF (affixed ++ affOf lot l)).filter fun x => !goneB lot l x
set_option maxRecDepth 100000 in
theorem seals_ref (a : List Int) (lot : Int) (l : List Inc) : sealsF a lot l = refSealsF a lot l := by
  refine asc_ext (ascF_asc _) (asc_filter _ (ascF_asc _)) fun x => ?_
  have hg : goneB lot l x = (decide (x < 1) || (remOf lot l).contains x) := by
    unfold goneB remOf
    congr 1
    rw [Bool.eq_iff_iff, List.any_eq_true, List.contains_iff_mem, List.mem_map]
    constructor
    · rintro ⟨y, hy, h⟩
      rw [Bool.and_eq_true, beq_iff_eq, beq_iff_eq] at h
      exact ⟨y, List.mem_filter.2 ⟨hy, by simpa using h.1⟩, h.2⟩
    · rintro ⟨y, hy, h⟩
      obtain ⟨h1, h2⟩ := List.mem_filter.1 hy
      exact ⟨y, h1, by simp at h2; simp [h2, h]⟩
  unfold sealsF withoutF refSealsF
  rw [ascF_mem, List.mem_filter, List.mem_filter, List.mem_filter, ascF_mem, hg, Bool.not_or, Bool.and_eq_true, and_assoc]
/-- seals of incidents that are the same as a set -/
theorem seals_same (a : List Int) (lot : Int) {l m : List Inc} (h : ∀ x, x ∈ l ↔ x ∈ m) : sealsF a lot l = sealsF a lot m := by
  have ha : ∀ x, x ∈ affOf lot l ↔ x ∈ affOf lot m := fun x => by simp [affOf, h]
  have hr : ∀ x, x ∈ remOf lot l ↔ x ∈ remOf lot m := fun x => by simp [remOf, h]
  have hc : ∀ x, (remOf lot l).contains x = (remOf lot m).contains x := fun x => by rw [Bool.eq_iff_iff, List.contains_iff_mem, List.contains_iff_mem, hr]
  exact ascF_ext fun x => by simp only [List.mem_filter, List.mem_append, ha, hc]
theorem without_self (a : List Int) : withoutF a a = [] := by
  have : a.filter (fun x => !a.contains x) = [] := by simp
  unfold withoutF
  rw [this]; rfl

structure Dep where
  lot : Int
  trip : Int
  off : Int
  guar : Int
  day : Int
  st : Int
  ver : Int
  ask : Int
  held : Int
  ctl : Int
  seals : List Int
structure Slc where
  src : Int
  frm : Int
  to_ : Int
deriving Inhabited
abbrev Txt := ByteArray
structure Lot where
  id : Int
  code : Txt
  qty : Int
  proc : Int
  slc : List Slc
structure Arr where
  id : Int
  trip : Int
  off : Int
  st : Int
  lot : Lot
  seals : List Int
  found : List Int
structure Trf where
  dep : Dep
  arr : Arr
  forth : List Int
  back : List Int
def startF (lot off guar day ver amt : Int) (s : List Int) : Dep := ⟨lot, ver, off, guar, day, 1, ver, amt, 0, 0, s⟩
def decideF (x : Dep) (ver cov : Int) (g : Bool) : Dep :=
  if x.ver = ver then (if x.st = 3 then { x with held := cov } else if x.st = 1 then (if g = true then { x with st := 3, held := cov } else { x with st := 2 }) else x) else x
def resultF (x : Dep) (c : Int) : Dep := if x.st = 3 then { x with st := 4, ctl := c, held := 0 } else x
def missF (x : Dep) : Dep := if x.st = 3 then { x with st := 5, held := 0 } else x
def annB (y : Arr) : Bool := decide (y.st = 0) || decide (y.st = 1)
def annF (y : Arr) (l : Lot) (trip off : Int) (s : List Int) : Arr := if annB y = true then { y with st := if y.st = 0 then 2 else 3, id := l.id, lot := l, trip := trip, off := off, seals := s } else y
def arrB (y : Arr) : Bool := decide (y.st = 0) || decide (y.st = 2)
def arrF (y : Arr) (id : Int) (f : List Int) : Arr := if arrB y = true then { y with st := if y.st = 0 then 1 else 3, id := id, found := f } else y
def enqF (y : Arr) : Arr := if y.st = 2 then { y with st := 4 } else y
def ansF (y : Arr) : Int := if y.st = 3 then 3 else if y.st = 2 ∨ y.st = 4 then 4 else 0
def lot0 (id : Int) : Lot := ⟨id, ⟨#[]⟩, 0, 0, []⟩
/-- a new arrival was taken -/
def arrivedF (t : Trf) (y : Arr) (ok : Bool) : Trf := if ok = true then { t with arr := y, back := if y.st = 3 then t.back ++ [3] else t.back } else t
def forthF (t : Trf) (s : Int) : Trf :=
  if s = 1 then arrivedF t (annF t.arr (lot0 t.dep.lot) t.dep.trip 0 t.dep.seals) (annB t.arr) else
  if s = 2 then { t with arr := enqF t.arr, back := if ansF t.arr ≠ 0 then t.back ++ [ansF t.arr] else t.back } else t
def backF (t : Trf) (s : Int) : Trf := if s = 3 then { t with dep := resultF t.dep 1 } else if s = 4 then { t with dep := missF t.dep } else t
def stepF (t : Trf) (a : Int) : Trf :=
  if a = 1 then (if t.dep.st = 1 then { t with dep := decideF t.dep t.dep.ver t.dep.ask true, forth := t.forth ++ [1] } else t) else
  if a = 2 then (if t.dep.st = 1 then { t with dep := decideF t.dep t.dep.ver t.dep.ask false } else t) else
  if a = 3 then arrivedF t (arrF t.arr t.dep.lot t.dep.seals) (arrB t.arr) else
  if a = 4 then (if t.dep.st = 3 then { t with forth := t.forth ++ [2] } else t) else
  if a = 5 then (match t.forth with | [] => t | s :: r => forthF { t with forth := r } s) else
  if a = 6 then (match t.back with | [] => t | s :: r => backF { t with back := r } s) else t
/-- what holds of a transit whatever was done -/
structure Inv (t : Trf) : Prop where
  res : 3 ∈ t.back → t.arr.st = 3
  mis : 4 ∈ t.back → t.arr.st = 4
  don : t.dep.st = 4 → t.arr.st = 3
  irr : t.dep.st = 5 → t.arr.st = 4
theorem Inv.good {t : Trf} (h : Inv t) : ¬ (t.dep.st = 5 ∧ t.arr.st = 3) ∧ ¬ (t.dep.st = 4 ∧ ¬ t.arr.st = 3) :=
  ⟨fun ⟨h1, h2⟩ => by have := h.irr h1; omega, fun ⟨h1, h2⟩ => h2 (h.don h1)⟩
set_option maxRecDepth 100000 in
theorem Inv.arrived {t : Trf} (h : Inv t) (y : Arr) (ok : Bool) (hy : ok = true → t.arr.st ≠ 3 ∧ t.arr.st ≠ 4 ∧ y.st ≠ 4) : Inv (arrivedF t y ok) := by
  unfold arrivedF
  cases ok with
  | false => exact h
  | true =>
    rw [if_pos rfl]
    obtain ⟨h1, h2, h3⟩ := hy rfl
    refine ⟨fun hm => ?_, fun hm => ?_, fun hd => absurd (h.don hd) h1, fun hd => absurd (h.irr hd) h2⟩
    · show y.st = 3
      by_cases hs : y.st = 3
      · exact hs
      · rw [if_neg hs] at hm; exact absurd (h.res hm) h1
    · by_cases hs : y.st = 3
      · rw [if_pos hs] at hm
        rcases List.mem_append.1 hm with hm | hm
        · exact absurd (h.mis hm) h2
        · simp at hm
      · rw [if_neg hs] at hm; exact absurd (h.mis hm) h2
set_option maxRecDepth 100000 in
theorem Inv.step {t : Trf} (h : Inv t) (a : Int) : Inv (stepF t a) := by
  unfold stepF
  by_cases a1 : a = 1
  · rw [if_pos a1]
    by_cases hs : t.dep.st = 1
    · rw [if_pos hs]
      have : (decideF t.dep t.dep.ver t.dep.ask true).st = 3 := by unfold decideF; simp [hs]
      exact ⟨h.res, h.mis, fun hd => by have h2 := this.symm.trans hd; omega, fun hd => by have h2 := this.symm.trans hd; omega⟩
    · rw [if_neg hs]; exact h
  rw [if_neg a1]
  by_cases a2 : a = 2
  · rw [if_pos a2]
    by_cases hs : t.dep.st = 1
    · rw [if_pos hs]
      have : (decideF t.dep t.dep.ver t.dep.ask false).st = 2 := by unfold decideF; simp [hs]
      exact ⟨h.res, h.mis, fun hd => by have h2 := this.symm.trans hd; omega, fun hd => by have h2 := this.symm.trans hd; omega⟩
    · rw [if_neg hs]; exact h
  rw [if_neg a2]
  by_cases a3 : a = 3
  · rw [if_pos a3]
    refine h.arrived _ _ fun ok => ?_
    unfold arrB at ok
    rw [Bool.or_eq_true, decide_eq_true_eq, decide_eq_true_eq] at ok
    refine ⟨by omega, by omega, ?_⟩
    unfold arrF
    split
    · show (if t.arr.st = 0 then (1 : Int) else 3) ≠ 4
      split <;> omega
    · omega
  rw [if_neg a3]
  by_cases a4 : a = 4
  · rw [if_pos a4]
    split
    · exact ⟨h.res, h.mis, h.don, h.irr⟩
    · exact h
  rw [if_neg a4]
  by_cases a5 : a = 5
  · rw [if_pos a5]
    cases hf : t.forth with
    | nil => exact h
    | cons s r =>
      have h' : Inv { t with forth := r } := ⟨h.res, h.mis, h.don, h.irr⟩
      show Inv (forthF _ s)
      unfold forthF
      by_cases s1 : s = 1
      · rw [if_pos s1]
        refine h'.arrived _ _ fun ok => ?_
        show t.arr.st ≠ 3 ∧ _
        have ok' : annB t.arr = true := ok
        unfold annB at ok'
        rw [Bool.or_eq_true, decide_eq_true_eq, decide_eq_true_eq] at ok'
        refine ⟨by omega, by show t.arr.st ≠ 4; omega, ?_⟩
        show (annF t.arr (lot0 t.dep.lot) t.dep.trip 0 t.dep.seals).st ≠ 4
        unfold annF
        rw [if_pos (show annB t.arr = true from ok)]
        show (if t.arr.st = 0 then (2 : Int) else 3) ≠ 4
        split <;> omega
      · rw [if_neg s1]
        by_cases s2 : s = 2
        · rw [if_pos s2]
          show Inv { t with forth := r, arr := enqF t.arr, back := if ansF t.arr ≠ 0 then t.back ++ [ansF t.arr] else t.back }
          have e3 : t.arr.st = 3 → (enqF t.arr).st = 3 := fun e => by unfold enqF; rw [if_neg (by omega)]; exact e
          have e4 : t.arr.st = 4 → (enqF t.arr).st = 4 := fun e => by unfold enqF; rw [if_neg (by omega)]; exact e
          have e2 : t.arr.st = 2 → (enqF t.arr).st = 4 := fun e => by unfold enqF; rw [if_pos e]
          refine ⟨fun hm => ?_, fun hm => ?_, fun hd => e3 (h.don hd), fun hd => e4 (h.irr hd)⟩
          · show (enqF t.arr).st = 3
            by_cases ha : ansF t.arr ≠ 0
            · replace hm : 3 ∈ t.back ++ [ansF t.arr] := by have := hm; simp only [ha, if_true, ne_eq, not_false_eq_true] at this; exact this
              rcases List.mem_append.1 hm with hm | hm
              · exact e3 (h.res hm)
              · refine e3 ?_
                rw [List.mem_singleton] at hm
                unfold ansF at hm
                by_cases h3 : t.arr.st = 3
                · exact h3
                · rw [if_neg h3] at hm
                  split at hm <;> omega
            · replace hm : 3 ∈ t.back := by have := hm; simp only [ha, if_false] at this; exact this
              exact e3 (h.res hm)
          · show (enqF t.arr).st = 4
            by_cases ha : ansF t.arr ≠ 0
            · replace hm : 4 ∈ t.back ++ [ansF t.arr] := by have := hm; simp only [ha, if_true, ne_eq, not_false_eq_true] at this; exact this
              rcases List.mem_append.1 hm with hm | hm
              · exact e4 (h.mis hm)
              · rw [List.mem_singleton] at hm
                unfold ansF at hm
                by_cases h3 : t.arr.st = 3
                · rw [if_pos h3] at hm; omega
                · rw [if_neg h3] at hm
                  by_cases h24 : t.arr.st = 2 ∨ t.arr.st = 4
                  · rcases h24 with h24 | h24
                    · exact e2 h24
                    · exact e4 h24
                  · rw [if_neg h24] at hm; omega
            · replace hm : 4 ∈ t.back := by have := hm; simp only [ha, if_false] at this; exact this
              exact e4 (h.mis hm)
        · rw [if_neg s2]; exact h'
  rw [if_neg a5]
  by_cases a6 : a = 6
  · rw [if_pos a6]
    cases hb : t.back with
    | nil => exact h
    | cons s r =>
      have hr : ∀ x, x ∈ r → x ∈ t.back := fun x hx => by rw [hb]; exact List.mem_cons_of_mem _ hx
      have hs : s ∈ t.back := by rw [hb]; exact List.mem_cons_self
      show Inv (backF { t with back := r } s)
      unfold backF
      by_cases s3 : s = 3
      · rw [if_pos s3]
        have h3 := h.res (s3 ▸ hs)
        refine ⟨fun hm => h3, fun hm => h.mis (hr _ hm), fun hd => h3, fun hd => ?_⟩
        refine h.irr ?_
        have hd' : (resultF t.dep 1).st = 5 := hd
        unfold resultF at hd'
        split at hd'
        · simp at hd'
        · exact hd'
      · rw [if_neg s3]
        by_cases s4 : s = 4
        · rw [if_pos s4]
          have h4 := h.mis (s4 ▸ hs)
          refine ⟨fun hm => h.res (hr _ hm), fun hm => h4, fun hd => ?_, fun hd => h4⟩
          refine h.don ?_
          have hd' : (missF t.dep).st = 4 := hd
          unfold missF at hd'
          split at hd'
          · simp at hd'
          · exact hd'
        · rw [if_neg s4]
          exact ⟨fun hm => h.res (hr _ hm), fun hm => h.mis (hr _ hm), h.don, h.irr⟩
  rw [if_neg a6]
  exact h
set_option maxRecDepth 100000 in
/-- the queues grow by one at most -/
theorem step_len (t : Trf) (a : Int) : (stepF t a).forth.length ≤ t.forth.length + 1 ∧ (stepF t a).back.length ≤ t.back.length + 1 := by
  have hA : ∀ (t : Trf) y ok, (arrivedF t y ok).forth.length ≤ t.forth.length ∧ (arrivedF t y ok).back.length ≤ t.back.length + 1 := fun t y ok => by
    unfold arrivedF
    split
    · refine ⟨Nat.le_refl _, ?_⟩
      show (if y.st = 3 then t.back ++ [3] else t.back).length ≤ _
      split <;> simp
    · exact ⟨Nat.le_refl _, by omega⟩
  unfold stepF
  split
  · split <;> simp
  split
  · split <;> simp
  split
  · have := hA t (arrF t.arr t.dep.lot t.dep.seals) (arrB t.arr); omega
  split
  · split <;> simp
  split
  · cases hf : t.forth with
    | nil => simp [hf]
    | cons s r =>
      show (forthF { t with forth := r } s).forth.length ≤ _ ∧ (forthF { t with forth := r } s).back.length ≤ _
      unfold forthF
      split
      · have := hA { t with forth := r } (annF t.arr (lot0 t.dep.lot) t.dep.trip 0 t.dep.seals) (annB t.arr)
        simp only [List.length_cons] at *
        omega
      split
      · refine ⟨by simp; omega, ?_⟩
        show (if ansF t.arr ≠ 0 then t.back ++ [ansF t.arr] else t.back).length ≤ _
        split <;> simp
      · simp; omega
  split
  · cases hb : t.back with
    | nil => simp [hb]
    | cons s r =>
      show (backF { t with back := r } s).forth.length ≤ _ ∧ (backF { t with back := r } s).back.length ≤ _
      unfold backF
      split
      · simp; omega
      split <;> (simp; omega)
  · omega
end Go.Proofs.YtecmpkcjeaiknaaDoor
