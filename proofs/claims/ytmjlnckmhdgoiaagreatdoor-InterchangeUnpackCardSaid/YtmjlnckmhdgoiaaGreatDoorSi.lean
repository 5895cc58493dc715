/- Contract of Encode. -/
import Derived.Test.YtmjlnckmhdgoiaaGreatDoorSh
namespace Go.Proofs.YtmjlnckmhdgoiaaGreatDoor
open Go.RowKit
set_option linter.unusedVariables false

set_option maxRecDepth 100000 in
theorem encC_len : ∀ c : Bs, (encC c).length ≤ 2 * c.length
  | [] => by simp [encC]
  | c :: r => by
    have := encC_len r
    show (esc c ++ encC r).length ≤ _
    have h2 : (esc c).length ≤ 2 := by unfold esc; split <;> simp
    simp
    omega
set_option maxRecDepth 100000 in
theorem encR_len : ∀ e : List Bs, (∀ c ∈ e, c.length ≤ 1000) → (encR e).length ≤ 2001 * e.length
  | [], _ => by simp [encR]
  | c :: r, h => by
    have h1 := encR_len r (fun x hx => h x (by simp [hx]))
    have h2 := encC_len c
    have h3 := h c (by simp)
    simp [encR]
    omega
set_option maxRecDepth 100000 in
theorem encE_len (e : List Bs) (h1 : e.length ≤ 100) (h : ∀ c ∈ e, c.length ≤ 1000) : (encE e).length ≤ 200100 := by
  cases e with
  | nil => simp [encE]
  | cons c r =>
    have a := encR_len r (fun x hx => h x (by simp [hx]))
    have b := encC_len c
    have d := h c (by simp)
    simp [encE] at h1 ⊢
    omega
set_option maxRecDepth 100000 in
theorem encL_len : ∀ l : List (List Bs), (∀ e ∈ l, e.length ≤ 100 ∧ ∀ c ∈ e, c.length ≤ 1000) → (encL l).length ≤ 200101 * l.length
  | [], _ => by simp [encL]
  | e :: r, h => by
    have h1 := encL_len r (fun x hx => h x (by simp [hx]))
    have h2 := h e (by simp)
    have h3 := encE_len e h2.1 h2.2
    simp [encL]
    omega
theorem valid_tag {s : Seg} (h : validF s = 0) : s.tag.length = 3 := by
  have := (validF_zero.1 h).1
  unfold isTagF at this
  simp only [Bool.and_eq_true, decide_eq_true_eq] at this
  exact this.1
theorem encS_len {s : Seg} (h : validF s = 0) : (encS s).length ≤ 20010200 := by
  have h1 := valid_tag h
  have h2 := short_of (validF_zero.1 h).2.1
  have h3 := encL_len s.els h2.2
  simp [encS, body]
  omega
theorem encAll_len : ∀ (l : List Seg), (∀ s ∈ l, validF s = 0) → (encAll l).length ≤ 20010200 * l.length
  | [], _ => by simp [encAll]
  | s :: r, h => by
    have h1 := encAll_len r (fun x hx => h x (by simp [hx]))
    have h2 := encS_len (h s (by simp))
    simp [encAll]
    omega
/-- lists whose encoding is not too long, as far as it is written -/
def EncFits (l : List Seg) : Prop := ∀ k, (∀ s ∈ l.take k, validF s = 0) → (encAll (l.take k)).length ≤ 1000000000
theorem fits_few {l : List Seg} (h : l.length ≤ 40) : EncFits l := fun k hk => by
  have := encAll_len _ hk
  have h2 : (l.take k).length ≤ l.length := List.length_take_le' _ _
  omega
theorem encE?_step {l : List Seg} {k : Nat} (h : k < l.length) : encE? (l.drop k) = if validF l[k] ≠ 0 then validF l[k] else encE? (l.drop (k + 1)) := by
  rw [List.drop_eq_getElem_cons h]; rfl
theorem take_snoc {α : Type} {l : List α} {k : Nat} (h : k < l.length) : l.take (k + 1) = l.take k ++ [l[k]] := List.take_succ_eq_append_getElem h
theorem encAll_snoc {l : List Seg} {k : Nat} (h : k < l.length) : encAll (l.take (k + 1)) = encAll (l.take k) ++ encS l[k] := by
  rw [take_snoc h, encAll_append]
  simp [encAll]
def EncRet (w : World) (l : List Seg) (e : Ending) (w' : World) : Prop :=
  Below w.heap.size w w' ∧ ((encE? l = 0 ∧ ∃ v, e = .returned (.tuple #[v, .int .i64 0]) ∧ OwnB w' w.heap.size v (encAll l)) ∨
    (encE? l ≠ 0 ∧ e = .returned (.tuple #[.slice none 0 0, .int .i64 (encE? l)])))
def EncRel (l : List Seg) (w : World) (g : Nat) (v i : Value) (wr : World) : Prop :=
  ∃ k : Nat, k + g = l.length ∧ i = .int .i64 (k : Int) ∧ (∀ s ∈ l.take k, validF s = 0) ∧ encE? l = encE? (l.drop k) ∧ OwnB wr w.heap.size v (encAll (l.take k)) ∧ Below w.heap.size w wr
theorem seg_eta (s : Seg) : (⟨(⟨s.tag.toArray⟩ : ByteArray).data.toList, s.els⟩ : Seg) = s := rfl
set_option maxRecDepth 100000 in
set_option maxHeartbeats 4000000 in
theorem encode_any (A : Option Addr) (c : Nat) (l : List Seg) (w : World) (h : SegsAt w w.heap.size A l) (hl : l.length ≤ 1000000) (hf : EncFits l) :
    Calls Tryz.prog 42 #[.slice A l.length c] w (EncRet w l) := by
  have HF := Lib.hid hf
  clear hf
  go_enter Tryz.func42, Tryz.ntmps42
  go_wp2
  go_loopg [4, 10] l.length (fun g v i wr => EncRel l w g v i wr)
  case atStart => exact ⟨0, by omega, rfl, fun s hs => by simp at hs, by simp, OwnB.nil_ _ _, Below.refl _ _⟩
  case round =>
    obtain ⟨k, hk, rfl, hv, he, hown, hb⟩ := hrel
    have HK := Lib.hid hk
    have HV := Lib.hid hv
    have HE := Lib.hid he
    have hk2 : k ≤ l.length := by omega
    have hBr := hb.size
    clear hk hv he
    by_cases hlt : k < l.length
    · have HST := Lib.hid (encE?_step hlt)
      have HSN := Lib.hid (encAll_snoc hlt)
      have HTK := Lib.hid (take_snoc hlt)
      have hgs := (h.below hb).get hlt
      obtain ⟨b, off, A', c', rfl, hbb, hc0, hc1, hEls⟩ := hgs
      unfold str at hc0
      have hc1' : wr.cell? ⟨b, off + k * 2 + 1, none⟩ = some (.slice A' l[k].els.length c') := hc1
      clear hc1
      have hfit := HF.out (k + 1)
      rw [HSN.out, HTK.out] at hfit
      have q1 := hb.alloc hBr (.cells #[.string ⟨l[k].tag.toArray⟩, .slice A' l[k].els.length c'] 57)
      have hz1 : wr.heap.size < (wr.alloc (.cells #[.string ⟨l[k].tag.toArray⟩, .slice A' l[k].els.length c'] 57)).heap.size := by simp
      have hown1 := hown.alloc (.cells #[.string ⟨l[k].tag.toArray⟩, .slice A' l[k].els.length c'] 57)
      have hE1 := hEls.below ((Below.refl w.heap.size wr).alloc hBr (.cells #[.string ⟨l[k].tag.toArray⟩, .slice A' l[k].els.length c'] 57))
      have hd0 : (wr.alloc (.cells #[.string ⟨l[k].tag.toArray⟩, .slice A' l[k].els.length c'] 57)).cell? ⟨wr.heap.size, 0, none⟩ = some (.string ⟨l[k].tag.toArray⟩) := by simp
      have hd1 : (wr.alloc (.cells #[.string ⟨l[k].tag.toArray⟩, .slice A' l[k].els.length c'] 57)).cell? ⟨wr.heap.size, 1, none⟩ = some (.slice A' l[k].els.length c') := by simp
      generalize hW1 : wr.alloc (.cells #[.string ⟨l[k].tag.toArray⟩, .slice A' l[k].els.length c'] 57) = W1 at q1 hz1 hown1 hE1 hd0 hd1
      have HVA := Lib.hid (validate_any ⟨l[k].tag.toArray⟩ A' c' l[k].els W1 (hE1.mono (Nat.le_trans hBr (Nat.le_of_lt hz1))))
      rw [seg_eta] at HVA
      generalize l[k] = s at *
      clear hEls
      have HWR := Lib.hid (fun W2 (hb2 : Below W1.heap.size W1 W2) (hv : validF s = 0) (hv2 : ∀ x ∈ l.take k ++ [s], validF x = 0) =>
        write_any _ (encAll (l.take k)) ⟨s.tag.toArray⟩ A' c' s.els w.heap.size W2 (hown1.below hb2) (Nat.le_trans q1.size hb2.size) (hE1.below (hb2.mono q1.size)) (by rw [seg_eta]; exact hfit hv2) (short_of (validF_zero.1 hv).2.1).1 (short_of (validF_zero.1 hv).2.1).2)
      rw [seg_eta] at HWR
      clear hfit
      by_cases hv : validF s = 0
      · have HVA2 := HVA
        rw [hv] at HVA2
        have hv2 : ∀ x ∈ l.take k ++ [s], validF x = 0 := by
          intro x hx
          rcases List.mem_append.1 hx with hx | hx
          · exact HV.out x hx
          · simp only [List.mem_singleton] at hx; subst hx; exact hv
        have HV2 : Hid (∀ x ∈ l.take (k + 1), validF x = 0) := by show ∀ x ∈ l.take (k + 1), _; rw [HTK.out]; exact hv2
        have HE2 : Hid (encE? l = encE? (l.drop (k + 1))) := by show _ = _; rw [HE.out, HST.out, if_neg (by simp [hv])]
        have HWR2 := Lib.hid (fun W2 hb2 => HWR.out W2 hb2 hv hv2)
        rw [← HSN.out] at HWR2
        clear HST HE HVA HWR hv hv2
        go_wp2_with fail
        refine HVA2.out.mono ?_
        rintro e w2 ⟨rfl, hb2⟩
        have he0 : w2.cell? ⟨wr.heap.size, 0, none⟩ = some (.string ⟨s.tag.toArray⟩) := (hb2.cell (p := ⟨wr.heap.size, 0, none⟩) hz1).trans hd0
        have he1 : w2.cell? ⟨wr.heap.size, 1, none⟩ = some (.slice A' s.els.length c') := (hb2.cell (p := ⟨wr.heap.size, 1, none⟩) hz1).trans hd1
        go_wp2_with fail
        refine (HWR2.out _ hb2).mono ?_
        rintro e w3 ⟨v3, rfl, hown3, hb3⟩
        go_wp2
        go_roundg (l.length - (k + 1))
        case measure => have := HK.out; omega
        case rel => exact ⟨k + 1, by omega, by go_num, HV2.out, HE2.out, hown3, (q1.trans (hb2.mono q1.size)).trans hb3⟩
      · have HE2 : Hid (encE? l = validF s) := by show _ = _; rw [HE.out, HST.out, if_pos (by simpa using hv)]
        have hne : (validF s != 0) = true := by simpa using hv
        have HN := Lib.hid hv
        clear HST HE HWR hv
        generalize validF s = vs at *
        go_wp2_with fail
        refine HVA.out.mono ?_
        rintro e w2 ⟨rfl, hb2⟩
        go_wp2
        go_ret2
        exact ⟨q1.trans (hb2.mono q1.size), .inr ⟨by rw [HE2.out]; exact HN.out, by rw [HE2.out]; rfl⟩⟩
    · have hge : l.length ≤ k := by omega
      have HE2 : Hid (encE? l = 0) := by show _ = _; rw [HE.out, List.drop_eq_nil_of_le hge]; rfl
      have HT : Hid (l.take k = l) := List.take_of_length_le hge
      clear hlt HE
      go_wp2
      go_ret2
      exact ⟨hb, .inl ⟨HE2.out, _, rfl, by rw [← HT.out]; exact hown⟩⟩
end Go.Proofs.YtmjlnckmhdgoiaaGreatDoor
