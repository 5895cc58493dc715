/- Contract of the reference's Encode. -/
import Derived.Test.YtmjlnckmhdgoiaaGreatDoorSj
namespace Go.Proofs.YtmjlnckmhdgoiaaGreatDoor
open Go.RowKit
set_option linter.unusedVariables false

/-- no count is beyond what memory holds -/
def Sized (s : Seg) : Prop := s.els.length ≤ 9223372036854775807 ∧ ∀ e ∈ s.els, e.length ≤ 9223372036854775807
theorem sized_valid {s : Seg} (h : validF s = 0) : Sized s := by
  have := short_of (validF_zero.1 h).2.1
  exact ⟨by omega, fun e he => by have := (this.2 e he).1; omega⟩
set_option maxRecDepth 100000 in
set_option maxHeartbeats 4000000 in
theorem refEncode_any (A : Option Addr) (c : Nat) (l : List Seg) (w : World) (h : SegsAt w w.heap.size A l) (hl : l.length ≤ 1000000) (hf : EncFits l) (hz : ∀ s ∈ l, Sized s) :
    Calls Tryz.prog 7 #[.slice A l.length c] w (EncRet w l) := by
  have HF := Lib.hid hf
  have HSZ := Lib.hid hz
  clear hf hz
  go_enter Tryz.func7, Tryz.ntmps7
  go_wp2
  go_loopg [4, 5] l.length (fun g v i wr => EncRel l w g v i wr)
  case atStart => exact ⟨0, by omega, rfl, fun s hs => by simp at hs, by simp, OwnB.nil_ _ _, Below.refl _ _⟩
  case round =>
    obtain ⟨k, hk, rfl, hv, he, hown, hb⟩ := hrel
    have HK := Lib.hid hk
    have HV := Lib.hid hv
    have HE := Lib.hid he
    have hk2 : k ≤ l.length := by omega
    have hBr := hb.size
    clear hk hv he
    by_cases hlt : k < l.length
    · have HST := Lib.hid (encE?_step hlt)
      have HSN := Lib.hid (encAll_snoc hlt)
      have HTK := Lib.hid (take_snoc hlt)
      have hsz := HSZ.out l[k] (List.getElem_mem hlt)
      have hgs := (h.below hb).get hlt
      obtain ⟨b, off, A', c', rfl, hbb, hc0, hc1, hEls⟩ := hgs
      unfold str at hc0
      have hc1' : wr.cell? ⟨b, off + k * 2 + 1, none⟩ = some (.slice A' l[k].els.length c') := hc1
      clear hc1
      have hfit := HF.out (k + 1)
      rw [HSN.out, HTK.out] at hfit
      have HVA := Lib.hid (refSegment_any ⟨l[k].tag.toArray⟩ A' c' l[k].els wr (hEls.mono hBr) hsz.1 hsz.2)
      rw [seg_eta] at HVA
      generalize l[k] = s at *
      clear hsz
      have HTX := Lib.hid (fun W2 (hb2 : Below wr.heap.size wr W2) (hv : validF s = 0) =>
        text_any ⟨s.tag.toArray⟩ A' c' s.els W2 ((hEls.below (hb2.mono hBr)).mono (Nat.le_trans hBr hb2.size)) (by rw [seg_eta]; have := encS_len hv; omega) (short_of (validF_zero.1 hv).2.1).1 (short_of (validF_zero.1 hv).2.1).2)
      rw [seg_eta] at HTX
      by_cases hv : validF s = 0
      · rw [hv] at HVA
        have hv2 : ∀ x ∈ l.take k ++ [s], validF x = 0 := by
          intro x hx
          rcases List.mem_append.1 hx with hx | hx
          · exact HV.out x hx
          · simp only [List.mem_singleton] at hx; subst hx; exact hv
        have hfit2 := hfit hv2
        have hfit3 : (encAll (l.take k)).length + (encS s).length ≤ 1000000000 := by simpa using hfit2
        have HV2 : Hid (∀ x ∈ l.take (k + 1), validF x = 0) := by show ∀ x ∈ l.take (k + 1), _; rw [HTK.out]; exact hv2
        have HE2 : Hid (encE? l = encE? (l.drop (k + 1))) := by show _ = _; rw [HE.out, HST.out, if_neg (by simp [hv])]
        have HTX2 := Lib.hid (fun W2 hb2 => HTX.out W2 hb2 hv)
        clear HST HE HTX hv hv2 hfit hfit2 HTK
        obtain ⟨tx, htx⟩ : ∃ tx : ByteArray, tx = ⟨(encS s).toArray⟩ := ⟨_, rfl⟩
        rw [← htx] at HTX2
        have HTL : Hid (tx.data.toList = encS s) := by show _ = _; rw [htx]
        have htl : tx.size = (encS s).length := by rw [htx]; rfl
        rw [← htl] at hfit3
        clear htx htl
        go_wp2_with fail
        refine HVA.out.mono ?_
        rintro e w2 ⟨rfl, hb2⟩
        have he0 : w2.cell? ⟨b, off + k * 2, none⟩ = some (.string ⟨s.tag.toArray⟩) := (hb2.cell (p := ⟨b, off + k * 2, none⟩) (Nat.lt_of_lt_of_le hbb hBr)).trans hc0
        have he1 : w2.cell? ⟨b, off + k * 2 + 1, none⟩ = some (.slice A' s.els.length c') := (hb2.cell (p := ⟨b, off + k * 2 + 1, none⟩) (Nat.lt_of_lt_of_le hbb hBr)).trans hc1'
        go_wp2_with fail
        refine (HTX2.out _ hb2).mono ?_
        rintro e w3 ⟨rfl, hb3⟩
        have hown3 := (hown.below hb2).below hb3
        have q3 := (hb.trans (hb2.mono hBr)).trans (hb3.mono (Nat.le_trans hBr hb2.size))
        clear he0 he1 hc0 hc1'
        go_wp2_with (at_builtin; refine wpList_append_text w3 rfl (.tmp 21) (.tmp 26) rfl w.heap.size _ (encAll (l.take k)) rfl hown3 tx rfl hfit3 q3.size ?_; intro v4 w4 hown4 hb4 _)
        go_roundg (l.length - (k + 1))
        case measure => have := HK.out; omega
        case rel =>
          refine ⟨k + 1, by omega, by go_num, HV2.out, HE2.out, ?_, q3.trans hb4⟩
          rw [HSN.out, ← HTL.out]
          exact hown4
      · have HE2 : Hid (encE? l = validF s) := by show _ = _; rw [HE.out, HST.out, if_pos (by simpa using hv)]
        have hne : (validF s != 0) = true := by simpa using hv
        have HN := Lib.hid hv
        clear HST HE HTX hv hfit
        generalize validF s = vs at *
        go_wp2_with fail
        refine HVA.out.mono ?_
        rintro e w2 ⟨rfl, hb2⟩
        go_wp2
        go_ret2
        exact ⟨hb.trans (hb2.mono hBr), .inr ⟨by rw [HE2.out]; exact HN.out, by rw [HE2.out]; rfl⟩⟩
    · have hge : l.length ≤ k := by omega
      have HE2 : Hid (encE? l = 0) := by show _ = _; rw [HE.out, List.drop_eq_nil_of_le hge]; rfl
      have HT : Hid (l.take k = l) := List.take_of_length_le hge
      clear hlt HE
      go_wp2
      go_ret2
      exact ⟨hb, .inl ⟨HE2.out, _, rfl, by rw [← HT.out]; exact hown⟩⟩
end Go.Proofs.YtmjlnckmhdgoiaaGreatDoor
