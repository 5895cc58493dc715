/- Contracts of the reference's at, word and number. -/
import Derived.Test.YtmjlnckmhdgoiaaGreatDoorQa
import Derived.Test.YtmjlnckmhdgoiaaGreatDoorQd
namespace Go.Proofs.YtmjlnckmhdgoiaaGreatDoor
open Go.RowKit
set_option linter.unusedVariables false

def AtRet (W : World) (A : Option Addr) (n c : Nat) (e : Ending) (W' : World) : Prop := e = .returned (.slice A n c) ∧ Below W.heap.size W W'
set_option maxHeartbeats 1000000 in
theorem at_any (s : Seg) (A : Option Addr) (c k : Nat) (ki : Int) (hki : ki = (k : Int)) (B : Nat) (w : World) (h : ElsAt w B A s.els) (hn : s.els.length ≤ 140737488355328) (hk : k ≤ 1000) :
    ∃ Ak ck, RdB w B Ak (strs (elAt s k)) ∧ ∀ W, Below B w W → B ≤ W.heap.size → Calls Tryz.prog 55 #[.agg #[str s.tag, .slice A s.els.length c], .int .i64 ki] W (AtRet W Ak (elAt s k).length ck) := by
  subst hki
  obtain ⟨tg, els⟩ := s
  simp only at *
  unfold str
  by_cases hlt : k < els.length
  · obtain ⟨b, off, Ae, ce, rfl, hb, hc, hr⟩ := h.get hlt
    have he : elAt ⟨tg, els⟩ k = els[k] := by unfold elAt; rw [List.getElem?_eq_getElem hlt]; rfl
    rw [he]
    refine ⟨Ae, ce, hr, fun W hB hS => ?_⟩
    have hc2 := (hB.cell (p := ⟨b, off + k, none⟩) hb).trans hc
    have hbw : b < W.heap.size := Nat.lt_of_lt_of_le hb hS
    have hle : ¬ (els.length : Int) ≤ (k : Int) := by omega
    clear h hr hc he hB
    generalize els[k] = e at *
    generalize els.length = n at *
    generalize e.length = m at *
    go_enter Tryz.func55, Tryz.ntmps55
    go_wp2
    go_ret
    exact ⟨rfl, (Below.refl _ _).alloc (Nat.le_refl _) _⟩
  · have he : elAt ⟨tg, els⟩ k = [] := by unfold elAt; rw [List.getElem?_eq_none (by simp only; omega)]; rfl
    rw [he]
    refine ⟨none, 0, RdB.nil _ _ _, fun W hB hS => ?_⟩
    have hle : (els.length : Int) ≤ (k : Int) := by omega
    clear h he hB
    generalize els.length = n at *
    go_enter Tryz.func55, Tryz.ntmps55
    go_wp2
    go_ret
    exact ⟨rfl, (Below.refl _ _).alloc (Nat.le_refl _) _⟩
theorem word_any (A : Option Addr) (c : Nat) (el : List Bs) (w : World) (h : Rd w A (strs el)) (hl : el.length ≤ 140737488355328) :
    Calls Tryz.prog 63 #[.slice A el.length c] w fun e w' => e = .returned (.string ⟨(wordF el).toArray⟩) ∧ w = w' := by
  match el, h, hl with
  | [], h, hl =>
    go_enter Tryz.func63, Tryz.ntmps63
    go_wp2
    go_ret
    exact ⟨rfl, rfl⟩
  | [x], h, hl =>
    obtain ⟨b0, off, rfl, hc⟩ := h.at_lit (k := 0) rfl
    have hc : w.cell? ⟨b0, off, none⟩ = some (.string ⟨x.toArray⟩) := hc
    clear h
    go_enter Tryz.func63, Tryz.ntmps63
    go_wp2
    go_ret
    exact ⟨rfl, rfl⟩
  | x :: y :: r, h, hl =>
    obtain ⟨n, hn⟩ : ∃ n, (x :: y :: r).length = n := ⟨_, rfl⟩
    have h2 : 2 ≤ n := by rw [← hn]; simp
    have HW : Hid (wordF (x :: y :: r) = []) := rfl
    have h1 : ((n : Int) != 1) = true := by simp; omega
    rw [HW.out]
    rw [hn] at *
    clear hn h h2
    go_enter Tryz.func63, Tryz.ntmps63
    go_wp2
    go_ret
    exact ⟨rfl, rfl⟩
def RnRel (x : Bs) (w : World) (g : Nat) (v3 v4 v5 : Value) (wr : World) : Prop :=
  ∃ (k n : Nat) (b : Bool), k + g = x.length ∧ (x.take k).foldl rnStep (0, false) = (n, b) ∧ n ≤ 100000000000000 ∧ v3 = .int .i64 (n : Int) ∧ v4 = .int .i64 (if b = true then -1 else 1) ∧ v5 = .int .i64 (k : Int) ∧ w = wr
set_option maxRecDepth 100000 in
set_option maxHeartbeats 4000000 in
theorem rnone_any (b0 off c : Nat) (x : Bs) (w : World) (hc : w.cell? ⟨b0, off, none⟩ = some (.string ⟨x.toArray⟩)) (hx : x.length ≤ 20) :
    Calls Tryz.prog 54 #[.slice (some ⟨b0, off, none⟩) 1 c] w fun e w' => e = .returned (.int .i64 (rnB x)) ∧ w = w' := by
  go_enter Tryz.func54, Tryz.ntmps54
  go_wp2
  go_loopg [3, 4, 5] x.length (fun g v3 v4 v5 wr => RnRel x w g v3 v4 v5 wr)
  case atStart => exact ⟨0, 0, false, by omega, rfl, by omega, rfl, rfl, rfl, rfl⟩
  case round =>
    obtain ⟨k, n, b, hkg, hf, hn, rfl, hv4, rfl, rfl⟩ := hrel
    obtain ⟨sg, hsg⟩ : ∃ sg : Int, (if b = true then (-1 : Int) else 1) = sg := ⟨_, rfl⟩
    rw [hsg] at hv4
    subst hv4
    have HSG : Hid (Value.int .i64 sg = .int .i64 (if b = true then -1 else 1)) := by show _ = _; rw [hsg]
    have HSG2 := Lib.hid hsg
    have HK := Lib.hid hkg
    have HF := Lib.hid hf
    have HN := Lib.hid hn
    have hsb : sg = -1 ∨ sg = 1 := by rw [← hsg]; split <;> simp
    have hkl : k ≤ x.length := by omega
    clear hkg hf hn hsg
    by_cases hk1 : k < x.length
    · have HST : Hid ((x.take (k + 1)).foldl rnStep (0, false) = rnStep (n, b) x[k]) := by
        show _ = _
        rw [List.take_succ_eq_append_getElem hk1, List.foldl_append, HF.out]
        rfl
      have hget : (({ data := x.toArray } : ByteArray)[k]'(by simpa [ByteArray.size] using hk1)).toNat = x[k].toNat := rfl
      generalize x[k] = c1 at *
      generalize hcn : c1.toNat = cn at *
      clear hsb
      have hcb : cn < 256 := by rw [← hcn]; exact c1.toNat_lt
      by_cases h45 : cn = 45
      · have HX : Hid (rnStep (n, b) c1 = (n, true)) := by show _ = _; unfold rnStep; rw [hcn, if_pos h45]
        subst h45
        clear hcn
        go_wp2
        go_roundg (x.length - (k + 1))
        case measure => have := HK.out; omega
        case rel =>
          refine ⟨k + 1, n, true, by have := HK.out; omega, ?_, HN.out, rfl, rfl, by go_num, rfl⟩
          rw [HST.out]
          exact HX.out
      have t45 : ((cn : Int) == 45) = false := by simp; omega
      by_cases h48 : cn < 48
      · have HX : Hid (rnStep (n, b) c1 = (n, b)) := by show _ = _; unfold rnStep; rw [hcn, if_neg h45, if_neg (by omega)]
        have t48 : decide ((48 : Int) ≤ (cn : Int)) = false := by simp; omega
        clear hcn h45 h48
        go_wp2
        go_roundg (x.length - (k + 1))
        case measure => have := HK.out; omega
        case rel =>
          refine ⟨k + 1, n, b, by have := HK.out; omega, ?_, HN.out, rfl, HSG.out, by go_num, rfl⟩
          rw [HST.out]
          exact HX.out
      have t48 : decide ((48 : Int) ≤ (cn : Int)) = true := by simp; omega
      by_cases h57 : 57 < cn
      · have HX : Hid (rnStep (n, b) c1 = (n, b)) := by show _ = _; unfold rnStep; rw [hcn, if_neg h45, if_neg (by omega)]
        have t57 : decide ((cn : Int) ≤ 57) = false := by simp; omega
        clear hcn h45 h48 h57
        go_wp2
        go_roundg (x.length - (k + 1))
        case measure => have := HK.out; omega
        case rel =>
          refine ⟨k + 1, n, b, by have := HK.out; omega, ?_, HN.out, rfl, HSG.out, by go_num, rfl⟩
          rw [HST.out]
          exact HX.out
      have t57 : decide ((cn : Int) ≤ 57) = true := by simp; omega
      by_cases hnb : n < 10000000000000
      · have HX : Hid (rnStep (n, b) c1 = (10 * n + (cn - 48), b)) := by show _ = _; unfold rnStep; rw [hcn, if_neg h45, if_pos ⟨by omega, by omega, hnb⟩]
        have tn : decide ((n : Int) < 10000000000000) = true := by simp; omega
        have HQN : Hid (48 ≤ cn) := by show _ ≤ _; omega
        clear hcn h45
        go_wp2
        go_roundg (x.length - (k + 1))
        case measure => have := HK.out; omega
        case rel =>
          refine ⟨k + 1, 10 * n + (cn - 48), b, by have := HK.out; omega, by rw [HST.out]; exact HX.out, by omega, ?_, HSG.out, by go_num, rfl⟩
          refine congrArg (Value.int .i64) ?_
          have h1 := HQN.out
          omega
      · have HX : Hid (rnStep (n, b) c1 = (n, b)) := by show _ = _; unfold rnStep; rw [hcn, if_neg h45, if_neg (by rintro ⟨_, _, h⟩; exact hnb h)]
        have tn : decide ((n : Int) < 10000000000000) = false := by simp; omega
        clear hcn h45 h48 h57 hnb
        go_wp2
        go_roundg (x.length - (k + 1))
        case measure => have := HK.out; omega
        case rel =>
          refine ⟨k + 1, n, b, by have := HK.out; omega, ?_, HN.out, rfl, HSG.out, by go_num, rfl⟩
          rw [HST.out]
          exact HX.out
    · have hge : x.length ≤ k := by omega
      have HT : Hid (x.foldl rnStep (0, false) = (n, b)) := by
        have := HF.out
        rwa [List.take_of_length_le hge] at this
      have HV : Hid (rnB x = sg * (n : Int)) := by
        show _ = _
        unfold rnB
        rw [HT.out, ← HSG2.out]
        cases b <;> simp
      have hnn := HN.out
      have hsn : -9223372036854775808 ≤ sg * (n : Int) ∧ sg * (n : Int) ≤ 9223372036854775807 := by rcases hsb with h | h <;> rw [h] <;> omega
      clear hk1 hsb
      go_wp2
      go_ret
      exact ⟨by rw [HV.out]; go_num, rfl⟩
theorem rnumber_any (A : Option Addr) (c : Nat) (el : List Bs) (w : World) (h : Rd w A (strs el)) (hl : el.length ≤ 140737488355328) (hw : (wordF el).length ≤ 281474976710656) :
    Calls Tryz.prog 54 #[.slice A el.length c] w fun e w' => e = .returned (.int .i64 (rnF el)) ∧ w = w' := by
  match el, h, hl, hw with
  | [], h, hl, hw =>
    have HW : Hid (rnF [] = 0) := rfl
    rw [HW.out]
    go_enter Tryz.func54, Tryz.ntmps54
    go_wp2
    go_ret
    exact ⟨rfl, rfl⟩
  | [x], h, hl, hw =>
    obtain ⟨b0, off, rfl, hc⟩ := h.at_lit (k := 0) rfl
    have hc : w.cell? ⟨b0, off, none⟩ = some (.string ⟨x.toArray⟩) := hc
    by_cases hx : x.length ≤ 20
    · have e : rnF [x] = rnB x := by unfold rnF; rw [if_pos ⟨rfl, hx⟩]; rfl
      rw [e]
      exact rnone_any b0 off c x w hc hx
    · have HW : Hid (rnF [x] = 0) := by show _ = _; unfold rnF; rw [if_neg (fun h => hx h.2)]
      have h20 : 20 < x.length := by omega
      have hxl : x.length ≤ 281474976710656 := hw
      rw [HW.out]
      clear h hx hw
      go_enter Tryz.func54, Tryz.ntmps54
      go_wp2
      go_ret
      exact ⟨rfl, rfl⟩
  | x :: y :: r, h, hl, hw =>
    obtain ⟨n, hn⟩ : ∃ n, (x :: y :: r).length = n := ⟨_, rfl⟩
    have h2 : 2 ≤ n := by rw [← hn]; simp
    have HW : Hid (rnF (x :: y :: r) = 0) := by show _ = _; unfold rnF; rw [if_neg (fun h => by rw [hn] at h; omega)]
    have h1 : ((n : Int) != 1) = true := by simp; omega
    rw [HW.out]
    rw [hn] at *
    clear hn h h2 hw
    go_enter Tryz.func54, Tryz.ntmps54
    go_wp2
    go_ret
    exact ⟨rfl, rfl⟩
end Go.Proofs.YtmjlnckmhdgoiaaGreatDoor

/-! The state of the reference's guess: the result in a block, the message in the next, its list in a row of the call's own. -/
namespace Go.Proofs.YtmjlnckmhdgoiaaGreatDoor
open Go.RowKit
set_option linter.unusedVariables false

/-- the result's block (zero), the message m in the block behind it, its list in a row of the call's own -/
structure GS (w0 : World) (m : Msg) (W : World) : Prop where
  res : MBlk W w0.heap.size zeroM none 0
  blk : ∃ A c, MBlk W (w0.heap.size + 1) m A c ∧ W.ownsRow (w0.heap.size + 1) 3 1 (.slice A m.list.length c) m.list.length (ints m.list)
  below : Below w0.heap.size w0 W
section
variable {w0 W W' : World} {m m' : Msg}
theorem GS.lt (h : GS w0 m W) : w0.heap.size + 1 < W.heap.size := by
  obtain ⟨A, c, h1, _⟩ := h.blk
  exact h1.lt
theorem GS.step (h : GS w0 m W) (hb : Below W.heap.size W W') : GS w0 m W' := by
  obtain ⟨A, c, h1, h2⟩ := h.blk
  have := h.lt
  exact ⟨h.res.below hb, ⟨A, c, h1.below hb, own_below h2 hb⟩, h.below.trans (hb.mono (by omega))⟩
theorem GS.drew (h : GS w0 m W) : GS w0 m W.drew := h.step ((Below.refl _ _).drew)
theorem GS.at_ (h : GS w0 m W) (k : Nat) (hk : k < 13) : ∃ v, W.cell? ⟨w0.heap.size + 1, k, none⟩ = some v ∧ W.frozen? ⟨w0.heap.size + 1, k, none⟩ = false := by
  obtain ⟨A, c, h1, _⟩ := h.blk
  refine ⟨(msgC m A c)[k]'(by simpa [msgC] using hk), ?_, h1.frozen k⟩
  rw [h1.cell k, Array.getElem?_eq_getElem (by simpa [msgC] using hk)]
theorem GS.put (h : GS w0 m W) (k : Nat) (v : Value) (hm : ∀ A c, MBlk W (w0.heap.size + 1) m A c → MBlk (W.setCell ⟨w0.heap.size + 1, k, none⟩ v) (w0.heap.size + 1) m' A c) (hl : m'.list = m.list) : GS w0 m' (W.setCell ⟨w0.heap.size + 1, k, none⟩ v) := by
  obtain ⟨A, c, h1, h2⟩ := h.blk
  refine ⟨h.res.other ⟨w0.heap.size + 1, k, none⟩ (by simp) v, ⟨A, c, hm A c h1, ?_⟩, h.below.setCell (p := ⟨w0.heap.size + 1, k, none⟩) (by simp) v⟩
  rw [hl]
  exact own_setX h2 h1 (by decide) v
/-- the list grows by one: the world behind the append, and the store of the slice -/
theorem GS.push (h : GS w0 m W) {A A' : Option Addr} {c c' : Nat} (h1 : MBlk W (w0.heap.size + 1) m A c) (h2 : W.ownsRow (w0.heap.size + 1) 3 1 (.slice A m.list.length c) m.list.length (ints m.list)) (hg : W.grownBy W' (Value.slice A m.list.length c).ownBlock) (hb : Below (w0.heap.size + 1) W W') (x : Int)
    (ho : W'.ownsRow (w0.heap.size + 1) 3 1 (.slice A' (m.list.length + 1) c') (m.list.length + 1) (ints m.list ++ [.int .i64 x])) : GS w0 { m with list := m.list ++ [x] } (W'.setCell ⟨w0.heap.size + 1, 11, none⟩ (.slice A' (m.list.length + 1) c')) := by
  have g1 := h1.kept hg (row_ne (own_other h2 h1 (by decide)))
  have hl6 : (m.list ++ [x]).length = m.list.length + 1 := by simp
  have hblk := g1.setList (m.list ++ [x]) A' c'
  rw [hl6] at hblk
  refine ⟨(h.res.belowB hb (Nat.lt_succ_self _)).other ⟨w0.heap.size + 1, 11, none⟩ (by simp) _, ⟨A', c', hblk, ?_⟩, (h.below.trans (hb.mono (Nat.le_succ _))).setCell (p := ⟨w0.heap.size + 1, 11, none⟩) (by simp) _⟩
  show (W'.setCell ⟨w0.heap.size + 1, 11, none⟩ _).ownsRow (w0.heap.size + 1) 3 1 (.slice A' (m.list ++ [x]).length c') (m.list ++ [x]).length (ints (m.list ++ [x]))
  rw [hl6]
  have := own_setX ho g1 (by decide) (k := 11) (.slice A' (m.list.length + 1) c')
  unfold ints at this ⊢
  rw [List.map_append]
  exact this
end
/-- a round of guess: the state, and the segment in the block gs -/
structure GR (w0 : World) (gs : Nat) (t v : Value) (m : Msg) (W : World) : Prop where
  st : GS w0 m W
  sg : W.heap[gs]? = some (.cells #[t, v] 57 (0, 0))
  ne : w0.heap.size + 1 < gs
section
variable {w0 W W' : World} {m m' : Msg} {gs : Nat} {t v : Value}
theorem GR.start (h : GS w0 m W) (t v : Value) : GR w0 W.heap.size t v m (W.alloc (.cells #[t, v] 57)) := ⟨h.step ((Below.refl _ _).alloc (Nat.le_refl _) _), heap_alloc_new W _, h.lt⟩
theorem GR.lt (h : GR w0 gs t v m W) : gs < W.heap.size := lt_of_block h.sg
theorem GR.two (h : GR w0 gs t v m W) : W.cell? ⟨gs, 0, none⟩ = some t ∧ W.cell? ⟨gs, 1, none⟩ = some v := ⟨by rw [cell_of_row _ _ _ _ _ _ h.sg]; rfl, by rw [cell_of_row _ _ _ _ _ _ h.sg]; rfl⟩
theorem GR.step (h : GR w0 gs t v m W) (hb : Below W.heap.size W W') : GR w0 gs t v m W' :=
  ⟨h.st.step hb, (hb.block gs h.lt).trans h.sg, h.ne⟩
theorem GR.drew (h : GR w0 gs t v m W) : GR w0 gs t v m W.drew := h.step ((Below.refl _ _).drew)
theorem GR.below (h : GR w0 gs t v m W) : Below w0.heap.size w0 W := h.st.below
theorem GR.size (h : GR w0 gs t v m W) : w0.heap.size ≤ W.heap.size := h.st.below.size
theorem GR.put (h : GR w0 gs t v m W) (k : Nat) (x : Value) (hm : ∀ A c, MBlk W (w0.heap.size + 1) m A c → MBlk (W.setCell ⟨w0.heap.size + 1, k, none⟩ x) (w0.heap.size + 1) m' A c) (hl : m'.list = m.list) : GR w0 gs t v m' (W.setCell ⟨w0.heap.size + 1, k, none⟩ x) := by
  have hne : gs ≠ w0.heap.size + 1 := by have := h.ne; omega
  exact ⟨h.st.put k x hm hl, by rw [Below.heap_setCell W ⟨w0.heap.size + 1, k, none⟩ x gs hne]; exact h.sg, h.ne⟩
/-- the list grows by one, the segment stands -/
theorem GR.grown (h : GR w0 gs t v m W) {A : Option Addr} {c : Nat} (h1 : MBlk W (w0.heap.size + 1) m A c) (h2 : W.ownsRow (w0.heap.size + 1) 3 1 (.slice A m.list.length c) m.list.length (ints m.list)) (hg : W.grownBy W' (Value.slice A m.list.length c).ownBlock) :
    MBlk W' (w0.heap.size + 1) m A c ∧ W'.heap[gs]? = some (.cells #[t, v] 57 (0, 0)) := by
  refine ⟨h1.kept hg (row_ne (own_other h2 h1 (by decide))), ?_⟩
  have k2 := row_ne (own_other h2 h.sg (by decide))
  exact (hg.block gs h.lt (fun e => k2 e.symm)).trans h.sg
theorem GR.push (h : GR w0 gs t v m W) {A A' : Option Addr} {c c' : Nat} (h1 : MBlk W (w0.heap.size + 1) m A c) (h2 : W.ownsRow (w0.heap.size + 1) 3 1 (.slice A m.list.length c) m.list.length (ints m.list)) (hg : W.grownBy W' (Value.slice A m.list.length c).ownBlock) (hb : Below (w0.heap.size + 1) W W') (x : Int)
    (ho : W'.ownsRow (w0.heap.size + 1) 3 1 (.slice A' (m.list.length + 1) c') (m.list.length + 1) (ints m.list ++ [.int .i64 x])) : GR w0 gs t v { m with list := m.list ++ [x] } (W'.setCell ⟨w0.heap.size + 1, 11, none⟩ (.slice A' (m.list.length + 1) c')) := by
  have hne : gs ≠ w0.heap.size + 1 := by have := h.ne; omega
  exact ⟨h.st.push h1 h2 hg hb x ho, by rw [Below.heap_setCell W' ⟨w0.heap.size + 1, 11, none⟩ _ gs hne]; exact (h.grown h1 h2 hg).2, h.ne⟩
end
/-- what guess calls for the element k of a segment -/
structure Elk (w : World) (tg : Value) (A : Option Addr) (n c : Nat) (ki : Int) (Ak : Option Addr) (lk ck : Nat) (xk : Int) (yk : Bs) : Prop where
  at_ : ∀ W, Below w.heap.size w W → w.heap.size ≤ W.heap.size → Calls Tryz.prog 55 #[.agg #[tg, .slice A n c], .int .i64 ki] W fun e W' => e = .returned (.slice Ak lk ck) ∧ Below W.heap.size W W'
  num : ∀ W, Below w.heap.size w W → Calls Tryz.prog 54 #[.slice Ak lk ck] W fun e w' => e = .returned (.int .i64 xk) ∧ W = w'
  word : ∀ W, Below w.heap.size w W → Calls Tryz.prog 63 #[.slice Ak lk ck] W fun e w' => e = .returned (.string ⟨yk.toArray⟩) ∧ W = w'
theorem elk_of (s : Seg) (A : Option Addr) (c k : Nat) (ki : Int) (hki : ki = (k : Int)) (w : World) (h : ElsAt w w.heap.size A s.els) (hs : SFit s) (hk : k ≤ 1000) :
    ∃ Ak ck, Elk w (str s.tag) A s.els.length c ki Ak (elAt s k).length ck (rnF (elAt s k)) (wordF (elAt s k)) := by
  obtain ⟨Ak, ck, hr, hc⟩ := at_any s A c k ki hki w.heap.size w h (by have := hs.n; omega) hk
  exact ⟨Ak, ck, hc, fun W hb => rnumber_any Ak ck _ W (hr.below hb).rd (hs.len k) (hs.word k), fun W hb => word_any Ak ck _ W (hr.below hb).rd (hs.len k)⟩
theorem ret1 {fn : Func} {R : Ending → World → Prop} {a : Act} {W : World} {k : Tmp} {ty T : TypeId} {g : Nat} {cs : Array Value} {fs : Array Field} (h : fn.results = #[.cell k ty]) (hp : a.tmps.getD k undef = .pointer (some ⟨g, 0, none⟩)) (hg : W.heap[g]? = some (.cells cs T (0, 0)))
    (hu : Tryz.prog.underlying ty = some (.struct fs)) (hi : (Tryz.prog.info? ty).map (·.size) = some cs.size) (hdf : a.defers = []) (hR : R (.returned (.agg cs)) W) : bodyPost Tryz.prog fn R .ret a W :=
  ⟨hdf, _, results_cell_row h a.tmps W g T cs (0, 0) _ hp hg hu rfl hi, hR⟩
end Go.Proofs.YtmjlnckmhdgoiaaGreatDoor

/-! Contract of the reference's guess. -/
namespace Go.Proofs.YtmjlnckmhdgoiaaGreatDoor
open Go.RowKit
set_option linter.unusedVariables false

theorem RdB.at_lit2 {w : World} {B : Nat} {A : Option Addr} {cs : List Value} (h : RdB w B A cs) {k : Nat} {u : Value} (hk : cs[k]? = some u) : ∃ b off, A = some ⟨b, off, none⟩ ∧ b < B ∧ w.cell? ⟨b, off + k, none⟩ = some u := by
  obtain ⟨b, off, rfl, hc⟩ := h.rd.at_lit hk
  obtain ⟨ad, e, hb, _⟩ := h k u hk
  injection e with e
  subst e
  exact ⟨b, off, rfl, hb, hc⟩
def GuRel (l : List Seg) (w : World) (g : Nat) (i : Value) (wr : World) : Prop := ∃ k : Nat, k + g = l.length ∧ i = .int .i64 (k : Int) ∧ GS w (guessL zeroM (l.take k)) wr
def LgRel (w : World) (gs : Nat) (t v : Value) (m : Msg) (L : List Bs) (g : Nat) (i : Value) (wr : World) : Prop := ∃ k : Nat, k + g = L.length ∧ i = .int .i64 (k : Int) ∧ GR w gs t v { m with list := m.list ++ (L.take k).map (fun c => rnF [c]) } wr
theorem lg_next {m : Msg} {L : List Bs} {k : Nat} (h : k < L.length) :
    ({ m with list := m.list ++ (L.take (k + 1)).map (fun c => rnF [c]) } : Msg) = { m with list := (m.list ++ (L.take k).map (fun c => rnF [c])) ++ [rnF [L[k]]] } := by
  rw [List.take_succ_eq_append_getElem h]
  simp only [List.map_append, List.map_cons, List.map_nil, List.append_assoc]
theorem gs_start (w : World) : ∃ W, W = (w.alloc (.cells #[.int .i64 0, .int .i64 0, .int .i64 0, .int .i64 0, .int .i64 0, .int .i64 0, .int .i64 0, .string ⟨#[]⟩, .string ⟨#[]⟩, .int .i64 0, .int .i64 0, .slice none 0 0, .string ⟨#[]⟩] 30)).alloc (.cells #[.int .i64 0, .int .i64 0, .int .i64 0, .int .i64 0, .int .i64 0, .int .i64 0, .int .i64 0, .string ⟨#[]⟩, .string ⟨#[]⟩, .int .i64 0, .int .i64 0, .slice none 0 0, .string ⟨#[]⟩] 30) ∧ GS w zeroM W := by
  refine ⟨_, rfl, ?_, ⟨none, 0, ?_, World.ownsRow_nil _ _ _ _⟩, ?_⟩
  · have h := heap_alloc_new w (.cells #[.int .i64 0, .int .i64 0, .int .i64 0, .int .i64 0, .int .i64 0, .int .i64 0, .int .i64 0, .string ⟨#[]⟩, .string ⟨#[]⟩, .int .i64 0, .int .i64 0, .slice none 0 0, .string ⟨#[]⟩] 30)
    have hb := (Below.refl (w.heap.size + 1) (w.alloc (.cells #[.int .i64 0, .int .i64 0, .int .i64 0, .int .i64 0, .int .i64 0, .int .i64 0, .int .i64 0, .string ⟨#[]⟩, .string ⟨#[]⟩, .int .i64 0, .int .i64 0, .slice none 0 0, .string ⟨#[]⟩] 30))).alloc (by simp) (.cells #[.int .i64 0, .int .i64 0, .int .i64 0, .int .i64 0, .int .i64 0, .int .i64 0, .int .i64 0, .string ⟨#[]⟩, .string ⟨#[]⟩, .int .i64 0, .int .i64 0, .slice none 0 0, .string ⟨#[]⟩] 30)
    exact (hb.block _ (by omega)).trans h
  · have h := heap_alloc_new (w.alloc (.cells #[.int .i64 0, .int .i64 0, .int .i64 0, .int .i64 0, .int .i64 0, .int .i64 0, .int .i64 0, .string ⟨#[]⟩, .string ⟨#[]⟩, .int .i64 0, .int .i64 0, .slice none 0 0, .string ⟨#[]⟩] 30)) (.cells #[.int .i64 0, .int .i64 0, .int .i64 0, .int .i64 0, .int .i64 0, .int .i64 0, .int .i64 0, .string ⟨#[]⟩, .string ⟨#[]⟩, .int .i64 0, .int .i64 0, .slice none 0 0, .string ⟨#[]⟩] 30)
    have e : (w.alloc (.cells #[.int .i64 0, .int .i64 0, .int .i64 0, .int .i64 0, .int .i64 0, .int .i64 0, .int .i64 0, .string ⟨#[]⟩, .string ⟨#[]⟩, .int .i64 0, .int .i64 0, .slice none 0 0, .string ⟨#[]⟩] 30)).heap.size = w.heap.size + 1 := by simp
    rw [e] at h
    exact h
  · exact ((Below.refl w.heap.size w).alloc (Nat.le_refl _) _).alloc (by simp) _
def GuessRet (w : World) (m : Msg) (e : Ending) (w' : World) : Prop := ∃ A c, e = .returned (msgV m A c) ∧ w'.ownsRow w.heap.size 3 1 (.slice A m.list.length c) m.list.length (ints m.list) ∧ Below w.heap.size w w'
theorem first_cell {s : Seg} {A : Option Addr} {w : World} (h : ElsAt w w.heap.size A s.els) (hn : 0 < s.els.length) : ∃ eb eo, A = some ⟨eb, eo, none⟩ ∧ eb < w.heap.size ∧ ∃ A0 c0, w.cell? ⟨eb, eo, none⟩ = some (.slice A0 (elAt s 0).length c0) ∧ RdB w w.heap.size A0 (strs (elAt s 0)) := by
  obtain ⟨eb, eo, e, hb, hcs⟩ := h.cells hn
  obtain ⟨A0, c0, h1, h2⟩ := hcs 0 hn
  exact ⟨eb, eo, e, hb, A0, c0, h1, h2⟩
theorem first_pos {s : Seg} (h : 0 < (elAt s 0).length) : 0 < s.els.length := by
  rcases Nat.eq_zero_or_pos s.els.length with h0 | h0
  · unfold elAt at h
    rw [List.getElem?_eq_none (by omega)] at h
    simp at h
  · exact h0
theorem first_word {s : Seg} (h : SFit s) : ∀ c ∈ elAt s 0, c.length ≤ 281474976710656 := fun c hc => by
  rcases el_mem s 0 with h2 | h2
  · rw [h2] at hc; cases hc
  · exact h.w _ h2 _ hc
set_option maxRecDepth 100000 in
set_option maxHeartbeats 40000000 in
theorem guess_any (A : Option Addr) (c : Nat) (l : List Seg) (w : World) (h : SegsAt w w.heap.size A l) (hl : l.length ≤ 1000000000) (hf : ∀ s ∈ l, SFit s) (hc : cntL l ≤ 10000000000000) :
    Calls Tryz.prog 36 #[.slice A l.length c] w (GuessRet w (guessL zeroM l)) := by
  obtain ⟨W0, hW0, hst0⟩ := gs_start w
  have HS0 := Lib.hid hst0
  have HH := Lib.hid h
  have HF := Lib.hid hf
  have HCN := Lib.hid hc
  obtain ⟨i0, hi0, hz0, hz1, hz2⟩ := info_parts intInfoP
  clear hst0 h hf hc
  generalize hnn : l.length = n at *
  have HNN := Lib.hid hnn
  clear hnn
  go_enter Tryz.func36, Tryz.ntmps36
  go_wp2
  generalize (w.alloc (.cells #[.int .i64 0, .int .i64 0, .int .i64 0, .int .i64 0, .int .i64 0, .int .i64 0, .int .i64 0, .string ⟨#[]⟩, .string ⟨#[]⟩, .int .i64 0, .int .i64 0, .slice none 0 0, .string ⟨#[]⟩] 30)).alloc (.cells #[.int .i64 0, .int .i64 0, .int .i64 0, .int .i64 0, .int .i64 0, .int .i64 0, .int .i64 0, .string ⟨#[]⟩, .string ⟨#[]⟩, .int .i64 0, .int .i64 0, .slice none 0 0, .string ⟨#[]⟩] 30) = W1 at *
  subst hW0
  go_loopg [4] n (fun g i wr => GuRel l w g i wr)
  case atStart => exact ⟨0, by have := HNN.out; omega, rfl, HS0.out⟩
  case round =>
    obtain ⟨k, hk, rfl, hst⟩ := hrel
    have HK := Lib.hid hk
    have HST := Lib.hid hst
    have hkn : k ≤ n := by have := HNN.out; omega
    clear hk hst HS0
    by_cases hlt : k < n
    · have hlt2 : k < l.length := by have := HNN.out; omega
      obtain ⟨b, off, Ae, ce, rfl, hbl, hc0, hc1, hE⟩ := HH.out.get hlt2
      have hd0 := (HST.out.below.cell (p := ⟨b, off + k * 2, none⟩) hbl).trans hc0
      have hd1 : wr.cell? ⟨b, off + k * 2 + 1, none⟩ = some (.slice Ae l[k].els.length ce) := (HST.out.below.cell (p := ⟨b, off + k * 2 + 1, none⟩) hbl).trans hc1
      have HNX := Lib.hid (guessL_take hlt2 zeroM)
      have hmb := (guess_bd HF.out k (by omega)).list
      have hct := cntL_take hlt2
      have hcl := cntL_le l (k + 1)
      have hcn := HCN.out
      have HML : Hid ((guessL zeroM (l.take k)).list.length + (elAt l[k] 0).length ≤ 17592186044000) := by show _ ≤ _; have : (elAt l[k] 0).length = cntF l[k] := rfl; omega
      have hsf := HF.out l[k] (List.getElem_mem _)
      have HR0 := Lib.hid (GR.start HST.out (str l[k].tag) (.slice Ae l[k].els.length ce))
      obtain ⟨A0, c0, e0⟩ := elk_of l[k] Ae ce 0 0 rfl w hE hsf (by omega)
      obtain ⟨A1, c1, e1⟩ := elk_of l[k] Ae ce 1 1 rfl w hE hsf (by omega)
      obtain ⟨A2, c2, e2⟩ := elk_of l[k] Ae ce 2 2 rfl w hE hsf (by omega)
      obtain ⟨A3, c3, e3⟩ := elk_of l[k] Ae ce 3 3 rfl w hE hsf (by omega)
      obtain ⟨A4, c4, e4⟩ := elk_of l[k] Ae ce 4 4 rfl w hE hsf (by omega)
      have HE0 := Lib.hid e0
      have HE1 := Lib.hid e1
      have HE2 := Lib.hid e2
      have HE3 := Lib.hid e3
      have HE4 := Lib.hid e4
      have HCELL := Lib.hid (first_cell hE)
      have HNZ := Lib.hid (first_pos (s := l[k]))
      have HW := Lib.hid (first_word hsf)
      have hl0 := hsf.len 0
      have hne := hsf.n
      generalize guessL zeroM (l.take k) = m at *
      have HGM : Hid (guessM m l[k] = if l[k].tag = tMSG then { m with kind := rnF (elAt l[k] 0), src := rnF (elAt l[k] 1), dst := rnF (elAt l[k] 2), number := rnF (elAt l[k] 3), day := rnF (elAt l[k] 4) } else if l[k].tag = tLOT then { m with lot := rnF (elAt l[k] 0), other := rnF (elAt l[k] 1) } else if l[k].tag = tGDS then { m with code := wordF (elAt l[k] 0), country := wordF (elAt l[k] 1), quantity := rnF (elAt l[k] 2), amount := rnF (elAt l[k] 3) } else if l[k].tag = tLST then { m with list := m.list ++ (elAt l[k] 0).map (fun c => rnF [c]) } else if l[k].tag = tTXT then { m with text := wordF (elAt l[k] 0) } else m) := rfl
      clear e0 e1 e2 e3 e4 hE hmb hct hcl hcn hsf hc0 hc1 HST
      generalize elAt l[k] 1 = L1 at *
      generalize elAt l[k] 2 = L2 at *
      generalize elAt l[k] 3 = L3 at *
      generalize elAt l[k] 4 = L4 at *
      generalize hL0 : elAt l[k] 0 = L0 at *
      clear hL0
      generalize guessM m l[k] = mm at *
      generalize l[k] = s at *
      clear hlt2
      obtain ⟨tg, els⟩ := s
      simp only at HR0 HE0 HE1 HE2 HE3 HE4 hd0 hd1 HCELL HNZ HGM hne
      unfold str at hd0 HR0 HE0 HE1 HE2 HE3 HE4
      generalize els.length = ne at *
      generalize rnF L0 = x0 at *
      generalize rnF L1 = x1 at *
      generalize rnF L2 = x2 at *
      generalize rnF L3 = x3 at *
      generalize rnF L4 = x4 at *
      generalize wordF L0 = y0 at *
      generalize wordF L1 = y1 at *
      generalize wordF L2 = y2 at *
      generalize wordF L3 = y3 at *
      generalize wordF L4 = y4 at *
      generalize hll0 : L0.length = l0 at *
      have HL0 := Lib.hid hll0
      generalize L1.length = l1 at *
      generalize L2.length = l2 at *
      generalize L3.length = l3 at *
      generalize L4.length = l4 at *
      clear hll0
      by_cases ht : tg = tMSG
      · subst ht
        have HQ := Lib.hid (HGM.out.trans (if_pos rfl))
        replace hd0 : wr.cell? ⟨b, off + k * 2, none⟩ = some (.string ⟨#[77, 83, 71]⟩) := hd0
        have HR : Hid (GR w wr.heap.size (.string ⟨#[77, 83, 71]⟩) (.slice Ae ne ce) m (wr.alloc (.cells #[.string ⟨#[77, 83, 71]⟩, .slice Ae ne ce] 57))) := HR0.out
        have HF0 : Hid (Elk w (.string ⟨#[77, 83, 71]⟩) Ae ne ce 0 A0 l0 c0 x0 y0) := HE0.out
        have HF1 : Hid (Elk w (.string ⟨#[77, 83, 71]⟩) Ae ne ce 1 A1 l1 c1 x1 y1) := HE1.out
        have HF2 : Hid (Elk w (.string ⟨#[77, 83, 71]⟩) Ae ne ce 2 A2 l2 c2 x2 y2) := HE2.out
        have HF3 : Hid (Elk w (.string ⟨#[77, 83, 71]⟩) Ae ne ce 3 A3 l3 c3 x3 y3) := HE3.out
        have HF4 : Hid (Elk w (.string ⟨#[77, 83, 71]⟩) Ae ne ce 4 A4 l4 c4 x4 y4) := HE4.out
        clear HR0 HE0 HE1 HE2 HE3 HE4 HGM
        go_upto_region 8 with (fail)
        generalize (wr.alloc (.cells #[.string ⟨#[77, 83, 71]⟩, .slice Ae ne ce] 57)) = W1 at HR ⊢
        generalize wr.heap.size = gs at HR ⊢
        clear hd0 hd1
        refine wp_region_x 24 (by kernel_rfl) (fun W => W.cell? ⟨gs, 0, none⟩ = some (.string ⟨#[77, 83, 71]⟩) ∧ W.cell? ⟨gs, 1, none⟩ = some (.slice Ae ne ce)) ?_
        replace HR := Lib.hid HR.out.drew
        generalize hV : W1.drew = V0 at HR ⊢
        clear hV
        refine wpAnyX_take (i := 0) (v := .agg #[.string ⟨#[77, 83, 71]⟩, .slice Ae ne ce]) rfl (by kernel_rfl) (by kernel_rfl) (by kernel_rfl) (by kernel_rfl) (fun _ _ _ h => h) HR.out.two (Or.inl ⟨by rfl, fun w hS => by (obtain ⟨q0, q1⟩ := hS; go_simp)⟩) ?_
        go_simp
        refine wpAnyX_take (i := 3) (v := .agg #[.string ⟨#[77, 83, 71]⟩, .slice Ae ne ce]) rfl (by kernel_rfl) (by kernel_rfl) (by kernel_rfl) (by kernel_rfl) (fun _ _ _ h => h) HR.out.two (Or.inl ⟨by rfl, fun w hS => by (obtain ⟨q0, q1⟩ := hS; go_simp)⟩) ?_
        go_simp
        refine wpAnyX_take (i := 6) (v := .agg #[.string ⟨#[77, 83, 71]⟩, .slice Ae ne ce]) rfl (by kernel_rfl) (by kernel_rfl) (by kernel_rfl) (by kernel_rfl) (fun _ _ _ h => h) HR.out.two (Or.inl ⟨by rfl, fun w hS => by (obtain ⟨q0, q1⟩ := hS; go_simp)⟩) ?_
        go_simp
        refine wpAnyX_take (i := 9) (v := .agg #[.string ⟨#[77, 83, 71]⟩, .slice Ae ne ce]) rfl (by kernel_rfl) (by kernel_rfl) (by kernel_rfl) (by kernel_rfl) (fun _ _ _ h => h) HR.out.two (Or.inl ⟨by rfl, fun w hS => by (obtain ⟨q0, q1⟩ := hS; go_simp)⟩) ?_
        go_simp
        refine wpAnyX_take (i := 12) (v := .agg #[.string ⟨#[77, 83, 71]⟩, .slice Ae ne ce]) rfl (by kernel_rfl) (by kernel_rfl) (by kernel_rfl) (by kernel_rfl) (fun _ _ _ h => h) HR.out.two (Or.inl ⟨by rfl, fun w hS => by (obtain ⟨q0, q1⟩ := hS; go_simp)⟩) ?_
        go_simp
        refine wpAnyX_one (i := 1) (by kernel_rfl) rfl (fun J hJ => ?_)
        go_simp
        go_wp2_with (go_at_call 55; refine (HF0.out.at_ _ HR.out.below HR.out.size).mono ?_; rintro e V1 ⟨rfl, hb⟩)
        replace HR := Lib.hid (HR.out.step hb)
        refine hJ.out _ _ (fun _ => HR.out.two) ?_
        clear hJ J hb
        refine wpAnyX_one (i := 2) (by kernel_rfl) rfl (fun J hJ => ?_)
        go_simp
        go_wp2_with (go_at_call 54; refine (HF0.out.num _ HR.out.below).mono ?_; rintro e V2 ⟨rfl, rfl⟩)
        refine hJ.out _ _ (fun _ => HR.out.two) ?_
        clear hJ J
        refine wpAnyX_take (i := 15) (v := .pointer (some ⟨w.heap.size + 1, 0, none⟩)) rfl (by kernel_rfl) (by kernel_rfl) (by kernel_rfl) (by kernel_rfl) (fun _ _ _ h => h) HR.out.two (Or.inl ⟨by rfl, fun w hS => by go_simp⟩) ?_
        go_simp
        refine wpAnyX_one (i := 4) (by kernel_rfl) rfl (fun J hJ => ?_)
        go_simp
        go_wp2_with (go_at_call 55; refine (HF1.out.at_ _ HR.out.below HR.out.size).mono ?_; rintro e V3 ⟨rfl, hb⟩)
        replace HR := Lib.hid (HR.out.step hb)
        refine hJ.out _ _ (fun _ => HR.out.two) ?_
        clear hJ J hb
        refine wpAnyX_one (i := 5) (by kernel_rfl) rfl (fun J hJ => ?_)
        go_simp
        go_wp2_with (go_at_call 54; refine (HF1.out.num _ HR.out.below).mono ?_; rintro e V4 ⟨rfl, rfl⟩)
        refine hJ.out _ _ (fun _ => HR.out.two) ?_
        clear hJ J
        refine wpAnyX_one (i := 7) (by kernel_rfl) rfl (fun J hJ => ?_)
        go_simp
        go_wp2_with (go_at_call 55; refine (HF2.out.at_ _ HR.out.below HR.out.size).mono ?_; rintro e V5 ⟨rfl, hb⟩)
        replace HR := Lib.hid (HR.out.step hb)
        refine hJ.out _ _ (fun _ => HR.out.two) ?_
        clear hJ J hb
        refine wpAnyX_one (i := 8) (by kernel_rfl) rfl (fun J hJ => ?_)
        go_simp
        go_wp2_with (go_at_call 54; refine (HF2.out.num _ HR.out.below).mono ?_; rintro e V6 ⟨rfl, rfl⟩)
        refine hJ.out _ _ (fun _ => HR.out.two) ?_
        clear hJ J
        refine wpAnyX_one (i := 10) (by kernel_rfl) rfl (fun J hJ => ?_)
        go_simp
        go_wp2_with (go_at_call 55; refine (HF3.out.at_ _ HR.out.below HR.out.size).mono ?_; rintro e V7 ⟨rfl, hb⟩)
        replace HR := Lib.hid (HR.out.step hb)
        refine hJ.out _ _ (fun _ => HR.out.two) ?_
        clear hJ J hb
        refine wpAnyX_one (i := 11) (by kernel_rfl) rfl (fun J hJ => ?_)
        go_simp
        go_wp2_with (go_at_call 54; refine (HF3.out.num _ HR.out.below).mono ?_; rintro e V8 ⟨rfl, rfl⟩)
        refine hJ.out _ _ (fun _ => HR.out.two) ?_
        clear hJ J
        refine wpAnyX_one (i := 13) (by kernel_rfl) rfl (fun J hJ => ?_)
        go_simp
        go_wp2_with (go_at_call 55; refine (HF4.out.at_ _ HR.out.below HR.out.size).mono ?_; rintro e V9 ⟨rfl, hb⟩)
        replace HR := Lib.hid (HR.out.step hb)
        refine hJ.out _ _ (fun _ => HR.out.two) ?_
        clear hJ J hb
        refine wpAnyX_one (i := 14) (by kernel_rfl) rfl (fun J hJ => ?_)
        go_simp
        go_wp2_with (go_at_call 54; refine (HF4.out.num _ HR.out.below).mono ?_; rintro e V10 ⟨rfl, rfl⟩)
        refine hJ.out _ _ (fun _ => HR.out.two) ?_
        clear hJ J
        obtain ⟨v_, hc_, hf_⟩ := HR.out.st.at_ 0 (by decide)
        replace HR := Lib.hid (HR.out.put (m' := { m with kind := x0 }) 0 (.int .i64 x0) (fun A c h => h.setKind _) rfl)
        refine wpAnyX_one (i := 16) (by kernel_rfl) rfl (fun J hJ => ?_)
        go_simp
        go_wp2
        refine hJ.out _ _ (fun _ => HR.out.two) ?_
        clear hJ J hc_ hf_ v_
        generalize (V9.setCell ⟨w.heap.size + 1, 0, none⟩ (.int .i64 x0)) = U0 at HR ⊢
        refine wpAnyX_take (i := 17) (v := .pointer (some ⟨w.heap.size + 1, 1, none⟩)) rfl (by kernel_rfl) (by kernel_rfl) (by kernel_rfl) (by kernel_rfl) (fun _ _ _ h => h) HR.out.two (Or.inl ⟨by rfl, fun w hS => by go_simp⟩) ?_
        go_simp
        obtain ⟨v_, hc_, hf_⟩ := HR.out.st.at_ 1 (by decide)
        replace HR := Lib.hid (HR.out.put (m' := { { m with kind := x0 } with src := x1 }) 1 (.int .i64 x1) (fun A c h => h.setSrc _) rfl)
        refine wpAnyX_one (i := 18) (by kernel_rfl) rfl (fun J hJ => ?_)
        go_simp
        go_wp2
        refine hJ.out _ _ (fun _ => HR.out.two) ?_
        clear hJ J hc_ hf_ v_
        generalize (U0.setCell ⟨w.heap.size + 1, 1, none⟩ (.int .i64 x1)) = U1 at HR ⊢
        refine wpAnyX_take (i := 19) (v := .pointer (some ⟨w.heap.size + 1, 2, none⟩)) rfl (by kernel_rfl) (by kernel_rfl) (by kernel_rfl) (by kernel_rfl) (fun _ _ _ h => h) HR.out.two (Or.inl ⟨by rfl, fun w hS => by go_simp⟩) ?_
        go_simp
        obtain ⟨v_, hc_, hf_⟩ := HR.out.st.at_ 2 (by decide)
        replace HR := Lib.hid (HR.out.put (m' := { { { m with kind := x0 } with src := x1 } with dst := x2 }) 2 (.int .i64 x2) (fun A c h => h.setDst _) rfl)
        refine wpAnyX_one (i := 20) (by kernel_rfl) rfl (fun J hJ => ?_)
        go_simp
        go_wp2
        refine hJ.out _ _ (fun _ => HR.out.two) ?_
        clear hJ J hc_ hf_ v_
        generalize (U1.setCell ⟨w.heap.size + 1, 2, none⟩ (.int .i64 x2)) = U2 at HR ⊢
        refine wpAnyX_take (i := 21) (v := .pointer (some ⟨w.heap.size + 1, 3, none⟩)) rfl (by kernel_rfl) (by kernel_rfl) (by kernel_rfl) (by kernel_rfl) (fun _ _ _ h => h) HR.out.two (Or.inl ⟨by rfl, fun w hS => by go_simp⟩) ?_
        go_simp
        obtain ⟨v_, hc_, hf_⟩ := HR.out.st.at_ 3 (by decide)
        replace HR := Lib.hid (HR.out.put (m' := { { { { m with kind := x0 } with src := x1 } with dst := x2 } with number := x3 }) 3 (.int .i64 x3) (fun A c h => h.setNumber _) rfl)
        refine wpAnyX_one (i := 22) (by kernel_rfl) rfl (fun J hJ => ?_)
        go_simp
        go_wp2
        refine hJ.out _ _ (fun _ => HR.out.two) ?_
        clear hJ J hc_ hf_ v_
        generalize (U2.setCell ⟨w.heap.size + 1, 3, none⟩ (.int .i64 x3)) = U3 at HR ⊢
        refine wpAnyX_take (i := 23) (v := .pointer (some ⟨w.heap.size + 1, 4, none⟩)) rfl (by kernel_rfl) (by kernel_rfl) (by kernel_rfl) (by kernel_rfl) (fun _ _ _ h => h) HR.out.two (Or.inl ⟨by rfl, fun w hS => by go_simp⟩) ?_
        go_simp
        obtain ⟨v_, hc_, hf_⟩ := HR.out.st.at_ 4 (by decide)
        replace HR := Lib.hid (HR.out.put (m' := { { { { { m with kind := x0 } with src := x1 } with dst := x2 } with number := x3 } with day := x4 }) 4 (.int .i64 x4) (fun A c h => h.setDay _) rfl)
        refine wpAnyX_one (i := 24) (by kernel_rfl) rfl (fun J hJ => ?_)
        go_simp
        go_wp2
        refine hJ.out _ _ (fun _ => HR.out.two) ?_
        clear hJ J hc_ hf_ v_
        generalize (U3.setCell ⟨w.heap.size + 1, 4, none⟩ (.int .i64 x4)) = U4 at HR ⊢
        refine wpAnyX_done (by kernel_rfl) ?_
        go_wp2
        go_roundg (n - (k + 1))
        case measure => have := HK.out; have := HNN.out; omega
        case rel => exact ⟨k + 1, by have := HNN.out; have := HK.out; omega, by go_num, by rw [HNX.out, HQ.out]; exact HR.out.st⟩
      have HTMSG := Lib.hid ht
      have hMSG : (tg == [77, 83, 71]) = false := by simpa [tMSG] using ht
      clear ht
      by_cases ht : tg = tLOT
      · subst ht
        have HQ := Lib.hid (HGM.out.trans ((if_neg (fun h => absurd h (by decide))).trans <| if_pos rfl))
        replace hd0 : wr.cell? ⟨b, off + k * 2, none⟩ = some (.string ⟨#[76, 79, 84]⟩) := hd0
        have HR : Hid (GR w wr.heap.size (.string ⟨#[76, 79, 84]⟩) (.slice Ae ne ce) m (wr.alloc (.cells #[.string ⟨#[76, 79, 84]⟩, .slice Ae ne ce] 57))) := HR0.out
        have HF0 : Hid (Elk w (.string ⟨#[76, 79, 84]⟩) Ae ne ce 0 A0 l0 c0 x0 y0) := HE0.out
        have HF1 : Hid (Elk w (.string ⟨#[76, 79, 84]⟩) Ae ne ce 1 A1 l1 c1 x1 y1) := HE1.out
        have HF2 : Hid (Elk w (.string ⟨#[76, 79, 84]⟩) Ae ne ce 2 A2 l2 c2 x2 y2) := HE2.out
        have HF3 : Hid (Elk w (.string ⟨#[76, 79, 84]⟩) Ae ne ce 3 A3 l3 c3 x3 y3) := HE3.out
        have HF4 : Hid (Elk w (.string ⟨#[76, 79, 84]⟩) Ae ne ce 4 A4 l4 c4 x4 y4) := HE4.out
        clear HR0 HE0 HE1 HE2 HE3 HE4 HGM
        go_upto_region 10 with (fail)
        generalize (wr.alloc (.cells #[.string ⟨#[76, 79, 84]⟩, .slice Ae ne ce] 57)) = W1 at HR ⊢
        generalize wr.heap.size = gs at HR ⊢
        clear hd0 hd1
        refine wp_region_x 9 (by kernel_rfl) (fun W => W.cell? ⟨gs, 0, none⟩ = some (.string ⟨#[76, 79, 84]⟩) ∧ W.cell? ⟨gs, 1, none⟩ = some (.slice Ae ne ce)) ?_
        replace HR := Lib.hid HR.out.drew
        generalize hV : W1.drew = V0 at HR ⊢
        clear hV
        refine wpAnyX_take (i := 0) (v := .agg #[.string ⟨#[76, 79, 84]⟩, .slice Ae ne ce]) rfl (by kernel_rfl) (by kernel_rfl) (by kernel_rfl) (by kernel_rfl) (fun _ _ _ h => h) HR.out.two (Or.inl ⟨by rfl, fun w hS => by (obtain ⟨q0, q1⟩ := hS; go_simp)⟩) ?_
        go_simp
        refine wpAnyX_take (i := 3) (v := .agg #[.string ⟨#[76, 79, 84]⟩, .slice Ae ne ce]) rfl (by kernel_rfl) (by kernel_rfl) (by kernel_rfl) (by kernel_rfl) (fun _ _ _ h => h) HR.out.two (Or.inl ⟨by rfl, fun w hS => by (obtain ⟨q0, q1⟩ := hS; go_simp)⟩) ?_
        go_simp
        refine wpAnyX_one (i := 1) (by kernel_rfl) rfl (fun J hJ => ?_)
        go_simp
        go_wp2_with (go_at_call 55; refine (HF0.out.at_ _ HR.out.below HR.out.size).mono ?_; rintro e V1 ⟨rfl, hb⟩)
        replace HR := Lib.hid (HR.out.step hb)
        refine hJ.out _ _ (fun _ => HR.out.two) ?_
        clear hJ J hb
        refine wpAnyX_one (i := 2) (by kernel_rfl) rfl (fun J hJ => ?_)
        go_simp
        go_wp2_with (go_at_call 54; refine (HF0.out.num _ HR.out.below).mono ?_; rintro e V2 ⟨rfl, rfl⟩)
        refine hJ.out _ _ (fun _ => HR.out.two) ?_
        clear hJ J
        refine wpAnyX_take (i := 6) (v := .pointer (some ⟨w.heap.size + 1, 5, none⟩)) rfl (by kernel_rfl) (by kernel_rfl) (by kernel_rfl) (by kernel_rfl) (fun _ _ _ h => h) HR.out.two (Or.inl ⟨by rfl, fun w hS => by go_simp⟩) ?_
        go_simp
        refine wpAnyX_one (i := 4) (by kernel_rfl) rfl (fun J hJ => ?_)
        go_simp
        go_wp2_with (go_at_call 55; refine (HF1.out.at_ _ HR.out.below HR.out.size).mono ?_; rintro e V3 ⟨rfl, hb⟩)
        replace HR := Lib.hid (HR.out.step hb)
        refine hJ.out _ _ (fun _ => HR.out.two) ?_
        clear hJ J hb
        refine wpAnyX_one (i := 5) (by kernel_rfl) rfl (fun J hJ => ?_)
        go_simp
        go_wp2_with (go_at_call 54; refine (HF1.out.num _ HR.out.below).mono ?_; rintro e V4 ⟨rfl, rfl⟩)
        refine hJ.out _ _ (fun _ => HR.out.two) ?_
        clear hJ J
        obtain ⟨v_, hc_, hf_⟩ := HR.out.st.at_ 5 (by decide)
        replace HR := Lib.hid (HR.out.put (m' := { m with lot := x0 }) 5 (.int .i64 x0) (fun A c h => h.setLot _) rfl)
        refine wpAnyX_one (i := 7) (by kernel_rfl) rfl (fun J hJ => ?_)
        go_simp
        go_wp2
        refine hJ.out _ _ (fun _ => HR.out.two) ?_
        clear hJ J hc_ hf_ v_
        generalize (V3.setCell ⟨w.heap.size + 1, 5, none⟩ (.int .i64 x0)) = U0 at HR ⊢
        refine wpAnyX_take (i := 8) (v := .pointer (some ⟨w.heap.size + 1, 6, none⟩)) rfl (by kernel_rfl) (by kernel_rfl) (by kernel_rfl) (by kernel_rfl) (fun _ _ _ h => h) HR.out.two (Or.inl ⟨by rfl, fun w hS => by go_simp⟩) ?_
        go_simp
        obtain ⟨v_, hc_, hf_⟩ := HR.out.st.at_ 6 (by decide)
        replace HR := Lib.hid (HR.out.put (m' := { { m with lot := x0 } with other := x1 }) 6 (.int .i64 x1) (fun A c h => h.setOther _) rfl)
        refine wpAnyX_one (i := 9) (by kernel_rfl) rfl (fun J hJ => ?_)
        go_simp
        go_wp2
        refine hJ.out _ _ (fun _ => HR.out.two) ?_
        clear hJ J hc_ hf_ v_
        generalize (U0.setCell ⟨w.heap.size + 1, 6, none⟩ (.int .i64 x1)) = U1 at HR ⊢
        refine wpAnyX_done (by kernel_rfl) ?_
        go_wp2
        go_roundg (n - (k + 1))
        case measure => have := HK.out; have := HNN.out; omega
        case rel => exact ⟨k + 1, by have := HNN.out; have := HK.out; omega, by go_num, by rw [HNX.out, HQ.out]; exact HR.out.st⟩
      have HTLOT := Lib.hid ht
      have hLOT : (tg == [76, 79, 84]) = false := by simpa [tLOT] using ht
      clear ht
      by_cases ht : tg = tGDS
      · subst ht
        have HQ := Lib.hid (HGM.out.trans ((if_neg (fun h => absurd h (by decide))).trans <| (if_neg (fun h => absurd h (by decide))).trans <| if_pos rfl))
        replace hd0 : wr.cell? ⟨b, off + k * 2, none⟩ = some (.string ⟨#[71, 68, 83]⟩) := hd0
        have HR : Hid (GR w wr.heap.size (.string ⟨#[71, 68, 83]⟩) (.slice Ae ne ce) m (wr.alloc (.cells #[.string ⟨#[71, 68, 83]⟩, .slice Ae ne ce] 57))) := HR0.out
        have HF0 : Hid (Elk w (.string ⟨#[71, 68, 83]⟩) Ae ne ce 0 A0 l0 c0 x0 y0) := HE0.out
        have HF1 : Hid (Elk w (.string ⟨#[71, 68, 83]⟩) Ae ne ce 1 A1 l1 c1 x1 y1) := HE1.out
        have HF2 : Hid (Elk w (.string ⟨#[71, 68, 83]⟩) Ae ne ce 2 A2 l2 c2 x2 y2) := HE2.out
        have HF3 : Hid (Elk w (.string ⟨#[71, 68, 83]⟩) Ae ne ce 3 A3 l3 c3 x3 y3) := HE3.out
        have HF4 : Hid (Elk w (.string ⟨#[71, 68, 83]⟩) Ae ne ce 4 A4 l4 c4 x4 y4) := HE4.out
        clear HR0 HE0 HE1 HE2 HE3 HE4 HGM
        go_upto_region 12 with (fail)
        generalize (wr.alloc (.cells #[.string ⟨#[71, 68, 83]⟩, .slice Ae ne ce] 57)) = W1 at HR ⊢
        generalize wr.heap.size = gs at HR ⊢
        clear hd0 hd1
        refine wp_region_x 19 (by kernel_rfl) (fun W => W.cell? ⟨gs, 0, none⟩ = some (.string ⟨#[71, 68, 83]⟩) ∧ W.cell? ⟨gs, 1, none⟩ = some (.slice Ae ne ce)) ?_
        replace HR := Lib.hid HR.out.drew
        generalize hV : W1.drew = V0 at HR ⊢
        clear hV
        refine wpAnyX_take (i := 0) (v := .agg #[.string ⟨#[71, 68, 83]⟩, .slice Ae ne ce]) rfl (by kernel_rfl) (by kernel_rfl) (by kernel_rfl) (by kernel_rfl) (fun _ _ _ h => h) HR.out.two (Or.inl ⟨by rfl, fun w hS => by (obtain ⟨q0, q1⟩ := hS; go_simp)⟩) ?_
        go_simp
        refine wpAnyX_take (i := 3) (v := .agg #[.string ⟨#[71, 68, 83]⟩, .slice Ae ne ce]) rfl (by kernel_rfl) (by kernel_rfl) (by kernel_rfl) (by kernel_rfl) (fun _ _ _ h => h) HR.out.two (Or.inl ⟨by rfl, fun w hS => by (obtain ⟨q0, q1⟩ := hS; go_simp)⟩) ?_
        go_simp
        refine wpAnyX_take (i := 6) (v := .agg #[.string ⟨#[71, 68, 83]⟩, .slice Ae ne ce]) rfl (by kernel_rfl) (by kernel_rfl) (by kernel_rfl) (by kernel_rfl) (fun _ _ _ h => h) HR.out.two (Or.inl ⟨by rfl, fun w hS => by (obtain ⟨q0, q1⟩ := hS; go_simp)⟩) ?_
        go_simp
        refine wpAnyX_take (i := 9) (v := .agg #[.string ⟨#[71, 68, 83]⟩, .slice Ae ne ce]) rfl (by kernel_rfl) (by kernel_rfl) (by kernel_rfl) (by kernel_rfl) (fun _ _ _ h => h) HR.out.two (Or.inl ⟨by rfl, fun w hS => by (obtain ⟨q0, q1⟩ := hS; go_simp)⟩) ?_
        go_simp
        refine wpAnyX_one (i := 1) (by kernel_rfl) rfl (fun J hJ => ?_)
        go_simp
        go_wp2_with (go_at_call 55; refine (HF0.out.at_ _ HR.out.below HR.out.size).mono ?_; rintro e V1 ⟨rfl, hb⟩)
        replace HR := Lib.hid (HR.out.step hb)
        refine hJ.out _ _ (fun _ => HR.out.two) ?_
        clear hJ J hb
        refine wpAnyX_one (i := 2) (by kernel_rfl) rfl (fun J hJ => ?_)
        go_simp
        go_wp2_with (go_at_call 63; refine (HF0.out.word _ HR.out.below).mono ?_; rintro e V2 ⟨rfl, rfl⟩)
        refine hJ.out _ _ (fun _ => HR.out.two) ?_
        clear hJ J
        refine wpAnyX_take (i := 12) (v := .pointer (some ⟨w.heap.size + 1, 7, none⟩)) rfl (by kernel_rfl) (by kernel_rfl) (by kernel_rfl) (by kernel_rfl) (fun _ _ _ h => h) HR.out.two (Or.inl ⟨by rfl, fun w hS => by go_simp⟩) ?_
        go_simp
        refine wpAnyX_one (i := 4) (by kernel_rfl) rfl (fun J hJ => ?_)
        go_simp
        go_wp2_with (go_at_call 55; refine (HF1.out.at_ _ HR.out.below HR.out.size).mono ?_; rintro e V3 ⟨rfl, hb⟩)
        replace HR := Lib.hid (HR.out.step hb)
        refine hJ.out _ _ (fun _ => HR.out.two) ?_
        clear hJ J hb
        refine wpAnyX_one (i := 5) (by kernel_rfl) rfl (fun J hJ => ?_)
        go_simp
        go_wp2_with (go_at_call 63; refine (HF1.out.word _ HR.out.below).mono ?_; rintro e V4 ⟨rfl, rfl⟩)
        refine hJ.out _ _ (fun _ => HR.out.two) ?_
        clear hJ J
        refine wpAnyX_one (i := 7) (by kernel_rfl) rfl (fun J hJ => ?_)
        go_simp
        go_wp2_with (go_at_call 55; refine (HF2.out.at_ _ HR.out.below HR.out.size).mono ?_; rintro e V5 ⟨rfl, hb⟩)
        replace HR := Lib.hid (HR.out.step hb)
        refine hJ.out _ _ (fun _ => HR.out.two) ?_
        clear hJ J hb
        refine wpAnyX_one (i := 8) (by kernel_rfl) rfl (fun J hJ => ?_)
        go_simp
        go_wp2_with (go_at_call 54; refine (HF2.out.num _ HR.out.below).mono ?_; rintro e V6 ⟨rfl, rfl⟩)
        refine hJ.out _ _ (fun _ => HR.out.two) ?_
        clear hJ J
        refine wpAnyX_one (i := 10) (by kernel_rfl) rfl (fun J hJ => ?_)
        go_simp
        go_wp2_with (go_at_call 55; refine (HF3.out.at_ _ HR.out.below HR.out.size).mono ?_; rintro e V7 ⟨rfl, hb⟩)
        replace HR := Lib.hid (HR.out.step hb)
        refine hJ.out _ _ (fun _ => HR.out.two) ?_
        clear hJ J hb
        refine wpAnyX_one (i := 11) (by kernel_rfl) rfl (fun J hJ => ?_)
        go_simp
        go_wp2_with (go_at_call 54; refine (HF3.out.num _ HR.out.below).mono ?_; rintro e V8 ⟨rfl, rfl⟩)
        refine hJ.out _ _ (fun _ => HR.out.two) ?_
        clear hJ J
        obtain ⟨v_, hc_, hf_⟩ := HR.out.st.at_ 7 (by decide)
        replace HR := Lib.hid (HR.out.put (m' := { m with code := y0 }) 7 (.string ⟨y0.toArray⟩) (fun A c h => h.setCode _) rfl)
        refine wpAnyX_one (i := 13) (by kernel_rfl) rfl (fun J hJ => ?_)
        go_simp
        go_wp2
        refine hJ.out _ _ (fun _ => HR.out.two) ?_
        clear hJ J hc_ hf_ v_
        generalize (V7.setCell ⟨w.heap.size + 1, 7, none⟩ (.string ⟨y0.toArray⟩)) = U0 at HR ⊢
        refine wpAnyX_take (i := 14) (v := .pointer (some ⟨w.heap.size + 1, 8, none⟩)) rfl (by kernel_rfl) (by kernel_rfl) (by kernel_rfl) (by kernel_rfl) (fun _ _ _ h => h) HR.out.two (Or.inl ⟨by rfl, fun w hS => by go_simp⟩) ?_
        go_simp
        obtain ⟨v_, hc_, hf_⟩ := HR.out.st.at_ 8 (by decide)
        replace HR := Lib.hid (HR.out.put (m' := { { m with code := y0 } with country := y1 }) 8 (.string ⟨y1.toArray⟩) (fun A c h => h.setCountry _) rfl)
        refine wpAnyX_one (i := 15) (by kernel_rfl) rfl (fun J hJ => ?_)
        go_simp
        go_wp2
        refine hJ.out _ _ (fun _ => HR.out.two) ?_
        clear hJ J hc_ hf_ v_
        generalize (U0.setCell ⟨w.heap.size + 1, 8, none⟩ (.string ⟨y1.toArray⟩)) = U1 at HR ⊢
        refine wpAnyX_take (i := 16) (v := .pointer (some ⟨w.heap.size + 1, 9, none⟩)) rfl (by kernel_rfl) (by kernel_rfl) (by kernel_rfl) (by kernel_rfl) (fun _ _ _ h => h) HR.out.two (Or.inl ⟨by rfl, fun w hS => by go_simp⟩) ?_
        go_simp
        obtain ⟨v_, hc_, hf_⟩ := HR.out.st.at_ 9 (by decide)
        replace HR := Lib.hid (HR.out.put (m' := { { { m with code := y0 } with country := y1 } with quantity := x2 }) 9 (.int .i64 x2) (fun A c h => h.setQuantity _) rfl)
        refine wpAnyX_one (i := 17) (by kernel_rfl) rfl (fun J hJ => ?_)
        go_simp
        go_wp2
        refine hJ.out _ _ (fun _ => HR.out.two) ?_
        clear hJ J hc_ hf_ v_
        generalize (U1.setCell ⟨w.heap.size + 1, 9, none⟩ (.int .i64 x2)) = U2 at HR ⊢
        refine wpAnyX_take (i := 18) (v := .pointer (some ⟨w.heap.size + 1, 10, none⟩)) rfl (by kernel_rfl) (by kernel_rfl) (by kernel_rfl) (by kernel_rfl) (fun _ _ _ h => h) HR.out.two (Or.inl ⟨by rfl, fun w hS => by go_simp⟩) ?_
        go_simp
        obtain ⟨v_, hc_, hf_⟩ := HR.out.st.at_ 10 (by decide)
        replace HR := Lib.hid (HR.out.put (m' := { { { { m with code := y0 } with country := y1 } with quantity := x2 } with amount := x3 }) 10 (.int .i64 x3) (fun A c h => h.setAmount _) rfl)
        refine wpAnyX_one (i := 19) (by kernel_rfl) rfl (fun J hJ => ?_)
        go_simp
        go_wp2
        refine hJ.out _ _ (fun _ => HR.out.two) ?_
        clear hJ J hc_ hf_ v_
        generalize (U2.setCell ⟨w.heap.size + 1, 10, none⟩ (.int .i64 x3)) = U3 at HR ⊢
        refine wpAnyX_done (by kernel_rfl) ?_
        go_wp2
        go_roundg (n - (k + 1))
        case measure => have := HK.out; have := HNN.out; omega
        case rel => exact ⟨k + 1, by have := HNN.out; have := HK.out; omega, by go_num, by rw [HNX.out, HQ.out]; exact HR.out.st⟩
      have HTGDS := Lib.hid ht
      have hGDS : (tg == [71, 68, 83]) = false := by simpa [tGDS] using ht
      clear ht
      by_cases ht : tg = tLST
      · subst ht
        have HQ := Lib.hid (HGM.out.trans ((if_neg (fun h => absurd h (by decide))).trans <| (if_neg (fun h => absurd h (by decide))).trans <| (if_neg (fun h => absurd h (by decide))).trans <| if_pos rfl))
        replace hd0 : wr.cell? ⟨b, off + k * 2, none⟩ = some (.string ⟨#[76, 83, 84]⟩) := hd0
        have HR : Hid (GR w wr.heap.size (.string ⟨#[76, 83, 84]⟩) (.slice Ae ne ce) m (wr.alloc (.cells #[.string ⟨#[76, 83, 84]⟩, .slice Ae ne ce] 57))) := HR0.out
        have HF0 : Hid (Elk w (.string ⟨#[76, 83, 84]⟩) Ae ne ce 0 A0 l0 c0 x0 y0) := HE0.out
        have HF1 : Hid (Elk w (.string ⟨#[76, 83, 84]⟩) Ae ne ce 1 A1 l1 c1 x1 y1) := HE1.out
        have HF2 : Hid (Elk w (.string ⟨#[76, 83, 84]⟩) Ae ne ce 2 A2 l2 c2 x2 y2) := HE2.out
        have HF3 : Hid (Elk w (.string ⟨#[76, 83, 84]⟩) Ae ne ce 3 A3 l3 c3 x3 y3) := HE3.out
        have HF4 : Hid (Elk w (.string ⟨#[76, 83, 84]⟩) Ae ne ce 4 A4 l4 c4 x4 y4) := HE4.out
        clear HR0 HE0 HE1 HE2 HE3 HE4 HGM
        go_upto_region 14 with (fail)
        generalize (wr.alloc (.cells #[.string ⟨#[76, 83, 84]⟩, .slice Ae ne ce] 57)) = W1 at HR ⊢
        generalize wr.heap.size = gs at HR ⊢
        clear hd0 hd1
        go_wp2
        clear wr
        go_loopg [6] l0 (fun g i wx => LgRel w gs (.string ⟨#[76, 83, 84]⟩) (.slice Ae ne ce) m L0 g i wx)
        case atStart => exact ⟨0, by have := HL0.out; omega, rfl, by have := HR.out; simpa using this⟩
        case round =>
          obtain ⟨j, hj, rfl, hrr⟩ := hrel
          have HJ := Lib.hid hj
          have HRJ := Lib.hid hrr
          obtain ⟨q0, q1⟩ := hrr.two
          have hj2 : j ≤ l0 := by have := HL0.out; omega
          clear hj hrr HR
          go_wp2_with fail
          refine (HF0.out.at_ _ HRJ.out.below HRJ.out.size).mono ?_
          rintro e V1 ⟨rfl, hb⟩
          replace HRJ := Lib.hid (HRJ.out.step hb)
          clear hb q0 q1
          by_cases hlj : j < l0
          · obtain ⟨eb, eo, rfl, hbB, A9, c9, hc9, hr9⟩ := HCELL.out (HNZ.out (by omega))
            have hjL : j < L0.length := by have := HL0.out; omega
            obtain ⟨b1, o1, rfl, hb1B, hs1⟩ := hr9.at_lit2 (strs_get hjL)
            have HXN := Lib.hid (lg_next (m := m) hjL)
            have hxw := HW.out L0[j] (List.getElem_mem _)
            have hne0 := HNZ.out (by omega)
            have hml2 : (m.list ++ (L0.take j).map (fun c => rnF [c])).length < 17592186044000 := by have := HML.out; have := HL0.out; simp only [List.length_append, List.length_map, List.length_take]; omega
            unfold str at hs1
            generalize L0[j] = x at *
            generalize hmk : ({ m with list := m.list ++ (L0.take j).map (fun c => rnF [c]) } : Msg) = mk at *
            have hmkl : mk.list = m.list ++ (L0.take j).map (fun c => rnF [c]) := by rw [← hmk]
            rw [← hmkl] at hml2
            have HMK := Lib.hid hmk
            have HMKL := Lib.hid hmkl
            clear hmk hmkl hr9 hjL
            go_upto_region 17 with (fail)
            obtain ⟨Av, cv, hmb, hown⟩ := HRJ.out.drew.st.blk
            replace HRJ := Lib.hid HRJ.out.drew
            have HS : Hid (∀ W, Below w.heap.size w W → GR w gs (.string ⟨#[76, 83, 84]⟩) (.slice (some ⟨eb, eo, none⟩) ne ce) mk W → MBlk W (w.heap.size + 1) mk Av cv → (W.cell? ⟨w.heap.size + 1, 11, none⟩ = some (.slice Av mk.list.length cv) ∧ W.cell? ⟨gs, 1, none⟩ = some (.slice (some ⟨eb, eo, none⟩) ne ce) ∧ W.cell? ⟨eb, eo, none⟩ = some (.slice (some ⟨b1, o1, none⟩) l0 c9) ∧ W.cell? ⟨b1, o1 + j, none⟩ = some (.string ⟨x.toArray⟩))) := fun W h1 h2 h3 => ⟨by have := h3.cell 11; simpa only [msgC, List.getElem?_toArray, List.getElem?_cons_succ, List.getElem?_cons_zero] using this, h2.two.2, (h1.cell (p := ⟨eb, eo, none⟩) hbB).trans hc9, (h1.cell (p := ⟨b1, o1 + j, none⟩) hb1B).trans hs1⟩
            have hst := HS.out _ HRJ.out.below HRJ.out hmb
            refine wp_region_x 14 (by kernel_rfl) (fun W => W.cell? ⟨w.heap.size + 1, 11, none⟩ = some (.slice Av mk.list.length cv) ∧ W.cell? ⟨gs, 1, none⟩ = some (.slice (some ⟨eb, eo, none⟩) ne ce) ∧ W.cell? ⟨eb, eo, none⟩ = some (.slice (some ⟨b1, o1, none⟩) l0 c9) ∧ W.cell? ⟨b1, o1 + j, none⟩ = some (.string ⟨x.toArray⟩)) ?_
            generalize V1.drew = V2 at hmb hown HRJ hst ⊢
            have HMB := Lib.hid hmb
            have HOW := Lib.hid hown
            clear hmb hown
            refine wpAnyX_take (i := 0) (v := .pointer (some ⟨w.heap.size + 1, 11, none⟩)) rfl (by kernel_rfl) (by kernel_rfl) (by kernel_rfl) (by kernel_rfl) (fun _ _ _ h => h) hst (Or.inl ⟨by rfl, fun w hS => by (obtain ⟨q0, q1, q2, q3⟩ := hS; go_simp)⟩) ?_
            go_simp
            refine wpAnyX_take (i := 1) (v := .slice Av mk.list.length cv) rfl (by kernel_rfl) (by kernel_rfl) (by kernel_rfl) (by kernel_rfl) (fun _ _ _ h => h) hst (Or.inl ⟨by rfl, fun w hS => by (obtain ⟨q0, q1, q2, q3⟩ := hS; go_simp)⟩) ?_
            go_simp
            refine wpAnyX_take (i := 2) (v := .pointer (some ⟨gs, 1, none⟩)) rfl (by kernel_rfl) (by kernel_rfl) (by kernel_rfl) (by kernel_rfl) (fun _ _ _ h => h) hst (Or.inl ⟨by rfl, fun w hS => by (obtain ⟨q0, q1, q2, q3⟩ := hS; go_simp)⟩) ?_
            go_simp
            refine wpAnyX_take (i := 3) (v := .slice (some ⟨eb, eo, none⟩) ne ce) rfl (by kernel_rfl) (by kernel_rfl) (by kernel_rfl) (by kernel_rfl) (fun _ _ _ h => h) hst (Or.inl ⟨by rfl, fun w hS => by (obtain ⟨q0, q1, q2, q3⟩ := hS; go_simp)⟩) ?_
            go_simp
            refine wpAnyX_take (i := 4) (v := .pointer (some ⟨eb, eo, none⟩)) rfl (by kernel_rfl) (by kernel_rfl) (by kernel_rfl) (by kernel_rfl) (fun _ _ _ h => h) hst (Or.inl ⟨by rfl, fun w hS => by (obtain ⟨q0, q1, q2, q3⟩ := hS; go_simp)⟩) ?_
            go_simp
            refine wpAnyX_take (i := 5) (v := .slice (some ⟨b1, o1, none⟩) l0 c9) rfl (by kernel_rfl) (by kernel_rfl) (by kernel_rfl) (by kernel_rfl) (fun _ _ _ h => h) hst (Or.inl ⟨by rfl, fun w hS => by (obtain ⟨q0, q1, q2, q3⟩ := hS; go_simp)⟩) ?_
            go_simp
            refine wpAnyX_take (i := 6) (v := .int .i64 (j : Int)) rfl (by kernel_rfl) (by kernel_rfl) (by kernel_rfl) (by kernel_rfl) (fun _ _ _ h => h) hst (Or.inl ⟨by rfl, fun w hS => by (obtain ⟨q0, q1, q2, q3⟩ := hS; go_simp)⟩) ?_
            go_simp
            refine wpAnyX_take (i := 7) (v := .pointer (some ⟨b1, o1 + j, none⟩)) rfl (by kernel_rfl) (by kernel_rfl) (by kernel_rfl) (by kernel_rfl) (fun _ _ _ h => h) hst (Or.inl ⟨by rfl, fun w hS => by (obtain ⟨q0, q1, q2, q3⟩ := hS; go_simp)⟩) ?_
            go_simp
            refine wpAnyX_take (i := 8) (v := .string ⟨x.toArray⟩) rfl (by kernel_rfl) (by kernel_rfl) (by kernel_rfl) (by kernel_rfl) (fun _ _ _ h => h) hst (Or.inl ⟨by rfl, fun w hS => by (obtain ⟨q0, q1, q2, q3⟩ := hS; go_simp)⟩) ?_
            go_simp
            have qz := (Below.refl V2.heap.size V2).alloc (Nat.le_refl _) (.cells #[.string ⟨x.toArray⟩] 9)
            have HRS : Hid (Rd (V2.alloc (.cells #[.string ⟨x.toArray⟩] 9)) (some ⟨V2.heap.size, 0, none⟩) (strs [x])) := (RdB.new V2 (strs [x]) 9 (0, 0) _ rfl).rd
            refine wpAnyX_one (i := 9) (by kernel_rfl) rfl (fun J hJ => ?_)
            go_simp
            replace HRJ := Lib.hid (HRJ.out.step qz)
            replace HMB := Lib.hid (HMB.out.below qz)
            replace HOW := Lib.hid (own_below HOW.out qz)
            replace hst := HS.out _ HRJ.out.below HRJ.out HMB.out
            refine hJ.out _ _ (fun _ => hst) ?_
            clear hJ J qz
            generalize V2.heap.size = gv at HRS ⊢
            generalize (V2.alloc (.cells #[.string ⟨x.toArray⟩] 9)) = V3 at HRS HRJ HMB HOW hst ⊢
            refine wpAnyX_one (i := 10) (by kernel_rfl) rfl (fun J hJ => ?_)
            go_simp
            go_wp2_with (go_at_call 54; refine (rnumber_any (some ⟨gv, 0, none⟩) 1 [x] V3 HRS.out (Nat.le_of_ble_eq_true rfl) hxw).mono ?_; rintro e V4 ⟨rfl, rfl⟩)
            refine hJ.out _ _ (fun _ => hst) ?_
            clear hJ J HRS
            generalize rnF [x] = y at *
            have q3 := (Below.refl V3.heap.size V3).alloc (Nat.le_refl _) (.cells #[.int .i64 y] 3)
            refine wpAnyX_one (i := 11) (by kernel_rfl) rfl (fun J hJ => ?_)
            go_simp
            refine hJ.out _ _ (fun _ => HS.out _ (HRJ.out.step q3).below (HRJ.out.step q3) (HMB.out.below q3)) ?_
            clear hJ J q3
            have hsz3 : w.heap.size + 1 ≤ V3.heap.size := by have := HRJ.out.st.lt; omega
            refine wpAnyX_one (i := 12) (by kernel_rfl) rfl (fun J hJ => ?_)
            refine step_append_one V3 (by rfl) (.tmp 80) (.tmp 90) 22 (by rfl) (w.heap.size + 1) 3 i0 _ 1 8 Tryz.underlying22 hi0 hz0 hz1 hz2 rfl (by omega) (.slice Av mk.list.length cv) mk.list.length (ints mk.list) [.int .i64 y] rfl (by simp [Value.oneCell']) (by rfl) HOW.out (by rfl) (by unfold maxLen; omega) (by omega) hsz3 ?_
            intro v5 w5 hown5 hb5 hg5
            have hgrn := HRJ.out.grown HMB.out HOW.out hg5
            have hcc5 := hgrn.1.cell 11
            simp only [msgC, List.getElem?_toArray, List.getElem?_cons_succ, List.getElem?_cons_zero] at hcc5
            have hff5 := hgrn.1.frozen 11
            obtain ⟨A5, c5, rfl, _, _⟩ := own_shape hown5
            have hbw5 := HRJ.out.below.trans (hb5.mono (Nat.le_succ _))
            have hst5 : w5.cell? ⟨w.heap.size + 1, 11, none⟩ = some (.slice Av mk.list.length cv) ∧ w5.cell? ⟨gs, 1, none⟩ = some (.slice (some ⟨eb, eo, none⟩) ne ce) ∧ w5.cell? ⟨eb, eo, none⟩ = some (.slice (some ⟨b1, o1, none⟩) l0 c9) ∧ w5.cell? ⟨b1, o1 + j, none⟩ = some (.string ⟨x.toArray⟩) :=
              ⟨hcc5, by rw [cell_of_row _ _ _ _ _ _ hgrn.2]; rfl, (hbw5.cell (p := ⟨eb, eo, none⟩) hbB).trans hc9, (hbw5.cell (p := ⟨b1, o1 + j, none⟩) hb1B).trans hs1⟩
            have HP5 := Lib.hid (HRJ.out.push HMB.out HOW.out hg5 hb5 y hown5)
            refine hJ.out _ _ (fun _ => hst5) ?_
            clear hJ J hgrn hown5 hb5 hg5 HRJ HMB HOW hbw5 hst
            go_simp
            refine wpAnyX_one (i := 13) (by kernel_rfl) rfl (fun J hJ => ?_)
            go_simp
            refine hJ.out _ _ (fun _ => hst5) ?_
            clear hJ J
            refine wpAnyX_one (i := 14) (by kernel_rfl) rfl (fun J hJ => ?_)
            go_simp
            refine hJ.out _ _ (fun h => absurd rfl h) ?_
            clear hJ J hst5
            refine wpAnyX_done (by kernel_rfl) ?_
            go_wp2_with fail
            go_roundg (l0 - (j + 1))
            case measure => have := HJ.out; have := HL0.out; omega
            case rel =>
              refine ⟨j + 1, by have := HJ.out; have := HL0.out; omega, by go_num, ?_⟩
              have h5 := HP5.out
              rw [HXN.out]
              have e : ({ mk with list := mk.list ++ [y] } : Msg) = { m with list := (m.list ++ (L0.take j).map (fun c => rnF [c])) ++ [y] } := by rw [← HMK.out]
              rw [← e]
              exact h5
          · have hge : l0 ≤ j := by omega
            have HRX := HRJ
            rw [List.take_of_length_le (show L0.length ≤ j by have := HL0.out; omega)] at HRX
            clear hlj
            go_wp2
            go_roundg (n - (k + 1))
            case measure => have := HK.out; have := HNN.out; omega
            case rel => exact ⟨k + 1, by have := HNN.out; have := HK.out; omega, by go_num, by rw [HNX.out, HQ.out]; exact HRX.out.st⟩
      have HTLST := Lib.hid ht
      have hLST : (tg == [76, 83, 84]) = false := by simpa [tLST] using ht
      clear ht
      by_cases ht : tg = tTXT
      · subst ht
        have HQ := Lib.hid (HGM.out.trans ((if_neg (fun h => absurd h (by decide))).trans <| (if_neg (fun h => absurd h (by decide))).trans <| (if_neg (fun h => absurd h (by decide))).trans <| (if_neg (fun h => absurd h (by decide))).trans <| if_pos rfl))
        replace hd0 : wr.cell? ⟨b, off + k * 2, none⟩ = some (.string ⟨#[84, 88, 84]⟩) := hd0
        have HR : Hid (GR w wr.heap.size (.string ⟨#[84, 88, 84]⟩) (.slice Ae ne ce) m (wr.alloc (.cells #[.string ⟨#[84, 88, 84]⟩, .slice Ae ne ce] 57))) := HR0.out
        have HF0 : Hid (Elk w (.string ⟨#[84, 88, 84]⟩) Ae ne ce 0 A0 l0 c0 x0 y0) := HE0.out
        have HF1 : Hid (Elk w (.string ⟨#[84, 88, 84]⟩) Ae ne ce 1 A1 l1 c1 x1 y1) := HE1.out
        have HF2 : Hid (Elk w (.string ⟨#[84, 88, 84]⟩) Ae ne ce 2 A2 l2 c2 x2 y2) := HE2.out
        have HF3 : Hid (Elk w (.string ⟨#[84, 88, 84]⟩) Ae ne ce 3 A3 l3 c3 x3 y3) := HE3.out
        have HF4 : Hid (Elk w (.string ⟨#[84, 88, 84]⟩) Ae ne ce 4 A4 l4 c4 x4 y4) := HE4.out
        clear HR0 HE0 HE1 HE2 HE3 HE4 HGM
        go_upto_region 19 with (fail)
        generalize (wr.alloc (.cells #[.string ⟨#[84, 88, 84]⟩, .slice Ae ne ce] 57)) = W1 at HR ⊢
        generalize wr.heap.size = gs at HR ⊢
        clear hd0 hd1
        obtain ⟨q0, q1⟩ := HR.out.two
        go_wp2_with fail
        refine (HF0.out.at_ _ HR.out.below HR.out.size).mono ?_
        rintro e V1 ⟨rfl, hb⟩
        replace HR := Lib.hid (HR.out.step hb)
        clear hb q0 q1
        go_wp2_with fail
        refine (HF0.out.word _ HR.out.below).mono ?_
        rintro e V2 ⟨rfl, rfl⟩
        obtain ⟨v_, hc_, hf_⟩ := HR.out.st.at_ 12 (by decide)
        replace HR := Lib.hid (HR.out.put (m' := { m with text := y0 }) 12 (.string ⟨y0.toArray⟩) (fun A c h => h.setText _) rfl)
        go_wp2
        go_roundg (n - (k + 1))
        case measure => have := HK.out; have := HNN.out; omega
        case rel => exact ⟨k + 1, by have := HNN.out; have := HK.out; omega, by go_num, by rw [HNX.out, HQ.out]; exact HR.out.st⟩
      have HTTXT := Lib.hid ht
      have hTXT : (tg == [84, 88, 84]) = false := by simpa [tTXT] using ht
      clear ht
      have HQ := Lib.hid (HGM.out.trans ((if_neg HTMSG.out).trans ((if_neg HTLOT.out).trans ((if_neg HTGDS.out).trans ((if_neg HTLST.out).trans (if_neg HTTXT.out))))))
      have HR := HR0
      clear HR0 HE0 HE1 HE2 HE3 HE4 HGM
      go_wp2
      go_roundg (n - (k + 1))
      case measure => have := HK.out; have := HNN.out; omega
      case rel => exact ⟨k + 1, by have := HNN.out; have := HK.out; omega, by go_num, by rw [HNX.out, HQ.out]; exact HR.out.st⟩
    · have hge : n ≤ k := by omega
      rw [List.take_of_length_le (show l.length ≤ k by have := HNN.out; omega)] at HST
      generalize guessL zeroM l = m at *
      obtain ⟨Am, cm, hmb, hown⟩ := HST.out.blk
      have HOWN := Lib.hid hown
      have HRES := Lib.hid HST.out.res
      have HB := Lib.hid HST.out.below
      obtain ⟨d0, d1, d2, d3, d4, d5, d6, d7, d8, d9, d10, d11, d12⟩ := hmb.all
      clear hmb hown hlt HST
      go_wp2_with (refine at_store 30 (.tmp 2) (.tmp 99) rfl ?_; refine wpList_store_box rfl 30 (.tmp 2) (.tmp 99) rfl w.heap.size 0 (msgV m Am cm) (msgC m Am cm) rfl rfl rfl [.int .i64 0, .int .i64 0, .int .i64 0, .int .i64 0, .int .i64 0, .int .i64 0, .int .i64 0, .string ⟨#[]⟩, .string ⟨#[]⟩, .int .i64 0, .int .i64 0, .slice none 0 0, .string ⟨#[]⟩] [.int .i64 m.kind, .int .i64 m.src, .int .i64 m.dst, .int .i64 m.number, .int .i64 m.day, .int .i64 m.lot, .int .i64 m.other, .string ⟨m.code.toArray⟩, .string ⟨m.country.toArray⟩, .int .i64 m.quantity, .int .i64 m.amount, .slice Am m.list.length cm, .string ⟨m.text.toArray⟩] _ HRES.out (Nat.le_of_ble_eq_true rfl) rfl (by kernel_rfl) rfl ?_; intro W9 hb9 hP9; have HR9 := Lib.hid hb9; have HP9 := Lib.hid hP9; clear hb9 hP9)
      exact ret1 (k := 2) (g := w.heap.size) (T := 30) (cs := msgC m Am cm) Tryz.results36 rfl HR9.out Tryz.underlying30 (by kernel_rfl) rfl ⟨Am, cm, rfl, World.ownsRow.mono (own_but HOWN.out HP9.out (Nat.lt_succ_self _)) (Nat.le_succ _), Below.but HB.out HP9.out (Nat.le_refl _)⟩
end Go.Proofs.YtmjlnckmhdgoiaaGreatDoor
