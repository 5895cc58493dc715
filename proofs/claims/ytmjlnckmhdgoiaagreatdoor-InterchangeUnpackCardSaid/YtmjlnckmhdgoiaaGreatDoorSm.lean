/- Contract of cut. -/
import Derived.Test.YtmjlnckmhdgoiaaGreatDoorSl
import Derived.Laws.Slices
namespace Go.Proofs.YtmjlnckmhdgoiaaGreatDoor
open Go.RowKit
set_option linter.unusedVariables false

set_option maxRecDepth 100000 in
theorem cut_none {d : UInt8} : ∀ {b : Bs}, findF d b = none → cutF d b = [b]
  | [], _ => rfl
  | x :: r, h => by
    by_cases h1 : x = 63
    · subst h1
      cases r with
      | nil => rfl
      | cons y r' =>
        rw [find_pair, Option.map_eq_none_iff] at h
        rw [cut_pair, cut_none h]
        rfl
    · by_cases h2 : x = d
      · subst h2; rw [find_hit h1] at h; cases h
      · rw [find_step h1 h2, Option.map_eq_none_iff] at h
        rw [cut_step h1 h2, cut_none h]
        rfl
set_option maxRecDepth 100000 in
theorem cut_some {d : UInt8} : ∀ {b : Bs} {n : Nat}, findF d b = some n → cutF d b = b.take n :: cutF d (b.drop (n + 1))
  | [], n, h => by simp [findF] at h
  | x :: r, n, h => by
    by_cases h1 : x = 63
    · subst h1
      cases r with
      | nil => simp [findF] at h
      | cons y r' =>
        rw [find_pair] at h
        obtain ⟨m, hm, rfl⟩ := Option.map_eq_some_iff.1 h
        rw [cut_pair, cut_some hm]
        simp [onHead]
    · by_cases h2 : x = d
      · subst h2
        rw [find_hit h1] at h
        injection h with h
        subst h
        rw [cut_hit h1]
        simp
      · rw [find_step h1 h2] at h
        obtain ⟨m, hm, rfl⟩ := Option.map_eq_some_iff.1 h
        rw [cut_step h1 h2, cut_some hm]
        simp [onHead]
set_option maxRecDepth 100000 in
/-- b[:k] and b[k:] -/
theorem head_run (W : World) (A : Option Addr) (n c k : Nat) (hk : k ≤ c) :
    (Instr.slice 23 (.slice A n c) none (some (.int .i64 (k : Int))) none).run Tryz.prog W = .ok (.slice A k c) W := by
  rw [run_slice_h W 23 A n c (by kernel_rfl) .i64 (k : Int) (by omega) (by omega)]
  have hs : (sizeOf (Tryz.prog.elem 23)).run Tryz.prog W = .ok 1 W := by kernel_rfl
  rw [hs]
  have : A.map (fun x => x.add 0) = A := by cases A <;> simp [Addr.add]
  simp [sliced, Result.andThen, this]
theorem tail_run (W : World) (A : Option Addr) (n c k : Nat) (hk : k ≤ n) :
    (Instr.slice 23 (.slice A n c) (some (.int .i64 (k : Int))) none none).run Tryz.prog W = .ok (.slice (if c = k then A else A.map (·.add (k * 1))) (n - k) (c - k)) W :=
  run_cut W 23 5 1 Tryz.underlying23 (by kernel_rfl) (by kernel_rfl) A n c k hk
set_option maxRecDepth 100000 in
theorem tail_at {w : World} {B : Nat} {A : Option Addr} {b : Bs} {c k : Nat} (h : RdB w B A (u8s b)) (hc : b.length ≤ c) (hk : k ≤ b.length) :
    ∃ A', (∀ W, (Instr.slice 23 (.slice A b.length c) (some (.int .i64 (k : Int))) none none).run Tryz.prog W = .ok (.slice A' (b.drop k).length (c - k)) W) ∧ RdB w B A' (u8s (b.drop k)) := by
  refine ⟨if c = k then A else A.map (·.add (k * 1)), fun W => by rw [tail_run W A b.length c k hk, List.length_drop], ?_⟩
  by_cases h1 : c = k
  · have : b.drop k = [] := List.drop_eq_nil_of_le (by omega)
    rw [this]
    exact RdB.nil _ _ _
  · rw [if_neg h1, Nat.mul_one]
    have := h.drop k
    rwa [u8s, ← List.map_drop] at this
theorem RdB.takeB {w : World} {B : Nat} {A : Option Addr} {b : Bs} (h : RdB w B A (u8s b)) (k : Nat) : RdB w B A (u8s (b.take k)) := by
  have := h.take k
  rwa [u8s, ← List.map_take] at this

theorem partInfo : (Tryz.prog.info? 23).map (fun i => (i.zero, i.size, i.bytes)) = some (some (.slice none 0 0), 1, 24) := by kernel_rfl
/-- slices that read as the parts ps, below B -/
def PartsAt (w : World) (B : Nat) (cs : List Value) (ps : List Bs) : Prop := cs.length = ps.length ∧ ∀ (i : Nat) (p : Bs), ps[i]? = some p → ∃ A c, cs[i]? = some (.slice A p.length c) ∧ p.length ≤ c ∧ RdB w B A (u8s p)
theorem PartsAt.nil (w : World) (B : Nat) : PartsAt w B [] [] := ⟨rfl, fun i p h => by simp at h⟩
set_option maxRecDepth 100000 in
theorem PartsAt.snoc {w : World} {B : Nat} {cs : List Value} {ps : List Bs} (h : PartsAt w B cs ps) {A : Option Addr} {c : Nat} {p : Bs} (hc : p.length ≤ c) (hr : RdB w B A (u8s p)) : PartsAt w B (cs ++ [.slice A p.length c]) (ps ++ [p]) := by
  refine ⟨by simp [h.1], fun i q hq => ?_⟩
  by_cases hi : i < ps.length
  · rw [List.getElem?_append_left hi] at hq
    obtain ⟨A', c', h1, h2⟩ := h.2 i q hq
    exact ⟨A', c', by rw [List.getElem?_append_left (by rw [h.1]; exact hi)]; exact h1, h2⟩
  · rw [List.getElem?_append_right (by omega)] at hq
    have h0 : i - ps.length = 0 := by
      rcases Nat.eq_zero_or_pos (i - ps.length) with h | h
      · exact h
      · rw [List.getElem?_eq_none (by simp; omega)] at hq; cases hq
    rw [h0] at hq
    simp at hq
    subst hq
    exact ⟨A, c, by rw [List.getElem?_append_right (by rw [h.1]; omega), h.1, h0]; rfl, hc, hr⟩
theorem PartsAt.below {w w' : World} {B : Nat} {cs : List Value} {ps : List Bs} (h : PartsAt w B cs ps) (hb : Below B w w') : PartsAt w' B cs ps :=
  ⟨h.1, fun i p hp => by obtain ⟨A, c, h1, h2, h3⟩ := h.2 i p hp; exact ⟨A, c, h1, h2, h3.below hb⟩⟩
def CutRet (w : World) (ps : List Bs) (e : Ending) (w' : World) : Prop :=
  ∃ v cs, e = .returned v ∧ w'.ownsRow w.heap.size 23 1 v ps.length cs ∧ PartsAt w' w.heap.size cs ps ∧ Below w.heap.size w w'
def CutRel (P : List Bs) (d : UInt8) (w : World) (g : Nat) (s v : Value) (wr : World) : Prop :=
  ∃ (A : Option Addr) (b : Bs) (c : Nat) (ps : List Bs) (cs : List Value), b.length = g ∧ s = .slice A b.length c ∧ RdB w w.heap.size A (u8s b) ∧ b.length ≤ c ∧
    wr.ownsRow w.heap.size 23 1 v ps.length cs ∧ PartsAt w w.heap.size cs ps ∧ ps ++ cutF d b = P ∧ Below w.heap.size w wr ∧ ps.length + b.length ≤ 1000000000
set_option maxRecDepth 100000 in
set_option maxHeartbeats 1000000 in
theorem cut_any (A : Option Addr) (c : Nat) (b : Bs) (d : UInt8) (w : World) (hr : RdB w w.heap.size A (u8s b)) (hc : b.length ≤ c) (hl : b.length ≤ 1000000000) :
    Calls Tryz.prog 76 #[.slice A b.length c, .int .u8 (d.toNat : Int)] w (CutRet w (cutF d b)) := by
  obtain ⟨i0, hi0, hz0, hz1, hz2⟩ := info_parts partInfo
  generalize hP : cutF d b = P
  have HP := Lib.hid hP
  clear hP
  go_enter Tryz.func76, Tryz.ntmps76
  go_wp2
  go_loopg [0, 5] b.length (fun g s v wr => CutRel P d w g s v wr)
  case atStart => exact ⟨A, b, c, [], [], rfl, rfl, hr, hc, World.ownsRow_nil _ _ _ _, PartsAt.nil _ _, HP.out, Below.refl _ _, by simpa using hl⟩
  case round =>
    clear HP
    obtain ⟨A, b, c, ps, cs, hg, rfl, hr, hc, hown, hps, hcut, hb, hlen⟩ := hrel
    have HG := Lib.hid hg
    have HC := Lib.hid hcut
    have hBr := hb.size
    clear hg hcut
    have HF := Lib.hid (find_any A c b d wr (hr.below hb).rd (by omega))
    cases hf : findF d b with
    | none =>
      have HF2 : Hid (Calls Tryz.prog 75 #[.slice A b.length c, .int .u8 (d.toNat : Int)] wr fun e w' => e = .returned (.int .i64 (-1)) ∧ wr = w') := by show Calls _ _ _ _ _; rw [← findI_none hf]; exact HF.out
      have HC2 : Hid (ps ++ [b] = P) := by show _ = _; rw [← HC.out, cut_none hf]
      clear hf HF HC
      go_wp2_with (first
        | (go_at_call 75; refine HF2.out.mono ?_; rintro e w' ⟨rfl, rfl⟩)
        | (at_builtin; refine wpList_append_new wr rfl (.tmp 12) (.tmp 14) 86 rfl w.heap.size 23 i0 _ 1 24 Tryz.underlying86 hi0 hz0 hz1 hz2 rfl (by omega) _ ps.length cs [.slice A b.length c] rfl (by simp [Value.oneCell']) rfl hown rfl (by unfold maxLen; omega) (by omega) hBr ?_; intro v2 w2 hown2 hb2 _ _))
      go_ret
      have hps2 := (hps.snoc hc hr).below (hb.trans hb2)
      refine ⟨_, _, rfl, ?_, by rw [← HC2.out]; exact hps2, hb.trans hb2⟩
      rw [← HC2.out, List.length_append]
      exact hown2
    | some n =>
      have HF2 : Hid (Calls Tryz.prog 75 #[.slice A b.length c, .int .u8 (d.toNat : Int)] wr fun e w' => e = .returned (.int .i64 (n : Int)) ∧ wr = w') := by show Calls _ _ _ _ _; rw [← findI_some hf]; exact HF.out
      have HC2 : Hid ((ps ++ [b.take n]) ++ cutF d (b.drop (n + 1)) = P) := by show _ = _; rw [← HC.out, cut_some hf]; simp
      have hn := (find_lt hf).1
      have hhd := fun W => head_run W A b.length c n (by omega)
      obtain ⟨A', htl, hr'⟩ := tail_at (k := n + 1) hr hc (by omega)
      rw [show ((n + 1 : Nat) : Int) = (n : Int) + 1 by omega] at htl
      have htk : (b.take n).length = n := by rw [List.length_take]; omega
      have hps1 : PartsAt w w.heap.size (cs ++ [.slice A n c]) (ps ++ [b.take n]) := by
        have := hps.snoc (p := b.take n) (c := c) (A := A) (by omega) (hr.takeB n)
        rwa [htk] at this
      have hdl : (b.drop (n + 1)).length < b.length := by rw [List.length_drop]; omega
      have hdc : (b.drop (n + 1)).length ≤ c - (n + 1) := by rw [List.length_drop]; omega
      have hdn : ps.length + 1 + (b.drop (n + 1)).length ≤ 1000000000 := by rw [List.length_drop]; omega
      generalize b.drop (n + 1) = b' at *
      have HPS := Lib.hid hps1
      have HR := Lib.hid hr'
      clear hf HF HC hps hr hps1 hr' htk
      go_wp2_with (first
        | (go_at_call 75; refine HF2.out.mono ?_; rintro e w' ⟨rfl, rfl⟩)
        | (at_builtin; refine wpList_append_new wr rfl (.tmp 16) (.tmp 20) 86 rfl w.heap.size 23 i0 _ 1 24 Tryz.underlying86 hi0 hz0 hz1 hz2 rfl (by omega) _ ps.length cs [.slice A n c] rfl (by simp [Value.oneCell']) rfl hown rfl (by unfold maxLen; omega) (by omega) hBr ?_; intro v2 w2 hown2 hb2 _ _))
      go_roundg b'.length
      case measure => have := HG.out; omega
      case rel => exact ⟨A', b', c - (n + 1), ps ++ [b.take n], _, rfl, rfl, HR.out, hdc, by rw [List.length_append]; exact hown2, HPS.out, HC2.out, hb.trans hb2, by rw [List.length_append]; simpa using hdn⟩
end Go.Proofs.YtmjlnckmhdgoiaaGreatDoor
