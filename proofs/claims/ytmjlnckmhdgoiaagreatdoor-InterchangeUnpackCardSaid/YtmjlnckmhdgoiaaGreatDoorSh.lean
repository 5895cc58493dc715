/- Contract of write. -/
import Derived.Test.YtmjlnckmhdgoiaaGreatDoorSg
namespace Go.Proofs.YtmjlnckmhdgoiaaGreatDoor
open Go.RowKit
set_option linter.unusedVariables false

/-- a loop that appends: ys is written, rest k is still to come, T is the whole -/
def WR (T : Bs) (rest : Nat → Bs) (n B : Nat) (w : World) (g : Nat) (v i : Value) (wr : World) : Prop :=
  ∃ (k : Nat) (ys : Bs), k + g = n ∧ i = .int .i64 (k : Int) ∧ OwnB wr B v ys ∧ ys ++ rest k = T ∧ Below B w wr
theorem encL_step {l : List (List Bs)} {k : Nat} (h : k < l.length) : encL (l.drop k) = 43 :: (encE l[k] ++ encL (l.drop (k + 1))) := by
  rw [List.drop_eq_getElem_cons h]; rfl
def encAt (e : List Bs) (j : Nat) : Bs := if j = 0 then encE e else encR (e.drop j)
theorem encAt_zero {e : List Bs} (h : 0 < e.length) : encAt e 0 = encC e[0] ++ encAt e (0 + 1) := by
  cases e with
  | nil => simp at h
  | cons c r => simp [encAt, encE]
theorem encAt_succ {e : List Bs} {j : Nat} (h : j < e.length) (h0 : 0 < j) : encAt e j = 58 :: (encC e[j] ++ encAt e (j + 1)) := by
  unfold encAt
  rw [if_neg (by omega), if_neg (by omega), List.drop_eq_getElem_cons h]; rfl
theorem encAt_end {e : List Bs} {j : Nat} (h : e.length ≤ j) : encAt e j = [] := by
  unfold encAt
  split
  · have : e = [] := List.eq_nil_of_length_eq_zero (by omega)
    subst this; rfl
  · rw [List.drop_eq_nil_of_le h]; rfl
theorem encC_step {c : Bs} {j : Nat} (h : j < c.length) : encC (c.drop j) = esc c[j] ++ encC (c.drop (j + 1)) := by
  rw [List.drop_eq_getElem_cons h]; rfl
theorem le_of_app {a b c : Bs} {n : Nat} (h : a ++ b = c) (hc : c.length ≤ n) : a.length ≤ n := by
  have := congrArg List.length h
  simp at this
  omega
set_option maxRecDepth 100000 in
set_option maxHeartbeats 4000000 in
theorem write_any (v : Value) (xs : Bs) (t : ByteArray) (A : Option Addr) (c : Nat) (l : List (List Bs)) (B : Nat) (w : World) (hown : OwnB w B v xs) (hB : B ≤ w.heap.size) (h : ElsAt w B A l)
    (hlen : (xs ++ encS ⟨t.data.toList, l⟩).length ≤ 1000000000) (hl1 : l.length ≤ 100) (hl2 : ∀ e ∈ l, e.length ≤ 100 ∧ ∀ c ∈ e, c.length ≤ 1000) :
    Calls Tryz.prog 70 #[v, .agg #[.string t, .slice A l.length c]] w fun e w' => ∃ v', e = .returned v' ∧ OwnB w' B v' (xs ++ encS ⟨t.data.toList, l⟩) ∧ Below B w w' := by
  have HS := Lib.hid (fun (c : UInt8) w => special_any c w)
  have HE : Hid (xs ++ encS ⟨t.data.toList, l⟩ = xs ++ t.data.toList ++ encL l ++ [39]) := by show _ = _; simp [encS, body]
  rw [HE.out] at hlen ⊢
  clear HE
  obtain ⟨T, hT⟩ : ∃ T, T = xs ++ t.data.toList ++ encL l := ⟨_, rfl⟩
  rw [← hT] at hlen ⊢
  have hTl : T.length ≤ 1000000000 := by simp at hlen; omega
  have HT := Lib.hid hT.symm
  have hxl : xs.length + t.size ≤ 1000000000 := by have := congrArg List.length hT; simp at this; omega
  clear hT hlen
  have hown0 := hown.alloc (.cells #[.string t, .slice A l.length c] 57)
  have hcc0 : (w.alloc (.cells #[.string t, .slice A l.length c] 57)).cell? ⟨w.heap.size, 0, none⟩ = some (.string t) := by simp
  have hcc1 : (w.alloc (.cells #[.string t, .slice A l.length c] 57)).cell? ⟨w.heap.size, 1, none⟩ = some (.slice A l.length c) := by simp
  have hz0 : w.heap.size < (w.alloc (.cells #[.string t, .slice A l.length c] 57)).heap.size := by simp
  have q0 := (Below.refl B w).alloc hB (.cells #[.string t, .slice A l.length c] 57)
  have hvb : some w.heap.size ≠ v.ownBlock := by intro e; have := (hown.lt e.symm).2; omega
  generalize hW : w.alloc (.cells #[.string t, .slice A l.length c] 57) = W at q0 hown0 hcc0 hcc1 hz0
  have HL3 := Lib.hid hl2
  clear hl2
  go_enter Tryz.func70, Tryz.ntmps70
  go_wp2_with (at_builtin; refine wpList_append_text W rfl (.tmp 10) (.tmp 12) rfl B v xs rfl hown0 t rfl hxl (Nat.le_trans hB q0.size) ?_; intro v1 w1 hown1 hb1 hg1; have hd1 : w1.cell? ⟨w.heap.size, 1, none⟩ = some (.slice A l.length c) := (hg1.cell_far ⟨w.heap.size, 1, none⟩ hz0 hvb).trans hcc1)
  have q1 := q0.trans hb1
  clear hg1 hd1 hcc0 hcc1 hz0 hvb hW hb1 hown0 hown
  have HO := Lib.hid hown1
  have HQ := Lib.hid q1
  clear hown1 q1 q0
  go_loopg [0, 17] l.length (fun g v i wr => WR T (fun k => encL (l.drop k)) l.length B w g v i wr)
  case atStart => exact ⟨0, _, by omega, rfl, HO.out, by simpa using HT.out, HQ.out⟩
  case round =>
    clear HO HQ HT hxl
    obtain ⟨k, ys, hk, rfl, hown, hys, hb⟩ := hrel
    have HK := Lib.hid hk
    have HY := Lib.hid hys
    have hk2 : k ≤ l.length := by omega
    have hyl := le_of_app hys hTl
    have hBr := Nat.le_trans hB hb.size
    clear hk hys
    by_cases hlt : k < l.length
    · have HST := Lib.hid (encL_step hlt)
      obtain ⟨b, off, A', c', rfl, hbb, hc, hr⟩ := (h.below hb).get hlt
      have hee := HL3.out l[k] (List.getElem_mem hlt)
      generalize l[k] = e at HST hc hr hee
      have he1 := hee.1
      have HE2 := Lib.hid hee.2
      have HY2 : Hid ((ys ++ [43]) ++ (encAt e 0 ++ encL (l.drop (k + 1))) = T) := by show _ = _; rw [← HY.out]; simp only; rw [HST.out]; simp [encAt]
      clear HST HY hee
      go_wp2_with (at_builtin; refine wpList_append_byte wr rfl (.tmp 21) (.tmp 22) rfl B _ ys 43 _ rfl rfl hown rfl hyl hBr ?_; intro v2 w2 hown2 hb2 _ _)
      have q2 := hb.trans hb2
      have HR := Lib.hid (hr.below hb2)
      have HO := Lib.hid hown2
      have HQ := Lib.hid q2
      clear hown2 q2 hb2 hown hb hr hc hyl hBr hbb
      have hB2 := Nat.le_trans hB HQ.out.size
      go_loopg [0, 26] e.length (fun g v i wr => WR T (fun j => encAt e j ++ encL (l.drop (k + 1))) e.length B w2 g v i wr)
      case atStart => exact ⟨0, _, by omega, rfl, HO.out, HY2.out, Below.refl _ _⟩
      case round =>
        clear HO HY2
        obtain ⟨j, ys, hj, rfl, hown, hys, hb⟩ := hrel
        have HJ := Lib.hid hj
        have HY := Lib.hid hys
        have hj2 : j ≤ e.length := by omega
        have hyl := le_of_app hys hTl
        have hBr := Nat.le_trans hB2 hb.size
        clear hj hys
        by_cases hlt2 : j < e.length
        · obtain ⟨b2, off2, rfl, hc2⟩ := (HR.out.below hb).rd.at_lit (strs_get hlt2)
          unfold str at hc2
          have hx := HE2.out e[j] (List.getElem_mem hlt2)
          by_cases hj0 : j = 0
          · have HST : Hid (encAt e j = encC e[j] ++ encAt e (j + 1)) := by show _ = _; subst hj0; exact encAt_zero hlt2
            generalize e[j] = x at HST hc2 hx
            have HY3 : Hid (ys ++ (encC x ++ (encAt e (j + 1) ++ encL (l.drop (k + 1)))) = T) := by show _ = _; rw [← HY.out]; simp only; rw [HST.out]; simp
            have hd0 : decide (0 < j) = false := by simp; omega
            clear HY HST hj0
            go_wp2
            have HO3 := Lib.hid hown
            have HQ3 := Lib.hid hb
            have hB3 := hBr
            clear hown hyl hBr hc2 hd0
            obtain ⟨Wi, rfl⟩ : ∃ Wi : World, Wi = wr := ⟨_, rfl⟩
            go_loopg [0, 38] x.length (fun g v i wr => WR T (fun i => encC (x.drop i) ++ (encAt e (j + 1) ++ encL (l.drop (k + 1)))) x.length B Wi g v i wr)
            case atStart => exact ⟨0, _, by omega, rfl, HO3.out, by simpa using HY3.out, Below.refl _ _⟩
            case round =>
              clear HO3 HY3
              obtain ⟨i, ys, hi, rfl, hown, hys, hb⟩ := hrel
              have HI := Lib.hid hi
              have HY := Lib.hid hys
              have hi2 : i ≤ x.length := by omega
              have hyl := le_of_app hys hTl
              have hBr := Nat.le_trans hB3 hb.size
              clear hi hys
              by_cases hlt3 : i < x.length
              · have HST := Lib.hid (encC_step hlt3)
                have HSC := Lib.hid (fun w => HS.out x[i] w)
                cases hsp : spec x[i] with
                | true =>
                  rw [hsp] at HSC
                  have HY4 : Hid ((ys ++ [63] ++ [x[i]]) ++ (encC (x.drop (i + 1)) ++ (encAt e (j + 1) ++ encL (l.drop (k + 1)))) = T) := by show _ = _; rw [← HY.out]; simp only; rw [HST.out, esc_spec hsp]; simp
                  have hyl2 : (ys ++ [63]).length ≤ 1000000000 := by have := HY4.out; have := congrArg List.length this; simp at this ⊢; omega
                  clear HY HST hsp
                  go_wp2_with (first
                    | (go_at_call 90; refine (HSC.out _).mono ?_; rintro e w' ⟨rfl, rfl⟩)
                    | (at_builtin; refine wpList_append_byte wr rfl (.tmp 45) (.tmp 46) rfl B _ ys 63 _ rfl rfl hown rfl hyl hBr ?_; intro v4 w4 hown4 hb4 _ _; have hBr4 := Nat.le_trans hBr hb4.size)
                    | (at_builtin; refine wpList_append_byte w4 rfl (.tmp 48) (.tmp 52) rfl B _ (ys ++ [63]) x[i] _ rfl rfl hown4 rfl hyl2 hBr4 ?_; intro v5 w5 hown5 hb5 _ _))
                  go_roundg (x.length - (i + 1))
                  case measure => have := HI.out; omega
                  case rel => exact ⟨i + 1, _, by omega, by go_num, hown5, HY4.out, (hb.trans hb4).trans hb5⟩
                | false =>
                  rw [hsp] at HSC
                  have HY4 : Hid ((ys ++ [x[i]]) ++ (encC (x.drop (i + 1)) ++ (encAt e (j + 1) ++ encL (l.drop (k + 1)))) = T) := by show _ = _; rw [← HY.out]; simp only; rw [HST.out, esc_plain hsp]; simp
                  clear HY HST hsp
                  go_wp2_with (first
                    | (go_at_call 90; refine (HSC.out _).mono ?_; rintro e w' ⟨rfl, rfl⟩)
                    | (at_builtin; refine wpList_append_byte wr rfl (.tmp 48) (.tmp 52) rfl B _ ys x[i] _ rfl rfl hown rfl hyl hBr ?_; intro v5 w5 hown5 hb5 _ _))
                  go_roundg (x.length - (i + 1))
                  case measure => have := HI.out; omega
                  case rel => exact ⟨i + 1, _, by omega, by go_num, hown5, HY4.out, hb.trans hb5⟩
              · have hge : x.length ≤ i := by omega
                have HY4 : Hid (ys ++ (encAt e (j + 1) ++ encL (l.drop (k + 1))) = T) := by show _ = _; rw [← HY.out]; simp only; rw [List.drop_eq_nil_of_le hge]; rfl
                clear hlt3 HY
                go_wp2
                go_roundg (e.length - (j + 1))
                case measure => have := HJ.out; omega
                case rel => exact ⟨j + 1, ys, by omega, by go_num, hown, HY4.out, HQ3.out.trans hb⟩
          · have hj1 : 0 < j := by omega
            have HST := Lib.hid (encAt_succ hlt2 hj1)
            generalize e[j] = x at HST hc2 hx
            have HY3 : Hid ((ys ++ [58]) ++ (encC x ++ (encAt e (j + 1) ++ encL (l.drop (k + 1)))) = T) := by show _ = _; rw [← HY.out]; simp only; rw [HST.out]; simp
            have hd0 : decide (0 < j) = true := by simpa using hj1
            clear HY HST hj0
            go_wp2_with (at_builtin; refine wpList_append_byte wr rfl (.tmp 33) (.tmp 34) rfl B _ ys 58 _ rfl rfl hown rfl hyl hBr ?_; intro v3 w3 hown3 hb3 _ _)
            have HO3 := Lib.hid hown3
            have HQ3 := Lib.hid (hb.trans hb3)
            have hB3 := Nat.le_trans hBr hb3.size
            clear hown hyl hBr hown3 hb3 hb hc2 hd0
            go_loopg [0, 38] x.length (fun g v i wr => WR T (fun i => encC (x.drop i) ++ (encAt e (j + 1) ++ encL (l.drop (k + 1)))) x.length B w3 g v i wr)
            case atStart => exact ⟨0, _, by omega, rfl, HO3.out, by simpa using HY3.out, Below.refl _ _⟩
            case round =>
              clear HO3 HY3
              obtain ⟨i, ys, hi, rfl, hown, hys, hb⟩ := hrel
              have HI := Lib.hid hi
              have HY := Lib.hid hys
              have hi2 : i ≤ x.length := by omega
              have hyl := le_of_app hys hTl
              have hBr := Nat.le_trans hB3 hb.size
              clear hi hys
              by_cases hlt3 : i < x.length
              · have HST := Lib.hid (encC_step hlt3)
                have HSC := Lib.hid (fun w => HS.out x[i] w)
                cases hsp : spec x[i] with
                | true =>
                  rw [hsp] at HSC
                  have HY4 : Hid ((ys ++ [63] ++ [x[i]]) ++ (encC (x.drop (i + 1)) ++ (encAt e (j + 1) ++ encL (l.drop (k + 1)))) = T) := by show _ = _; rw [← HY.out]; simp only; rw [HST.out, esc_spec hsp]; simp
                  have hyl2 : (ys ++ [63]).length ≤ 1000000000 := by have := HY4.out; have := congrArg List.length this; simp at this ⊢; omega
                  clear HY HST hsp
                  go_wp2_with (first
                    | (go_at_call 90; refine (HSC.out _).mono ?_; rintro e w' ⟨rfl, rfl⟩)
                    | (at_builtin; refine wpList_append_byte wr rfl (.tmp 45) (.tmp 46) rfl B _ ys 63 _ rfl rfl hown rfl hyl hBr ?_; intro v4 w4 hown4 hb4 _ _; have hBr4 := Nat.le_trans hBr hb4.size)
                    | (at_builtin; refine wpList_append_byte w4 rfl (.tmp 48) (.tmp 52) rfl B _ (ys ++ [63]) x[i] _ rfl rfl hown4 rfl hyl2 hBr4 ?_; intro v5 w5 hown5 hb5 _ _))
                  go_roundg (x.length - (i + 1))
                  case measure => have := HI.out; omega
                  case rel => exact ⟨i + 1, _, by omega, by go_num, hown5, HY4.out, (hb.trans hb4).trans hb5⟩
                | false =>
                  rw [hsp] at HSC
                  have HY4 : Hid ((ys ++ [x[i]]) ++ (encC (x.drop (i + 1)) ++ (encAt e (j + 1) ++ encL (l.drop (k + 1)))) = T) := by show _ = _; rw [← HY.out]; simp only; rw [HST.out, esc_plain hsp]; simp
                  clear HY HST hsp
                  go_wp2_with (first
                    | (go_at_call 90; refine (HSC.out _).mono ?_; rintro e w' ⟨rfl, rfl⟩)
                    | (at_builtin; refine wpList_append_byte wr rfl (.tmp 48) (.tmp 52) rfl B _ ys x[i] _ rfl rfl hown rfl hyl hBr ?_; intro v5 w5 hown5 hb5 _ _))
                  go_roundg (x.length - (i + 1))
                  case measure => have := HI.out; omega
                  case rel => exact ⟨i + 1, _, by omega, by go_num, hown5, HY4.out, hb.trans hb5⟩
              · have hge : x.length ≤ i := by omega
                have HY4 : Hid (ys ++ (encAt e (j + 1) ++ encL (l.drop (k + 1))) = T) := by show _ = _; rw [← HY.out]; simp only; rw [List.drop_eq_nil_of_le hge]; rfl
                clear hlt3 HY
                go_wp2
                go_roundg (e.length - (j + 1))
                case measure => have := HJ.out; omega
                case rel => exact ⟨j + 1, ys, by omega, by go_num, hown, HY4.out, HQ3.out.trans hb⟩
        · have hge : e.length ≤ j := by omega
          have HY3 : Hid (ys ++ encL (l.drop (k + 1)) = T) := by show _ = _; rw [← HY.out]; simp only; rw [encAt_end hge]; rfl
          clear hlt2 HY
          go_wp2
          go_roundg (l.length - (k + 1))
          case measure => have := HK.out; omega
          case rel => exact ⟨k + 1, ys, by omega, by go_num, hown, HY3.out, HQ.out.trans hb⟩
    · have hge : l.length ≤ k := by omega
      have HY3 : Hid (ys = T) := by show _ = _; rw [← HY.out]; simp only; rw [List.drop_eq_nil_of_le hge]; simp [encL]
      clear hlt HY
      go_wp2_with (at_builtin; refine wpList_append_byte wr rfl (.tmp 57) (.tmp 58) rfl B _ ys 39 _ rfl rfl hown rfl hyl hBr ?_; intro v2 w2 hown2 hb2 _ _)
      go_ret
      exact ⟨_, rfl, by rw [← HY3.out]; exact hown2, hb.trans hb2⟩
end Go.Proofs.YtmjlnckmhdgoiaaGreatDoor
