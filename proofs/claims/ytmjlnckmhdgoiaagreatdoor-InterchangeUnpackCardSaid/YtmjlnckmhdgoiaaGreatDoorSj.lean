/- Contracts of the reference's text and Encode. -/
import Derived.Test.YtmjlnckmhdgoiaaGreatDoorSi
import Derived.Test.YtmjlnckmhdgoiaaGreatDoorOwnM
import Derived.Laws.IdiomStrings
import Derived.Laws.BytesArg
namespace Go.Proofs.YtmjlnckmhdgoiaaGreatDoor
open Go.RowKit
set_option linter.unusedVariables false

set_option maxRecDepth 100000 in
/-- string(b) -/
theorem conv_back (w : World) (A : Option Addr) (c : Nat) (xs : Bs) (hr : Rd w A (u8s xs)) : (convert 23 9 (.slice A xs.length c)).run Tryz.prog w = .ok (.string ⟨xs.toArray⟩) w := by
  rcases A with _ | ad
  · have hx : xs = [] := by
      cases xs with
      | nil => rfl
      | cons x r => obtain ⟨ad, h, _⟩ := hr 0 (u8 x) rfl; cases h
    subst hx
    exact run_convert_bytes_nil w 23 5 Tryz.underlying23 Tryz.underlying5 0 c 9 Tryz.underlying9
  · exact run_convert_bytes_back w 23 9 5 ad c xs Tryz.underlying23 Tryz.underlying5 Tryz.underlying9 (fun j hj => by
      obtain ⟨ad', h, hc⟩ := hr j _ (u8s_get hj)
      injection h with h
      subst h
      exact hc)
/-- []byte(s) -/
theorem conv_bytes (w : World) (s : ByteArray) : (convert 9 23 (.string s)).run Tryz.prog w = .ok (.slice (some ⟨w.heap.size, 0, none⟩) s.size (grownCap w s.size 0 5)) (Lib.bytesWorld w 5 s) :=
  Lib.run_convert_string_bytes w 9 23 5 s Tryz.underlying9 Tryz.underlying23 Tryz.underlying5
def OwnMB (w : World) (B : Nat) (v : Value) (xs : Bs) : Prop := OwnM w B 5 1 v xs.length (u8s xs)
theorem OwnMB.below {w w' : World} {B : Nat} {v : Value} {xs : Bs} (h : OwnMB w B v xs) (hb : Below w.heap.size w w') : OwnMB w' B v xs := OwnM.below h hb
theorem OwnMB.mono {w : World} {B B' : Nat} {v : Value} {xs : Bs} (h : OwnMB w B v xs) (hb : B' ≤ B) : OwnMB w B' v xs := OwnM.mono h hb
theorem OwnMB.of_string (w : World) (s : ByteArray) (hm : s.size ≤ 1000000000) : OwnMB (Lib.bytesWorld w 5 s) w.heap.size (.slice (some ⟨w.heap.size, 0, none⟩) s.size (grownCap w s.size 0 5)) s.data.toList := by
  have := OwnM.of_string w 5 s hm
  unfold OwnMB
  rw [show s.data.toList.length = s.size by simp]
  exact this
theorem OwnMB.of_b {w : World} {B : Nat} {v : Value} {xs : Bs} (h : OwnB w B v xs) : OwnMB w B v xs := OwnM.of_x (OwnX.of_row h)
theorem OwnMB.shape {w : World} {B : Nat} {v : Value} {xs : Bs} (h : OwnMB w B v xs) : ∃ A c, v = .slice A xs.length c ∧ Rd w A (u8s xs) ∧ xs.length ≤ c ∧ c ≤ maxLen := OwnM.shape h
theorem OwnMB.lt {w : World} {B : Nat} {v : Value} {xs : Bs} (h : OwnMB w B v xs) {g : Nat} (hg : v.ownBlock = some g) : B ≤ g ∧ g < w.heap.size := OwnM.block_lt h hg
set_option maxRecDepth 100000 in
theorem wpList_append_byteM (w : World) {ops : Array Oper} {rest : List Oper} {o : Oper} {a : Act} {Q : Exit → Act → World → Prop} (hgd : o.guard = none) (s x : Operand)
    (ho : o.op = .call { callee := .builtin .append, args := #[s, x], argTypes := #[23, 23] })
    (B : Nat) (v : Value) (xs : Bs) (c : UInt8) (u : Value) (hu : u8 c = u) (hs : a.eval s = v) (hown : OwnMB w B v xs) (hx : a.eval x = .slice (some ⟨w.heap.size, 0, none⟩) 1 1)
    (hb : xs.length ≤ 1000000000) (hB : B ≤ w.heap.size)
    (h : ∀ v' w', OwnMB w' B v' (xs ++ [c]) → Below B w w' → wpList Tryz.prog ops Q rest (a.put o.dst v') w') : wpList Tryz.prog ops Q (o :: rest) a (w.alloc (.cells #[u] 5)) := by
  subst hu
  obtain ⟨i0, hi0, hz0, hz1, hz2⟩ := info_parts byteInfo
  have hown1 : OwnM (w.alloc (.cells #[u8 c] 5)) B 5 1 v xs.length (u8s xs) := OwnM.alloc hown (.cells #[u8 c] 5)
  refine wpList_append_m (w.alloc (.cells #[u8 c] 5)) hgd s x 23 ho B 5 i0 _ 1 1 Tryz.underlying23 hi0 hz0 hz1 hz2 rfl (by omega) v xs.length (u8s xs) hs hown1 ⟨w.heap.size, 0, none⟩ 1 1 [u8 c] hx (by simp) (fun j y hy => cell_one_new w _ _ j y hy) (by simp [u8, Value.oneCell']) (by unfold maxLen; omega) (by omega) (by simp; omega) ?_
  intro v' w' h1 h2 h4
  have hb2 : Below B (w.alloc (.cells #[u8 c] 5)) w' := (Below.refl _ _).grown h2 (by simp; omega) (fun g e => (hown1.block_lt e).1)
  refine h v' w' ?_ (((Below.refl B w).alloc hB _).trans hb2)
  unfold OwnMB
  rw [List.length_append]
  simpa [u8s] using h1
/-- a loop that appends to a row that may come of a string -/
def WM (T : Bs) (rest : Nat → Bs) (n B : Nat) (w : World) (g : Nat) (v i : Value) (wr : World) : Prop :=
  ∃ (k : Nat) (ys : Bs), k + g = n ∧ i = .int .i64 (k : Int) ∧ OwnMB wr B v ys ∧ ys ++ rest k = T ∧ Below B w wr
set_option maxRecDepth 100000 in
set_option maxHeartbeats 4000000 in
theorem text_any (t : ByteArray) (A : Option Addr) (c : Nat) (l : List (List Bs)) (w : World) (h : ElsAt w w.heap.size A l)
    (hlen : (encS ⟨t.data.toList, l⟩).length ≤ 1000000000) (hl1 : l.length ≤ 100) (hl2 : ∀ e ∈ l, e.length ≤ 100 ∧ ∀ c ∈ e, c.length ≤ 1000) :
    Calls Tryz.prog 24 #[.agg #[.string t, .slice A l.length c]] w fun e w' => e = .returned (.string ⟨(encS ⟨t.data.toList, l⟩).toArray⟩) ∧ Below w.heap.size w w' := by
  have HS := Lib.hid (fun (c : UInt8) w => refSpecial_any c w)
  have HE : Hid (encS ⟨t.data.toList, l⟩ = t.data.toList ++ encL l ++ [39]) := by show _ = _; simp [encS, body]
  rw [HE.out] at hlen ⊢
  clear HE
  obtain ⟨T, hT⟩ : ∃ T, T = t.data.toList ++ encL l := ⟨_, rfl⟩
  rw [← hT] at hlen ⊢
  have hTl : T.length ≤ 1000000000 := by simp at hlen; omega
  have HT := Lib.hid hT.symm
  have hxl : t.size ≤ 1000000000 := by have := congrArg List.length hT; simp at this; omega
  clear hT hlen
  have hcc0 : (w.alloc (.cells #[.string t, .slice A l.length c] 57)).cell? ⟨w.heap.size, 0, none⟩ = some (.string t) := by simp
  have hcc1 : (w.alloc (.cells #[.string t, .slice A l.length c] 57)).cell? ⟨w.heap.size, 1, none⟩ = some (.slice A l.length c) := by simp
  have hz0 : w.heap.size < (w.alloc (.cells #[.string t, .slice A l.length c] 57)).heap.size := by simp
  have q0 := (Below.refl w.heap.size w).alloc (Nat.le_refl _) (.cells #[.string t, .slice A l.length c] 57)
  generalize hW : w.alloc (.cells #[.string t, .slice A l.length c] 57) = W at q0 hcc0 hcc1 hz0
  have hcv := conv_bytes W t
  have hown1 := OwnMB.of_string W t hxl
  have q1 := bytesWorld_below W 5 t
  generalize hW1 : Lib.bytesWorld W 5 t = W1 at hown1 q1 hcv
  have HL3 := Lib.hid hl2
  clear hl2 hW1
  go_enter Tryz.func24, Tryz.ntmps24
  go_wp2
  have hE := (h.below q0).mono (Nat.le_of_lt hz0)
  have HO := Lib.hid hown1
  have HQ1 := Lib.hid q1
  clear hcv hW hown1 q1 hcc0
  go_loopg [3, 4] l.length (fun g v i wr => WM T (fun k => encL (l.drop k)) l.length W.heap.size W g v i wr)
  case atStart => exact ⟨0, _, by omega, rfl, HO.out, by simpa using HT.out, HQ1.out⟩
  case round =>
    clear HO HQ1 HT hxl
    obtain ⟨k, ys, hk, rfl, hown, hys, hb⟩ := hrel
    have HK := Lib.hid hk
    have HY := Lib.hid hys
    have hk2 : k ≤ l.length := by omega
    have hyl := le_of_app hys hTl
    have hBr := hb.size
    have hd1 : wr.cell? ⟨w.heap.size, 1, none⟩ = some (.slice A l.length c) := (hb.cell (p := ⟨w.heap.size, 1, none⟩) hz0).trans hcc1
    clear hk hys
    by_cases hlt : k < l.length
    · have HST := Lib.hid (encL_step hlt)
      obtain ⟨b, off, A', c', rfl, hbb, hc, hr⟩ := (hE.below hb).get hlt
      have hee := HL3.out l[k] (List.getElem_mem hlt)
      generalize l[k] = e at HST hc hr hee
      have he1 := hee.1
      have HE2 := Lib.hid hee.2
      have HY2 : Hid ((ys ++ [43]) ++ (encAt e 0 ++ encL (l.drop (k + 1))) = T) := by show _ = _; rw [← HY.out]; simp only; rw [HST.out]; simp [encAt]
      clear HST HY hee
      go_wp2_with (at_builtin; refine wpList_append_byteM wr rfl (.tmp 18) (.tmp 19) rfl W.heap.size _ ys 43 _ rfl rfl hown rfl hyl hBr ?_; intro v2 w2 hown2 hb2)
      have q2 := hb.trans hb2
      have HR := Lib.hid (hr.below hb2)
      have HO := Lib.hid hown2
      have HQ := Lib.hid q2
      have hd2 : w2.cell? ⟨w.heap.size, 1, none⟩ = some (.slice (some ⟨b, off, none⟩) l.length c) := (hb2.cell (p := ⟨w.heap.size, 1, none⟩) hz0).trans hd1
      have hc2 : w2.cell? ⟨b, off + k, none⟩ = some (.slice A' e.length c') := (hb2.cell (p := ⟨b, off + k, none⟩) hbb).trans hc
      clear hown2 q2 hb2 hown hb hr hc hyl hBr hd1
      have hB2 := HQ.out.size
      go_loopg [3, 5] e.length (fun g v i wr => WM T (fun j => encAt e j ++ encL (l.drop (k + 1))) e.length W.heap.size w2 g v i wr)
      case atStart => exact ⟨0, _, by omega, rfl, HO.out, HY2.out, Below.refl _ _⟩
      case round =>
        clear HO HY2
        obtain ⟨j, ys, hj, rfl, hown, hys, hb⟩ := hrel
        have HJ := Lib.hid hj
        have HY := Lib.hid hys
        have hj2 : j ≤ e.length := by omega
        have hyl := le_of_app hys hTl
        have hBr := Nat.le_trans hB2 hb.size
        have hd3 : wr.cell? ⟨w.heap.size, 1, none⟩ = some (.slice (some ⟨b, off, none⟩) l.length c) := (hb.cell (p := ⟨w.heap.size, 1, none⟩) hz0).trans hd2
        have hc3 : wr.cell? ⟨b, off + k, none⟩ = some (.slice A' e.length c') := (hb.cell (p := ⟨b, off + k, none⟩) hbb).trans hc2
        clear hj hys
        by_cases hlt2 : j < e.length
        · obtain ⟨b2, off2, rfl, hx2⟩ := (HR.out.below hb).rd.at_lit (strs_get hlt2)
          have hxb : b2 < W.heap.size := by
            obtain ⟨ad, h4, h5, _⟩ := HR.out j _ (strs_get hlt2)
            injection h4 with h4
            subst h4
            exact h5
          unfold str at hx2
          have hx := HE2.out e[j] (List.getElem_mem hlt2)
          by_cases hj0 : j = 0
          · have HST : Hid (encAt e j = encC e[j] ++ encAt e (j + 1)) := by show _ = _; subst hj0; exact encAt_zero hlt2
            generalize e[j] = x at HST hx2 hx
            have HY3 : Hid (ys ++ (encC x ++ (encAt e (j + 1) ++ encL (l.drop (k + 1)))) = T) := by show _ = _; rw [← HY.out]; simp only; rw [HST.out]; simp
            have hd0 : decide (0 < j) = false := by simp; omega
            clear HY HST hj0
            go_wp2
            have HO3 := Lib.hid hown
            have HQ3 := Lib.hid hb
            have hB3 := hBr
            clear hown hyl hBr hx2 hd0 hd3 hc3
            obtain ⟨Wi, rfl⟩ : ∃ Wi : World, Wi = wr := ⟨_, rfl⟩
            go_loopg [3, 7] x.length (fun g v i wr => WM T (fun i => encC (x.drop i) ++ (encAt e (j + 1) ++ encL (l.drop (k + 1)))) x.length W.heap.size Wi g v i wr)
            case atStart => exact ⟨0, _, by omega, rfl, HO3.out, by simpa using HY3.out, Below.refl _ _⟩
            case round =>
              clear HO3 HY3
              obtain ⟨i, ys, hi, rfl, hown, hys, hb⟩ := hrel
              have HI := Lib.hid hi
              have HY := Lib.hid hys
              have hi2 : i ≤ x.length := by omega
              have hyl := le_of_app hys hTl
              have hBr := Nat.le_trans hB3 hb.size
              clear hi hys
              by_cases hlt3 : i < x.length
              · have HST := Lib.hid (encC_step hlt3)
                have HSC := Lib.hid (fun w => HS.out x[i] w)
                cases hsp : spec x[i] with
                | true =>
                  rw [hsp] at HSC
                  have HY4 : Hid ((ys ++ [63] ++ [x[i]]) ++ (encC (x.drop (i + 1)) ++ (encAt e (j + 1) ++ encL (l.drop (k + 1)))) = T) := by show _ = _; rw [← HY.out]; simp only; rw [HST.out, esc_spec hsp]; simp
                  have hyl2 : (ys ++ [63]).length ≤ 1000000000 := by have := HY4.out; have := congrArg List.length this; simp at this ⊢; omega
                  clear HY HST hsp
                  go_wp2_with (first
                    | (go_at_call 56; refine (HSC.out _).mono ?_; rintro e w' ⟨rfl, rfl⟩)
                    | (at_builtin; refine wpList_append_byteM wr rfl (.tmp 54) (.tmp 55) rfl W.heap.size _ ys 63 _ rfl rfl hown rfl hyl hBr ?_; intro v4 w4 hown4 hb4; have hBr4 := Nat.le_trans hBr hb4.size)
                    | (at_builtin; refine wpList_append_byteM w4 rfl (.tmp 57) (.tmp 61) rfl W.heap.size _ (ys ++ [63]) x[i] _ rfl rfl hown4 rfl hyl2 hBr4 ?_; intro v5 w5 hown5 hb5))
                  go_roundg (x.length - (i + 1))
                  case measure => have := HI.out; omega
                  case rel => exact ⟨i + 1, _, by omega, by go_num, hown5, HY4.out, (hb.trans hb4).trans hb5⟩
                | false =>
                  rw [hsp] at HSC
                  have HY4 : Hid ((ys ++ [x[i]]) ++ (encC (x.drop (i + 1)) ++ (encAt e (j + 1) ++ encL (l.drop (k + 1)))) = T) := by show _ = _; rw [← HY.out]; simp only; rw [HST.out, esc_plain hsp]; simp
                  clear HY HST hsp
                  go_wp2_with (first
                    | (go_at_call 56; refine (HSC.out _).mono ?_; rintro e w' ⟨rfl, rfl⟩)
                    | (at_builtin; refine wpList_append_byteM wr rfl (.tmp 57) (.tmp 61) rfl W.heap.size _ ys x[i] _ rfl rfl hown rfl hyl hBr ?_; intro v5 w5 hown5 hb5))
                  go_roundg (x.length - (i + 1))
                  case measure => have := HI.out; omega
                  case rel => exact ⟨i + 1, _, by omega, by go_num, hown5, HY4.out, hb.trans hb5⟩
              · have hge : x.length ≤ i := by omega
                have HY4 : Hid (ys ++ (encAt e (j + 1) ++ encL (l.drop (k + 1))) = T) := by show _ = _; rw [← HY.out]; simp only; rw [List.drop_eq_nil_of_le hge]; rfl
                clear hlt3 HY
                go_wp2
                go_roundg (e.length - (j + 1))
                case measure => have := HJ.out; omega
                case rel => exact ⟨j + 1, ys, by omega, by go_num, hown, HY4.out, HQ3.out.trans hb⟩
          · have hj1 : 0 < j := by omega
            have HST := Lib.hid (encAt_succ hlt2 hj1)
            generalize e[j] = x at HST hx2 hx
            have HY3 : Hid ((ys ++ [58]) ++ (encC x ++ (encAt e (j + 1) ++ encL (l.drop (k + 1)))) = T) := by show _ = _; rw [← HY.out]; simp only; rw [HST.out]; simp
            have hd0 : decide (0 < j) = true := by simpa using hj1
            clear HY HST hj0
            go_wp2_with (at_builtin; refine wpList_append_byteM wr rfl (.tmp 33) (.tmp 34) rfl W.heap.size _ ys 58 _ rfl rfl hown rfl hyl hBr ?_; intro v3 w3 hown3 hb3; have hd4 : w3.cell? ⟨w.heap.size, 1, none⟩ = some (.slice (some ⟨b, off, none⟩) l.length c) := (hb3.cell (p := ⟨w.heap.size, 1, none⟩) hz0).trans hd3; have hc4 : w3.cell? ⟨b, off + k, none⟩ = some (.slice (some ⟨b2, off2, none⟩) e.length c') := (hb3.cell (p := ⟨b, off + k, none⟩) hbb).trans hc3; have hx4 : w3.cell? ⟨b2, off2 + j, none⟩ = some (.string ⟨x.toArray⟩) := (hb3.cell (p := ⟨b2, off2 + j, none⟩) hxb).trans hx2)
            have HO3 := Lib.hid hown3
            have HQ3 := Lib.hid (hb.trans hb3)
            have hB3 := Nat.le_trans hBr hb3.size
            clear hown hyl hBr hown3 hb3 hb hx2 hd0 hd3 hc3 hd4 hc4 hx4
            go_loopg [3, 7] x.length (fun g v i wr => WM T (fun i => encC (x.drop i) ++ (encAt e (j + 1) ++ encL (l.drop (k + 1)))) x.length W.heap.size w3 g v i wr)
            case atStart => exact ⟨0, _, by omega, rfl, HO3.out, by simpa using HY3.out, Below.refl _ _⟩
            case round =>
              clear HO3 HY3
              obtain ⟨i, ys, hi, rfl, hown, hys, hb⟩ := hrel
              have HI := Lib.hid hi
              have HY := Lib.hid hys
              have hi2 : i ≤ x.length := by omega
              have hyl := le_of_app hys hTl
              have hBr := Nat.le_trans hB3 hb.size
              clear hi hys
              by_cases hlt3 : i < x.length
              · have HST := Lib.hid (encC_step hlt3)
                have HSC := Lib.hid (fun w => HS.out x[i] w)
                cases hsp : spec x[i] with
                | true =>
                  rw [hsp] at HSC
                  have HY4 : Hid ((ys ++ [63] ++ [x[i]]) ++ (encC (x.drop (i + 1)) ++ (encAt e (j + 1) ++ encL (l.drop (k + 1)))) = T) := by show _ = _; rw [← HY.out]; simp only; rw [HST.out, esc_spec hsp]; simp
                  have hyl2 : (ys ++ [63]).length ≤ 1000000000 := by have := HY4.out; have := congrArg List.length this; simp at this ⊢; omega
                  clear HY HST hsp
                  go_wp2_with (first
                    | (go_at_call 56; refine (HSC.out _).mono ?_; rintro e w' ⟨rfl, rfl⟩)
                    | (at_builtin; refine wpList_append_byteM wr rfl (.tmp 54) (.tmp 55) rfl W.heap.size _ ys 63 _ rfl rfl hown rfl hyl hBr ?_; intro v4 w4 hown4 hb4; have hBr4 := Nat.le_trans hBr hb4.size)
                    | (at_builtin; refine wpList_append_byteM w4 rfl (.tmp 57) (.tmp 61) rfl W.heap.size _ (ys ++ [63]) x[i] _ rfl rfl hown4 rfl hyl2 hBr4 ?_; intro v5 w5 hown5 hb5))
                  go_roundg (x.length - (i + 1))
                  case measure => have := HI.out; omega
                  case rel => exact ⟨i + 1, _, by omega, by go_num, hown5, HY4.out, (hb.trans hb4).trans hb5⟩
                | false =>
                  rw [hsp] at HSC
                  have HY4 : Hid ((ys ++ [x[i]]) ++ (encC (x.drop (i + 1)) ++ (encAt e (j + 1) ++ encL (l.drop (k + 1)))) = T) := by show _ = _; rw [← HY.out]; simp only; rw [HST.out, esc_plain hsp]; simp
                  clear HY HST hsp
                  go_wp2_with (first
                    | (go_at_call 56; refine (HSC.out _).mono ?_; rintro e w' ⟨rfl, rfl⟩)
                    | (at_builtin; refine wpList_append_byteM wr rfl (.tmp 57) (.tmp 61) rfl W.heap.size _ ys x[i] _ rfl rfl hown rfl hyl hBr ?_; intro v5 w5 hown5 hb5))
                  go_roundg (x.length - (i + 1))
                  case measure => have := HI.out; omega
                  case rel => exact ⟨i + 1, _, by omega, by go_num, hown5, HY4.out, hb.trans hb5⟩
              · have hge : x.length ≤ i := by omega
                have HY4 : Hid (ys ++ (encAt e (j + 1) ++ encL (l.drop (k + 1))) = T) := by show _ = _; rw [← HY.out]; simp only; rw [List.drop_eq_nil_of_le hge]; rfl
                clear hlt3 HY
                go_wp2
                go_roundg (e.length - (j + 1))
                case measure => have := HJ.out; omega
                case rel => exact ⟨j + 1, ys, by omega, by go_num, hown, HY4.out, HQ3.out.trans hb⟩
        · have hge : e.length ≤ j := by omega
          have HY3 : Hid (ys ++ encL (l.drop (k + 1)) = T) := by show _ = _; rw [← HY.out]; simp only; rw [encAt_end hge]; rfl
          clear hlt2 HY
          go_wp2
          go_roundg (l.length - (k + 1))
          case measure => have := HK.out; omega
          case rel => exact ⟨k + 1, ys, by omega, by go_num, hown, HY3.out, HQ.out.trans hb⟩
    · have hge : l.length ≤ k := by omega
      have HY3 : Hid (ys = T) := by show _ = _; rw [← HY.out]; simp only; rw [List.drop_eq_nil_of_le hge]; simp [encL]
      clear hlt HY
      go_wp2_with (at_builtin; refine wpList_append_byteM wr rfl (.tmp 63) (.tmp 64) rfl W.heap.size _ ys 39 _ rfl rfl hown rfl hyl hBr ?_; intro v2 w2 hown2 hb2; obtain ⟨zs, hzs⟩ : ∃ zs, zs = ys ++ [39] := ⟨_, rfl⟩; rw [← hzs] at hown2; have HZ := Lib.hid hzs; clear hzs; obtain ⟨A2, c2, rfl, hr2, _, _⟩ := hown2.shape; have hcv2 := conv_back w2 A2 c2 zs hr2)
      go_ret
      refine ⟨by rw [← HY3.out, ← HZ.out]; rfl, ?_⟩
      exact q0.trans ((hb.trans hb2).mono q0.size)
end Go.Proofs.YtmjlnckmhdgoiaaGreatDoor
