/- Adler-32 in plain data; contracts of the two Checksums. -/
import Derived.Test.YtmjlnckmhdgoiaaGreatDoorSl
import Derived.Test.YtmjlnckmhdgoiaaGreatDoorMi
import Derived.Lib.SlBytesConst
import Derived.Test.YtmjlnckmhdgoiaaGreatDoorMo
import Derived.Deep.QuietTactic
import Derived.BigQuiet
namespace Go.Proofs.YtmjlnckmhdgoiaaGreatDoor
open Go.RowKit
set_option linter.unusedVariables false

def adStep (p : Int × Int) (c : UInt8) : Int × Int := ((p.1 + c.toNat) % 65521, (p.2 + (p.1 + c.toNat) % 65521) % 65521)
def adF (l : Bs) : Int × Int := l.foldl adStep (1, 0)
def adlF (l : Bs) : Int := (adF l).2 * 65536 + (adF l).1
theorem adF_snoc (l : Bs) (c : UInt8) : adF (l ++ [c]) = adStep (adF l) c := by simp [adF, List.foldl_append]
theorem adF_take {l : Bs} {k : Nat} (h : k < l.length) : adF (l.take (k + 1)) = adStep (adF (l.take k)) l[k] := by
  rw [List.take_succ_eq_append_getElem h, adF_snoc]
theorem adF_bd (l : Bs) : 0 ≤ (adF l).1 ∧ (adF l).1 < 65521 ∧ 0 ≤ (adF l).2 ∧ (adF l).2 < 65521 := by
  rcases List.eq_nil_or_concat l with rfl | ⟨r, c, rfl⟩
  · decide
  · rw [List.concat_eq_append, adF_snoc]
    unfold adStep
    refine ⟨by simp only; omega, by simp only; omega, by simp only; omega, by simp only; omega⟩
def sumB : Bs → Nat
  | [] => 0
  | c :: r => c.toNat + sumB r
theorem sumB_append (a b : Bs) : sumB (a ++ b) = sumB a + sumB b := by
  induction a with
  | nil => simp [sumB]
  | cons x r ih => simp only [List.cons_append, sumB, ih]; omega
theorem adF_sum : ∀ (l r : Bs), l.reverse = r → (adF l).1 = (1 + (sumB l : Int)) % 65521
  | l, [], h => by
    have : l = [] := by simpa using h
    subst this
    rfl
  | l, c :: r, h => by
    have hl : l = r.reverse ++ [c] := by rw [← List.reverse_reverse l, h]; simp
    subst hl
    have ih := adF_sum r.reverse r (by simp)
    rw [adF_snoc, sumB_append]
    show ((adF r.reverse).1 + c.toNat) % 65521 = _
    rw [ih]
    simp only [sumB]
    omega
theorem sumB_set : ∀ {l : Bs} {k : Nat} (h : k < l.length) (v : UInt8), sumB (l.set k v) + l[k].toNat = sumB l + v.toNat
  | c :: r, 0, h, v => by simp only [List.set_cons_zero, sumB, List.getElem_cons_zero]; omega
  | c :: r, k + 1, h, v => by
    have := sumB_set (l := r) (k := k) (by simpa using h) v
    simp only [List.set_cons_succ, sumB, List.getElem_cons_succ]
    omega
theorem adl_set {l : Bs} {k : Nat} (h : k < l.length) (v : UInt8) : adlF (l.set k v) = adlF l ↔ v = l[k] := by
  constructor
  · intro he
    have h1 := adF_bd l
    have h2 := adF_bd (l.set k v)
    have e1 := adF_sum l _ rfl
    have e2 := adF_sum (l.set k v) _ rfl
    have hs := sumB_set h v
    have b1 := v.toNat_lt
    have b2 := l[k].toNat_lt
    unfold adlF at he
    have hx : (adF (l.set k v)).1 = (adF l).1 := by omega
    rw [hx, e1] at e2
    have : v.toNat = l[k].toNat := by omega
    exact UInt8.toNat_inj.1 this
  · intro hv
    rw [hv, List.set_getElem_self]
theorem xor_same (a b : UInt8) : a ^^^ b = a ↔ b = 0 := by
  constructor
  · intro h
    have : a ^^^ (a ^^^ b) = a ^^^ a := by rw [h]
    rwa [← UInt8.xor_assoc, UInt8.xor_self, UInt8.zero_xor] at this
  · rintro rfl
    exact UInt8.xor_zero
theorem adl_wiki : adlF [87, 105, 107, 105, 112, 101, 100, 105, 97] = 300286872 := by decide
def AdRel (l : Bs) (w : World) (g : Nat) (x y i : Value) (wr : World) : Prop :=
  ∃ (k : Nat) (p q : Int), k + g = l.length ∧ i = .int .i64 (k : Int) ∧ x = .int .i64 p ∧ y = .int .i64 q ∧ adF (l.take k) = (p, q) ∧ w = wr
set_option maxHeartbeats 1000000 in
theorem checksum_any (A : Option Addr) (c : Nat) (l : Bs) (w : World) (hr : Rd w A (u8s l)) (hl : l.length ≤ 1000000000) :
    Calls Tryz.prog 43 #[.slice A l.length c] w fun e w' => e = .returned (.int .i64 (adlF l)) ∧ w = w' := by
  go_enter Tryz.func43, Tryz.ntmps43
  go_wp2
  go_loopg [3, 4, 9] l.length (fun g x y i wr => AdRel l w g x y i wr)
  case atStart => exact ⟨0, 1, 0, by omega, rfl, rfl, rfl, rfl, rfl⟩
  case round =>
    obtain ⟨k, p, q, hk, rfl, rfl, rfl, hh, rfl⟩ := hrel
    have HK := Lib.hid hk
    have hk2 : k ≤ l.length := by omega
    have hbd := adF_bd (l.take k)
    rw [hh] at hbd
    obtain ⟨b1, b2, b3, b4⟩ : 0 ≤ p ∧ p < 65521 ∧ 0 ≤ q ∧ q < 65521 := hbd
    have HH := Lib.hid hh
    clear hk hh
    by_cases hlt : k < l.length
    · obtain ⟨b0, off, rfl, hc⟩ := hr.at_lit (u8s_at hlt)
      have H1 := Lib.hid (adF_take hlt)
      have hy := l[k].toNat_lt
      generalize l[k] = y at *
      have m1 : 0 ≤ (p + (y.toNat : Int)) % 65521 := by omega
      have m2 : (p + (y.toNat : Int)) % 65521 < 65521 := by omega
      have H2 : Hid (adF (l.take (k + 1)) = ((p + (y.toNat : Int)) % 65521, (q + (p + (y.toNat : Int)) % 65521) % 65521)) := by
        show _ = _
        rw [H1.out, HH.out]; rfl
      clear H1 HH
      go_wp2
      go_roundg (l.length - (k + 1))
      case measure => have := HK.out; omega
      case rel => exact ⟨k + 1, _, _, by omega, by go_num, rfl, rfl, H2.out, rfl⟩
    · have hge : l.length ≤ k := by omega
      have H4 : Hid (adlF l = q * 65536 + p) := by
        show _ = _
        have := HH.out
        rw [List.take_of_length_le hge] at this
        unfold adlF; rw [this]
      clear HH
      go_wp2
      go_ret
      exact ⟨by rw [H4.out]; rfl, rfl⟩

set_option maxHeartbeats 1000000 in
theorem refChecksum_any (A : Option Addr) (c : Nat) (l : Bs) (w : World) (hr : Rd w A (u8s l)) (hl : l.length ≤ 1000000000) :
    Calls Tryz.prog 51 #[.slice A l.length c] w fun e w' => e = .returned (.int .i64 (adlF l)) ∧ w = w' := by
  go_enter Tryz.func51, Tryz.ntmps51
  go_wp2
  go_loopg [3, 4, 5] l.length (fun g x y i wr => AdRel l w g x y i wr)
  case atStart => exact ⟨0, 1, 0, by omega, rfl, rfl, rfl, rfl, rfl⟩
  case round =>
    obtain ⟨k, p, q, hk, rfl, rfl, rfl, hh, rfl⟩ := hrel
    have HK := Lib.hid hk
    have hk2 : k ≤ l.length := by omega
    have hbd := adF_bd (l.take k)
    rw [hh] at hbd
    obtain ⟨b1, b2, b3, b4⟩ : 0 ≤ p ∧ p < 65521 ∧ 0 ≤ q ∧ q < 65521 := hbd
    have HH := Lib.hid hh
    clear hk hh
    by_cases hlt : k < l.length
    · obtain ⟨b0, off, rfl, hc⟩ := hr.at_lit (u8s_at hlt)
      have H1 := Lib.hid (adF_take hlt)
      have hy := l[k].toNat_lt
      generalize l[k] = y at *
      have m1 : 0 ≤ (p + (y.toNat : Int)) % 65521 := by omega
      have m2 : (p + (y.toNat : Int)) % 65521 < 65521 := by omega
      have H2 : Hid (adF (l.take (k + 1)) = ((p + (y.toNat : Int)) % 65521, (q + (p + (y.toNat : Int)) % 65521) % 65521)) := by
        show _ = _
        rw [H1.out, HH.out]; rfl
      clear H1 HH
      go_wp2
      go_roundg (l.length - (k + 1))
      case measure => have := HK.out; omega
      case rel => exact ⟨k + 1, _, _, by omega, by go_num, rfl, rfl, H2.out, rfl⟩
    · have hge : l.length ≤ k := by omega
      have H4 : Hid (adlF l = q * 65536 + p) := by
        show _ = _
        have := HH.out
        rw [List.take_of_length_le hge] at this
        unfold adlF; rw [this]
      clear HH
      go_wp2
      go_ret
      exact ⟨by rw [H4.out]; rfl, rfl⟩
end Go.Proofs.YtmjlnckmhdgoiaaGreatDoor

/-! Contracts of message.Encode and of the two Checksums. -/
namespace Go.Proofs.YtmjlnckmhdgoiaaGreatDoor
open Go.RowKit
set_option linter.unusedVariables false

def EncmRet (w : World) (m : Msg) (e : Ending) (w' : World) : Prop :=
  Below w.heap.size w w' ∧ ((validM m = 0 ∧ ∃ v, e = .returned (.tuple #[v, .int .i64 0]) ∧ OwnB w' w.heap.size v (encAll (segsM m))) ∨
    (validM m ≠ 0 ∧ e = .returned (.tuple #[.slice none 0 0, .int .i64 (validM m)])))
set_option maxRecDepth 100000 in
set_option maxHeartbeats 4000000 in
theorem encodeM_any (m : Msg) (A : Option Addr) (c : Nat) (w : World) (hr : Rd w A (ints m.list)) (hb : MBd m) (ht : Tab w) :
    Calls Tryz.prog 15 #[msgV m A c] w (EncmRet w m) := by
  have q0 := (Below.refl w.heap.size w).alloc (Nat.le_refl _) (.cells (msgC m A c) 30)
  have hM0 : MBlk (w.alloc (.cells (msgC m A c) 30)) w.heap.size m A c := heap_alloc_new w _
  have hr0 := hr.below q0
  have ht0 := ht.below q0
  obtain ⟨d0, d1, d2, d3, d4, d5, d6, d7, d8, d9, d10, d11, d12⟩ := hM0.all
  generalize hW0 : w.alloc (.cells (msgC m A c) 30) = W0 at q0 hM0 hr0 ht0 d0 d1 d2 d3 d4 d5 d6 d7 d8 d9 d10 d11 d12
  have HSG := Lib.hid (segments_any m A c W0 hr0 hb ht0)
  clear hr hb ht
  go_enter Tryz.func15, Tryz.ntmps15
  go_wp2_with fail
  refine HSG.out.mono ?_
  rintro e w1 ⟨hb1, h⟩
  have hB1 := q0.trans (hb1.mono q0.size)
  rcases h with ⟨hv, v, rfl, hso⟩ | ⟨hv, rfl⟩
  · have ok := okM_iff.1 hv
    have HZ := Lib.hid hv
    obtain ⟨Av, cv, rfl, _, hat⟩ := hso.at_
    have hl := segsM_len m
    have HEN := Lib.hid (encode_any Av cv (segsM m) w1 hat (by omega) (fits_few (by omega)))
    have HEZ : Hid (encE? (segsM m) = 0) := encE?_zero.2 (segsM_ok ok)
    generalize hSG : segsM m = sg at *
    have HSGE := Lib.hid hSG
    clear hSG
    clear hso hat hv hl d0 d1 d2 d3 d4 d5 d6 d7 d8 d9 d10 d11 d12
    go_wp2_with fail
    refine HEN.out.mono ?_
    rintro e w2 ⟨hb2, h⟩
    rcases h with ⟨_, vb, rfl, hob⟩ | ⟨h, _⟩
    · obtain ⟨Ab, cb, rfl, _, _, _⟩ := hob.shape
      go_wp2_with fail
      go_ret2
      exact ⟨hB1.trans (hb2.mono hB1.size), .inl ⟨HZ.out, _, rfl, by rw [HSGE.out]; exact hob.mono hB1.size⟩⟩
    · exact absurd HEZ.out h
  · have HN := Lib.hid hv
    have hne : (validM m != 0) = true := by simpa using hv
    clear hv
    go_wp2_with fail
    go_ret2
    exact ⟨hB1, .inr ⟨HN.out, rfl⟩⟩
end Go.Proofs.YtmjlnckmhdgoiaaGreatDoor

/-! The law's sanity check awake. -/
namespace Go.Proofs.YtmjlnckmhdgoiaaGreatDoor
open Go.RowKit
set_option linter.unusedVariables false

def awakeM : Msg := ⟨1, 2, 3, 4, 5, 6, 0, [], [], 0, 0, [], []⟩
theorem awakeM_valid : validM awakeM = 0 := by decide
theorem elN_dig (k : Nat) (h : k < 10) : elN (k : Int) = [[UInt8.ofNat (48 + k)]] := by
  unfold elN Lib.itoa
  rw [if_neg (by omega), Int.toNat_natCast, Lib.decDigits_one h]
theorem awakeM_segs : segsM awakeM = [⟨tMSG, [[[49]], [[50]], [[51]], [[52]], [[53]]]⟩, ⟨tLOT, [[[54]], [[48]]]⟩, ⟨tEND, [[[51]], [[52]]]⟩] := by
  have e0 := elN_dig 0 (by omega)
  have e1 := elN_dig 1 (by omega)
  have e2 := elN_dig 2 (by omega)
  have e3 := elN_dig 3 (by omega)
  have e4 := elN_dig 4 (by omega)
  have e5 := elN_dig 5 (by omega)
  have e6 := elN_dig 6 (by omega)
  have hd : descM awakeM = [sMSG awakeM, sLOT awakeM] := rfl
  unfold segsM
  rw [hd]
  show [(⟨tMSG, [elN ((1 : Nat) : Int), elN ((2 : Nat) : Int), elN ((3 : Nat) : Int), elN ((4 : Nat) : Int), elN ((5 : Nat) : Int)]⟩ : Seg), ⟨tLOT, [elN ((6 : Nat) : Int), elN ((0 : Nat) : Int)]⟩, ⟨tEND, [elN ((3 : Nat) : Int), elN ((4 : Nat) : Int)]⟩] = _
  rw [e0, e1, e2, e3, e4, e5, e6]
  rfl
theorem awakeM_enc : encAll (segsM awakeM) = [77, 83, 71, 43, 49, 43, 50, 43, 51, 43, 52, 43, 53, 39, 76, 79, 84, 43, 54, 43, 48, 39, 69, 78, 68, 43, 51, 43, 52, 39] := by
  rw [awakeM_segs]; decide
set_option maxHeartbeats 4000000 in
set_option maxRecDepth 100000 in
theorem awakeM_any (w : World) (ht : Tab w) : Calls Tryz.prog 16 #[] w fun e w' => e = .returned (.bool true) ∧ Below w.heap.size w w' := by
  have HE := Lib.hid (encodeM_any awakeM none 0 w (Rd.nil _ _) ⟨by decide, by decide, by decide, by decide⟩ ht)
  have HC := Lib.hid (fun (W : World) hr => checksum_any (some ⟨W.heap.size, 0, none⟩) 9 [87, 105, 107, 105, 112, 101, 100, 105, 97] (W.alloc (.cells (u8s [87, 105, 107, 105, 112, 101, 100, 105, 97]).toArray 5 (9, 10))) hr (by decide))
  have hcc := fun (w : World) (C : Array Value) (n c : Nat) => Lib.run_convert_bytes_const (P := Tryz.prog) w 23 5 C n c Tryz.underlying23 Tryz.underlying5
  go_enter Tryz.func16, Tryz.ntmps16
  go_wp2_with fail
  refine HE.out.mono ?_
  rintro e w1 ⟨hb1, h⟩
  rcases h with ⟨_, v, rfl, hob⟩ | ⟨h, _⟩
  · rw [awakeM_enc] at hob
    obtain ⟨A, c, rfl, hr, _, _⟩ := hob.shape
    have hcv : (convert 23 9 (.slice A 30 c)).run Tryz.prog w1 = .ok (.string ⟨#[77, 83, 71, 43, 49, 43, 50, 43, 51, 43, 52, 43, 53, 39, 76, 79, 84, 43, 54, 43, 48, 39, 69, 78, 68, 43, 51, 43, 52, 39]⟩) w1 := conv_back w1 A c _ hr
    have hrd : Rd (w1.alloc (.cells (u8s [87, 105, 107, 105, 112, 101, 100, 105, 97]).toArray 5 (9, 10))) (some ⟨w1.heap.size, 0, none⟩) (u8s [87, 105, 107, 105, 112, 101, 100, 105, 97]) := (RdB.new w1 _ _ _ _ rfl).rd
    have hC2 := HC.out w1 hrd
    rw [adl_wiki] at hC2
    have HC2 : Hid (Calls Tryz.prog 43 #[.slice (some ⟨w1.heap.size, 0, none⟩) 9 9] (w1.alloc (.cells #[.int .u8 87, .int .u8 105, .int .u8 107, .int .u8 105, .int .u8 112, .int .u8 101, .int .u8 100, .int .u8 105, .int .u8 97] 5 (9, 10))) fun e w' => e = .returned (.int .i64 300286872) ∧ w1.alloc (.cells #[.int .u8 87, .int .u8 105, .int .u8 107, .int .u8 105, .int .u8 112, .int .u8 101, .int .u8 100, .int .u8 105, .int .u8 97] 5 (9, 10)) = w') := hC2
    clear hC2
    clear HC HE hob hr hrd
    go_wp2_with fail
    refine HC2.out.mono ?_
    rintro e w2 ⟨rfl, rfl⟩
    go_wp2
    go_ret
    exact ⟨rfl, hb1.alloc hb1.size _⟩
  · exact absurd awakeM_valid h
end Go.Proofs.YtmjlnckmhdgoiaaGreatDoor

/-! Contracts of customsref02.Same and customsref06.SameMessage. -/
namespace Go.Proofs.YtmjlnckmhdgoiaaGreatDoor
open Go.RowKit
set_option linter.unusedVariables false

def SameRel (l : List Int) (w : World) (g : Nat) (i : Value) (wr : World) : Prop := ∃ k : Nat, k + g = l.length ∧ i = .int .i64 (k : Int) ∧ Quiet w wr
theorem ints_at {l : List Int} {k : Nat} (h : k < l.length) : (ints l)[k]? = some (.int .i64 l[k]) := by simp [ints, List.getElem?_map, List.getElem?_eq_getElem h]
theorem Rd.drewN {w : World} {A : Option Addr} {cs : List Value} (h : Rd w A cs) (n : Nat) : Rd (w.drewN n) A cs := h
set_option maxHeartbeats 1000000 in
theorem same02_yes (A A' : Option Addr) (c c' : Nat) (l : List Int) (w : World) (h : Rd w A (ints l)) (h' : Rd w A' (ints l)) (hl : l.length ≤ 9223372036854775807) :
    Calls Tryz.prog 40 #[.slice A l.length c, .slice A' l.length c'] w fun e w' => e = .returned (.bool true) ∧ Quiet w w' := by
  go_enter Tryz.func40, Tryz.ntmps40
  go_wp2
  go_loopg [5] l.length (fun g i wr => SameRel l w g i wr)
  case atStart => exact ⟨0, by omega, rfl, Quiet.refl _⟩
  case round =>
    obtain ⟨k, hk, rfl, hq⟩ := hrel
    have HK := Lib.hid hk
    have HQ := Lib.hid hq
    have hk2 : k ≤ l.length := by omega
    clear hk hq
    by_cases hlt : k < l.length
    · obtain ⟨b0, o0, rfl, hc⟩ := h.at_lit (ints_at hlt)
      obtain ⟨b1, o1, rfl, hc'⟩ := h'.at_lit (ints_at hlt)
      have hc := (HQ.out.cell _).trans hc
      have hc' := (HQ.out.cell _).trans hc'
      generalize l[k] = y at *
      go_wp2
      go_quiet (fail)
      go_wp2
      go_roundg (l.length - (k + 1))
      case measure => have := HK.out; omega
      case rel => exact ⟨k + 1, by omega, by go_num, HQ.out.drewN _⟩
    · go_wp2
      go_ret
      exact ⟨rfl, HQ.out⟩
def SameRel2 (l l' : List Int) (w : World) (g : Nat) (i : Value) (wr : World) : Prop := ∃ k : Nat, k + g = l.length ∧ i = .int .i64 (k : Int) ∧ l.drop k ≠ l'.drop k ∧ Quiet w wr
set_option maxHeartbeats 1000000 in
theorem same02_no (A A' : Option Addr) (c c' : Nat) (l l' : List Int) (w : World) (h : Rd w A (ints l)) (h' : Rd w A' (ints l')) (hl : l.length ≤ 9223372036854775807) (hne : l ≠ l') :
    Calls Tryz.prog 40 #[.slice A l.length c, .slice A' l'.length c'] w fun e w' => e = .returned (.bool false) ∧ Quiet w w' := by
  by_cases hll : l.length = l'.length
  · have HLL := Lib.hid hll
    rw [← hll]
    clear hll
    go_enter Tryz.func40, Tryz.ntmps40
    go_wp2
    go_loopg [5] l.length (fun g i wr => SameRel2 l l' w g i wr)
    case atStart => exact ⟨0, by omega, rfl, by simpa using hne, Quiet.refl _⟩
    case round =>
      obtain ⟨k, hk, rfl, hd, hq⟩ := hrel
      have HK := Lib.hid hk
      have HQ := Lib.hid hq
      have hk2 : k ≤ l.length := by omega
      clear hk hq hne
      by_cases hlt : k < l.length
      · have hlt' : k < l'.length := by have := HLL.out; omega
        obtain ⟨b0, o0, rfl, hc⟩ := h.at_lit (ints_at hlt)
        obtain ⟨b1, o1, rfl, hc'⟩ := h'.at_lit (ints_at hlt')
        have hc := (HQ.out.cell _).trans hc
        have hc' := (HQ.out.cell _).trans hc'
        rw [List.drop_eq_getElem_cons hlt, List.drop_eq_getElem_cons hlt'] at hd
        generalize l[k] = y at *
        generalize l'[k] = z at *
        by_cases hyz : y = z
        · subst hyz
          have HD : Hid (l.drop (k + 1) ≠ l'.drop (k + 1)) := fun h => hd (by rw [h])
          clear hd
          go_wp2
          go_quiet (fail)
          go_wp2
          go_roundg (l.length - (k + 1))
          case measure => have := HK.out; omega
          case rel => exact ⟨k + 1, by omega, by go_num, HD.out, HQ.out.drewN _⟩
        · have hb : (y != z) = true := by simpa using hyz
          clear hd
          go_wp2
          go_quiet (fail)
          go_wp2
          go_ret
          exact ⟨rfl, HQ.out.drewN _⟩
      · exfalso
        have h1 := HLL.out
        exact hd (by rw [List.drop_eq_nil_of_le (by omega), List.drop_eq_nil_of_le (by omega)])
  · have hb : ((l.length : Int) != (l'.length : Int)) = true := by rw [bne_iff_ne]; omega
    have hb2 : (l.length != l'.length) = true := by rw [bne_iff_ne]; omega
    go_enter Tryz.func40, Tryz.ntmps40
    go_wp2
    go_ret
    exact ⟨rfl, Quiet.refl _⟩
theorem two_below (w : World) (a b : Obj) : Below w.heap.size w ((w.alloc a).alloc b) := ((Below.refl _ _).alloc (Nat.le_refl _) _).alloc (by simp) _
set_option maxHeartbeats 4000000 in
set_option maxRecDepth 100000 in
theorem sameM_yes (m : Msg) (A A' : Option Addr) (c c' : Nat) (w : World) (h : Rd w A (ints m.list)) (h' : Rd w A' (ints m.list)) (hl : m.list.length ≤ 9223372036854775807) :
    Calls Tryz.prog 14 #[msgV m A c, msgV m A' c'] w fun e w' => e = .returned (.bool true) ∧ Below w.heap.size w w' := by
  have q := two_below w (.cells (msgC m A c) 30) (.cells (msgC m A' c') 30)
  have HS := Lib.hid (fun W hb => same02_yes A A' c c' m.list W (h.below hb) (h'.below hb) hl)
  go_enter Tryz.func14, Tryz.ntmps14
  go_wp2_with fail
  refine (HS.out _ q).mono ?_
  rintro e w1 ⟨rfl, hq⟩
  go_wp2_with fail
  go_ret
  exact ⟨rfl, q.trans (hq.below _)⟩
end Go.Proofs.YtmjlnckmhdgoiaaGreatDoor
