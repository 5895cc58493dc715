/- The law's sanity check awake. -/
import Derived.Test.YtmjlnckmhdgoiaaGreatDoorMj
import Derived.Test.YtmjlnckmhdgoiaaGreatDoorMk
import Derived.Lib.SlBytesConst
import Derived.Test.YtmjlnckmhdgoiaaGreatDoorMo
import Derived.Deep.QuietTactic
import Derived.BigQuiet
namespace Go.Proofs.YtmjlnckmhdgoiaaGreatDoor
open Go.RowKit
set_option linter.unusedVariables false

def awakeM : Msg := ⟨1, 2, 3, 4, 5, 6, 0, [], [], 0, 0, [], []⟩
theorem awakeM_valid : validM awakeM = 0 := by decide
theorem elN_dig (k : Nat) (h : k < 10) : elN (k : Int) = [[UInt8.ofNat (48 + k)]] := by
  unfold elN Lib.itoa
  rw [if_neg (by omega), Int.toNat_natCast, Lib.decDigits_one h]
theorem awakeM_segs : segsM awakeM = [⟨tMSG, [[[49]], [[50]], [[51]], [[52]], [[53]]]⟩, ⟨tLOT, [[[54]], [[48]]]⟩, ⟨tEND, [[[51]], [[52]]]⟩] := by
  have e0 := elN_dig 0 (by omega)
  have e1 := elN_dig 1 (by omega)
  have e2 := elN_dig 2 (by omega)
  have e3 := elN_dig 3 (by omega)
  have e4 := elN_dig 4 (by omega)
  have e5 := elN_dig 5 (by omega)
  have e6 := elN_dig 6 (by omega)
  have hd : descM awakeM = [sMSG awakeM, sLOT awakeM] := rfl
  unfold segsM
  rw [hd]
  show [(⟨tMSG, [elN ((1 : Nat) : Int), elN ((2 : Nat) : Int), elN ((3 : Nat) : Int), elN ((4 : Nat) : Int), elN ((5 : Nat) : Int)]⟩ : Seg), ⟨tLOT, [elN ((6 : Nat) : Int), elN ((0 : Nat) : Int)]⟩, ⟨tEND, [elN ((3 : Nat) : Int), elN ((4 : Nat) : Int)]⟩] = _
  rw [e0, e1, e2, e3, e4, e5, e6]
  rfl
theorem awakeM_enc : encAll (segsM awakeM) = [77, 83, 71, 43, 49, 43, 50, 43, 51, 43, 52, 43, 53, 39, 76, 79, 84, 43, 54, 43, 48, 39, 69, 78, 68, 43, 51, 43, 52, 39] := by
  rw [awakeM_segs]; decide
set_option maxHeartbeats 4000000 in
set_option maxRecDepth 100000 in
theorem awakeM_any (w : World) (ht : Tab w) : Calls Tryz.prog 16 #[] w fun e w' => e = .returned (.bool true) ∧ Below w.heap.size w w' := by
  have HE := Lib.hid (encodeM_any awakeM none 0 w (Rd.nil _ _) ⟨by decide, by decide, by decide, by decide⟩ ht)
  have HC := Lib.hid (fun (W : World) hr => checksum_any (some ⟨W.heap.size, 0, none⟩) 9 [87, 105, 107, 105, 112, 101, 100, 105, 97] (W.alloc (.cells (u8s [87, 105, 107, 105, 112, 101, 100, 105, 97]).toArray 5 (9, 10))) hr (by decide))
  have hcc := fun (w : World) (C : Array Value) (n c : Nat) => Lib.run_convert_bytes_const (P := Tryz.prog) w 23 5 C n c Tryz.underlying23 Tryz.underlying5
  go_enter Tryz.func16, Tryz.ntmps16
  go_wp2_with fail
  refine HE.out.mono ?_
  rintro e w1 ⟨hb1, h⟩
  rcases h with ⟨_, v, rfl, hob⟩ | ⟨h, _⟩
  · rw [awakeM_enc] at hob
    obtain ⟨A, c, rfl, hr, _, _⟩ := hob.shape
    have hcv : (convert 23 9 (.slice A 30 c)).run Tryz.prog w1 = .ok (.string ⟨#[77, 83, 71, 43, 49, 43, 50, 43, 51, 43, 52, 43, 53, 39, 76, 79, 84, 43, 54, 43, 48, 39, 69, 78, 68, 43, 51, 43, 52, 39]⟩) w1 := conv_back w1 A c _ hr
    have hrd : Rd (w1.alloc (.cells (u8s [87, 105, 107, 105, 112, 101, 100, 105, 97]).toArray 5 (9, 10))) (some ⟨w1.heap.size, 0, none⟩) (u8s [87, 105, 107, 105, 112, 101, 100, 105, 97]) := (RdB.new w1 _ _ _ _ rfl).rd
    have hC2 := HC.out w1 hrd
    rw [adl_wiki] at hC2
    have HC2 : Hid (Calls Tryz.prog 43 #[.slice (some ⟨w1.heap.size, 0, none⟩) 9 9] (w1.alloc (.cells #[.int .u8 87, .int .u8 105, .int .u8 107, .int .u8 105, .int .u8 112, .int .u8 101, .int .u8 100, .int .u8 105, .int .u8 97] 5 (9, 10))) fun e w' => e = .returned (.int .i64 300286872) ∧ w1.alloc (.cells #[.int .u8 87, .int .u8 105, .int .u8 107, .int .u8 105, .int .u8 112, .int .u8 101, .int .u8 100, .int .u8 105, .int .u8 97] 5 (9, 10)) = w') := hC2
    clear hC2
    clear HC HE hob hr hrd
    go_wp2_with fail
    refine HC2.out.mono ?_
    rintro e w2 ⟨rfl, rfl⟩
    go_wp2
    go_ret
    exact ⟨rfl, hb1.alloc hb1.size _⟩
  · exact absurd awakeM_valid h
end Go.Proofs.YtmjlnckmhdgoiaaGreatDoor

/-! Contracts of customsref02.Same and customsref06.SameMessage. -/
namespace Go.Proofs.YtmjlnckmhdgoiaaGreatDoor
open Go.RowKit
set_option linter.unusedVariables false

def SameRel (l : List Int) (w : World) (g : Nat) (i : Value) (wr : World) : Prop := ∃ k : Nat, k + g = l.length ∧ i = .int .i64 (k : Int) ∧ Quiet w wr
theorem ints_at {l : List Int} {k : Nat} (h : k < l.length) : (ints l)[k]? = some (.int .i64 l[k]) := by simp [ints, List.getElem?_map, List.getElem?_eq_getElem h]
theorem Rd.drewN {w : World} {A : Option Addr} {cs : List Value} (h : Rd w A cs) (n : Nat) : Rd (w.drewN n) A cs := h
set_option maxHeartbeats 1000000 in
theorem same02_yes (A A' : Option Addr) (c c' : Nat) (l : List Int) (w : World) (h : Rd w A (ints l)) (h' : Rd w A' (ints l)) (hl : l.length ≤ 9223372036854775807) :
    Calls Tryz.prog 40 #[.slice A l.length c, .slice A' l.length c'] w fun e w' => e = .returned (.bool true) ∧ Quiet w w' := by
  go_enter Tryz.func40, Tryz.ntmps40
  go_wp2
  go_loopg [5] l.length (fun g i wr => SameRel l w g i wr)
  case atStart => exact ⟨0, by omega, rfl, Quiet.refl _⟩
  case round =>
    obtain ⟨k, hk, rfl, hq⟩ := hrel
    have HK := Lib.hid hk
    have HQ := Lib.hid hq
    have hk2 : k ≤ l.length := by omega
    clear hk hq
    by_cases hlt : k < l.length
    · obtain ⟨b0, o0, rfl, hc⟩ := h.at_lit (ints_at hlt)
      obtain ⟨b1, o1, rfl, hc'⟩ := h'.at_lit (ints_at hlt)
      have hc := (HQ.out.cell _).trans hc
      have hc' := (HQ.out.cell _).trans hc'
      generalize l[k] = y at *
      go_wp2
      go_quiet (fail)
      go_wp2
      go_roundg (l.length - (k + 1))
      case measure => have := HK.out; omega
      case rel => exact ⟨k + 1, by omega, by go_num, HQ.out.drewN _⟩
    · go_wp2
      go_ret
      exact ⟨rfl, HQ.out⟩
def SameRel2 (l l' : List Int) (w : World) (g : Nat) (i : Value) (wr : World) : Prop := ∃ k : Nat, k + g = l.length ∧ i = .int .i64 (k : Int) ∧ l.drop k ≠ l'.drop k ∧ Quiet w wr
set_option maxHeartbeats 1000000 in
theorem same02_no (A A' : Option Addr) (c c' : Nat) (l l' : List Int) (w : World) (h : Rd w A (ints l)) (h' : Rd w A' (ints l')) (hl : l.length ≤ 9223372036854775807) (hne : l ≠ l') :
    Calls Tryz.prog 40 #[.slice A l.length c, .slice A' l'.length c'] w fun e w' => e = .returned (.bool false) ∧ Quiet w w' := by
  by_cases hll : l.length = l'.length
  · have HLL := Lib.hid hll
    rw [← hll]
    clear hll
    go_enter Tryz.func40, Tryz.ntmps40
    go_wp2
    go_loopg [5] l.length (fun g i wr => SameRel2 l l' w g i wr)
    case atStart => exact ⟨0, by omega, rfl, by simpa using hne, Quiet.refl _⟩
    case round =>
      obtain ⟨k, hk, rfl, hd, hq⟩ := hrel
      have HK := Lib.hid hk
      have HQ := Lib.hid hq
      have hk2 : k ≤ l.length := by omega
      clear hk hq hne
      by_cases hlt : k < l.length
      · have hlt' : k < l'.length := by have := HLL.out; omega
        obtain ⟨b0, o0, rfl, hc⟩ := h.at_lit (ints_at hlt)
        obtain ⟨b1, o1, rfl, hc'⟩ := h'.at_lit (ints_at hlt')
        have hc := (HQ.out.cell _).trans hc
        have hc' := (HQ.out.cell _).trans hc'
        rw [List.drop_eq_getElem_cons hlt, List.drop_eq_getElem_cons hlt'] at hd
        generalize l[k] = y at *
        generalize l'[k] = z at *
        by_cases hyz : y = z
        · subst hyz
          have HD : Hid (l.drop (k + 1) ≠ l'.drop (k + 1)) := fun h => hd (by rw [h])
          clear hd
          go_wp2
          go_quiet (fail)
          go_wp2
          go_roundg (l.length - (k + 1))
          case measure => have := HK.out; omega
          case rel => exact ⟨k + 1, by omega, by go_num, HD.out, HQ.out.drewN _⟩
        · have hb : (y != z) = true := by simpa using hyz
          clear hd
          go_wp2
          go_quiet (fail)
          go_wp2
          go_ret
          exact ⟨rfl, HQ.out.drewN _⟩
      · exfalso
        have h1 := HLL.out
        exact hd (by rw [List.drop_eq_nil_of_le (by omega), List.drop_eq_nil_of_le (by omega)])
  · have hb : ((l.length : Int) != (l'.length : Int)) = true := by rw [bne_iff_ne]; omega
    have hb2 : (l.length != l'.length) = true := by rw [bne_iff_ne]; omega
    go_enter Tryz.func40, Tryz.ntmps40
    go_wp2
    go_ret
    exact ⟨rfl, Quiet.refl _⟩
theorem two_below (w : World) (a b : Obj) : Below w.heap.size w ((w.alloc a).alloc b) := ((Below.refl _ _).alloc (Nat.le_refl _) _).alloc (by simp) _
set_option maxHeartbeats 4000000 in
set_option maxRecDepth 100000 in
theorem sameM_yes (m : Msg) (A A' : Option Addr) (c c' : Nat) (w : World) (h : Rd w A (ints m.list)) (h' : Rd w A' (ints m.list)) (hl : m.list.length ≤ 9223372036854775807) :
    Calls Tryz.prog 14 #[msgV m A c, msgV m A' c'] w fun e w' => e = .returned (.bool true) ∧ Below w.heap.size w w' := by
  have q := two_below w (.cells (msgC m A c) 30) (.cells (msgC m A' c') 30)
  have HS := Lib.hid (fun W hb => same02_yes A A' c c' m.list W (h.below hb) (h'.below hb) hl)
  go_enter Tryz.func14, Tryz.ntmps14
  go_wp2_with fail
  refine (HS.out _ q).mono ?_
  rintro e w1 ⟨rfl, hq⟩
  go_wp2_with fail
  go_ret
  exact ⟨rfl, q.trans (hq.below _)⟩
end Go.Proofs.YtmjlnckmhdgoiaaGreatDoor
