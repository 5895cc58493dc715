/- The law's sanity check awake. -/
import Derived.Test.YtmjlnckmhdgoiaaDoorMj
import Derived.Test.YtmjlnckmhdgoiaaDoorMk
import Derived.Lib.SlBytesConst
namespace Go.Proofs.YtmjlnckmhdgoiaaDoor
open Go.RowKit
set_option linter.unusedVariables false

def awakeM : Msg := ⟨1, 2, 3, 4, 5, 6, 0, [], [], 0, 0, [], []⟩
theorem awakeM_valid : validM awakeM = 0 := by decide
theorem elN_dig (k : Nat) (h : k < 10) : elN (k : Int) = [[UInt8.ofNat (48 + k)]] := by
  unfold elN Lib.itoa
  rw [if_neg (by omega), Int.toNat_natCast, Lib.decDigits_one h]
theorem awakeM_segs : segsM awakeM = [⟨tMSG, [[[49]], [[50]], [[51]], [[52]], [[53]]]⟩, ⟨tLOT, [[[54]], [[48]]]⟩, ⟨tEND, [[[51]], [[52]]]⟩] := by
  have e0 := elN_dig 0 (by omega)
  have e1 := elN_dig 1 (by omega)
  have e2 := elN_dig 2 (by omega)
  have e3 := elN_dig 3 (by omega)
  have e4 := elN_dig 4 (by omega)
  have e5 := elN_dig 5 (by omega)
  have e6 := elN_dig 6 (by omega)
  have hd : descM awakeM = [sMSG awakeM, sLOT awakeM] := rfl
  unfold segsM
  rw [hd]
  show [(⟨tMSG, [elN ((1 : Nat) : Int), elN ((2 : Nat) : Int), elN ((3 : Nat) : Int), elN ((4 : Nat) : Int), elN ((5 : Nat) : Int)]⟩ : Seg), ⟨tLOT, [elN ((6 : Nat) : Int), elN ((0 : Nat) : Int)]⟩, ⟨tEND, [elN ((3 : Nat) : Int), elN ((4 : Nat) : Int)]⟩] = _
  rw [e0, e1, e2, e3, e4, e5, e6]
  rfl
theorem awakeM_enc : encAll (segsM awakeM) = [77, 83, 71, 43, 49, 43, 50, 43, 51, 43, 52, 43, 53, 39, 76, 79, 84, 43, 54, 43, 48, 39, 69, 78, 68, 43, 51, 43, 52, 39] := by
  rw [awakeM_segs]; decide
set_option maxHeartbeats 4000000 in
set_option maxRecDepth 100000 in
theorem awakeM_any (w : World) (ht : Tab w) : Calls Tryd.prog 14 #[] w fun e w' => e = .returned (.bool true) ∧ Below w.heap.size w w' := by
  have HE := Lib.hid (encodeM_any awakeM none 0 w (Rd.nil _ _) ⟨by decide, by decide, by decide, by decide⟩ ht)
  have HC := Lib.hid (fun (W : World) hr => checksum_any (some ⟨W.heap.size, 0, none⟩) 9 [87, 105, 107, 105, 112, 101, 100, 105, 97] (W.alloc (.cells (u8s [87, 105, 107, 105, 112, 101, 100, 105, 97]).toArray 5 (9, 10))) hr (by decide))
  have hcc := fun (w : World) (C : Array Value) (n c : Nat) => Lib.run_convert_bytes_const (P := Tryd.prog) w 32 5 C n c Tryd.underlying32 Tryd.underlying5
  go_enter Tryd.func14, Tryd.ntmps14
  go_wp2_with fail
  refine HE.out.mono ?_
  rintro e w1 ⟨hb1, h⟩
  rcases h with ⟨_, v, rfl, hob⟩ | ⟨h, _⟩
  · rw [awakeM_enc] at hob
    obtain ⟨A, c, rfl, hr, _, _⟩ := hob.shape
    have hcv : (convert 32 9 (.slice A 30 c)).run Tryd.prog w1 = .ok (.string ⟨#[77, 83, 71, 43, 49, 43, 50, 43, 51, 43, 52, 43, 53, 39, 76, 79, 84, 43, 54, 43, 48, 39, 69, 78, 68, 43, 51, 43, 52, 39]⟩) w1 := conv_back w1 A c _ hr
    have hrd : Rd (w1.alloc (.cells (u8s [87, 105, 107, 105, 112, 101, 100, 105, 97]).toArray 5 (9, 10))) (some ⟨w1.heap.size, 0, none⟩) (u8s [87, 105, 107, 105, 112, 101, 100, 105, 97]) := (RdB.new w1 _ _ _ _ rfl).rd
    have hC2 := HC.out w1 hrd
    rw [adl_wiki] at hC2
    have HC2 : Hid (Calls Tryd.prog 22 #[.slice (some ⟨w1.heap.size, 0, none⟩) 9 9] (w1.alloc (.cells #[.int .u8 87, .int .u8 105, .int .u8 107, .int .u8 105, .int .u8 112, .int .u8 101, .int .u8 100, .int .u8 105, .int .u8 97] 5 (9, 10))) fun e w' => e = .returned (.int .i64 300286872) ∧ w1.alloc (.cells #[.int .u8 87, .int .u8 105, .int .u8 107, .int .u8 105, .int .u8 112, .int .u8 101, .int .u8 100, .int .u8 105, .int .u8 97] 5 (9, 10)) = w') := hC2
    clear hC2
    clear HC HE hob hr hrd
    go_wp2_with fail
    refine HC2.out.mono ?_
    rintro e w2 ⟨rfl, rfl⟩
    go_wp2
    go_ret
    exact ⟨rfl, hb1.alloc hb1.size _⟩
  · exact absurd awakeM_valid h
end Go.Proofs.YtmjlnckmhdgoiaaDoor
