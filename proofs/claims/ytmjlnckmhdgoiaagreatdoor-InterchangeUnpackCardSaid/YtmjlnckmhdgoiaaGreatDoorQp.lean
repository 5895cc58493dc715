/- Contract of message.Unpack. -/
import Derived.Test.YtmjlnckmhdgoiaaGreatDoorQn
import Derived.Test.YtmjlnckmhdgoiaaGreatDoorQo
import Derived.Test.YtmjlnckmhdgoiaaGreatDoorQm
import Derived.Test.YtmjlnckmhdgoiaaGreatDoorQg
import Derived.Test.YtmjlnckmhdgoiaaGreatDoorQe
import Derived.Deep.CutBlock
import Derived.Test.YtmjlnckmhdgoiaaGreatDoorQj
import Derived.Test.YtmjlnckmhdgoiaaGreatDoorSg
namespace Go.Proofs.YtmjlnckmhdgoiaaGreatDoor
open Go.RowKit
set_option linter.unusedVariables false

def URet (w : World) (p : Ich × Int) (e : Ending) (w' : World) : Prop := ∃ A c, e = .returned (.tuple #[ichV p.1 A c, .int .i64 p.2]) ∧ MsgsOwn w' w.heap.size (.slice A p.1.msgs.length c) p.1.msgs ∧ Below w.heap.size w w'
theorem u_zero {w w' : World} {q : Ich × Int} {E : Int} (h : q = (zeroI, E)) (hb : Below w.heap.size w w') : URet w q (.returned (.tuple #[ichV zeroI none 0, .int .i64 E])) w' := by
  rw [h]
  exact ⟨none, 0, rfl, MsgsOwn.nil_ _ _, hb⟩
theorem pack_snd (x : Ich) : (packF x).2 = packE x := by
  unfold packF
  split
  · rename_i h; exact h.symm
  · rfl
theorem fin_cases (x : Ich) (b : Bs) : ((packF x).2 ≠ 0 → finI (some x) b = (zeroI, 4)) ∧ ((packF x).2 = 0 → (packF x).1 ≠ b → finI (some x) b = (zeroI, 11)) ∧ ((packF x).2 = 0 → (packF x).1 = b → finI (some x) b = (x, 0)) := by
  rw [pack_snd]
  unfold finI goodI
  refine ⟨fun h => ?_, fun h h2 => ?_, fun h h2 => ?_⟩
  · simp only [if_neg h]
  · simp only [if_pos h, if_neg h2]
  · simp only [if_pos h, if_pos h2]
set_option maxRecDepth 100000 in
set_option maxHeartbeats 40000000 in
theorem unpack_any (A : Option Addr) (c : Nat) (b : Bs) (w : World) (hr : RdB w w.heap.size A (u8s b)) (hc : b.length ≤ c) (hl : b.length ≤ 1000000000) (hg : Given w) :
    Calls Tryz.prog 20 #[.slice A b.length c] w (URet w (unpackP b)) := by
  have q0 := (Below.refl w.heap.size w).alloc (Nat.le_refl _) (.cells #[.int .i64 0, .int .i64 0, .int .i64 0, .slice none 0 0] 45)
  have hres : IBlk (w.alloc (.cells #[.int .i64 0, .int .i64 0, .int .i64 0, .slice none 0 0] 45)) w.heap.size zeroI none 0 := heap_alloc_new w _
  have HDE := Lib.hid (decode_any A c b (w.alloc (.cells #[.int .i64 0, .int .i64 0, .int .i64 0, .slice none 0 0] 45)) ((hr.below q0).mono q0.size) hc hl)
  have HQ0 := Lib.hid q0
  have HRES := Lib.hid hres
  have HG := Lib.hid hg
  have HRB := Lib.hid (hr.below q0)
  have HJ : Hid (unpackP b = if (decodeF b).2.2 = 0 then finI (ichP (decodeF b).1) b else (zeroI, (decodeF b).2.2)) := rfl
  have HDF := Lib.hid (fun h => Dcd.of (b := b) h hl)
  generalize decodeF b = r at *
  generalize unpackP b = q at *
  unfold DecRet at HDE
  clear hr q0 hres hg
  generalize hnb : b.length = nb at *
  have HNB := Lib.hid hnb
  clear hnb
  go_enter Tryz.func20, Tryz.ntmps20
  go_wp2_with fail
  refine HDE.out.mono ?_
  rintro e W1 ⟨v, rfl, ho, hb1⟩
  have HB1 := Lib.hid (HQ0.out.trans (hb1.mono HQ0.out.size))
  have HRES1 := Lib.hid (HRES.out.below hb1)
  have HRB1 := Lib.hid (HRB.out.below (hb1.mono HQ0.out.size))
  have hgz : w.heap.size < W1.heap.size := HRES1.out.lt
  obtain ⟨A1, c1, rfl, hc1, hat⟩ := ho.at_
  have HAT := Lib.hid hat
  obtain ⟨l, n, er⟩ := r
  simp only at HJ HDF HAT ho hc1
  clear hb1 ho hat HDE HQ0 HRES HRB
  by_cases h0 : er = 0
  · subst h0
    have hzz : ((0 : Int) != 0) = false := rfl
    have HIC := Lib.hid (interchange_any A1 c1 l W1 HAT.out (HDF.out rfl) hc1 (HG.out.below HB1.out))
    unfold IcRet at HIC
    have HJA : Hid (q = finI (ichP l) b) := HJ.out.trans (if_pos rfl)
    clear HJ HDF HAT hc1
    generalize ichP l = o at *
    generalize l.length = nl at *
    go_wp2_with fail
    refine HIC.out.mono ?_
    rintro e W2 ⟨hb2, hcase⟩
    have HB2 := Lib.hid (HB1.out.trans (hb2.mono HB1.out.size))
    have HRES2 := Lib.hid (HRES1.out.below hb2)
    have HRB2 := Lib.hid (HRB1.out.below (hb2.mono HB1.out.size))
    rcases hcase with ⟨x, Am, cm, ho, rfl, hom, hok, hin⟩ | ⟨ho, rfl⟩
    · obtain rfl := ho
      have q3 := (Below.refl W2.heap.size W2).alloc (Nat.le_refl _) (.cells (ichC x Am cm) 45)
      have hI3 : IBlk (W2.alloc (.cells (ichC x Am cm) 45)) W2.heap.size x Am cm := heap_alloc_new W2 _
      have HB3 := Lib.hid (HB2.out.trans (q3.mono HB2.out.size))
      have HRES3 := Lib.hid (HRES2.out.below q3)
      have HRB3 := Lib.hid (HRB2.out.below (q3.mono HB2.out.size))
      have HOM := Lib.hid (hom.below q3)
      have hwg : w.heap.size < W2.heap.size := HRES2.out.lt
      have HOKM := Lib.hid hok
      clear hom hok hin hb2 HB2 HRES2 HRB2 HIC HRES1 HRB1
      go_upto_region 7 with (fail)
      generalize hW : W2.alloc (.cells (ichC x Am cm) 45) = W3 at hI3 HB3 HRES3 HRB3 HOM ⊢
      obtain ⟨i0, i1, i2, i3⟩ := hI3.all
      generalize hg7 : W2.heap.size = g7 at hI3 hwg i0 i1 i2 i3 ⊢
      clear hW hg7
      have HI3 := Lib.hid hI3
      clear hI3
      obtain ⟨A3, c3, e3, _, hm3⟩ := HOM.out.at_
      injection e3 with e3 _ e4
      subst e3; subst e4
      have HPK := Lib.hid (pack_any x Am cm W3 hm3 (fun m hm => (HOKM.out m hm).bd) (HG.out.tab.below HB3.out))
      unfold PkRet at HPK
      have HPE := Lib.hid (pack_snd x)
      clear hm3
      have HFI := Lib.hid (fin_cases x b)
      generalize packF x = pk at *
      obtain ⟨pb, pe⟩ := pk
      simp only at HPK HPE HFI
      go_wp2_with fail
      refine HPK.out.mono ?_
      rintro e W4 ⟨A4, c4, rfl, hc4, hc4m, hr4, hb4⟩
      have HB4 := Lib.hid (HB3.out.trans (hb4.mono HB3.out.size))
      have HRES4 := Lib.hid (HRES3.out.below hb4)
      have HRB4 := Lib.hid (HRB3.out.below (hb4.mono HB3.out.size))
      have HI4 := Lib.hid (HI3.out.below hb4)
      have HOM4 := Lib.hid (HOM.out.below hb4)
      have HR4 := Lib.hid hr4
      clear hb4 hr4 i0 i1 i2 i3 HPK HB3 HRES3 HRB3 HI3 HOM hc4 hc4m
      by_cases hpe : pe = 0
      · subst hpe
        have HEQ0 := equal_any A4 A c4 c pb b W4 HR4.out.rd HRB4.out.rd
        rw [HNB.out] at HEQ0
        have HEQ := Lib.hid HEQ0
        clear HEQ0
        obtain ⟨i0, i1, i2, i3⟩ := HI4.out.all
        generalize pb.length = npb at *
        rcases hbq : (pb == b) with _ | _
        · have HJB : Hid (q = (zeroI, 11)) := HJA.out.trans (HFI.out.2.1 (by decide) (by simpa using hbq))
          rw [hbq] at HEQ
          clear hbq HFI HPE
          go_wp2_with (first | (go_at_call 53; refine HEQ.out.mono ?_; rintro e w9 ⟨rfl, rfl⟩) | (refine at_store 45 (.tmp 2) (.tmp 40) rfl ?_; refine wpList_store_box rfl 45 (.tmp 2) (.tmp 40) rfl w.heap.size 0 (.agg #[.int .i64 0, .int .i64 0, .int .i64 0, .slice none 0 0]) #[.int .i64 0, .int .i64 0, .int .i64 0, .slice none 0 0] rfl rfl rfl [.int .i64 0, .int .i64 0, .int .i64 0, .slice none 0 0] [.int .i64 0, .int .i64 0, .int .i64 0, .slice none 0 0] 45 HRES4.out (Nat.le_of_ble_eq_true rfl) rfl (by kernel_rfl) rfl ?_; intro W9 hb9 hP9; have HR9 := Lib.hid hb9; have HP9 := Lib.hid hP9; clear hb9 hP9))
          exact ret2 (k := 2) (j := 3) (g := w.heap.size) (T := 45) (cs := #[.int .i64 0, .int .i64 0, .int .i64 0, .slice none 0 0]) Tryz.results20 rfl HR9.out Tryz.underlying45 (by kernel_rfl) rfl (u_zero HJB.out (Below.but HB4.out HP9.out (Nat.le_refl _)))
        · have HJB : Hid (q = (x, 0)) := HJA.out.trans (HFI.out.2.2 (by decide) (by simpa using hbq))
          rw [hbq] at HEQ
          clear hbq HFI HPE
          go_wp2_with (first | (go_at_call 53; refine HEQ.out.mono ?_; rintro e w9 ⟨rfl, rfl⟩) | (refine at_store 45 (.tmp 2) (.tmp 41) rfl ?_; refine wpList_store_box rfl 45 (.tmp 2) (.tmp 41) rfl w.heap.size 0 (.agg #[.int .i64 x.sender, .int .i64 x.receiver, .int .i64 x.number, .slice Am x.msgs.length cm]) #[.int .i64 x.sender, .int .i64 x.receiver, .int .i64 x.number, .slice Am x.msgs.length cm] rfl rfl rfl [.int .i64 0, .int .i64 0, .int .i64 0, .slice none 0 0] [.int .i64 x.sender, .int .i64 x.receiver, .int .i64 x.number, .slice Am x.msgs.length cm] 45 HRES4.out (Nat.le_of_ble_eq_true rfl) rfl (by kernel_rfl) rfl ?_; intro W9 hb9 hP9; have HR9 := Lib.hid hb9; have HP9 := Lib.hid hP9; clear hb9 hP9))
          exact ret2 (k := 2) (j := 3) (g := w.heap.size) (T := 45) (cs := ichC x Am cm) Tryz.results20 rfl HR9.out Tryz.underlying45 (by kernel_rfl) rfl (by have h := HJB.out; show URet _ q _ _; rw [h]; exact ⟨Am, cm, rfl, (HOM4.out.but HP9.out hgz).mono (Nat.le_of_lt hgz), Below.but HB4.out HP9.out (Nat.le_refl _)⟩)
      · have hne : (pe != 0) = true := by simpa using hpe
        have HJB : Hid (q = (zeroI, 4)) := HJA.out.trans (HFI.out.1 hpe)
        clear hpe HFI HPE
        go_wp2_with (refine at_store 45 (.tmp 2) (.tmp 35) rfl ?_; refine wpList_store_box rfl 45 (.tmp 2) (.tmp 35) rfl w.heap.size 0 (.agg #[.int .i64 0, .int .i64 0, .int .i64 0, .slice none 0 0]) #[.int .i64 0, .int .i64 0, .int .i64 0, .slice none 0 0] rfl rfl rfl [.int .i64 0, .int .i64 0, .int .i64 0, .slice none 0 0] [.int .i64 0, .int .i64 0, .int .i64 0, .slice none 0 0] 45 HRES4.out (Nat.le_of_ble_eq_true rfl) rfl (by kernel_rfl) rfl ?_; intro W9 hb9 hP9; have HR9 := Lib.hid hb9; have HP9 := Lib.hid hP9; clear hb9 hP9)
        exact ret2 (k := 2) (j := 3) (g := w.heap.size) (T := 45) (cs := #[.int .i64 0, .int .i64 0, .int .i64 0, .slice none 0 0]) Tryz.results20 rfl HR9.out Tryz.underlying45 (by kernel_rfl) rfl (u_zero HJB.out (Below.but HB4.out HP9.out (Nat.le_refl _)))
    · obtain rfl := ho
      have HJB : Hid (q = (zeroI, 4)) := HJA.out
      have qz := (Below.refl W2.heap.size W2).alloc (Nat.le_refl _) (.cells #[.int .i64 0, .int .i64 0, .int .i64 0, .slice none 0 0] 45)
      have HBZ := Lib.hid (HB2.out.trans (qz.mono HB2.out.size))
      have HRESZ := Lib.hid (HRES2.out.below qz)
      clear hb2 HIC HRES1 HRB1 qz
      go_wp2_with (refine at_store 45 (.tmp 2) (.tmp 27) rfl ?_; refine wpList_store_box rfl 45 (.tmp 2) (.tmp 27) rfl w.heap.size 0 (.agg #[.int .i64 0, .int .i64 0, .int .i64 0, .slice none 0 0]) #[.int .i64 0, .int .i64 0, .int .i64 0, .slice none 0 0] rfl rfl rfl [.int .i64 0, .int .i64 0, .int .i64 0, .slice none 0 0] [.int .i64 0, .int .i64 0, .int .i64 0, .slice none 0 0] 45 HRESZ.out (Nat.le_of_ble_eq_true rfl) rfl (by kernel_rfl) rfl ?_; intro W9 hb9 hP9; have HR9 := Lib.hid hb9; have HP9 := Lib.hid hP9; clear hb9 hP9)
      exact ret2 (k := 2) (j := 3) (g := w.heap.size) (T := 45) (cs := #[.int .i64 0, .int .i64 0, .int .i64 0, .slice none 0 0]) Tryz.results20 rfl HR9.out Tryz.underlying45 (by kernel_rfl) rfl (u_zero HJB.out (Below.but HBZ.out HP9.out (Nat.le_refl _)))
  · have HJB : Hid (q = (zeroI, er)) := HJ.out.trans (if_neg h0)
    have hne : (er != 0) = true := by simpa using h0
    clear HJ HDF h0 HAT
    go_wp2_with (refine at_store 45 (.tmp 2) (.tmp 18) rfl ?_; refine wpList_store_box rfl 45 (.tmp 2) (.tmp 18) rfl w.heap.size 0 (.agg #[.int .i64 0, .int .i64 0, .int .i64 0, .slice none 0 0]) #[.int .i64 0, .int .i64 0, .int .i64 0, .slice none 0 0] rfl rfl rfl [.int .i64 0, .int .i64 0, .int .i64 0, .slice none 0 0] [.int .i64 0, .int .i64 0, .int .i64 0, .slice none 0 0] 45 HRES1.out (Nat.le_of_ble_eq_true rfl) rfl (by kernel_rfl) rfl ?_; intro W9 hb9 hP9; have HR9 := Lib.hid hb9; have HP9 := Lib.hid hP9; clear hb9 hP9)
    exact ret2 (k := 2) (j := 3) (g := w.heap.size) (T := 45) (cs := #[.int .i64 0, .int .i64 0, .int .i64 0, .slice none 0 0]) Tryz.results20 rfl HR9.out Tryz.underlying45 (by kernel_rfl) rfl (u_zero HJB.out (Below.but HB1.out HP9.out (Nat.le_refl _)))
end Go.Proofs.YtmjlnckmhdgoiaaGreatDoor

/-! Contract of customsref06.Pack. -/
namespace Go.Proofs.YtmjlnckmhdgoiaaGreatDoor
open Go.RowKit
set_option linter.unusedVariables false

def RpkRet (w : World) (r : Bs × Int) (e : Ending) (w' : World) : Prop := ∃ v, e = .returned (.tuple #[v, .int .i64 r.2]) ∧ OwnB w' w.heap.size v r.1 ∧ Below w.heap.size w w'
theorem rpk_bad {w w' : World} {x : Ich} {E : Int} (h : packF x = ([], E)) {e : Ending} (he : e = .returned (.tuple #[.slice none 0 0, .int .i64 E])) (hb : Below w.heap.size w w') : RpkRet w (packF x) e w' := by
  rw [h]
  exact ⟨_, he, OwnB.nil_ _ _, hb⟩
def RpRel (x : Ich) (w : World) (g1 : Nat) (A : Option Addr) (c : Nat) (g : Nat) (i : Value) (wr : World) : Prop :=
  ∃ k : Nat, k + g = x.msgs.length ∧ i = .int .i64 (k : Int) ∧ IBlk wr g1 x A c ∧ Below w.heap.size w wr ∧ errL x.msgs = errL (x.msgs.drop k) ∧ ∀ m ∈ x.msgs.take k, OkM m
theorem rd_cells {w : World} {g : Nat} {T : TypeId} {l : List Int} {fr : Nat × Nat} (h : w.heap[g]? = some (.cells (ints l).toArray T fr)) : Rd w (some ⟨g, 0, none⟩) (ints l) := fun j u hu => ⟨_, rfl, by
  rw [Addr.add_lit, cell_of_row _ _ _ _ _ _ h, Nat.zero_add]
  simpa using hu⟩
theorem ownB_kept {w w' : World} {B B' : Nat} {u v : Value} {xs : Bs} {l : List Seg} (h : OwnB w B u xs) (hs : SgX w B' v l) (hg : w.grownBy w' v.ownBlock) : OwnB w' B u xs := by
  obtain ⟨cs, h1, _⟩ := hs
  exact World.ownsRow.kept h hg (ownx_ne h1 h (by decide))
theorem ownB_rd {w : World} {B n c : Nat} {A : Option Addr} {xs : Bs} (h : OwnB w B (.slice A n c) xs) : Rd w A (u8s xs) := by
  obtain ⟨A', c', e, hr, _, _⟩ := h.shape
  injection e with e _ _
  rw [e]
  exact hr
theorem IBlk.keptX {W W' : World} {g : Nat} {x : Ich} {A : Option Addr} {c : Nat} (h : IBlk W g x A c) {row : Option Nat} (hg : W.grownBy W' row) (hr : row ≠ some g) : IBlk W' g x A c := h.kept hg hr
theorem SgX.ne_ich {w : World} {B g : Nat} {v : Value} {l : List Seg} {x : Ich} {A : Option Addr} {c : Nat} (h : SgX w B v l) (hI : IBlk w g x A c) : v.ownBlock ≠ some g := by
  obtain ⟨cs, h1, _⟩ := h
  exact h1.ne_blk hI (by decide)
set_option maxRecDepth 100000 in
set_option maxHeartbeats 80000000 in
theorem refPack_any (x : Ich) (A : Option Addr) (c : Nat) (w : World) (hm : MsgsAt w w.heap.size A x.msgs) (hbd : ∀ m ∈ x.msgs, MBd m) :
    Calls Tryz.prog 19 #[ichV x A c] w (RpkRet w (packF x)) := by
  have q0 := (Below.refl w.heap.size w).alloc (Nat.le_refl _) (.cells (ichC x A c) 45)
  have hI0 : IBlk (w.alloc (.cells (ichC x A c) 45)) w.heap.size x A c := heap_alloc_new w _
  have HO := Lib.hid (fun (n hi : Int) (w : World) => in_any n hi w)
  have HI : Hid (ichB x = (outB x.sender 0 999 || (outB x.receiver 0 999 || outB x.number 0 1000000000))) := rfl
  have HM := Lib.hid hm
  have HBD := Lib.hid hbd
  clear hm hbd
  rcases b0 : outB x.sender 0 999 with _ | _
  · rcases b1 : outB x.receiver 0 999 with _ | _
    · rcases b2 : outB x.number 0 1000000000 with _ | _
      · have hi0 : ichB x = false := by rw [HI.out, b0, b1, b2]; rfl
        have HI0 := Lib.hid hi0
        have HS := Lib.hid (outB_false.1 b0)
        have HRC := Lib.hid (outB_false.1 b1)
        have HN := Lib.hid (outB_false.1 b2)
        clear hi0 HI
        by_cases hlen : 1000 < x.msgs.length
        · have HJ := Lib.hid (packF_8 HI0.out hlen)
          have hl1 : decide ((1000 : Int) < (x.msgs.length : Int)) = true := by simp; omega
          clear hlen
          go_enter Tryz.func19, Tryz.ntmps19
          go_wp2_with (go_at_call 49; refine (HO.out _ _ _).mono ?_; rintro e w' ⟨rfl, rfl⟩)
          go_ret2
          exact rpk_bad HJ.out rfl q0
        · have hl1 : decide ((1000 : Int) < (x.msgs.length : Int)) = false := by simp; omega
          have HLN := Lib.hid hlen
          have HI1 := Lib.hid hI0
          have HQ0 := Lib.hid q0
          have hl2 : x.msgs.length ≤ 1000 := by omega
          clear hlen hI0 q0
          go_enter Tryz.func19, Tryz.ntmps19
          go_upto_region 6 with (go_at_call 49; refine (HO.out _ _ _).mono ?_; rintro e w' ⟨rfl, rfl⟩)
          clear b0 b1 b2 hl1 HO
          generalize hW0 : w.alloc (.cells (ichC x A c) 45) = W0 at HI1 HQ0 ⊢
          clear hW0
          obtain ⟨g1, hg1⟩ : ∃ g1, w.heap.size = g1 := ⟨_, rfl⟩
          have HGE := Lib.hid hg1
          rw [hg1] at HI1 ⊢
          clear hg1
          go_loopg [4] x.msgs.length (fun g i wr => RpRel x w g1 A c g i wr)
          case atStart => exact ⟨0, by omega, rfl, HI1.out, HQ0.out, rfl, fun m hm => (by cases hm)⟩
          case round =>
            obtain ⟨k, hk, rfl, hI, hb, herr, hok⟩ := hrel
            have HK := Lib.hid hk
            have HI2 := Lib.hid hI
            have HB := Lib.hid hb
            have HER := Lib.hid herr
            have HOK := Lib.hid hok
            have hkn : k ≤ x.msgs.length := by omega
            obtain ⟨i0, i1, i2, i3⟩ := hI.all
            clear hk hI hb herr hok HI1 HQ0
            by_cases hlt : k < x.msgs.length
            · obtain ⟨b, off, Am, cm, rfl, hbl, hrm, f0, f1, f2, f3, f4, f5, f6, f7, f8, f9, f10, f11, f12⟩ := (HM.out.below HB.out).cells hlt
              have HST := Lib.hid (errL_step hlt)
              have HTK := Lib.hid (fun h => take_okM hlt HOK.out h)
              have HME := Lib.hid (refMessage_any x.msgs[k] Am cm wr hrm.rd (HBD.out _ (List.getElem_mem hlt)))
              clear hrm
              generalize x.msgs[k] = m at *
              generalize hvm : validM m = vm at *
              have HVM := Lib.hid hvm
              clear hvm
              go_wp2_with fail
              refine HME.out.mono ?_
              rintro e W2 ⟨rfl, hb2⟩
              have HB2 := Lib.hid (HB.out.trans (hb2.mono HB.out.size))
              have HI4 := Lib.hid (HI2.out.below hb2)
              clear hb2 HME HB HI2 i0 i1 i2 i3 f0 f1 f2 f3 f4 f5 f6 f7 f8 f9 f10 f11 f12
              by_cases hv : vm = 0
              · subst hv
                have hzz : ((0 : Int) != 0) = false := rfl
                go_wp2
                go_roundg (x.msgs.length - (k + 1))
                case measure => have := HK.out; omega
                case rel => exact ⟨k + 1, by have := HK.out; omega, by go_num, HI4.out, HB2.out, by rw [HER.out, HST.out]; simp, HTK.out (okM_iff.1 HVM.out)⟩
              · have hne : (vm != 0) = true := by simpa using hv
                have HJ : Hid (packF x = ([], vm)) := by
                  have e1 : errL x.msgs = vm := by rw [HER.out, HST.out, if_neg hv]
                  show _ = _
                  rw [packF_e HI0.out HLN.out (by rw [e1]; exact hv), e1]
                clear hv
                go_wp2
                go_ret2
                exact rpk_bad HJ.out rfl HB2.out
            · have hge : x.msgs.length ≤ k := by omega
              have hok := HOK.out
              rw [List.take_of_length_le hge] at hok
              have HOKI := Lib.hid (okI_of HI0.out HLN.out hok)
              have HJ := Lib.hid (packF_ok HOKI.out)
              have HBL : Hid ((bodyL x.msgs).length ≤ 1000000000) := Nat.le_trans (body_len hok hl2) (by omega)
              have HVS := Lib.hid (segsL_ok hok)
              have HSM := Lib.hid (segsL_sml hok)
              have HLL := Lib.hid (segsL_len x.msgs)
              have HIN := Lib.hid (inner_any A c x.msgs wr ((HM.out.below HB.out).mono HB.out.size) hok hl2)
              unfold InRet at HIN
              have hgg : g1 < wr.heap.size := HI2.out.lt
              clear hok HOK hlt
              go_wp2_with fail
              refine HIN.out.mono ?_
              rintro e W3 ⟨v3, rfl, ho3, hb3⟩
              obtain ⟨A6, c6, rfl, _, hat3⟩ := ho3.at_
              have HB3 := Lib.hid (HB.out.trans (hb3.mono HB.out.size))
              have HI3 := Lib.hid (HI2.out.below hb3)
              have HL3 := Lib.hid (ho3.mono HB.out.size)
              have HEN := Lib.hid (refEncode_any A6 c6 (segsL x.msgs) W3 hat3 (by have := HLL.out; omega) (fits_sml HSM.out (by have := HLL.out; omega)) (fun s hs => sized_valid (HVS.out s hs)))
              unfold EncRet at HEN
              have HEZ : Hid (encE? (segsL x.msgs) = 0) := encE?_zero.2 HVS.out
              have HBD : Hid ([sUNB x].length + (segsL x.msgs).length ≤ 1000000 ∧ ([sUNB x] ++ segsL x.msgs).length + 1 ≤ 1000000) := by have := HLL.out; refine ⟨?_, ?_⟩ <;> simp only [List.length_append, List.length_singleton] <;> omega
              have HEB : Hid (encAll (segsL x.msgs) = bodyL x.msgs) := rfl
              rw [HEB.out] at HEN
              have HNB1 : Hid (∀ y ∈ [x.sender, x.receiver, x.number], -9223372036854775807 ≤ y ∧ y ≤ 9223372036854775807) := by
                intro y hy
                have := HS.out; have := HRC.out; have := HN.out
                simp only [List.mem_cons, List.not_mem_nil, or_false] at hy
                rcases hy with rfl | rfl | rfl <;> omega
              have HNB2 : Hid (∀ y ∈ [(x.msgs.length : Int), adlF (bodyL x.msgs)], -9223372036854775807 ≤ y ∧ y ≤ 9223372036854775807) := by
                intro y hy
                have := adl_bd (bodyL x.msgs)
                simp only [List.mem_cons, List.not_mem_nil, or_false] at hy
                rcases hy with rfl | rfl <;> omega
              generalize hn6 : (segsL x.msgs).length = n6 at HL3 HEN HBD HLL ⊢
              have HN6 := Lib.hid hn6
              clear hn6 ho3 hat3 hb3 HIN HB HI2 i0 i1 i2 i3 HSM HVS
              go_wp2_with fail
              refine HEN.out.mono ?_
              rintro e W5 ⟨hb5, hcase⟩
              rcases hcase.resolve_right (fun h => absurd HEZ.out h.1) with ⟨_, vb, rfl, hob⟩
              obtain ⟨Ab, cb, rfl, hrb, _, _⟩ := hob.shape
              have HB5 := Lib.hid (HB3.out.trans (hb5.mono HB3.out.size))
              have HI5 := Lib.hid (HI3.out.below hb5)
              have HL5 := Lib.hid (HL3.out.below hb5)
              have HR5 := Lib.hid (hob.mono HB3.out.size)
              obtain ⟨i0, i1, i2, i3⟩ := HI5.out.all
              generalize hnb : (bodyL x.msgs).length = nb at HBL HR5 ⊢
              have HNB := Lib.hid hnb
              clear hnb hob hrb hb5 hcase HEN HB3 HI3 HL3 HEZ HER HK
              go_wp2_with fail
              refine wp_region_x 99 (by kernel_rfl) (fun W => IBlk W g1 x A c) ?_
              have HS : Hid (IBlk W5.drew g1 x A c) := HI5.out
              have HB : Hid (Below w.heap.size w W5.drew) := HB5.out.drew
              have HL : Hid (SgX W5.drew w.heap.size (.slice A6 n6 c6) (segsL x.msgs)) := HL5.out
              have HR : Hid (OwnB W5.drew w.heap.size (.slice Ab nb cb) (bodyL x.msgs)) := HR5.out
              generalize hV : W5.drew = V0 at HS HB HL HR ⊢
              clear hV HI5 HB5 HL5 HR5 i0 i1 i2 i3
              refine wpAnyX_take1 (i := 0) (v := .pointer (some ⟨g1, 0, none⟩)) rfl (by kernel_rfl) (fun _ _ _ h => h) HS.out (Or.inl ⟨by rfl, fun w hS => by (obtain ⟨q0, q1, q2, q3⟩ := hS.all; go_simp)⟩) ?_
              go_simp
              refine wpAnyX_take1 (i := 1) (v := .int .i64 x.sender) rfl (by kernel_rfl) (fun _ _ _ h => h) HS.out (Or.inl ⟨by rfl, fun w hS => by (obtain ⟨q0, q1, q2, q3⟩ := hS.all; go_simp)⟩) ?_
              go_simp
              refine wpAnyX_take1 (i := 2) (v := .pointer (some ⟨g1, 1, none⟩)) rfl (by kernel_rfl) (fun _ _ _ h => h) HS.out (Or.inl ⟨by rfl, fun w hS => by (obtain ⟨q0, q1, q2, q3⟩ := hS.all; go_simp)⟩) ?_
              go_simp
              refine wpAnyX_take1 (i := 3) (v := .int .i64 x.receiver) rfl (by kernel_rfl) (fun _ _ _ h => h) HS.out (Or.inl ⟨by rfl, fun w hS => by (obtain ⟨q0, q1, q2, q3⟩ := hS.all; go_simp)⟩) ?_
              go_simp
              refine wpAnyX_take1 (i := 4) (v := .pointer (some ⟨g1, 2, none⟩)) rfl (by kernel_rfl) (fun _ _ _ h => h) HS.out (Or.inl ⟨by rfl, fun w hS => by (obtain ⟨q0, q1, q2, q3⟩ := hS.all; go_simp)⟩) ?_
              go_simp
              refine wpAnyX_take1 (i := 5) (v := .int .i64 x.number) rfl (by kernel_rfl) (fun _ _ _ h => h) HS.out (Or.inl ⟨by rfl, fun w hS => by (obtain ⟨q0, q1, q2, q3⟩ := hS.all; go_simp)⟩) ?_
              go_simp
              refine wpAnyX_take1 (i := 9) (v := .slice A6 n6 c6) rfl (by kernel_rfl) (fun _ _ _ h => h) HS.out (Or.inl ⟨by rfl, fun w hS => by (obtain ⟨q0, q1, q2, q3⟩ := hS.all; go_simp)⟩) ?_
              go_simp
              refine wpAnyX_take1 (i := 11) (v := .pointer (some ⟨g1, 3, none⟩)) rfl (by kernel_rfl) (fun _ _ _ h => h) HS.out (Or.inl ⟨by rfl, fun w hS => by (obtain ⟨q0, q1, q2, q3⟩ := hS.all; go_simp)⟩) ?_
              go_simp
              refine wpAnyX_take1 (i := 12) (v := .slice A x.msgs.length c) rfl (by kernel_rfl) (fun _ _ _ h => h) HS.out (Or.inl ⟨by rfl, fun w hS => by (obtain ⟨q0, q1, q2, q3⟩ := hS.all; go_simp)⟩) ?_
              go_simp
              refine wpAnyX_take1 (i := 13) (v := .int .i64 (x.msgs.length : Int)) rfl (by kernel_rfl) (fun _ _ _ h => h) HS.out (Or.inl ⟨by rfl, fun w hS => by (obtain ⟨q0, q1, q2, q3⟩ := hS.all; go_simp)⟩) ?_
              go_simp
              refine wpAnyX_take1 (i := 14) (v := .slice Ab nb cb) rfl (by kernel_rfl) (fun _ _ _ h => h) HS.out (Or.inl ⟨by rfl, fun w hS => by (obtain ⟨q0, q1, q2, q3⟩ := hS.all; go_simp)⟩) ?_
              go_simp
              refine wpAnyX_one (i := 6) (by kernel_rfl) rfl (fun J hJ => ?_)
              go_simp
              have hb := (Below.refl V0.heap.size V0).alloc (Nat.le_refl _) (.cells #[.int .i64 x.sender, .int .i64 x.receiver, .int .i64 x.number] 3)
              have hnew := heap_alloc_new V0 (.cells #[.int .i64 x.sender, .int .i64 x.receiver, .int .i64 x.number] 3)
              replace HS := Lib.hid (HS.out.below hb)
              replace HB := Lib.hid (HB.out.trans (hb.mono HB.out.size))
              replace HR := Lib.hid (HR.out.below hb)
              replace HL := Lib.hid (HL.out.below hb)
              refine hJ.out _ _ (fun _ => HS.out) ?_
              clear hJ J
              generalize hV : V0.alloc (.cells #[.int .i64 x.sender, .int .i64 x.receiver, .int .i64 x.number] 3) = V1 at HS HB HR HL hnew ⊢
              generalize hg : V0.heap.size = gV1 at HL hnew ⊢
              clear hV hg hb
              have hr1 : Rd V1 (some ⟨gV1, 0, none⟩) (ints [x.sender, x.receiver, x.number]) := rd_cells hnew
              have HRW := Lib.hid (row_any tUNB (some ⟨gV1, 0, none⟩) 3 [x.sender, x.receiver, x.number] V1 hr1 (by simp) (fun y hy => HNB1.out y hy))
              unfold RowRet at HRW
              clear hr1 hnew
              refine wpAnyX_one (i := 7) (by kernel_rfl) rfl (fun J hJ => ?_)
              go_simp
              go_wp2_with (go_at_call 25; refine HRW.out.mono ?_; rintro e V2 ⟨Ar, cr, rfl, hor, hb⟩)
              replace HS := Lib.hid (HS.out.below hb)
              replace HR := Lib.hid (HR.out.below hb)
              replace HL := Lib.hid (HL.out.below hb)
              have HOR := Lib.hid ((hor.mono HB.out.size : ElsOwn V2 w.heap.size (.slice Ar [elN x.sender, elN x.receiver, elN x.number].length cr) [elN x.sender, elN x.receiver, elN x.number]))
              replace HB := Lib.hid (HB.out.trans (hb.mono HB.out.size))
              refine hJ.out _ _ (fun _ => HS.out) ?_
              clear hJ J hb hor HRW
              refine wpAnyX_one (i := 8) (by kernel_rfl) rfl (fun J hJ => ?_)
              go_simp
              have hb := (Below.refl V2.heap.size V2).alloc (Nat.le_refl _) (.cells #[.string ⟨tUNB.toArray⟩, .slice Ar 3 cr] 57)
              have hnew := heap_alloc_new V2 (.cells #[.string ⟨tUNB.toArray⟩, .slice Ar 3 cr] 57)
              have HX : Hid (SgX (V2.alloc (.cells #[.string ⟨tUNB.toArray⟩, .slice Ar 3 cr] 57)) w.heap.size (.slice (some ⟨V2.heap.size, 0, none⟩) 1 1) [sUNB x]) := SgX.of (SegsOwn.single (t := tUNB) (els := [elN x.sender, elN x.receiver, elN x.number]) HB.out.size HOR.out)
              replace HS := Lib.hid (HS.out.below hb)
              replace HB := Lib.hid (HB.out.trans (hb.mono HB.out.size))
              replace HR := Lib.hid (HR.out.below hb)
              replace HL := Lib.hid (HL.out.below hb)
              clear HOR
              refine hJ.out _ _ (fun _ => HS.out) ?_
              clear hJ J
              generalize hV : V2.alloc (.cells #[.string ⟨tUNB.toArray⟩, .slice Ar 3 cr] 57) = V3 at HS HB HR HL HX hnew ⊢
              generalize hg : V2.heap.size = gV3 at HL HX hnew ⊢
              clear hV hg hb
              clear hnew
              refine wpAnyX_one (i := 10) (by kernel_rfl) rfl (fun J hJ => ?_)
              refine step_append_sgx V3 (by rfl) (.tmp 61) (.tmp 62) (by rfl) w.heap.size _ [sUNB x] (segsL x.msgs) (by rfl) HX.out _ _ _ (by rfl) HN6.out HL.out (by have := HBD.out.1; have := HN6.out; omega) HB.out.size ?_
              intro vx V4 hox hb hgr
              replace HS := Lib.hid (HS.out.keptX hgr (HX.out.ne_ich HS.out))
              replace HR := Lib.hid (ownB_kept HR.out HX.out hgr)
              replace HB := Lib.hid (HB.out.trans hb)
              have HX2 := Lib.hid hox
              obtain ⟨Ax, cx, hvx, _, _⟩ := hox.at_
              subst hvx
              refine hJ.out _ _ (fun _ => HS.out) ?_
              clear hJ J hb hox hgr HX HL
              refine wpAnyX_one (i := 15) (by kernel_rfl) rfl (fun J hJ => ?_)
              go_simp
              have hck := refChecksum_any Ab cb (bodyL x.msgs) V4 (ownB_rd HR.out) (by have := HBL.out; have := HNB.out; omega)
              rw [HNB.out] at hck
              go_wp2_with (go_at_call 51; refine hck.mono ?_; rintro e w9 ⟨rfl, rfl⟩)
              refine hJ.out _ _ (fun _ => HS.out) ?_
              clear hJ J hck
              generalize hck : adlF (bodyL x.msgs) = ck at HNB2 ⊢
              have HCK := Lib.hid hck
              clear hck
              refine wpAnyX_one (i := 16) (by kernel_rfl) rfl (fun J hJ => ?_)
              go_simp
              have hb := (Below.refl V4.heap.size V4).alloc (Nat.le_refl _) (.cells #[.int .i64 (x.msgs.length : Int), .int .i64 ck] 3)
              have hnew := heap_alloc_new V4 (.cells #[.int .i64 (x.msgs.length : Int), .int .i64 ck] 3)
              replace HS := Lib.hid (HS.out.below hb)
              replace HB := Lib.hid (HB.out.trans (hb.mono HB.out.size))
              replace HR := Lib.hid (HR.out.below hb)
              replace HX2 := Lib.hid (HX2.out.below hb)
              refine hJ.out _ _ (fun _ => HS.out) ?_
              clear hJ J
              generalize hV : V4.alloc (.cells #[.int .i64 (x.msgs.length : Int), .int .i64 ck] 3) = V5 at HS HB HR HX2 hnew ⊢
              generalize hg : V4.heap.size = gV5 at HX2 hnew ⊢
              clear hV hg hb
              have hr1 : Rd V5 (some ⟨gV5, 0, none⟩) (ints [(x.msgs.length : Int), ck]) := rd_cells hnew
              have HRW := Lib.hid (row_any tUNZ (some ⟨gV5, 0, none⟩) 2 [(x.msgs.length : Int), ck] V5 hr1 (by simp) (fun y hy => HNB2.out y hy))
              unfold RowRet at HRW
              clear hr1 hnew
              refine wpAnyX_one (i := 17) (by kernel_rfl) rfl (fun J hJ => ?_)
              go_simp
              go_wp2_with (go_at_call 25; refine HRW.out.mono ?_; rintro e V6 ⟨Ar, cr, rfl, hor, hb⟩)
              replace HS := Lib.hid (HS.out.below hb)
              replace HR := Lib.hid (HR.out.below hb)
              replace HX2 := Lib.hid (HX2.out.below hb)
              have HOR := Lib.hid ((hor.mono HB.out.size : ElsOwn V6 w.heap.size (.slice Ar [elN (x.msgs.length : Int), elN ck].length cr) [elN (x.msgs.length : Int), elN ck]))
              replace HB := Lib.hid (HB.out.trans (hb.mono HB.out.size))
              refine hJ.out _ _ (fun _ => HS.out) ?_
              clear hJ J hb hor HRW
              refine wpAnyX_one (i := 18) (by kernel_rfl) rfl (fun J hJ => ?_)
              go_simp
              have hb := (Below.refl V6.heap.size V6).alloc (Nat.le_refl _) (.cells #[.string ⟨tUNZ.toArray⟩, .slice Ar 2 cr] 57)
              have hnew := heap_alloc_new V6 (.cells #[.string ⟨tUNZ.toArray⟩, .slice Ar 2 cr] 57)
              have HX : Hid (SgX (V6.alloc (.cells #[.string ⟨tUNZ.toArray⟩, .slice Ar 2 cr] 57)) w.heap.size (.slice (some ⟨V6.heap.size, 0, none⟩) 1 1) [⟨tUNZ, [elN (x.msgs.length : Int), elN ck]⟩]) := SgX.of (SegsOwn.single (t := tUNZ) (els := [elN (x.msgs.length : Int), elN ck]) HB.out.size HOR.out)
              replace HS := Lib.hid (HS.out.below hb)
              replace HB := Lib.hid (HB.out.trans (hb.mono HB.out.size))
              replace HR := Lib.hid (HR.out.below hb)
              replace HX2 := Lib.hid (HX2.out.below hb)
              clear HOR
              refine hJ.out _ _ (fun _ => HS.out) ?_
              clear hJ J
              generalize hV : V6.alloc (.cells #[.string ⟨tUNZ.toArray⟩, .slice Ar 2 cr] 57) = V7 at HS HB HR HX2 HX hnew ⊢
              generalize hg : V6.heap.size = gV7 at HX2 HX hnew ⊢
              clear hV hg hb
              clear hnew
              refine wpAnyX_one (i := 19) (by kernel_rfl) rfl (fun J hJ => ?_)
              refine step_append_sgx V7 (by rfl) (.tmp 63) (.tmp 71) (by rfl) w.heap.size _ ([sUNB x] ++ segsL x.msgs) [⟨tUNZ, [elN (x.msgs.length : Int), elN ck]⟩] (by rfl) HX2.out _ _ _ (by rfl) rfl HX.out HBD.out.2 HB.out.size ?_
              intro vx V8 hox hb hgr
              replace HS := Lib.hid (HS.out.keptX hgr (HX2.out.ne_ich HS.out))
              replace HB := Lib.hid (HB.out.trans hb)
              have HY := Lib.hid hox
              obtain ⟨Ay, cy, hvy, _, _⟩ := hox.at_
              subst hvy
              refine hJ.out _ _ (fun _ => HS.out) ?_
              clear hJ J hb hox hgr HX HX2 HR
              refine wpAnyX_one (i := 20) (by kernel_rfl) rfl (fun J hJ => ?_)
              go_simp
              go_wp2
              refine hJ.out _ _ (fun _ => HS.out) ?_
              clear hJ J
              refine wpAnyX_done (by kernel_rfl) ?_
              have HYE : Hid ([sUNB x] ++ segsL x.msgs ++ [⟨tUNZ, [elN (x.msgs.length : Int), elN ck]⟩] = ichSegs x) := by show _ = _; rw [← HCK.out]; unfold ichSegs sUNZ; simp
              rw [HYE.out] at HY
              obtain ⟨Az, cz, ez, _, hatz⟩ := HY.out.at_
              injection ez with ez ez1 ez2
              subst ez; subst ez2
              clear ez1
              have HLI := Lib.hid (ichSegs_len x)
              have hfe := refEncode_any Ay cy (ichSegs x) V8 hatz (by have := HLI.out; omega) (fits_sml (ichSegs_sml HOKI.out) (by have := HLI.out; omega)) (fun s hs => sized_valid (ichSegs_ok HOKI.out s hs))
              have hil : (ichSegs x).length = (segsL x.msgs).length + 1 + 1 := by unfold ichSegs; simp
              rw [hil] at hfe
              clear hil
              have HFE := Lib.hid hfe
              unfold EncRet at HFE
              have HFZ : Hid (encE? (ichSegs x) = 0) := encE?_zero.2 (ichSegs_ok HOKI.out)
              skip
              clear hfe hatz HY
              go_wp2_with fail
              refine HFE.out.mono ?_
              rintro e W9 ⟨hb9, hcase⟩
              rcases hcase.resolve_right (fun h => absurd HFZ.out h.1) with ⟨_, vf, rfl, hof⟩
              go_wp2
              go_ret2
              rw [HJ.out]
              exact ⟨_, rfl, hof.mono HB.out.size, HB.out.trans (hb9.mono HB.out.size)⟩
      · have HJ := Lib.hid (packF_2 (x := x) (by rw [HI.out, b0, b1, b2]; rfl))
        clear HI
        go_enter Tryz.func19, Tryz.ntmps19
        go_wp2_with (go_at_call 49; refine (HO.out _ _ _).mono ?_; rintro e w' ⟨rfl, rfl⟩)
        go_ret2
        exact rpk_bad HJ.out rfl q0
    · have HJ := Lib.hid (packF_2 (x := x) (by rw [HI.out, b0, b1]; rfl))
      clear HI
      go_enter Tryz.func19, Tryz.ntmps19
      go_wp2_with (go_at_call 49; refine (HO.out _ _ _).mono ?_; rintro e w' ⟨rfl, rfl⟩)
      go_ret2
      exact rpk_bad HJ.out rfl q0
  · have HJ := Lib.hid (packF_2 (x := x) (by rw [HI.out, b0]; rfl))
    clear HI
    go_enter Tryz.func19, Tryz.ntmps19
    go_wp2_with (go_at_call 49; refine (HO.out _ _ _).mono ?_; rintro e w' ⟨rfl, rfl⟩)
    go_ret2
    exact rpk_bad HJ.out rfl q0
end Go.Proofs.YtmjlnckmhdgoiaaGreatDoor

/-! Contract of customsmade.Interchange. -/
namespace Go.Proofs.YtmjlnckmhdgoiaaGreatDoor
open Go.RowKit
set_option linter.unusedVariables false

theorem two_belowI (w : World) (a b : Obj) : Below w.heap.size w ((w.alloc a).alloc b) := ((Below.refl _ _).alloc (Nat.le_refl _) _).alloc (by simp) _
def IRow (W : World) (g : Nat) (s r n : Int) (A : Option Addr) (k c : Nat) : Prop := W.heap[g]? = some (.cells #[.int .i64 s, .int .i64 r, .int .i64 n, .slice A k c] 45 (0, 0))
section
variable {W W' : World} {g k c : Nat} {s r n : Int} {A : Option Addr}
theorem IRow.lt (h : IRow W g s r n A k c) : g < W.heap.size := lt_of_block h
theorem IRow.all (h : IRow W g s r n A k c) : W.cell? ⟨g, 0, none⟩ = some (.int .i64 s) ∧ W.cell? ⟨g, 1, none⟩ = some (.int .i64 r) ∧ W.cell? ⟨g, 2, none⟩ = some (.int .i64 n) ∧ W.cell? ⟨g, 3, none⟩ = some (.slice A k c) := by
  refine ⟨?_, ?_, ?_, ?_⟩ <;> (rw [cell_of_row _ _ _ _ _ _ h]; rfl)
theorem IRow.belowB {B : Nat} (h : IRow W g s r n A k c) (hb : Below B W W') (hg : g < B) : IRow W' g s r n A k c := (hb.block g hg).trans h
theorem IRow.below (h : IRow W g s r n A k c) (hb : Below W.heap.size W W') : IRow W' g s r n A k c := h.belowB hb h.lt
end
theorem ok_snoc {l : List Msg} {m : Msg} (h : ∀ x ∈ l, OkM x) (hm : OkM m) : ∀ x ∈ l ++ [m], OkM x := by
  intro x hx
  rcases List.mem_append.1 hx with h1 | h1
  · exact h x h1
  · simp only [List.mem_singleton] at h1
    rw [h1]
    exact hm
/-- append(list, m) at a step of a region that draws -/
theorem step_append_msg (w : World) {ops : Array Oper} {o : Oper} {a : Act} {K : Act → World → Prop} {Q : Exit → Act → World → Prop} {E : Prop} (hgd : o.guard = none) (s x : Operand)
    (ho : o.op = .call { callee := .builtin .append, args := #[s, x], argTypes := #[43, 43] })
    (B : Nat) (v : Value) (l : List Msg) (hs : a.eval s = v) (hown : MsgsOwn w B v l) (m : Msg) (A : Option Addr) (c : Nat) (hu : w.ownsRow B 3 1 (.slice A m.list.length c) m.list.length (ints m.list))
    (hx : a.eval x = .slice (some ⟨w.heap.size, 0, none⟩) 1 1) (hl : l.length ≤ 1000000000) (hB : B ≤ w.heap.size)
    (hK : ∀ v' w', MsgsOwn w' B v' (l ++ [m]) → Below B w w' → K (a.put o.dst v') w') : if Region.wanted o (yielded ops a.tmps) = true then Oper.wp Tryz.prog o a (w.alloc (.cells (msgC m A c) 30)) K Q else E := by
  obtain ⟨cs, ho1, ho2⟩ := hown
  obtain ⟨i0, hi0, hz0, hz1, hz2⟩ := info_parts msgInfo
  refine step_append_one (P := Tryz.prog) w hgd s x 43 ho B 30 i0 _ 13 144 Tryz.underlying43 hi0 hz0 hz1 hz2 rfl (by omega) v l.length cs (msgC m A c).toList rfl (msg_one m A c) hs ho1 hx (by unfold maxLen; omega) (by omega) hB ?_
  intro v' w' hown' hb' hg'
  exact hK v' w' (MsgsOwn.push ho1 ho2 hu hg' hown') hb'
def MiRel (w : World) (g9 : Nat) (s r n : Int) (g : Nat) (i : Value) (wr : World) : Prop :=
  ∃ (k : Nat) (ms : List Msg) (A : Option Addr) (c : Nat), k + g = 6 ∧ i = .int .i64 (k : Int) ∧ ms.length = k ∧ IRow wr g9 s r n A k c ∧ IBlk wr w.heap.size zeroI none 0 ∧ MsgsOwn wr (w.heap.size + 2) (.slice A k c) ms ∧ Below w.heap.size w wr ∧ ∀ m ∈ ms, OkM m
def MadeI (w : World) (s0 r0 n0 : Int) (e : Ending) (w' : World) : Prop :=
  ∃ (x : Ich) (A : Option Addr) (c : Nat), e = .returned (ichV x A c) ∧ OkI x ∧ x.msgs.length ≤ 6 ∧ (x.sender = s0 % 1000 ∧ x.receiver = r0 % 1000 ∧ x.number = n0 % 1000000001) ∧ MsgsOwn w' w.heap.size (.slice A x.msgs.length c) x.msgs ∧ Below w.heap.size w w'
theorem madeI_ret {w W : World} {s0 r0 n0 s r n : Int} {ms : List Msg} {A : Option Addr} {k c : Nat} (hk : ms.length = k) (hok : ∀ m ∈ ms, OkM m) (hmd : s0 % 1000 = s ∧ r0 % 1000 = r ∧ n0 % 1000000001 = n) (h6 : k ≤ 6) (ho : MsgsOwn W w.heap.size (.slice A k c) ms) (hb : Below w.heap.size w W) :
    MadeI w s0 r0 n0 (.returned (.agg #[.int .i64 s, .int .i64 r, .int .i64 n, .slice A k c])) W := by
  subst hk
  obtain ⟨h1, h2, h3⟩ := hmd
  refine ⟨⟨s, r, n, ms⟩, A, c, rfl, ⟨?_, ?_, ?_, ?_, hok⟩, h6, ⟨h1.symm, h2.symm, h3.symm⟩, ho, hb⟩
  · show 0 ≤ s ∧ s ≤ 999; omega
  · show 0 ≤ r ∧ r ≤ 999; omega
  · show 0 ≤ n ∧ n ≤ 1000000000; omega
  · show ms.length ≤ 1000; omega
set_option maxRecDepth 100000 in
set_option maxHeartbeats 40000000 in
theorem madeI_any (Al : Option Addr) (cl : Nat) (L : List (List Int)) (s0 r0 n0 s r n : Int) (hs : s0 % 1000 = s) (hrr : r0 % 1000 = r) (hn : n0 % 1000000001 = n) (w : World) (hr : RowsAt w Al cl L) :
    Calls Tryz.prog 17 #[.slice Al L.length cl, .int .i64 s0, .int .i64 r0, .int .i64 n0] w (MadeI w s0 r0 n0) := by
  have HRW := Lib.hid hr
  have HMD : Hid (s0 % 1000 = s ∧ r0 % 1000 = r ∧ n0 % 1000000001 = n) := ⟨hs, hrr, hn⟩
  have HWI := Lib.hid (fun (x n : Int) (h1 : 0 < n) (h2 : n ≤ 1000000000000000) (W : World) => within_any x n W h1 h2)
  have hlc := hr.le
  have hlm := hr.max
  clear hr
  have q0 := two_belowI w (.cells #[.int .i64 0, .int .i64 0, .int .i64 0, .slice none 0 0] 45) (.cells #[.int .i64 s, .int .i64 r, .int .i64 n, .slice none 0 0] 45)
  have hz0 : IBlk ((w.alloc (.cells #[.int .i64 0, .int .i64 0, .int .i64 0, .slice none 0 0] 45)).alloc (.cells #[.int .i64 s, .int .i64 r, .int .i64 n, .slice none 0 0] 45)) w.heap.size zeroI none 0 := IBlk.below (W := w.alloc (.cells #[.int .i64 0, .int .i64 0, .int .i64 0, .slice none 0 0] 45)) (heap_alloc_new w _) ((Below.refl _ _).alloc (Nat.le_refl _) _)
  have hi0 : IRow ((w.alloc (.cells #[.int .i64 0, .int .i64 0, .int .i64 0, .slice none 0 0] 45)).alloc (.cells #[.int .i64 s, .int .i64 r, .int .i64 n, .slice none 0 0] 45)) (w.heap.size + 1) s r n none 0 0 := by have := heap_alloc_new (w.alloc (.cells #[.int .i64 0, .int .i64 0, .int .i64 0, .slice none 0 0] 45)) (.cells #[.int .i64 s, .int .i64 r, .int .i64 n, .slice none 0 0] 45); simpa [IRow] using this
  have HZ0 := Lib.hid hz0
  have HI0 := Lib.hid hi0
  have HB0 := Lib.hid q0
  clear q0 hz0 hi0
  go_enter Tryz.func17, Tryz.ntmps17
  go_upto_region 3 with (go_at_call 10; refine (HWI.out _ _ (by omega) (by omega) _).mono ?_; rintro e w' ⟨rfl, rfl⟩)
  clear hs hrr hn HWI
  generalize hW : (w.alloc (.cells #[.int .i64 0, .int .i64 0, .int .i64 0, .slice none 0 0] 45)).alloc (.cells #[.int .i64 s, .int .i64 r, .int .i64 n, .slice none 0 0] 45) = W2 at HZ0 HI0 HB0 ⊢
  clear hW
  obtain ⟨g9, hg9⟩ : ∃ g, w.heap.size + 1 = g := ⟨_, rfl⟩
  have HG9 := Lib.hid hg9
  have HLG : Hid (g9 < w.heap.size + 2) := by show _ < _; omega
  rw [hg9] at HI0 ⊢
  clear hg9
  go_loopg [10] 6 (fun g i wr => MiRel w g9 s r n g i wr)
  case atStart => exact ⟨0, [], none, 0, by omega, rfl, rfl, HI0.out, HZ0.out, MsgsOwn.nil_ _ _, HB0.out, fun m hm => (by cases hm)⟩
  case round =>
    obtain ⟨k, ms, A, c, hk, rfl, hms, hI, hz, ho, hb, hok⟩ := hrel
    have HK := Lib.hid hk
    have HMS := Lib.hid hms
    have HI := Lib.hid hI
    have HZ := Lib.hid hz
    have HO := Lib.hid ho
    have HB := Lib.hid hb
    have HOK := Lib.hid hok
    have hk6 : k ≤ 6 := by omega
    obtain ⟨i0, i1, i2, i3⟩ := hI.all
    clear hk hms hI hz ho hb hok HI0 HZ0 HB0
    by_cases hlt : k < L.length
    · have hd1 : decide (k < L.length) = true := by simpa using hlt
      by_cases h6 : k < 6
      · have hd2 : decide ((k : Int) < 6) = true := by simp; omega
        have hd3 : decide (k < 6) = true := by simpa using h6
        obtain ⟨b, off, A2, c2, rfl, hcw, hc2, hc2m, hrdw⟩ := HRW.out.get hlt
        have hbw := cell_lt hcw
        have HLB : Hid (b < w.heap.size + 2) := Nat.lt_of_lt_of_le (cell_lt hcw) (Nat.le_add_right _ 2)
        have hc := (HB.out.cell (p := ⟨b, off + k, none⟩) (cell_lt hcw)).trans hcw
        have hbl : b < wr.heap.size := Nat.lt_of_lt_of_le (cell_lt hcw) HB.out.size
        have hrd := hrdw.below HB.out
        have HC2 := Lib.hid (And.intro hc2 hc2m)
        clear hcw hrdw hc2 hc2m
        generalize L[k] = l1 at *
        generalize hl2 : l1.length = l2 at hc ⊢
        have HL2 := Lib.hid hl2
        clear hl2
        go_wp2_with fail
        refine wp_region_x 10 (by kernel_rfl) (fun w' => w'.cell? ⟨g9, 3, none⟩ = some (.slice A k c) ∧ w'.cell? ⟨b, off + k, none⟩ = some (.slice A2 l2 c2)) ?_
        have HS : Hid (wr.drew.cell? ⟨g9, 3, none⟩ = some (.slice A k c) ∧ wr.drew.cell? ⟨b, off + k, none⟩ = some (.slice A2 l2 c2)) := ⟨i3, hc⟩
        have HB : Hid (Below w.heap.size w wr.drew) := HB.out.drew
        have HI : Hid (IRow wr.drew g9 s r n A k c) := HI.out
        have HZ : Hid (IBlk wr.drew w.heap.size zeroI none 0) := HZ.out
        have HO : Hid (MsgsOwn wr.drew (w.heap.size + 2) (.slice A k c) ms) := HO.out
        have hg9l : g9 < wr.drew.heap.size := HI.out.lt
        have hbl : b < wr.drew.heap.size := hbl
        have HRD : Hid (Rd wr.drew A2 (ints l1)) := hrd
        generalize hV : wr.drew = V0 at HS HB HI HZ HO hg9l hbl HRD ⊢
        clear hV i0 i1 i2 i3 hc hrd
        refine wpAnyX_take1 (i := 0) (v := .pointer (some ⟨g9, 3, none⟩)) rfl (by kernel_rfl) (fun _ _ _ h => h) HS.out (Or.inl ⟨by rfl, fun w hS => by (obtain ⟨q0, q1⟩ := hS; go_simp)⟩) ?_
        go_simp
        refine wpAnyX_take1 (i := 1) (v := .slice A k c) rfl (by kernel_rfl) (fun _ _ _ h => h) HS.out (Or.inl ⟨by rfl, fun w hS => by (obtain ⟨q0, q1⟩ := hS; go_simp)⟩) ?_
        go_simp
        refine wpAnyX_take1 (i := 2) (v := .slice (some ⟨b, off, none⟩) L.length cl) rfl (by kernel_rfl) (fun _ _ _ h => h) HS.out (Or.inl ⟨by rfl, fun w hS => by (obtain ⟨q0, q1⟩ := hS; go_simp)⟩) ?_
        go_simp
        refine wpAnyX_take1 (i := 3) (v := .int .i64 (k : Int)) rfl (by kernel_rfl) (fun _ _ _ h => h) HS.out (Or.inl ⟨by rfl, fun w hS => by (obtain ⟨q0, q1⟩ := hS; go_simp)⟩) ?_
        go_simp
        refine wpAnyX_take1 (i := 4) (v := .pointer (some ⟨b, off + k, none⟩)) rfl (by kernel_rfl) (fun _ _ _ h => h) HS.out (Or.inl ⟨by rfl, fun w hS => by (obtain ⟨q0, q1⟩ := hS; go_simp)⟩) ?_
        go_simp
        refine wpAnyX_take1 (i := 5) (v := .slice A2 l2 c2) rfl (by kernel_rfl) (fun _ _ _ h => h) HS.out (Or.inl ⟨by rfl, fun w hS => by (obtain ⟨q0, q1⟩ := hS; go_simp)⟩) ?_
        go_simp
        have hmm := mMessage_any A2 c2 l1 V0 HRD.out HC2.out.1 HC2.out.2
        rw [HL2.out] at hmm
        have HMM := Lib.hid hmm
        unfold MadeM at HMM
        clear hmm HRD
        refine wpAnyX_one (i := 6) (by kernel_rfl) rfl (fun J hJ => ?_)
        go_simp
        go_wp2_with (go_at_call 9; refine HMM.out.mono ?_; rintro e V1 ⟨m, Am, cm, rfl, okm, hom, hb⟩)
        have HSV : Hid (w.heap.size + 2 ≤ V0.heap.size) := by have := HI.out.lt; have := HG9.out; show _ ≤ _; omega
        have HOM : Hid (V1.ownsRow (w.heap.size + 2) 3 1 (.slice Am m.list.length cm) m.list.length (ints m.list)) := World.ownsRow.mono hom HSV.out
        have HOKM := Lib.hid okm
        replace HS : Hid (V1.cell? ⟨g9, 3, none⟩ = some (.slice A k c) ∧ V1.cell? ⟨b, off + k, none⟩ = some (.slice A2 l2 c2)) := ⟨(hb.cell (p := ⟨g9, 3, none⟩) hg9l).trans HS.out.1, (hb.cell (p := ⟨b, off + k, none⟩) hbl).trans HS.out.2⟩
        replace HB := Lib.hid (HB.out.trans (hb.mono HB.out.size))
        replace HI := Lib.hid (HI.out.below hb)
        replace HZ := Lib.hid (HZ.out.below hb)
        replace HO := Lib.hid (HO.out.below hb)
        replace HSV : Hid (w.heap.size + 2 ≤ V1.heap.size) := Nat.le_trans HSV.out hb.size
        refine hJ.out _ _ (fun _ => HS.out) ?_
        clear hJ J hb hom okm HMM
        replace hg9l := HI.out.lt
        replace hbl : b < V1.heap.size := by have := HLB.out; have := HSV.out; omega
        refine wpAnyX_one (i := 7) (by kernel_rfl) rfl (fun J hJ => ?_)
        go_simp
        have hb := (Below.refl V1.heap.size V1).alloc (Nat.le_refl _) (.cells (msgC m Am cm) 30)
        refine hJ.out _ _ (fun _ => ⟨(hb.cell (p := ⟨g9, 3, none⟩) hg9l).trans HS.out.1, (hb.cell (p := ⟨b, off + k, none⟩) hbl).trans HS.out.2⟩) ?_
        clear hJ J hb
        refine wpAnyX_one (i := 8) (by kernel_rfl) rfl (fun J hJ => ?_)
        refine step_append_msg V1 (by rfl) (.tmp 29) (.tmp 35) (by rfl) (w.heap.size + 2) _ ms (by rfl) HO.out m Am cm HOM.out (by rfl) (by have := HMS.out; omega) HSV.out ?_
        intro vx V2 hox hb
        obtain ⟨Ax, cx, hvx, _, _⟩ := hox.at_
        rw [List.length_append, List.length_singleton, HMS.out] at hvx
        subst hvx
        replace HO := Lib.hid hox
        replace HI := Lib.hid (HI.out.belowB hb HLG.out)
        replace HZ := Lib.hid (HZ.out.belowB hb (by omega))
        replace HS : Hid (V2.cell? ⟨g9, 3, none⟩ = some (.slice A k c) ∧ V2.cell? ⟨b, off + k, none⟩ = some (.slice A2 l2 c2)) := ⟨(hb.cell (p := ⟨g9, 3, none⟩) HLG.out).trans HS.out.1, (hb.cell (p := ⟨b, off + k, none⟩) HLB.out).trans HS.out.2⟩
        replace HB := Lib.hid (HB.out.trans (hb.mono (Nat.le_add_right _ 2)))
        refine hJ.out _ _ (fun _ => HS.out) ?_
        clear hJ J hb hox HOM hg9l hbl HSV
        refine wpAnyX_take1 (i := 9) (v := .pointer (some ⟨g9, 3, none⟩)) rfl (by kernel_rfl) (fun _ _ _ h => h) HS.out (Or.inl ⟨by rfl, fun w hS => by (obtain ⟨q0, q1⟩ := hS; go_simp)⟩) ?_
        go_simp
        refine wpAnyX_one (i := 10) (by kernel_rfl) rfl (fun J hJ => ?_)
        refine step_store_box rfl 43 (.tmp 37) (.tmp 36) rfl g9 3 (.slice Ax (k + 1) cx) #[.slice Ax (k + 1) cx] rfl rfl rfl [.int .i64 s, .int .i64 r, .int .i64 n, .slice A k c] [.int .i64 s, .int .i64 r, .int .i64 n, .slice Ax (k + 1) cx] 45 HI.out (Nat.le_of_ble_eq_true rfl) rfl (by kernel_rfl) rfl ?_
        intro V3 hs3 hp3
        have HI3 : Hid (IRow V3 g9 s r n Ax (k + 1) cx) := hs3
        have HZ3 := Lib.hid (HZ.out.but hp3 (by have := HG9.out; omega))
        have HO3 := Lib.hid (HO.out.but hp3 HLG.out)
        have HB3 := Lib.hid (HB.out.but hp3 (by have := HG9.out; omega))
        refine hJ.out _ _ (fun h => absurd rfl h) ?_
        clear hJ J hs3 hp3 HI HZ HO HB HS
        refine wpAnyX_done (by kernel_rfl) ?_
        go_wp2
        go_roundg (6 - (k + 1))
        case measure => have := HK.out; omega
        case rel => exact ⟨k + 1, ms ++ [m], Ax, cx, by have := HK.out; omega, by go_num, by rw [List.length_append, HMS.out]; rfl, HI3.out, HZ3.out, HO3.out, HB3.out, ok_snoc HOK.out HOKM.out⟩
      · have hd2 : decide ((k : Int) < 6) = false := by simp; omega
        have hd3 : decide (k < 6) = false := by simp; omega
        go_wp2_with (refine at_store 45 (.tmp 8) (.tmp 38) rfl ?_; refine wpList_store_box rfl 45 (.tmp 8) (.tmp 38) rfl w.heap.size 0 (.agg #[.int .i64 s, .int .i64 r, .int .i64 n, .slice A k c]) #[.int .i64 s, .int .i64 r, .int .i64 n, .slice A k c] rfl rfl rfl [.int .i64 0, .int .i64 0, .int .i64 0, .slice none 0 0] [.int .i64 s, .int .i64 r, .int .i64 n, .slice A k c] 45 HZ.out (Nat.le_of_ble_eq_true rfl) rfl (by kernel_rfl) rfl ?_; intro W9 hb9 hP9; have HR9 := Lib.hid hb9; have HP9 := Lib.hid hP9; clear hb9 hP9)
        exact ret1 (k := 8) (g := w.heap.size) (T := 45) (cs := #[.int .i64 s, .int .i64 r, .int .i64 n, .slice A k c]) Tryz.results17 rfl HR9.out Tryz.underlying45 (by kernel_rfl) rfl (madeI_ret HMS.out HOK.out HMD.out (by have := HK.out; omega) ((HO.out.but HP9.out (by omega)).mono (by omega)) (Below.but HB.out HP9.out (Nat.le_refl _)))
    · have hd1 : decide (k < L.length) = false := by simp; omega
      go_wp2_with (refine at_store 45 (.tmp 8) (.tmp 38) rfl ?_; refine wpList_store_box rfl 45 (.tmp 8) (.tmp 38) rfl w.heap.size 0 (.agg #[.int .i64 s, .int .i64 r, .int .i64 n, .slice A k c]) #[.int .i64 s, .int .i64 r, .int .i64 n, .slice A k c] rfl rfl rfl [.int .i64 0, .int .i64 0, .int .i64 0, .slice none 0 0] [.int .i64 s, .int .i64 r, .int .i64 n, .slice A k c] 45 HZ.out (Nat.le_of_ble_eq_true rfl) rfl (by kernel_rfl) rfl ?_; intro W9 hb9 hP9; have HR9 := Lib.hid hb9; have HP9 := Lib.hid hP9; clear hb9 hP9)
      exact ret1 (k := 8) (g := w.heap.size) (T := 45) (cs := #[.int .i64 s, .int .i64 r, .int .i64 n, .slice A k c]) Tryz.results17 rfl HR9.out Tryz.underlying45 (by kernel_rfl) rfl (madeI_ret HMS.out HOK.out HMD.out (by have := HK.out; omega) ((HO.out.but HP9.out (by omega)).mono (by omega)) (Below.but HB.out HP9.out (Nat.le_refl _)))
end Go.Proofs.YtmjlnckmhdgoiaaGreatDoor

/-! Contract of customslaw07.same, at two interchanges that read alike. -/
namespace Go.Proofs.YtmjlnckmhdgoiaaGreatDoor
open Go.RowKit
set_option linter.unusedVariables false

def SiRel (w : World) (g1 g2 : Nat) (x : Ich) (A A' : Option Addr) (c c' : Nat) (g : Nat) (i : Value) (wr : World) : Prop :=
  ∃ k : Nat, k + g = x.msgs.length ∧ i = .int .i64 (k : Int) ∧ IBlk wr g1 x A c ∧ IBlk wr g2 x A' c' ∧ Below w.heap.size w wr
set_option maxRecDepth 100000 in
set_option maxHeartbeats 40000000 in
theorem sameI_any (x : Ich) (A A' : Option Addr) (c c' : Nat) (w : World) (hm : MsgsAt w w.heap.size A x.msgs) (hm' : MsgsAt w w.heap.size A' x.msgs) (hl : ∀ m ∈ x.msgs, m.list.length ≤ 9223372036854775807) (hlen : x.msgs.length ≤ 1000000000) :
    Calls Tryz.prog 21 #[ichV x A c, ichV x A' c'] w fun e w' => e = .returned (.bool true) ∧ Below w.heap.size w w' := by
  have q := two_below w (.cells (ichC x A c) 45) (.cells (ichC x A' c') 45)
  have hI1 : IBlk ((w.alloc (.cells (ichC x A c) 45)).alloc (.cells (ichC x A' c') 45)) w.heap.size x A c := IBlk.below (W := w.alloc (.cells (ichC x A c) 45)) (heap_alloc_new w _) ((Below.refl _ _).alloc (Nat.le_refl _) _)
  have hI2 : IBlk ((w.alloc (.cells (ichC x A c) 45)).alloc (.cells (ichC x A' c') 45)) (w.heap.size + 1) x A' c' := by have := heap_alloc_new (w.alloc (.cells (ichC x A c) 45)) (.cells (ichC x A' c') 45); simpa [IBlk] using this
  have HQ := Lib.hid q
  have HI1 := Lib.hid hI1
  have HI2 := Lib.hid hI2
  have HM := Lib.hid hm
  have HM' := Lib.hid hm'
  have HL := Lib.hid hl
  have hx3 : ((x.msgs.length : Int) != (x.msgs.length : Int)) = false := by simp
  clear q hI1 hI2 hm hm' hl
  go_enter Tryz.func21, Tryz.ntmps21
  go_upto_region 4 with (fail)
  generalize hW : (w.alloc (.cells (ichC x A c) 45)).alloc (.cells (ichC x A' c') 45) = W2 at HQ HI1 HI2 ⊢
  clear hW
  generalize hg1 : w.heap.size = g1 at HI1 HI2 ⊢
  have HG : Hid (w.heap.size = g1) := hg1
  clear hg1
  obtain ⟨g2, hg2⟩ : ∃ g2, g1 + 1 = g2 := ⟨_, rfl⟩
  rw [hg2] at HI2 ⊢
  clear hg2
  go_loopg [5] x.msgs.length (fun g i wr => SiRel w g1 g2 x A A' c c' g i wr)
  case atStart => exact ⟨0, by omega, rfl, HI1.out, HI2.out, HQ.out⟩
  case round =>
    obtain ⟨k, hk, rfl, hi1, hi2, hb⟩ := hrel
    have HK := Lib.hid hk
    have HJ1 := Lib.hid hi1
    have HJ2 := Lib.hid hi2
    have HB := Lib.hid hb
    have HG1 := Lib.hid hi1.lt
    have HG2 := Lib.hid hi2.lt
    obtain ⟨-, -, -, e1⟩ := hi1.all
    obtain ⟨-, -, -, e2⟩ := hi2.all
    have hkn : k ≤ x.msgs.length := by omega
    clear hk hi1 hi2 hb HI1 HI2 HQ
    by_cases hlt : k < x.msgs.length
    · have hlt2 : k < x.msgs.length := by omega
      obtain ⟨ba, oa, Am, cm, rfl, hla, hra, f0, f1, f2, f3, f4, f5, f6, f7, f8, f9, f10, f11, f12⟩ := (HM.out.below HB.out).cells hlt2
      obtain ⟨bb, ob, Bm, dm, rfl, hlb, hrb, h0, h1, h2, h3, h4, h5, h6, h7, h8, h9, h10, h11, h12⟩ := (HM'.out.below HB.out).cells hlt2
      have HLA : Hid (ba < wr.heap.size) := Nat.lt_of_lt_of_le hla HB.out.size
      have HLB : Hid (bb < wr.heap.size) := Nat.lt_of_lt_of_le hlb HB.out.size
      have hml := HL.out _ (List.getElem_mem hlt2)
      clear hla hlb
      generalize x.msgs[k] = m at *
      go_wp2_with fail
      refine wp_region_x 99 (by kernel_rfl) (fun w' => w'.cell? ⟨g1, 3, none⟩ = some (.slice (some ⟨ba, oa, none⟩) x.msgs.length c) ∧ w'.cell? ⟨g2, 3, none⟩ = some (.slice (some ⟨bb, ob, none⟩) x.msgs.length c') ∧ w'.cell? ⟨ba, oa + k * 13, none⟩ = some (.int .i64 m.kind) ∧ w'.cell? ⟨ba, oa + k * 13 + 1, none⟩ = some (.int .i64 m.src) ∧ w'.cell? ⟨ba, oa + k * 13 + 2, none⟩ = some (.int .i64 m.dst) ∧ w'.cell? ⟨ba, oa + k * 13 + 3, none⟩ = some (.int .i64 m.number) ∧ w'.cell? ⟨ba, oa + k * 13 + 4, none⟩ = some (.int .i64 m.day) ∧ w'.cell? ⟨ba, oa + k * 13 + 5, none⟩ = some (.int .i64 m.lot) ∧ w'.cell? ⟨ba, oa + k * 13 + 6, none⟩ = some (.int .i64 m.other) ∧ w'.cell? ⟨ba, oa + k * 13 + 7, none⟩ = some (.string ⟨m.code.toArray⟩) ∧ w'.cell? ⟨ba, oa + k * 13 + 8, none⟩ = some (.string ⟨m.country.toArray⟩) ∧ w'.cell? ⟨ba, oa + k * 13 + 9, none⟩ = some (.int .i64 m.quantity) ∧ w'.cell? ⟨ba, oa + k * 13 + 10, none⟩ = some (.int .i64 m.amount) ∧ w'.cell? ⟨ba, oa + k * 13 + 11, none⟩ = some (.slice Am m.list.length cm) ∧ w'.cell? ⟨ba, oa + k * 13 + 12, none⟩ = some (.string ⟨m.text.toArray⟩) ∧ w'.cell? ⟨bb, ob + k * 13, none⟩ = some (.int .i64 m.kind) ∧ w'.cell? ⟨bb, ob + k * 13 + 1, none⟩ = some (.int .i64 m.src) ∧ w'.cell? ⟨bb, ob + k * 13 + 2, none⟩ = some (.int .i64 m.dst) ∧ w'.cell? ⟨bb, ob + k * 13 + 3, none⟩ = some (.int .i64 m.number) ∧ w'.cell? ⟨bb, ob + k * 13 + 4, none⟩ = some (.int .i64 m.day) ∧ w'.cell? ⟨bb, ob + k * 13 + 5, none⟩ = some (.int .i64 m.lot) ∧ w'.cell? ⟨bb, ob + k * 13 + 6, none⟩ = some (.int .i64 m.other) ∧ w'.cell? ⟨bb, ob + k * 13 + 7, none⟩ = some (.string ⟨m.code.toArray⟩) ∧ w'.cell? ⟨bb, ob + k * 13 + 8, none⟩ = some (.string ⟨m.country.toArray⟩) ∧ w'.cell? ⟨bb, ob + k * 13 + 9, none⟩ = some (.int .i64 m.quantity) ∧ w'.cell? ⟨bb, ob + k * 13 + 10, none⟩ = some (.int .i64 m.amount) ∧ w'.cell? ⟨bb, ob + k * 13 + 11, none⟩ = some (.slice Bm m.list.length dm) ∧ w'.cell? ⟨bb, ob + k * 13 + 12, none⟩ = some (.string ⟨m.text.toArray⟩)) ?_
      have HS : Hid (wr.drew.cell? ⟨g1, 3, none⟩ = some (.slice (some ⟨ba, oa, none⟩) x.msgs.length c) ∧ wr.drew.cell? ⟨g2, 3, none⟩ = some (.slice (some ⟨bb, ob, none⟩) x.msgs.length c') ∧ wr.drew.cell? ⟨ba, oa + k * 13, none⟩ = some (.int .i64 m.kind) ∧ wr.drew.cell? ⟨ba, oa + k * 13 + 1, none⟩ = some (.int .i64 m.src) ∧ wr.drew.cell? ⟨ba, oa + k * 13 + 2, none⟩ = some (.int .i64 m.dst) ∧ wr.drew.cell? ⟨ba, oa + k * 13 + 3, none⟩ = some (.int .i64 m.number) ∧ wr.drew.cell? ⟨ba, oa + k * 13 + 4, none⟩ = some (.int .i64 m.day) ∧ wr.drew.cell? ⟨ba, oa + k * 13 + 5, none⟩ = some (.int .i64 m.lot) ∧ wr.drew.cell? ⟨ba, oa + k * 13 + 6, none⟩ = some (.int .i64 m.other) ∧ wr.drew.cell? ⟨ba, oa + k * 13 + 7, none⟩ = some (.string ⟨m.code.toArray⟩) ∧ wr.drew.cell? ⟨ba, oa + k * 13 + 8, none⟩ = some (.string ⟨m.country.toArray⟩) ∧ wr.drew.cell? ⟨ba, oa + k * 13 + 9, none⟩ = some (.int .i64 m.quantity) ∧ wr.drew.cell? ⟨ba, oa + k * 13 + 10, none⟩ = some (.int .i64 m.amount) ∧ wr.drew.cell? ⟨ba, oa + k * 13 + 11, none⟩ = some (.slice Am m.list.length cm) ∧ wr.drew.cell? ⟨ba, oa + k * 13 + 12, none⟩ = some (.string ⟨m.text.toArray⟩) ∧ wr.drew.cell? ⟨bb, ob + k * 13, none⟩ = some (.int .i64 m.kind) ∧ wr.drew.cell? ⟨bb, ob + k * 13 + 1, none⟩ = some (.int .i64 m.src) ∧ wr.drew.cell? ⟨bb, ob + k * 13 + 2, none⟩ = some (.int .i64 m.dst) ∧ wr.drew.cell? ⟨bb, ob + k * 13 + 3, none⟩ = some (.int .i64 m.number) ∧ wr.drew.cell? ⟨bb, ob + k * 13 + 4, none⟩ = some (.int .i64 m.day) ∧ wr.drew.cell? ⟨bb, ob + k * 13 + 5, none⟩ = some (.int .i64 m.lot) ∧ wr.drew.cell? ⟨bb, ob + k * 13 + 6, none⟩ = some (.int .i64 m.other) ∧ wr.drew.cell? ⟨bb, ob + k * 13 + 7, none⟩ = some (.string ⟨m.code.toArray⟩) ∧ wr.drew.cell? ⟨bb, ob + k * 13 + 8, none⟩ = some (.string ⟨m.country.toArray⟩) ∧ wr.drew.cell? ⟨bb, ob + k * 13 + 9, none⟩ = some (.int .i64 m.quantity) ∧ wr.drew.cell? ⟨bb, ob + k * 13 + 10, none⟩ = some (.int .i64 m.amount) ∧ wr.drew.cell? ⟨bb, ob + k * 13 + 11, none⟩ = some (.slice Bm m.list.length dm) ∧ wr.drew.cell? ⟨bb, ob + k * 13 + 12, none⟩ = some (.string ⟨m.text.toArray⟩)) := ⟨e1, e2, f0, f1, f2, f3, f4, f5, f6, f7, f8, f9, f10, f11, f12, h0, h1, h2, h3, h4, h5, h6, h7, h8, h9, h10, h11, h12⟩
      refine wpAnyX_take1 (i := 0) (v := .pointer (some ⟨g1, 3, none⟩)) rfl (by kernel_rfl) (fun _ _ _ h => h) HS.out (Or.inl ⟨by rfl, fun w hS => by (obtain ⟨q0, q1, q2, q3, q4, q5, q6, q7, q8, q9, q10, q11, q12, q13, q14, q15, q16, q17, q18, q19, q20, q21, q22, q23, q24, q25, q26, q27⟩ := hS; go_simp)⟩) ?_
      go_simp
      refine wpAnyX_take1 (i := 1) (v := .slice (some ⟨ba, oa, none⟩) x.msgs.length c) rfl (by kernel_rfl) (fun _ _ _ h => h) HS.out (Or.inl ⟨by rfl, fun w hS => by (obtain ⟨q0, q1, q2, q3, q4, q5, q6, q7, q8, q9, q10, q11, q12, q13, q14, q15, q16, q17, q18, q19, q20, q21, q22, q23, q24, q25, q26, q27⟩ := hS; go_simp)⟩) ?_
      go_simp
      refine wpAnyX_take1 (i := 2) (v := .int .i64 (k : Int)) rfl (by kernel_rfl) (fun _ _ _ h => h) HS.out (Or.inl ⟨by rfl, fun w hS => by (obtain ⟨q0, q1, q2, q3, q4, q5, q6, q7, q8, q9, q10, q11, q12, q13, q14, q15, q16, q17, q18, q19, q20, q21, q22, q23, q24, q25, q26, q27⟩ := hS; go_simp)⟩) ?_
      go_simp
      refine wpAnyX_take1 (i := 3) (v := .pointer (some ⟨ba, oa + k * 13, none⟩)) rfl (by kernel_rfl) (fun _ _ _ h => h) HS.out (Or.inl ⟨by rfl, fun w hS => by (obtain ⟨q0, q1, q2, q3, q4, q5, q6, q7, q8, q9, q10, q11, q12, q13, q14, q15, q16, q17, q18, q19, q20, q21, q22, q23, q24, q25, q26, q27⟩ := hS; go_simp)⟩) ?_
      go_simp
      refine wpAnyX_take1 (i := 4) (v := msgV m Am cm) rfl (by kernel_rfl) (fun _ _ _ h => h) HS.out (Or.inl ⟨by rfl, fun w hS => by (obtain ⟨q0, q1, q2, q3, q4, q5, q6, q7, q8, q9, q10, q11, q12, q13, q14, q15, q16, q17, q18, q19, q20, q21, q22, q23, q24, q25, q26, q27⟩ := hS; go_simp)⟩) ?_
      go_simp
      refine wpAnyX_take1 (i := 5) (v := .pointer (some ⟨g2, 3, none⟩)) rfl (by kernel_rfl) (fun _ _ _ h => h) HS.out (Or.inl ⟨by rfl, fun w hS => by (obtain ⟨q0, q1, q2, q3, q4, q5, q6, q7, q8, q9, q10, q11, q12, q13, q14, q15, q16, q17, q18, q19, q20, q21, q22, q23, q24, q25, q26, q27⟩ := hS; go_simp)⟩) ?_
      go_simp
      refine wpAnyX_take1 (i := 6) (v := (.slice (some ⟨bb, ob, none⟩) x.msgs.length c')) rfl (by kernel_rfl) (fun _ _ _ h => h) HS.out (Or.inl ⟨by rfl, fun w hS => by (obtain ⟨q0, q1, q2, q3, q4, q5, q6, q7, q8, q9, q10, q11, q12, q13, q14, q15, q16, q17, q18, q19, q20, q21, q22, q23, q24, q25, q26, q27⟩ := hS; go_simp)⟩) ?_
      go_simp
      refine wpAnyX_take1 (i := 7) (v := .int .i64 (k : Int)) rfl (by kernel_rfl) (fun _ _ _ h => h) HS.out (Or.inl ⟨by rfl, fun w hS => by (obtain ⟨q0, q1, q2, q3, q4, q5, q6, q7, q8, q9, q10, q11, q12, q13, q14, q15, q16, q17, q18, q19, q20, q21, q22, q23, q24, q25, q26, q27⟩ := hS; go_simp)⟩) ?_
      go_simp
      refine wpAnyX_take1 (i := 8) (v := .pointer (some ⟨bb, ob + k * 13, none⟩)) rfl (by kernel_rfl) (fun _ _ _ h => h) HS.out (Or.inl ⟨by rfl, fun w hS => by (obtain ⟨q0, q1, q2, q3, q4, q5, q6, q7, q8, q9, q10, q11, q12, q13, q14, q15, q16, q17, q18, q19, q20, q21, q22, q23, q24, q25, q26, q27⟩ := hS; go_simp)⟩) ?_
      go_simp
      refine wpAnyX_take1 (i := 9) (v := msgV m Bm dm) rfl (by kernel_rfl) (fun _ _ _ h => h) HS.out (Or.inl ⟨by rfl, fun w hS => by (obtain ⟨q0, q1, q2, q3, q4, q5, q6, q7, q8, q9, q10, q11, q12, q13, q14, q15, q16, q17, q18, q19, q20, q21, q22, q23, q24, q25, q26, q27⟩ := hS; go_simp)⟩) ?_
      go_simp
      refine wpAnyX_one (i := 10) (by kernel_rfl) rfl (fun K hK => ?_)
      go_simp
      go_wp2_with (go_at_call 14; refine (sameM_yes m Am Bm cm dm wr.drew hra.rd hrb.rd hml).mono ?_; rintro e W5 ⟨rfl, hb5⟩)
      have hb5 : Below wr.heap.size wr W5 := ⟨hb5.os, hb5.tape, hb5.output, hb5.size, hb5.block⟩
      refine hK.out _ _ (fun _ => ⟨(hb5.cell (p := ⟨g1, _, none⟩) HG1.out).trans (HS.out.1), (hb5.cell (p := ⟨g2, _, none⟩) HG2.out).trans (HS.out.2.1), (hb5.cell (p := ⟨ba, _, none⟩) HLA.out).trans (HS.out.2.2.1), (hb5.cell (p := ⟨ba, _, none⟩) HLA.out).trans (HS.out.2.2.2.1), (hb5.cell (p := ⟨ba, _, none⟩) HLA.out).trans (HS.out.2.2.2.2.1), (hb5.cell (p := ⟨ba, _, none⟩) HLA.out).trans (HS.out.2.2.2.2.2.1), (hb5.cell (p := ⟨ba, _, none⟩) HLA.out).trans (HS.out.2.2.2.2.2.2.1), (hb5.cell (p := ⟨ba, _, none⟩) HLA.out).trans (HS.out.2.2.2.2.2.2.2.1), (hb5.cell (p := ⟨ba, _, none⟩) HLA.out).trans (HS.out.2.2.2.2.2.2.2.2.1), (hb5.cell (p := ⟨ba, _, none⟩) HLA.out).trans (HS.out.2.2.2.2.2.2.2.2.2.1), (hb5.cell (p := ⟨ba, _, none⟩) HLA.out).trans (HS.out.2.2.2.2.2.2.2.2.2.2.1), (hb5.cell (p := ⟨ba, _, none⟩) HLA.out).trans (HS.out.2.2.2.2.2.2.2.2.2.2.2.1), (hb5.cell (p := ⟨ba, _, none⟩) HLA.out).trans (HS.out.2.2.2.2.2.2.2.2.2.2.2.2.1), (hb5.cell (p := ⟨ba, _, none⟩) HLA.out).trans (HS.out.2.2.2.2.2.2.2.2.2.2.2.2.2.1), (hb5.cell (p := ⟨ba, _, none⟩) HLA.out).trans (HS.out.2.2.2.2.2.2.2.2.2.2.2.2.2.2.1), (hb5.cell (p := ⟨bb, _, none⟩) HLB.out).trans (HS.out.2.2.2.2.2.2.2.2.2.2.2.2.2.2.2.1), (hb5.cell (p := ⟨bb, _, none⟩) HLB.out).trans (HS.out.2.2.2.2.2.2.2.2.2.2.2.2.2.2.2.2.1), (hb5.cell (p := ⟨bb, _, none⟩) HLB.out).trans (HS.out.2.2.2.2.2.2.2.2.2.2.2.2.2.2.2.2.2.1), (hb5.cell (p := ⟨bb, _, none⟩) HLB.out).trans (HS.out.2.2.2.2.2.2.2.2.2.2.2.2.2.2.2.2.2.2.1), (hb5.cell (p := ⟨bb, _, none⟩) HLB.out).trans (HS.out.2.2.2.2.2.2.2.2.2.2.2.2.2.2.2.2.2.2.2.1), (hb5.cell (p := ⟨bb, _, none⟩) HLB.out).trans (HS.out.2.2.2.2.2.2.2.2.2.2.2.2.2.2.2.2.2.2.2.2.1), (hb5.cell (p := ⟨bb, _, none⟩) HLB.out).trans (HS.out.2.2.2.2.2.2.2.2.2.2.2.2.2.2.2.2.2.2.2.2.2.1), (hb5.cell (p := ⟨bb, _, none⟩) HLB.out).trans (HS.out.2.2.2.2.2.2.2.2.2.2.2.2.2.2.2.2.2.2.2.2.2.2.1), (hb5.cell (p := ⟨bb, _, none⟩) HLB.out).trans (HS.out.2.2.2.2.2.2.2.2.2.2.2.2.2.2.2.2.2.2.2.2.2.2.2.1), (hb5.cell (p := ⟨bb, _, none⟩) HLB.out).trans (HS.out.2.2.2.2.2.2.2.2.2.2.2.2.2.2.2.2.2.2.2.2.2.2.2.2.1), (hb5.cell (p := ⟨bb, _, none⟩) HLB.out).trans (HS.out.2.2.2.2.2.2.2.2.2.2.2.2.2.2.2.2.2.2.2.2.2.2.2.2.2.1), (hb5.cell (p := ⟨bb, _, none⟩) HLB.out).trans (HS.out.2.2.2.2.2.2.2.2.2.2.2.2.2.2.2.2.2.2.2.2.2.2.2.2.2.2.1), (hb5.cell (p := ⟨bb, _, none⟩) HLB.out).trans (HS.out.2.2.2.2.2.2.2.2.2.2.2.2.2.2.2.2.2.2.2.2.2.2.2.2.2.2.2)⟩) ?_
      clear hK K
      refine wpAnyX_one (i := 11) (by kernel_rfl) rfl (fun K hK => ?_)
      go_simp
      go_wp2
      refine hK.out _ _ (fun _ => ⟨(hb5.cell (p := ⟨g1, _, none⟩) HG1.out).trans (HS.out.1), (hb5.cell (p := ⟨g2, _, none⟩) HG2.out).trans (HS.out.2.1), (hb5.cell (p := ⟨ba, _, none⟩) HLA.out).trans (HS.out.2.2.1), (hb5.cell (p := ⟨ba, _, none⟩) HLA.out).trans (HS.out.2.2.2.1), (hb5.cell (p := ⟨ba, _, none⟩) HLA.out).trans (HS.out.2.2.2.2.1), (hb5.cell (p := ⟨ba, _, none⟩) HLA.out).trans (HS.out.2.2.2.2.2.1), (hb5.cell (p := ⟨ba, _, none⟩) HLA.out).trans (HS.out.2.2.2.2.2.2.1), (hb5.cell (p := ⟨ba, _, none⟩) HLA.out).trans (HS.out.2.2.2.2.2.2.2.1), (hb5.cell (p := ⟨ba, _, none⟩) HLA.out).trans (HS.out.2.2.2.2.2.2.2.2.1), (hb5.cell (p := ⟨ba, _, none⟩) HLA.out).trans (HS.out.2.2.2.2.2.2.2.2.2.1), (hb5.cell (p := ⟨ba, _, none⟩) HLA.out).trans (HS.out.2.2.2.2.2.2.2.2.2.2.1), (hb5.cell (p := ⟨ba, _, none⟩) HLA.out).trans (HS.out.2.2.2.2.2.2.2.2.2.2.2.1), (hb5.cell (p := ⟨ba, _, none⟩) HLA.out).trans (HS.out.2.2.2.2.2.2.2.2.2.2.2.2.1), (hb5.cell (p := ⟨ba, _, none⟩) HLA.out).trans (HS.out.2.2.2.2.2.2.2.2.2.2.2.2.2.1), (hb5.cell (p := ⟨ba, _, none⟩) HLA.out).trans (HS.out.2.2.2.2.2.2.2.2.2.2.2.2.2.2.1), (hb5.cell (p := ⟨bb, _, none⟩) HLB.out).trans (HS.out.2.2.2.2.2.2.2.2.2.2.2.2.2.2.2.1), (hb5.cell (p := ⟨bb, _, none⟩) HLB.out).trans (HS.out.2.2.2.2.2.2.2.2.2.2.2.2.2.2.2.2.1), (hb5.cell (p := ⟨bb, _, none⟩) HLB.out).trans (HS.out.2.2.2.2.2.2.2.2.2.2.2.2.2.2.2.2.2.1), (hb5.cell (p := ⟨bb, _, none⟩) HLB.out).trans (HS.out.2.2.2.2.2.2.2.2.2.2.2.2.2.2.2.2.2.2.1), (hb5.cell (p := ⟨bb, _, none⟩) HLB.out).trans (HS.out.2.2.2.2.2.2.2.2.2.2.2.2.2.2.2.2.2.2.2.1), (hb5.cell (p := ⟨bb, _, none⟩) HLB.out).trans (HS.out.2.2.2.2.2.2.2.2.2.2.2.2.2.2.2.2.2.2.2.2.1), (hb5.cell (p := ⟨bb, _, none⟩) HLB.out).trans (HS.out.2.2.2.2.2.2.2.2.2.2.2.2.2.2.2.2.2.2.2.2.2.1), (hb5.cell (p := ⟨bb, _, none⟩) HLB.out).trans (HS.out.2.2.2.2.2.2.2.2.2.2.2.2.2.2.2.2.2.2.2.2.2.2.1), (hb5.cell (p := ⟨bb, _, none⟩) HLB.out).trans (HS.out.2.2.2.2.2.2.2.2.2.2.2.2.2.2.2.2.2.2.2.2.2.2.2.1), (hb5.cell (p := ⟨bb, _, none⟩) HLB.out).trans (HS.out.2.2.2.2.2.2.2.2.2.2.2.2.2.2.2.2.2.2.2.2.2.2.2.2.1), (hb5.cell (p := ⟨bb, _, none⟩) HLB.out).trans (HS.out.2.2.2.2.2.2.2.2.2.2.2.2.2.2.2.2.2.2.2.2.2.2.2.2.2.1), (hb5.cell (p := ⟨bb, _, none⟩) HLB.out).trans (HS.out.2.2.2.2.2.2.2.2.2.2.2.2.2.2.2.2.2.2.2.2.2.2.2.2.2.2.1), (hb5.cell (p := ⟨bb, _, none⟩) HLB.out).trans (HS.out.2.2.2.2.2.2.2.2.2.2.2.2.2.2.2.2.2.2.2.2.2.2.2.2.2.2.2)⟩) ?_
      clear hK K
      refine wpAnyX_done (by kernel_rfl) ?_
      have HB5 := Lib.hid (HB.out.trans (hb5.mono HB.out.size))
      have HK1 := Lib.hid (HJ1.out.below hb5)
      have HK2 := Lib.hid (HJ2.out.below hb5)
      clear hb5 HJ1 HJ2 HB HS f0 f1 f2 f3 f4 f5 f6 f7 f8 f9 f10 f11 f12 h0 h1 h2 h3 h4 h5 h6 h7 h8 h9 h10 h11 h12 e1 e2 HG1 HG2
      go_wp2
      go_roundg (x.msgs.length - (k + 1))
      case measure => have := HK.out; omega
      case rel => exact ⟨k + 1, by have := HK.out; omega, by go_num, HK1.out, HK2.out, HB5.out⟩
    · have hge : x.msgs.length ≤ k := by omega
      go_wp2
      go_ret
      exact ⟨rfl, HB.out⟩
end Go.Proofs.YtmjlnckmhdgoiaaGreatDoor

/-! A byte stored into a row of the call's own. -/
namespace Go.Proofs.YtmjlnckmhdgoiaaGreatDoor
open Go.RowKit
set_option linter.unusedVariables false

theorem OwnB.put {w : World} {B g cap : Nat} {bs : Bs} (h : OwnB w B (.slice (some ⟨g, 0, none⟩) bs.length cap) bs) (j : Nat) (c : UInt8) : OwnB (w.setCell ⟨g, j, none⟩ (.int .u8 (c.toNat : Int))) B (.slice (some ⟨g, 0, none⟩) bs.length cap) (bs.set j c) := by
  have := (World.ownsRow.stored h j (.int .u8 (c.toNat : Int))).1
  unfold OwnB
  rw [List.length_set]
  have e : u8s (bs.set j c) = (u8s bs).set j (.int .u8 (c.toNat : Int)) := by unfold u8s; rw [List.map_set]; rfl
  rw [e]
  exact this
theorem OwnB.open_ {w : World} {B : Nat} {A : Option Addr} {cap : Nat} {bs : Bs} (h : OwnB w B (.slice A bs.length cap) bs) (hl : 0 < bs.length) : ∃ g, A = some ⟨g, 0, none⟩ ∧ B ≤ g ∧ g < w.heap.size ∧ ∀ j, j < bs.length → (∃ u, w.cell? ⟨g, j, none⟩ = some u) ∧ w.frozen? ⟨g, j, none⟩ = false := by
  rcases h.2 with ⟨_, h0⟩ | ⟨g, cap', cur, hv, hg, hh, _⟩
  · omega
  · injection hv with e1 e2 e3
    subst e1; subst e3
    refine ⟨g, rfl, hg, lt_of_block hh, fun j hj => ⟨?_, World.ownsRow.frozenAt h j⟩⟩
    rw [World.ownsRow.cellAt h j (by omega)]
    exact ⟨_, u8s_get hj⟩
end Go.Proofs.YtmjlnckmhdgoiaaGreatDoor
