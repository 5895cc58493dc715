/- The law SegmentRoundTrip: the walk (printed by mkround.py). -/
import Derived.Test.YtmnflbgejagpmaaSw
namespace Go.Proofs.Ytmnflbgejagpmaa
open Go.RowKit
set_option linter.unusedVariables false

theorem headS_run (W : World) (A : Option Addr) (n c k : Nat) (hk : k ≤ c) :
    (Instr.slice 30 (.slice A n c) none (some (.int .i64 (k : Int))) none).run Try.prog W = .ok (.slice A k c) W := by
  rw [run_slice_h W 30 A n c (by kernel_rfl) .i64 (k : Int) (by omega) (by omega)]
  have hs : (sizeOf (Try.prog.elem 30)).run Try.prog W = .ok 2 W := by kernel_rfl
  rw [hs]
  have : A.map (fun x => x.add 0) = A := by cases A <;> simp [Addr.add]
  simp [sliced, Result.andThen, this]
theorem SegsAt.take {w : World} {B : Nat} {A : Option Addr} {l : List Seg} (h : SegsAt w B A l) (k : Nat) (hk : k ≤ l.length) : SegsAt w B A (l.take k) := by
  obtain ⟨cs, h1, h2, h3⟩ := h
  refine ⟨cs.take (k * 2), by rw [List.length_take, List.length_take, h1]; omega, h2.take _, fun i s hs => ?_⟩
  have hi : i < k := by
    have := (List.getElem?_eq_some_iff.1 hs).1
    rw [List.length_take] at this
    omega
  rw [List.getElem?_take_of_lt hi] at hs
  obtain ⟨t, v, a, b, c⟩ := h3 i s hs
  exact ⟨t, v, by rw [List.getElem?_take_of_lt (by omega)]; exact a, by rw [List.getElem?_take_of_lt (by omega)]; exact b, c⟩
theorem SegsAt.one (w : World) (t : Bs) (A : Option Addr) (c : Nat) (l : List (List Bs)) (B : Nat) (hB : B ≤ w.heap.size) (h : ElsAt w B A l) :
    SegsAt (w.alloc (.cells #[.string ⟨t.toArray⟩, .slice A l.length c] 24)) (w.heap.size + 1) (some ⟨w.heap.size, 0, none⟩) [⟨t, l⟩] := by
  refine ⟨_, rfl, RdB.new w [.string ⟨t.toArray⟩, .slice A l.length c] 24 (0, 0) w.heap.size rfl, fun i s hs => ?_⟩
  match i, hs with
  | 0, hs =>
    simp only [List.getElem?_cons_zero, Option.some.injEq] at hs
    subst hs
    exact ⟨_, _, rfl, rfl, rfl, A, c, rfl, (h.below ((Below.refl _ _).alloc hB _)).mono (by omega)⟩
  | i + 1, hs => simp at hs
theorem valid_small {s : Seg} (h : validF s = 0) : s.els.length ≤ 1000000 ∧ ∀ e ∈ s.els, e.length ≤ 1000000 := by
  have := short_of (validF_zero.1 h).2.1
  exact ⟨by omega, fun e he => by have := (this.2 e he).1; omega⟩
theorem next_nil : nextF [] = (noSeg, 0, 5) := rfl
theorem encAll_one (s : Seg) : encAll [s] = encS s := by simp [encAll]
namespace segmentRoundTrip
set_option maxRecDepth 100000 in
set_option maxHeartbeats 1000000 in
theorem walkSegmentRoundTrip (A : Option Addr) (c : Nat) (l : List Int) (w : World) (hS : SlI w A c l) :
    Calls Try.prog 5 #[.slice A l.length c] w fun e w' => e = .returned (.bool true) ∧ Below w.heap.size w w' := by
  have HM := Lib.hid (mSegments_any A c l w hS.rd hS.le (by have := hS.max; omega))
  have HAW := Lib.hid (fun W => awake_any W)
  clear hS
  go_enter Try.func5, Try.ntmps5
  go_wp2_with fail
  refine HM.out.mono ?_
  rintro e w1 ⟨v, segs, rfl, hown, h12, hval, hb1⟩
  obtain ⟨Av, cv, rfl, hcv, hat⟩ := hown.at_
  have hez := encE?_zero.2 hval
  have HEN := Lib.hid (fun W (hb : Below w1.heap.size w1 W) => encode_any Av cv segs W ((hat.below hb).mono hb.size) (by omega) (fits_few (by omega)))
  have hlen : (encAll segs).length ≤ 1000000000 := by have := encAll_len segs hval; omega
  have HDE := Lib.hid (fun Ab cb W hr hc => decode_any Ab cb (encAll segs) W hr hc hlen)
  have HNX := Lib.hid (fun Ab cb W hr hc => next_any Ab cb (encAll segs) W hr hc hlen)
  rw [decode_enc hval] at HDE
  have HSM := Lib.hid (fun Ad cd Bd W (hb : Below w1.heap.size w1 W) hd => same_any Ad Av cd cv segs Bd w1.heap.size W hd (hat.below hb) (by omega) (fun s hs => valid_small (hval s hs)))
  have HEZ := Lib.hid hez
  have HVAL := Lib.hid hval
  have HAT := Lib.hid hat
  clear hez hval hat hown
  go_wp2_with fail
  refine (HEN.out _ (Below.refl _ _)).mono ?_
  rintro e w2 ⟨hb2, h⟩
  rcases h with ⟨_, vb, rfl, hob⟩ | ⟨h, _⟩
  · obtain ⟨Ab, cb, rfl, hrb, hcb, _⟩ := hob.shape
    have hrB := RdB.of_rd hrb
    go_wp2_with fail
    refine (HDE.out Ab cb _ hrB hcb).mono ?_
    rintro e w3 ⟨vd, rfl, hod, hb3⟩
    obtain ⟨Ad, cd, rfl, _, hatd⟩ := hod.at_
    have hB3 := hb2.trans (hb3.mono hb2.size)
    have hnn : (((encAll segs).length : Int) != ((encAll segs).length : Int)) = false := by simp
    go_wp2_with fail
    refine (HSM.out Ad cd _ _ hB3 hatd).mono ?_
    rintro e w4 ⟨rfl, hq4⟩
    have hB4 := hB3.trans (hq4.below _)
    have hr4 := (hrB.below hb3).below (hq4.below _)
    have hs4 : w2.heap.size ≤ w4.heap.size := by have h1 := hb3.size; have h2 := (hq4.below 0).size; omega
    have HNX2 := Lib.hid (HNX.out Ab cb w4 (hr4.mono hs4) hcb)
    clear hnn HNX HDE HSM hod hob hrb hrB
    cases segs with
    | nil =>
      have e0 : encAll [] = [] := rfl
      rw [e0, next_nil] at HNX2
      clear e0
      go_wp2_with fail
      refine HNX2.out.mono ?_
      rintro e w5 ⟨u5, rfl, he5, hb5⟩
      obtain ⟨Au, cu, rfl, _⟩ := he5.at_
      have hB5 := hB4.trans (hb5.mono hB4.size)
      have q5 := (hb1.trans (hB5.mono hb1.size))
      have q6 := fun o => q5.alloc q5.size o
      go_wp2_with (go_at_call 11; refine (HAW.out _).mono ?_; rintro e w9 ⟨rfl, hb9⟩)
      go_ret
      exact ⟨rfl, (q6 _).trans (hb9.mono (q6 _).size)⟩
    | cons s0 rest =>
      have hv0 := HVAL.out s0 (by simp)
      have hat := HAT.out
      have e0 : encAll (s0 :: rest) = encS s0 ++ encAll rest := rfl
      rw [e0, next_enc hv0] at HNX2
      have hlen1 : (s0 :: rest).length = rest.length + 1 := rfl
      rw [hlen1] at h12 hcv
      have hhd := fun W => headS_run W Av (rest.length + 1) cv 1 (by omega)
      have hat1 : SegsAt w1 w1.heap.size Av [s0] := by have := hat.take 1 (by simp); simpa using this
      have HEN1 := Lib.hid (fun W (hb : Below w1.heap.size w1 W) => encode_any Av cv [s0] W ((hat1.below hb).mono hb.size) (by simp) (fits_few (by simp)))
      have HEZ1 : Hid (encE? [s0] = 0) := encE?_zero.2 (by simpa using hv0)
      have HSM2 := Lib.hid (fun A7 B7 W (hb : Below w1.heap.size w1 W) hd => same_any A7 Av 1 cv [s0] B7 w1.heap.size W hd (hat1.below hb) (by simp) (by simpa using valid_small hv0))
      have hne0 : ((rest.length : Int) + 1 == 0) = false := by rw [beq_eq_false_iff_ne]; omega
      clear e0 hlen1 hv0 hat hat1
      go_wp2_with fail
      refine HNX2.out.mono ?_
      rintro e w5 ⟨u5, rfl, he5, hb5⟩
      obtain ⟨Au, cu, rfl, hea5⟩ := he5.at_
      have hB5 := hB4.trans (hb5.mono hB4.size)
      have hb5a := (Below.refl w5.heap.size w5).alloc (Nat.le_refl _) (.cells #[.string ⟨s0.tag.toArray⟩, .slice Au s0.els.length cu] 24)
      have hm0 : (w5.alloc (.cells #[.string ⟨s0.tag.toArray⟩, .slice Au s0.els.length cu] 24)).cell? ⟨w5.heap.size, 0, none⟩ = some (.string ⟨s0.tag.toArray⟩) := by simp
      have hm1 : (w5.alloc (.cells #[.string ⟨s0.tag.toArray⟩, .slice Au s0.els.length cu] 24)).cell? ⟨w5.heap.size, 1, none⟩ = some (.slice Au s0.els.length cu) := by simp
      have hmz : w5.heap.size < (w5.alloc (.cells #[.string ⟨s0.tag.toArray⟩, .slice Au s0.els.length cu] 24)).heap.size := by simp
      generalize hW5 : w5.alloc (.cells #[.string ⟨s0.tag.toArray⟩, .slice Au s0.els.length cu] 24) = W5 at hb5a hm0 hm1 hmz
      have hB5a := hB5.trans (hb5a.mono hB5.size)
      go_wp2_with fail
      refine (HEN1.out _ hB5a).mono ?_
      rintro e w6 ⟨hb6, h⟩
      rcases h with ⟨_, vy, rfl, hoy⟩ | ⟨h, _⟩
      · rw [encAll_one] at hoy
        obtain ⟨Ay, cy, rfl, hry, hcy, _⟩ := hoy.shape
        have hn0 : w6.cell? ⟨w5.heap.size, 0, none⟩ = some (.string ⟨s0.tag.toArray⟩) := (hb6.cell (p := ⟨w5.heap.size, 0, none⟩) hmz).trans hm0
        have hn1 : w6.cell? ⟨w5.heap.size, 1, none⟩ = some (.slice Au s0.els.length cu) := (hb6.cell (p := ⟨w5.heap.size, 1, none⟩) hmz).trans hm1
        have hB6 := hB5a.trans (hb6.mono hB5a.size)
        have hea6 := (hea5.below hb5a).below (hb6.mono (Nat.le_of_lt hmz))
        have hs6 := Nat.le_trans (Nat.le_of_lt hmz) hb6.size
        have hB7 := (hB6.alloc hB6.size (.cells #[.string ⟨s0.tag.toArray⟩, .slice Au s0.els.length cu] 24))
        have HD7 := SegsAt.one w6 s0.tag Au cu s0.els w5.heap.size hs6 hea6
        have hee : (((encS s0).length : Int) == ((encS s0).length : Int)) = true := by simp
        clear hW5 hm0 hm1 hoy hry he5
        go_wp2
        refine wp_region_any (by kernel_rfl) ?_
        change wpAny _ _ _ _ _ _ _ (World.drew _)
        refine wpAny_take (i := 0) (v := .int .i64 0) rfl (by kernel_rfl) (by kernel_rfl) (by kernel_rfl) (fun _ _ _ h => h) (Or.inl ⟨by rfl, fun w => by go_simp⟩) ?_
        go_simp
        refine wpAny_take (i := 1) (v := .bool true) rfl (by kernel_rfl) (by kernel_rfl) (by kernel_rfl) (fun _ _ _ h => h) (Or.inl ⟨by rfl, fun w => by go_simp⟩) ?_
        go_simp
        refine wpAny_take (i := 2) (v := .bool true) rfl (by kernel_rfl) (by kernel_rfl) (by kernel_rfl) (fun _ _ _ h => h) (Or.inl ⟨by rfl, fun w => by go_simp⟩) ?_
        go_simp
        refine wpAny_take (i := 3) (v := .int .i64 0) rfl (by kernel_rfl) (by kernel_rfl) (by kernel_rfl) (fun _ _ _ h => h) (Or.inl ⟨by rfl, fun w => by go_simp⟩) ?_
        go_simp
        refine wpAny_take (i := 4) (v := .bool true) rfl (by kernel_rfl) (by kernel_rfl) (by kernel_rfl) (fun _ _ _ h => h) (Or.inl ⟨by rfl, fun w => by go_simp⟩) ?_
        go_simp
        refine wpAny_take (i := 5) (v := .bool true) rfl (by kernel_rfl) (by kernel_rfl) (by kernel_rfl) (fun _ _ _ h => h) (Or.inl ⟨by rfl, fun w => by go_simp⟩) ?_
        go_simp
        refine wpAny_take (i := 6) (v := .bool true) rfl (by kernel_rfl) (by kernel_rfl) (by kernel_rfl) (fun _ _ _ h => h) (Or.inl ⟨by rfl, fun w => by go_simp⟩) ?_
        go_simp
        refine wpAny_take (i := 7) (v := .int .i64 ((encS s0).length : Int)) rfl (by kernel_rfl) (by kernel_rfl) (by kernel_rfl) (fun _ _ _ h => h) (Or.inl ⟨by rfl, fun w => by go_simp⟩) ?_
        go_simp
        refine wpAny_take (i := 8) (v := .slice Ay (encS s0).length cy) rfl (by kernel_rfl) (by kernel_rfl) (by kernel_rfl) (fun _ _ _ h => h) (Or.inl ⟨by rfl, fun w => by go_simp⟩) ?_
        go_simp
        refine wpAny_take (i := 9) (v := .int .i64 ((encS s0).length : Int)) rfl (by kernel_rfl) (by kernel_rfl) (by kernel_rfl) (fun _ _ _ h => h) (Or.inl ⟨by rfl, fun w => by go_simp⟩) ?_
        go_simp
        refine wpAny_take (i := 10) (v := .bool true) rfl (by kernel_rfl) (by kernel_rfl) (by kernel_rfl) (fun _ _ _ h => h) (Or.inl ⟨by rfl, fun w => by go_simp⟩) ?_
        go_simp
        refine wpAny_take (i := 11) (v := .bool true) rfl (by kernel_rfl) (by kernel_rfl) (by kernel_rfl) (fun _ _ _ h => h) (Or.inl ⟨by rfl, fun w => by go_simp⟩) ?_
        go_simp
        refine wpAny_take (i := 12) (v := .bool true) rfl (by kernel_rfl) (by kernel_rfl) (by kernel_rfl) (fun _ _ _ h => h) (Or.inl ⟨by rfl, fun w => by go_simp⟩) ?_
        go_simp
        refine wpAny_take (i := 15) (v := .slice Av (rest.length + 1) cv) rfl (by kernel_rfl) (by kernel_rfl) (by kernel_rfl) (fun _ _ _ h => h) (Or.inl ⟨by rfl, fun w => by go_simp⟩) ?_
        go_simp
        refine wpAny_take (i := 16) (v := .slice Av 1 cv) rfl (by kernel_rfl) (by kernel_rfl) (by kernel_rfl) (fun _ _ _ h => h) (Or.inl ⟨by rfl, fun w => by go_simp; intro h; omega⟩) ?_
        go_simp
        refine wpAny_ready (rs := [13]) (by kernel_rfl) (by simp) ?_
        refine AllReady.cons rfl (fun K hK => ?_) AllReady.nil
        go_simp
        refine hK _ _ ?_
        clear hK K
        refine wpAny_ready (rs := [14]) (by kernel_rfl) (by simp) ?_
        refine AllReady.cons rfl (fun K hK => ?_) AllReady.nil
        go_simp
        refine hK _ _ ?_
        clear hK K
        refine wpAny_ready (rs := [17]) (by kernel_rfl) (by simp) ?_
        refine AllReady.cons rfl (fun K hK => ?_) AllReady.nil
        go_simp
        go_wp2_with (go_at_call 17; refine (HSM2.out _ _ _ (by exact hB7.drew) (by exact HD7)).mono ?_; rintro e w8 ⟨rfl, hq8⟩)
        refine wpAny_take (i := 18) (v := .bool true) rfl (by kernel_rfl) (by kernel_rfl) (by kernel_rfl) (fun _ _ _ h => h) (Or.inl ⟨by rfl, fun w => by go_simp⟩) ?_
        go_simp
        refine wpAny_take (i := 19) (v := .bool true) rfl (by kernel_rfl) (by kernel_rfl) (by kernel_rfl) (fun _ _ _ h => h) (Or.inl ⟨by rfl, fun w => by go_simp⟩) ?_
        go_simp
        refine wpAny_ready (rs := [20]) (by kernel_rfl) (by simp) ?_
        refine AllReady.cons rfl (fun K hK => ?_) AllReady.nil
        go_simp
        go_wp2_with (go_at_call 11; refine (HAW.out _).mono ?_; rintro e w9 ⟨rfl, hb9⟩)
        refine wpAny_take (i := 21) (v := .bool true) rfl (by kernel_rfl) (by kernel_rfl) (by kernel_rfl) (fun _ _ _ h => h) (Or.inl ⟨by rfl, fun w => by go_simp⟩) ?_
        go_simp
        refine wpAny_take (i := 22) (v := .bool true) rfl (by kernel_rfl) (by kernel_rfl) (by kernel_rfl) (fun _ _ _ h => h) (Or.inl ⟨by rfl, fun w => by go_simp⟩) ?_
        go_simp
        refine wpAny_done (by kernel_rfl) ?_ _
        have q8 := hB7.drew.trans (hq8.below _)
        have q9 := hb1.trans (q8.mono hb1.size)
        go_wp2
        go_ret
        exact ⟨rfl, q9.trans (hb9.mono q9.size)⟩
      · exact absurd HEZ1.out h
  · exact absurd HEZ.out h
end segmentRoundTrip
end Go.Proofs.Ytmnflbgejagpmaa
