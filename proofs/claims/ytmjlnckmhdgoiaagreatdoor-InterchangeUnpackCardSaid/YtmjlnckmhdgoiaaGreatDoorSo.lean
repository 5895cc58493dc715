/- Contract of Next. -/
import Derived.Test.YtmjlnckmhdgoiaaGreatDoorSn
import Derived.Deep.RegionHeld3
import Derived.Deep.RegionWith
import Derived.IntWalk
namespace Go.Proofs.YtmjlnckmhdgoiaaGreatDoor
open Go.RowKit
set_option linter.unusedVariables false

/-- a segment that the call built is returned, with a length and an error -/
def NextRet (w : World) (r : Seg × Nat × Int) (e : Ending) (w' : World) : Prop :=
  ∃ u, e = .returned (.tuple #[.agg #[.string ⟨r.1.tag.toArray⟩, u], .int .i64 (r.2.1 : Int), .int .i64 r.2.2]) ∧ ElsOwn w' w.heap.size u r.1.els ∧ Below w.heap.size w w'
/-- a row of slices at A that read as the parts ps -/
def PartsRow (w : World) (B : Nat) (A : Option Addr) (ps : List Bs) : Prop := ∃ cs, RdB w B A cs ∧ PartsAt w B cs ps
theorem PartsAt.mono {w : World} {B B' : Nat} {cs : List Value} {ps : List Bs} (h : PartsAt w B cs ps) (hB : B ≤ B') : PartsAt w B' cs ps :=
  ⟨h.1, fun i p hp => by obtain ⟨A, c, h1, h2, h3⟩ := h.2 i p hp; exact ⟨A, c, h1, h2, h3.mono hB⟩⟩
theorem PartsRow.below {w w' : World} {B : Nat} {A : Option Addr} {ps : List Bs} (h : PartsRow w B A ps) (hb : Below B w w') : PartsRow w' B A ps := by
  obtain ⟨cs, h1, h2⟩ := h
  exact ⟨cs, h1.below hb, h2.below hb⟩
theorem PartsRow.mono {w : World} {B B' : Nat} {A : Option Addr} {ps : List Bs} (h : PartsRow w B A ps) (hB : B ≤ B') : PartsRow w B' A ps := by
  obtain ⟨cs, h1, h2⟩ := h
  exact ⟨cs, h1.mono hB, h2.mono hB⟩
set_option maxRecDepth 100000 in
theorem PartsRow.get {w : World} {B : Nat} {A : Option Addr} {ps : List Bs} (h : PartsRow w B A ps) {k : Nat} (hk : k < ps.length) :
    ∃ b off A' c', A = some ⟨b, off, none⟩ ∧ b < B ∧ w.cell? ⟨b, off + k, none⟩ = some (.slice A' ps[k].length c') ∧ ps[k].length ≤ c' ∧ RdB w B A' (u8s ps[k]) := by
  obtain ⟨cs, h2, h1, h3⟩ := h
  obtain ⟨A', c', hv, hle, hr⟩ := h3 k _ (List.getElem?_eq_getElem hk)
  obtain ⟨b, off, rfl, hc⟩ := h2.rd.at_lit hv
  obtain ⟨ad, h4, h5, _⟩ := h2 k _ hv
  injection h4 with h4
  subst h4
  exact ⟨b, off, A', c', rfl, h5, hc, hle, hr⟩
theorem CutRet.row {w w' : World} {ps : List Bs} {v : Value} {cs : List Value} (h : w'.ownsRow w.heap.size 23 1 v ps.length cs) (h2 : PartsAt w' w.heap.size cs ps) (hb : w.heap.size ≤ w'.heap.size) : ∃ A c, v = .slice A ps.length c ∧ ps.length ≤ c ∧ PartsRow w' w'.heap.size A ps := by
  obtain ⟨A, c, h3, h4, h5⟩ := own_shape h
  exact ⟨A, c, h3, h5, cs, h4, h2.mono hb⟩
set_option maxRecDepth 100000 in
/-- parts[1:] -/
theorem parts_tail {w : World} {B : Nat} {A : Option Addr} {p : Bs} {ps : List Bs} {c : Nat} (h : PartsRow w B A (p :: ps)) (hc : (p :: ps).length ≤ c) :
    ∃ A', (∀ W, (Instr.slice 86 (.slice A (p :: ps).length c) (some (.int .i64 1)) none none).run Tryz.prog W = .ok (.slice A' ps.length (c - 1)) W) ∧ PartsRow w B A' ps := by
  have hlen : (p :: ps).length = ps.length + 1 := rfl
  refine ⟨if c = 1 then A else A.map (·.add (1 * 1)), fun W => ?_, ?_⟩
  · have := run_cut W 86 23 1 Tryz.underlying86 (by kernel_rfl) (by kernel_rfl) A (p :: ps).length c 1 (by omega)
    rw [hlen, Nat.add_sub_cancel] at this
    rw [hlen]
    exact this
  · obtain ⟨cs, h1, h2, h3⟩ := h
    refine ⟨cs.drop 1, ?_, by rw [List.length_drop, h2]; rfl, fun i q hq => ?_⟩
    · by_cases h4 : c = 1
      · have : cs.drop 1 = [] := List.drop_eq_nil_of_le (by omega)
        rw [this]
        exact RdB.nil _ _ _
      · rw [if_neg h4]
        exact h1.drop 1
    · obtain ⟨A', c', a, b⟩ := h3 (i + 1) q (by simpa using hq)
      exact ⟨A', c', by rw [List.getElem?_drop, Nat.add_comm]; exact a, b⟩
set_option maxRecDepth 100000 in
theorem onHead_bd {p : Bs} {l : List Bs} {m n : Nat} (hl : l ≠ []) (h1 : l.length ≤ m) (h2 : ∀ q ∈ l, q.length ≤ n) : (onHead p l).length ≤ m ∧ ∀ q ∈ onHead p l, q.length ≤ p.length + n := by
  cases l with
  | nil => exact absurd rfl hl
  | cons x r =>
    refine ⟨by simpa [onHead] using h1, fun q hq => ?_⟩
    simp only [onHead, List.mem_cons] at hq
    rcases hq with rfl | hq
    · have := h2 x (by simp)
      simp
      omega
    · have := h2 q (by simp [hq])
      omega
set_option maxRecDepth 100000 in
theorem cut_bd (d : UInt8) : ∀ b : Bs, (cutF d b).length ≤ b.length + 1 ∧ ∀ p ∈ cutF d b, p.length ≤ b.length
  | [] => by simp [cutF]
  | x :: r => by
    by_cases h1 : x = 63
    · subst h1
      cases r with
      | nil => simp [cutF]
      | cons y r' =>
        have ih := cut_bd d r'
        rw [cut_pair]
        have := onHead_bd (p := [63, y]) (cutF_ne d r') ih.1 ih.2
        simp only [List.length_cons, List.length_nil] at this ⊢
        exact ⟨by omega, fun p hp => by have := this.2 p hp; omega⟩
    · by_cases h2 : x = d
      · subst h2
        have ih := cut_bd x r
        rw [cut_hit h1]
        simp only [List.length_cons, List.mem_cons]
        refine ⟨by omega, fun p hp => ?_⟩
        rcases hp with rfl | hp
        · simp
        · have := ih.2 p hp; omega
      · have ih := cut_bd d r
        rw [cut_step h1 h2]
        have := onHead_bd (p := [x]) (cutF_ne d r) ih.1 ih.2
        simp only [List.length_cons, List.length_nil] at this ⊢
        exact ⟨by omega, fun p hp => by have := this.2 p hp; omega⟩
/-- the loop over the parts: block S holds the segment that is being built -/
def NRel (p0 : Bs) (ps : List Bs) (S : Nat) (w2 : World) (g : Nat) (i : Value) (wr : World) : Prop :=
  ∃ (k : Nat) (v : Value) (els : List (List Bs)), k + g = ps.length ∧ i = .int .i64 (k : Int) ∧ wr.cell? ⟨S, 0, none⟩ = some (.string ⟨p0.toArray⟩) ∧ wr.cell? ⟨S, 1, none⟩ = some v ∧ wr.frozen? ⟨S, 1, none⟩ = false ∧
    ElsOwn wr (S + 1) v els ∧ els.length = k ∧ els ++ (ps.drop k).map elF = ps.map elF ∧ Below S w2 wr ∧ S < wr.heap.size
/-- the loop over the components of an element -/
def IRel (qs : List Bs) (H : Nat) (w4 : World) (g : Nat) (v i : Value) (wr : World) : Prop :=
  ∃ (j : Nat) (es : List Bs), j + g = qs.length ∧ i = .int .i64 (j : Int) ∧ OwnStr wr H v es ∧ es.length = j ∧ es ++ (qs.drop j).map plainF = qs.map plainF ∧ Below H w4 wr
theorem map_step {α β : Type} (f : α → β) {l : List α} {k : Nat} (h : k < l.length) : (l.drop k).map f = f l[k] :: (l.drop (k + 1)).map f := by
  rw [List.drop_eq_getElem_cons h, List.map_cons]
theorem validF_cases (s : Seg) : validF s = 0 ∨ validF s = 1 ∨ validF s = 8 := by
  unfold validF
  cases isTagF s.tag <;> cases isLongF s.els <;> cases endBad s.els <;> simp
set_option maxRecDepth 100000 in
set_option maxHeartbeats 4000000 in
theorem next_any (A : Option Addr) (c : Nat) (b : Bs) (w : World) (hr : RdB w w.heap.size A (u8s b)) (hc : b.length ≤ c) (hl : b.length ≤ 1000000000) :
    Calls Tryz.prog 58 #[.slice A b.length c] w (NextRet w (nextF b)) := by
  have q0 := (Below.refl w.heap.size w).alloc (Nat.le_refl _) (.cells #[.string ⟨#[]⟩, .slice none 0 0] 57)
  have hr0 := hr.below q0
  cases hf : findF 39 b with
  | none =>
    have HE : Hid (nextF b = (noSeg, 0, 5)) := by show _ = _; unfold nextF nextW; rw [hf]
    have HF : Hid (Calls Tryz.prog 75 #[.slice A b.length c, .int .u8 39] (w.alloc (.cells #[.string ⟨#[]⟩, .slice none 0 0] 57)) fun e w' => e = .returned (.int .i64 (-1)) ∧ (w.alloc (.cells #[.string ⟨#[]⟩, .slice none 0 0] 57)) = w') := by
      show Calls _ _ _ _ _
      rw [← findI_none hf]
      exact find_any A c b 39 _ hr0.rd hl
    clear hf
    go_enter Tryz.func58, Tryz.ntmps58
    go_wp2_with fail
    refine HF.out.mono ?_
    rintro e w' ⟨rfl, rfl⟩
    go_wp2
    refine bodyPost_ret (v := .tuple #[.agg #[.string ⟨#[]⟩, .slice none 0 0], .int .i64 0, .int .i64 5]) (by simp [results, Tryz.results58, go_sem]) rfl ?_
    rw [HE.out]
    exact ⟨.slice none 0 0, rfl, ElsOwn.nil_ _ _, q0⟩
  | some n =>
    have hn := (find_lt hf).1
    have HE : Hid (nextF b = if validF (parseF (b.take n)) = 0 ∧ encS (parseF (b.take n)) = b.take (n + 1) then (parseF (b.take n), n + 1, 0) else (noSeg, 0, 4)) := by show _ = _; unfold nextF nextW; rw [hf]
    have htk : (b.take n).length = n := by rw [List.length_take]; omega
    have hca := fun W (hb : Below w.heap.size w W) => cut_any A c (b.take n) 43 W (((hr.takeB n).below hb).mono hb.size) (by omega) (by omega)
    rw [htk] at hca
    have HCA := Lib.hid hca
    have HPF : Hid (parseF (b.take n) = match cutF 43 (b.take n) with | [] => ⟨[], []⟩ | t :: r => ⟨t, r.map elF⟩) := rfl
    have hne := cutF_ne 43 (b.take n)
    have hbd := cut_bd 43 (b.take n)
    have hpl : (cutF 43 (b.take n)).length ≤ 1000000000 := by omega
    have hee : ∀ p ∈ cutF 43 (b.take n), p.length ≤ 1000000000 := fun p hp => by have := hbd.2 p hp; omega
    clear hbd
    generalize cutF 43 (b.take n) = ps at HCA HPF hne hpl hee
    cases ps with
    | nil => exact absurd rfl hne
    | cons p0 ps =>
    have hhd := fun W => head_run W A b.length c n (by omega)
    have hhd1 := fun W => head_run W A b.length c (n + 1) (by omega)
    rw [show ((n + 1 : Nat) : Int) = (n : Int) + 1 by omega] at hhd1
    have HF : Hid (Calls Tryz.prog 75 #[.slice A b.length c, .int .u8 39] (w.alloc (.cells #[.string ⟨#[]⟩, .slice none 0 0] 57)) fun e w' => e = .returned (.int .i64 (n : Int)) ∧ (w.alloc (.cells #[.string ⟨#[]⟩, .slice none 0 0] 57)) = w') := by
      show Calls _ _ _ _ _
      rw [← findI_some hf]
      exact find_any A c b 39 _ hr0.rd hl
    have HEE := Lib.hid hee
    clear hf hr0 hne hca hee
    have hc0 : (w.alloc (.cells #[.string ⟨#[]⟩, .slice none 0 0] 57)).cell? ⟨w.heap.size, 0, none⟩ = some (.string ⟨#[]⟩) := by simp
    have hc1 : (w.alloc (.cells #[.string ⟨#[]⟩, .slice none 0 0] 57)).cell? ⟨w.heap.size, 1, none⟩ = some (.slice none 0 0) := by simp
    have hf0 : (w.alloc (.cells #[.string ⟨#[]⟩, .slice none 0 0] 57)).frozen? ⟨w.heap.size, 0, none⟩ = false := by simp
    have hf1 : (w.alloc (.cells #[.string ⟨#[]⟩, .slice none 0 0] 57)).frozen? ⟨w.heap.size, 1, none⟩ = false := by simp
    have hz0 : w.heap.size < (w.alloc (.cells #[.string ⟨#[]⟩, .slice none 0 0] 57)).heap.size := by simp
    generalize hW : w.alloc (.cells #[.string ⟨#[]⟩, .slice none 0 0] 57) = W at q0 HF hc0 hc1 hf0 hf1 hz0
    have hdn : decide ((n : Int) < 0) = false := by simp
    go_enter Tryz.func58, Tryz.ntmps58
    go_wp2_with fail
    refine HF.out.mono ?_
    rintro e w' ⟨rfl, rfl⟩
    go_wp2_with fail
    refine (HCA.out _ q0).mono ?_
    rintro e w2 ⟨v, cs, rfl, hown, hps, hb2⟩
    obtain ⟨Ap, cp, rfl, hcp, hrow⟩ := CutRet.row hown hps hb2.size
    obtain ⟨At, htl, hrt⟩ := parts_tail hrow hcp
    obtain ⟨bp, op, A0, c0, rfl, hbp, hcell0, _, hr0⟩ := hrow.get (k := 0) (by simp)
    simp only [List.getElem_cons_zero, Nat.add_zero] at hcell0 hr0
    have hcv := conv_back w2 A0 c0 p0 hr0.rd
    have hd0 : w2.cell? ⟨w.heap.size, 0, none⟩ = some (.string ⟨#[]⟩) := (hb2.cell (p := ⟨w.heap.size, 0, none⟩) hz0).trans hc0
    have hd1 : w2.cell? ⟨w.heap.size, 1, none⟩ = some (.slice none 0 0) := (hb2.cell (p := ⟨w.heap.size, 1, none⟩) hz0).trans hc1
    have hg0 : w2.frozen? ⟨w.heap.size, 0, none⟩ = false := (hb2.frozen (p := ⟨w.heap.size, 0, none⟩) hz0).trans hf0
    have hg1 : w2.frozen? ⟨w.heap.size, 1, none⟩ = false := (hb2.frozen (p := ⟨w.heap.size, 1, none⟩) hz0).trans hf1
    have q2 := q0.trans (hb2.mono q0.size)
    have hz2 : w.heap.size < w2.heap.size := Nat.lt_of_lt_of_le hz0 hb2.size
    clear hc0 hc1 hf0 hf1 hown hps hW
    have hlen1 : (p0 :: ps).length = ps.length + 1 := rfl
    have hpl2 : ps.length ≤ 1000000000 := by rw [hlen1] at hpl; omega
    rw [hlen1] at htl
    have q3 := (Below.refl w2.heap.size w2).alloc (Nat.le_refl _) (.cells #[.string ⟨p0.toArray⟩, .slice none 0 0] 57)
    have hs0 : (w2.alloc (.cells #[.string ⟨p0.toArray⟩, .slice none 0 0] 57)).cell? ⟨w2.heap.size, 0, none⟩ = some (.string ⟨p0.toArray⟩) := by simp
    have hs1 : (w2.alloc (.cells #[.string ⟨p0.toArray⟩, .slice none 0 0] 57)).cell? ⟨w2.heap.size, 1, none⟩ = some (.slice none 0 0) := by simp
    have hs2 : (w2.alloc (.cells #[.string ⟨p0.toArray⟩, .slice none 0 0] 57)).frozen? ⟨w2.heap.size, 1, none⟩ = false := by simp
    have hs3 : w2.heap.size < (w2.alloc (.cells #[.string ⟨p0.toArray⟩, .slice none 0 0] 57)).heap.size := by simp
    obtain ⟨i1, hi1, hy0, hy1, hy2⟩ := info_parts strsInfo
    obtain ⟨i2, hi2, hx0, hx1, hx2⟩ := info_parts strInfo
    go_wp2
    clear htl hcv hcell0 hr0 hhd
    go_loopg [30] ps.length (fun g i wr => NRel p0 ps w2.heap.size w2 g i wr)
    case atStart => exact ⟨0, .slice none 0 0, [], by omega, rfl, hs0, hs1, hs2, ElsOwn.nil_ _ _, rfl, by simp, q3, hs3⟩
    case round =>
      clear hs0 hs1 hs2 hs3 q3
      obtain ⟨k, v, els, hk, rfl, hs0, hs1, hs2, hels, hkl, heq, hb, hs3⟩ := hrel
      have HK := Lib.hid hk
      have HEQ := Lib.hid heq
      have HKL := Lib.hid hkl
      have hk2 : k ≤ ps.length := by omega
      have helb : els.length ≤ ps.length := by omega
      clear hk heq hkl
      by_cases hlt : k < ps.length
      · have HST := Lib.hid (map_step elF hlt)
        obtain ⟨bt, ot, Ak, ck, rfl, hbt, hck, hcl, hrk⟩ := (hrt.below hb).get hlt
        have hpk : ps[k].length ≤ 1000000000 := HEE.out ps[k] (List.mem_cons_of_mem _ (List.getElem_mem hlt))
        generalize ps[k] = p at HST hck hcl hrk hpk
        have helb2 : els.length + 1 ≤ 1000000001 := by omega
        obtain ⟨ecs, ho1, ho2⟩ := hels
        by_cases hp0 : p.length = 0
        · have hp : p = [] := List.eq_nil_of_length_eq_zero hp0
          subst hp
          have HEQ2 : Hid ((els ++ [[]]) ++ (ps.drop (k + 1)).map elF = ps.map elF) := by show _ = _; rw [← HEQ.out, HST.out]; simp [elF]
          clear HST HEQ hp0
          have hz4 : w2.heap.size < wr.heap.size := hs3
          go_wp2_with (at_builtin; refine wpList_append_new wr rfl (.tmp 51) (.tmp 53) 55 rfl (w2.heap.size + 1) 60 i1 _ 1 24 Tryz.underlying55 hi1 hy0 hy1 hy2 rfl (by omega) _ els.length ecs [.slice none 0 0] rfl (by simp [Value.oneCell']) rfl ho1 rfl (by unfold maxLen; omega) (by omega) hz4 ?_; intro v5 w5 hown5 hb5 _ hg5; have hk0 : w5.cell? ⟨w2.heap.size, 0, none⟩ = some (.string ⟨p0.toArray⟩) := (hb5.cell (p := ⟨w2.heap.size, 0, none⟩) (Nat.lt_succ_self _)).trans hs0; have hk1 : w5.cell? ⟨w2.heap.size, 1, none⟩ = some v := (hb5.cell (p := ⟨w2.heap.size, 1, none⟩) (Nat.lt_succ_self _)).trans hs1; have hkf : w5.frozen? ⟨w2.heap.size, 1, none⟩ = false := (hb5.frozen (p := ⟨w2.heap.size, 1, none⟩) (Nat.lt_succ_self _)).trans hs2; obtain ⟨A5, c5, rfl, _, _⟩ := own_shape hown5)
          have hels2 := ElsOwn.push ho1 ho2 (OwnStr.nil_ _ _) hg5 hown5
          have hels3 := hels2.set (p := ⟨w2.heap.size, 1, none⟩) (Nat.lt_succ_self _) (.slice A5 (els.length + 1) c5)
          go_roundg (ps.length - (k + 1))
          case measure => have := HK.out; omega
          case rel => exact ⟨k + 1, .slice A5 (els.length + 1) c5, els ++ [[]], by omega, by go_num, (World.cell?_setCell_other w5 _ _ _ (by simp)).trans hk0, World.cell?_setCell_same w5 _ _ hk1, (World.frozen?_setCell w5 _ _ _).trans hkf, hels3, by have := HKL.out; simp; omega, HEQ2.out, ((hb).trans (hb5.mono (Nat.le_succ _))).setCell (Nat.le_refl _) _, by simp; have := hb5.size; omega⟩
        · obtain ⟨wo, rfl⟩ : ∃ wo : World, wo = wr := ⟨_, rfl⟩
          have hp1 : 0 < p.length := by omega
          have hpe : p ≠ [] := by intro h; rw [h] at hp1; simp at hp1
          have HEL : Hid (elF p = (cutF 58 p).map plainF) := by show _ = _; unfold elF; rw [if_neg hpe]
          have HCB := Lib.hid (cut_any Ak ck p 58 wo (hrk.mono (Nat.le_of_lt hs3)) hcl hpk)
          have hbd := cut_bd 58 p
          have hq1 : (cutF 58 p).length ≤ 1000000001 := by omega
          have HQ2 : Hid (∀ q ∈ cutF 58 p, q.length ≤ 1000000000) := fun q hq => by have := hbd.2 q hq; omega
          clear hbd hp0 hpe
          generalize cutF 58 p = qs at HEL HCB hq1 HQ2
          go_wp2_with fail
          refine HCB.out.mono ?_
          rintro e w4 ⟨v4, cs4, rfl, hown4, hps4, hb4⟩
          obtain ⟨Aq, cq, rfl, hcq, hrow4⟩ := CutRet.row hown4 hps4 hb4.size
          clear hown4 hps4
          go_wp2
          go_loopg [10, 40] qs.length (fun g v i wr => IRel qs w4.heap.size w4 g v i wr)
          case atStart => exact ⟨0, [], by omega, rfl, OwnStr.nil_ _ _, rfl, by simp, Below.refl _ _⟩
          case round =>
            obtain ⟨j, es, hj, rfl, hoe, hjl, hes, hbi⟩ := hrel
            have HJ := Lib.hid hj
            have HES := Lib.hid hes
            have HJL := Lib.hid hjl
            have hj2 : j ≤ qs.length := by omega
            have hesb : es.length ≤ qs.length := by omega
            have hBi := hbi.size
            clear hj hes hjl
            by_cases hlt2 : j < qs.length
            · have HST2 := Lib.hid (map_step plainF hlt2)
              obtain ⟨bq, oq, Aj, cj, rfl, hbq, hcj, hcl2, hrj⟩ := (hrow4.below hbi).get hlt2
              have hqk : qs[j].length ≤ 1000000000 := HQ2.out qs[j] (List.getElem_mem hlt2)
              generalize qs[j] = q at HST2 hcj hcl2 hrj hqk
              have HPL := Lib.hid (plain_any Aj cj q _ hrj.rd hqk)
              have HES2 : Hid ((es ++ [plainF q]) ++ (qs.drop (j + 1)).map plainF = qs.map plainF) := by show _ = _; rw [← HES.out, HST2.out]; simp
              clear HST2 HES hrj
              go_wp2_with fail
              refine HPL.out.mono ?_
              rintro e w6 ⟨rfl, hb6⟩
              have hoe6 := hoe.below hb6
              have hB6 := Nat.le_trans hBi hb6.size
              go_wp2_with (at_builtin; refine wpList_append_new w6 rfl (.tmp 44) (.tmp 47) 60 rfl w4.heap.size 9 i2 _ 1 16 Tryz.underlying60 hi2 hx0 hx1 hx2 rfl (by omega) _ es.length (strs es) [.string ⟨(plainF q).toArray⟩] rfl (by simp [Value.oneCell']) rfl hoe6 rfl (by unfold maxLen; omega) (by omega) hB6 ?_; intro v7 w7 hown7 hb7 _ _)
              go_roundg (qs.length - (j + 1))
              case measure => have := HJ.out; omega
              case rel =>
                refine ⟨j + 1, es ++ [plainF q], by omega, by go_num, ?_, by have := HJL.out; simp; omega, HES2.out, (hbi.trans (hb6.mono hBi)).trans hb7⟩
                unfold OwnStr
                rw [List.length_append]
                simpa [strs, str] using hown7
            · have hge : qs.length ≤ j := by omega
              have HES2 : Hid (es = elF p) := by show _ = _; rw [HEL.out, ← HES.out, List.drop_eq_nil_of_le hge]; simp
              have HEQ2 : Hid ((els ++ [es]) ++ (ps.drop (k + 1)).map elF = ps.map elF) := by show _ = _; rw [HES2.out, ← HEQ.out, HST.out]; simp
              have hbx : Below wo.heap.size wo wr := hb4.trans (hbi.mono hb4.size)
              have hzx : w2.heap.size < wr.heap.size := Nat.lt_of_lt_of_le hs3 hbx.size
              have hx0' : wr.cell? ⟨w2.heap.size, 0, none⟩ = some (.string ⟨p0.toArray⟩) := (hbx.cell (p := ⟨w2.heap.size, 0, none⟩) hs3).trans hs0
              have hx1' : wr.cell? ⟨w2.heap.size, 1, none⟩ = some v := (hbx.cell (p := ⟨w2.heap.size, 1, none⟩) hs3).trans hs1
              have hxf' : wr.frozen? ⟨w2.heap.size, 1, none⟩ = false := (hbx.frozen (p := ⟨w2.heap.size, 1, none⟩) hs3).trans hs2
              have hox := own_below ho1 hbx
              have hwo : w2.heap.size + 1 ≤ w4.heap.size := Nat.le_trans hs3 hb4.size
              obtain ⟨Ae, ce, rfl, _, _⟩ := own_shape hoe
              clear HES HES2 HEQ HST hlt2
              have hz4 : w2.heap.size < wr.heap.size := hzx
              go_wp2_with (at_builtin; refine wpList_append_new wr rfl (.tmp 51) (.tmp 53) 55 rfl (w2.heap.size + 1) 60 i1 _ 1 24 Tryz.underlying55 hi1 hy0 hy1 hy2 rfl (by omega) _ els.length ecs [.slice Ae es.length ce] rfl (by simp [Value.oneCell']) rfl hox rfl (by unfold maxLen; omega) (by omega) hz4 ?_; intro v5 w5 hown5 hb5 _ hg5; have hk0 : w5.cell? ⟨w2.heap.size, 0, none⟩ = some (.string ⟨p0.toArray⟩) := (hb5.cell (p := ⟨w2.heap.size, 0, none⟩) (Nat.lt_succ_self _)).trans hx0'; have hk1 : w5.cell? ⟨w2.heap.size, 1, none⟩ = some v := (hb5.cell (p := ⟨w2.heap.size, 1, none⟩) (Nat.lt_succ_self _)).trans hx1'; have hkf : w5.frozen? ⟨w2.heap.size, 1, none⟩ = false := (hb5.frozen (p := ⟨w2.heap.size, 1, none⟩) (Nat.lt_succ_self _)).trans hxf'; obtain ⟨A5, c5, rfl, _, _⟩ := own_shape hown5)
              have hels2 := ElsOwn.push hox (fun i x hx => by obtain ⟨y, a, b⟩ := ho2 i x hx; exact ⟨y, a, b.below hbx⟩) (hoe.mono hwo) hg5 hown5
              have hels3 := hels2.set (p := ⟨w2.heap.size, 1, none⟩) (Nat.lt_succ_self _) (.slice A5 (els.length + 1) c5)
              go_roundg (ps.length - (k + 1))
              case measure => have := HK.out; omega
              case rel => exact ⟨k + 1, .slice A5 (els.length + 1) c5, els ++ [es], by omega, by go_num, (World.cell?_setCell_other w5 _ _ _ (by simp)).trans hk0, World.cell?_setCell_same w5 _ _ hk1, (World.frozen?_setCell w5 _ _ _).trans hkf, hels3, by have := HKL.out; simp; omega, HEQ2.out, ((hb.trans (hbx.mono (Nat.le_of_lt hs3))).trans (hb5.mono (Nat.le_succ _))).setCell (Nat.le_refl _) _, by simp; have := hb5.size; omega⟩
      · have hge : ps.length ≤ k := by omega
        have HPA : Hid (parseF (b.take n) = ⟨p0, els⟩) := by
          show _ = _
          rw [HPF.out]
          have := HEQ.out
          rw [List.drop_eq_nil_of_le hge] at this
          simp only [List.map_nil, List.append_nil] at this
          rw [this]
        have HE2 : Hid (nextF b = if validF ⟨p0, els⟩ = 0 ∧ encS ⟨p0, els⟩ = b.take (n + 1) then (⟨p0, els⟩, n + 1, 0) else (noSeg, 0, 4)) := by show _ = _; rw [HE.out, HPA.out]
        obtain ⟨Ae, ce, rfl, hEA⟩ := hels.at_
        have hd0' : wr.cell? ⟨w.heap.size, 0, none⟩ = some (.string ⟨#[]⟩) := (hb.cell (p := ⟨w.heap.size, 0, none⟩) hz2).trans hd0
        have hd1' : wr.cell? ⟨w.heap.size, 1, none⟩ = some (.slice none 0 0) := (hb.cell (p := ⟨w.heap.size, 1, none⟩) hz2).trans hd1
        have hg0' : wr.frozen? ⟨w.heap.size, 0, none⟩ = false := (hb.frozen (p := ⟨w.heap.size, 0, none⟩) hz2).trans hg0
        have hg1' : wr.frozen? ⟨w.heap.size, 1, none⟩ = false := (hb.frozen (p := ⟨w.heap.size, 1, none⟩) hz2).trans hg1
        have hzr : w.heap.size < wr.heap.size := Nat.lt_trans hz2 hs3
        have q4 : Below w.heap.size w wr := q2.trans (hb.mono (Nat.le_of_lt hz2))
        have HVA := Lib.hid (fun W (hb : Below wr.heap.size wr W) => validate_any ⟨p0.toArray⟩ Ae ce els W ((hEA.below hb).mono hb.size))
        have hrn := Lib.hid ((hr.takeB (n + 1)).below q4)
        clear HPF HE HEQ HPA hlt HK HKL hrt hd0 hd1 hg0 hg1 hr hrow HF HCA
        rcases validF_cases ⟨p0, els⟩ with hv | hv | hv
        · rw [hv] at HVA
          have hsh := short_of (validF_zero.1 hv).2.1
          have hel := encS_len hv
          have HWR := fun W (hb : Below wr.heap.size wr W) => write_any (.slice none 0 0) [] ⟨p0.toArray⟩ Ae ce els W.heap.size W (OwnB.nil_ _ _) (Nat.le_refl _) ((hEA.below hb).mono hb.size) (by show ([] ++ encS ⟨p0, els⟩).length ≤ _; rw [List.nil_append]; omega) hsh.1 hsh.2
          have HWR : ∀ W, Below wr.heap.size wr W → Calls Tryz.prog 70 #[.slice none 0 0, .agg #[.string ⟨p0.toArray⟩, .slice Ae els.length ce]] W fun e w' => ∃ v', e = .returned v' ∧ OwnB w' W.heap.size v' (encS ⟨p0, els⟩) ∧ Below W.heap.size W w' := HWR
          have htk1 : (b.take (n + 1)).length = n + 1 := by rw [List.length_take]; omega
          have HEQL := fun A9 c9 w9 (hB9 : Below wr.heap.size wr w9) hr9 => equal_any A9 A c9 c (encS ⟨p0, els⟩) (b.take (n + 1)) w9 hr9 ((hrn.out.below (hB9.mono q4.size)).rd)
          rw [htk1] at HEQL
          clear hsh hel htk1
          by_cases hx : encS ⟨p0, els⟩ = b.take (n + 1)
          · have HE3 : Hid (nextF b = (⟨p0, els⟩, n + 1, 0)) := by show _ = _; rw [HE2.out, if_pos ⟨hv, hx⟩]
            rw [show (encS ⟨p0, els⟩ == b.take (n + 1)) = true by simpa using hx] at HEQL
            generalize encS ⟨p0, els⟩ = xs at HWR HEQL
            have HWR := Lib.hid HWR
            have HEQL := Lib.hid HEQL
            clear HE2 hv hx
            go_wp2
            refine wp_region_any (by kernel_rfl) ?_
            change wpAny _ _ _ _ _ _ _ (World.drew _)
            refine wpAny_ready (rs := [0]) (by kernel_rfl) (by simp) ?_
            refine AllReady.cons rfl (fun K hK => ?_) AllReady.nil
            go_simp
            refine hK _ _ ?_
            clear hK K
            refine wpAny_ready (rs := [1]) (by kernel_rfl) (by simp) ?_
            refine AllReady.cons rfl (fun K hK => ?_) AllReady.nil
            go_simp
            go_wp2_with (go_at_call 69; refine (HVA.out _ (Below.refl _ _).drew).mono ?_; rintro e w8 ⟨rfl, hb8⟩)
            refine wpAny_take (i := 2) (v := .bool false) rfl (by kernel_rfl) (by kernel_rfl) (by kernel_rfl) (fun _ _ _ h => h) (Or.inl ⟨by rfl, fun w => by go_simp⟩) ?_
            go_simp
            refine wpAny_take (i := 3) (v := .bool false) rfl (by kernel_rfl) (by kernel_rfl) (by kernel_rfl) (fun _ _ _ h => h) (Or.inl ⟨by rfl, fun w => by go_simp⟩) ?_
            go_simp
            refine wpAny_take (i := 6) (v := .slice A b.length c) rfl (by kernel_rfl) (by kernel_rfl) (by kernel_rfl) (fun _ _ _ h => h) (Or.inl ⟨by rfl, fun w => by go_simp⟩) ?_
            go_simp
            refine wpAny_take (i := 7) (v := .int .i64 (n : Int)) rfl (by kernel_rfl) (by kernel_rfl) (by kernel_rfl) (fun _ _ _ h => h) (Or.inl ⟨by rfl, fun w => by go_simp⟩) ?_
            go_simp
            refine wpAny_take (i := 8) (v := .int .i64 ((n : Int) + 1)) rfl (by kernel_rfl) (by kernel_rfl) (by kernel_rfl) (fun _ _ _ h => h) (Or.inl ⟨by rfl, fun w => by go_simp; exact IntWalk.i64_in _ (by omega)⟩) ?_
            go_simp
            refine wpAny_take (i := 9) (v := .slice A (n + 1) c) rfl (by kernel_rfl) (by kernel_rfl) (by kernel_rfl) (fun _ _ _ h => h) (Or.inl ⟨by rfl, fun w => by go_simp⟩) ?_
            go_simp
            have hB8 : Below wr.heap.size wr w8 := (Below.refl _ _).drew.trans hb8
            have hl0 : w8.cell? ⟨w2.heap.size, 0, none⟩ = some (.string ⟨p0.toArray⟩) := (hB8.cell (p := ⟨w2.heap.size, 0, none⟩) hs3).trans hs0
            have hl1 : w8.cell? ⟨w2.heap.size, 1, none⟩ = some (.slice Ae els.length ce) := (hB8.cell (p := ⟨w2.heap.size, 1, none⟩) hs3).trans hs1
            refine wpAny_ready (rs := [4]) (by kernel_rfl) (by simp) ?_
            refine AllReady.cons rfl (fun K hK => ?_) AllReady.nil
            go_simp
            refine hK _ _ ?_
            clear hK K
            refine wpAny_ready (rs := [5]) (by kernel_rfl) (by simp) ?_
            refine AllReady.cons rfl (fun K hK => ?_) AllReady.nil
            go_simp
            go_wp2_with (go_at_call 70; refine (HWR.out w8 hB8).mono ?_; rintro e w9 ⟨v9, rfl, hown9, hb9⟩; obtain ⟨A9, c9, rfl, hr9, _, _⟩ := hown9.shape)
            have hB9 : Below wr.heap.size wr w9 := hB8.trans (hb9.mono hB8.size)
            refine wpAny_ready (rs := [10]) (by kernel_rfl) (by simp) ?_
            refine AllReady.cons rfl (fun K hK => ?_) AllReady.nil
            go_simp
            go_wp2_with (go_at_call 53; refine (HEQL.out A9 c9 w9 hB9 hr9).mono ?_; rintro e w' ⟨rfl, rfl⟩)
            refine wpAny_take (i := 11) (v := .bool false) rfl (by kernel_rfl) (by kernel_rfl) (by kernel_rfl) (fun _ _ _ h => h) (Or.inl ⟨by rfl, fun w => by go_simp⟩) ?_
            go_simp
            refine wpAny_take (i := 12) (v := .bool false) rfl (by kernel_rfl) (by kernel_rfl) (by kernel_rfl) (fun _ _ _ h => h) (Or.inl ⟨by rfl, fun w => by go_simp⟩) ?_
            go_simp
            refine wpAny_done (by kernel_rfl) ?_ _
            have he0 : w9.cell? ⟨w.heap.size, 0, none⟩ = some (.string ⟨#[]⟩) := (hB9.cell (p := ⟨w.heap.size, 0, none⟩) hzr).trans hd0'
            have he1 : w9.cell? ⟨w.heap.size, 1, none⟩ = some (.slice none 0 0) := (hB9.cell (p := ⟨w.heap.size, 1, none⟩) hzr).trans hd1'
            have hf0 : w9.frozen? ⟨w.heap.size, 0, none⟩ = false := (hB9.frozen (p := ⟨w.heap.size, 0, none⟩) hzr).trans hg0'
            have hf1 : w9.frozen? ⟨w.heap.size, 1, none⟩ = false := (hB9.frozen (p := ⟨w.heap.size, 1, none⟩) hzr).trans hg1'
            have hm0 : w9.cell? ⟨w2.heap.size, 0, none⟩ = some (.string ⟨p0.toArray⟩) := (hB9.cell (p := ⟨w2.heap.size, 0, none⟩) hs3).trans hs0
            have hm1 : w9.cell? ⟨w2.heap.size, 1, none⟩ = some (.slice Ae els.length ce) := (hB9.cell (p := ⟨w2.heap.size, 1, none⟩) hs3).trans hs1
            have q9 := q4.trans (hB9.mono q4.size)
            go_wp2
            refine bodyPost_ret (v := .tuple #[.agg #[.string ⟨p0.toArray⟩, .slice Ae els.length ce], .int .i64 ((n : Int) + 1), .int .i64 0]) (by simp [results, Tryz.results58, go_sem, he0, he1]) rfl ?_
            rw [HE3.out]
            have hfin := ((((hels.below hB9).set (p := ⟨w.heap.size, 0, none⟩) (Nat.lt_succ_of_lt hz2) (.string ⟨p0.toArray⟩)).set (p := ⟨w.heap.size, 1, none⟩) (Nat.lt_succ_of_lt hz2) (.slice Ae els.length ce))).mono (B' := w.heap.size) (Nat.le_of_lt (Nat.lt_succ_of_lt hz2))
            exact ⟨_, by simp, hfin, (q9.setCell (Nat.le_refl _) _).setCell (Nat.le_refl _) _⟩
          · have HE3 : Hid (nextF b = (noSeg, 0, 4)) := by show _ = _; rw [HE2.out, if_neg (fun h => hx h.2)]
            rw [show (encS ⟨p0, els⟩ == b.take (n + 1)) = false by simpa using hx] at HEQL
            generalize encS ⟨p0, els⟩ = xs at HWR HEQL
            have HWR := Lib.hid HWR
            have HEQL := Lib.hid HEQL
            clear HE2 hv hx
            go_wp2
            refine wp_region_any (by kernel_rfl) ?_
            change wpAny _ _ _ _ _ _ _ (World.drew _)
            refine wpAny_ready (rs := [0]) (by kernel_rfl) (by simp) ?_
            refine AllReady.cons rfl (fun K hK => ?_) AllReady.nil
            go_simp
            refine hK _ _ ?_
            clear hK K
            refine wpAny_ready (rs := [1]) (by kernel_rfl) (by simp) ?_
            refine AllReady.cons rfl (fun K hK => ?_) AllReady.nil
            go_simp
            go_wp2_with (go_at_call 69; refine (HVA.out _ (Below.refl _ _).drew).mono ?_; rintro e w8 ⟨rfl, hb8⟩)
            refine wpAny_take (i := 2) (v := .bool false) rfl (by kernel_rfl) (by kernel_rfl) (by kernel_rfl) (fun _ _ _ h => h) (Or.inl ⟨by rfl, fun w => by go_simp⟩) ?_
            go_simp
            refine wpAny_take (i := 3) (v := .bool false) rfl (by kernel_rfl) (by kernel_rfl) (by kernel_rfl) (fun _ _ _ h => h) (Or.inl ⟨by rfl, fun w => by go_simp⟩) ?_
            go_simp
            refine wpAny_take (i := 6) (v := .slice A b.length c) rfl (by kernel_rfl) (by kernel_rfl) (by kernel_rfl) (fun _ _ _ h => h) (Or.inl ⟨by rfl, fun w => by go_simp⟩) ?_
            go_simp
            refine wpAny_take (i := 7) (v := .int .i64 (n : Int)) rfl (by kernel_rfl) (by kernel_rfl) (by kernel_rfl) (fun _ _ _ h => h) (Or.inl ⟨by rfl, fun w => by go_simp⟩) ?_
            go_simp
            refine wpAny_take (i := 8) (v := .int .i64 ((n : Int) + 1)) rfl (by kernel_rfl) (by kernel_rfl) (by kernel_rfl) (fun _ _ _ h => h) (Or.inl ⟨by rfl, fun w => by go_simp; exact IntWalk.i64_in _ (by omega)⟩) ?_
            go_simp
            refine wpAny_take (i := 9) (v := .slice A (n + 1) c) rfl (by kernel_rfl) (by kernel_rfl) (by kernel_rfl) (fun _ _ _ h => h) (Or.inl ⟨by rfl, fun w => by go_simp⟩) ?_
            go_simp
            have hB8 : Below wr.heap.size wr w8 := (Below.refl _ _).drew.trans hb8
            have hl0 : w8.cell? ⟨w2.heap.size, 0, none⟩ = some (.string ⟨p0.toArray⟩) := (hB8.cell (p := ⟨w2.heap.size, 0, none⟩) hs3).trans hs0
            have hl1 : w8.cell? ⟨w2.heap.size, 1, none⟩ = some (.slice Ae els.length ce) := (hB8.cell (p := ⟨w2.heap.size, 1, none⟩) hs3).trans hs1
            refine wpAny_ready (rs := [4]) (by kernel_rfl) (by simp) ?_
            refine AllReady.cons rfl (fun K hK => ?_) AllReady.nil
            go_simp
            refine hK _ _ ?_
            clear hK K
            refine wpAny_ready (rs := [5]) (by kernel_rfl) (by simp) ?_
            refine AllReady.cons rfl (fun K hK => ?_) AllReady.nil
            go_simp
            go_wp2_with (go_at_call 70; refine (HWR.out w8 hB8).mono ?_; rintro e w9 ⟨v9, rfl, hown9, hb9⟩; obtain ⟨A9, c9, rfl, hr9, _, _⟩ := hown9.shape)
            have hB9 : Below wr.heap.size wr w9 := hB8.trans (hb9.mono hB8.size)
            refine wpAny_ready (rs := [10]) (by kernel_rfl) (by simp) ?_
            refine AllReady.cons rfl (fun K hK => ?_) AllReady.nil
            go_simp
            go_wp2_with (go_at_call 53; refine (HEQL.out A9 c9 w9 hB9 hr9).mono ?_; rintro e w' ⟨rfl, rfl⟩)
            refine wpAny_take (i := 11) (v := .bool true) rfl (by kernel_rfl) (by kernel_rfl) (by kernel_rfl) (fun _ _ _ h => h) (Or.inl ⟨by rfl, fun w => by go_simp⟩) ?_
            go_simp
            refine wpAny_take (i := 12) (v := .bool true) rfl (by kernel_rfl) (by kernel_rfl) (by kernel_rfl) (fun _ _ _ h => h) (Or.inl ⟨by rfl, fun w => by go_simp⟩) ?_
            go_simp
            refine wpAny_done (by kernel_rfl) ?_ _
            have he0 : w9.cell? ⟨w.heap.size, 0, none⟩ = some (.string ⟨#[]⟩) := (hB9.cell (p := ⟨w.heap.size, 0, none⟩) hzr).trans hd0'
            have he1 : w9.cell? ⟨w.heap.size, 1, none⟩ = some (.slice none 0 0) := (hB9.cell (p := ⟨w.heap.size, 1, none⟩) hzr).trans hd1'
            have hf0 : w9.frozen? ⟨w.heap.size, 0, none⟩ = false := (hB9.frozen (p := ⟨w.heap.size, 0, none⟩) hzr).trans hg0'
            have hf1 : w9.frozen? ⟨w.heap.size, 1, none⟩ = false := (hB9.frozen (p := ⟨w.heap.size, 1, none⟩) hzr).trans hg1'
            have hm0 : w9.cell? ⟨w2.heap.size, 0, none⟩ = some (.string ⟨p0.toArray⟩) := (hB9.cell (p := ⟨w2.heap.size, 0, none⟩) hs3).trans hs0
            have hm1 : w9.cell? ⟨w2.heap.size, 1, none⟩ = some (.slice Ae els.length ce) := (hB9.cell (p := ⟨w2.heap.size, 1, none⟩) hs3).trans hs1
            have q9 := q4.trans (hB9.mono q4.size)
            go_wp2
            refine bodyPost_ret (v := .tuple #[.agg #[.string ⟨#[]⟩, .slice none 0 0], .int .i64 0, .int .i64 4]) (by simp [results, Tryz.results58, go_sem, he0, he1]) rfl ?_
            rw [HE3.out]
            exact ⟨.slice none 0 0, rfl, ElsOwn.nil_ _ _, (q9.setCell (Nat.le_refl _) _).setCell (Nat.le_refl _) _⟩
        · have HE3 : Hid (nextF b = (noSeg, 0, 4)) := by show _ = _; rw [HE2.out, if_neg (fun h => by rw [hv] at h; exact absurd h.1 (by decide))]
          rw [hv] at HVA
          clear HE2 hv
          go_wp2
          refine wp_region_any (by kernel_rfl) ?_
          change wpAny _ _ _ _ _ _ _ (World.drew _)
          refine wpAny_ready (rs := [0]) (by kernel_rfl) (by simp) ?_
          refine AllReady.cons rfl (fun K hK => ?_) AllReady.nil
          go_simp
          refine hK _ _ ?_
          clear hK K
          refine wpAny_ready (rs := [1]) (by kernel_rfl) (by simp) ?_
          refine AllReady.cons rfl (fun K hK => ?_) AllReady.nil
          go_simp
          go_wp2_with (go_at_call 69; refine (HVA.out _ (Below.refl _ _).drew).mono ?_; rintro e w8 ⟨rfl, hb8⟩)
          refine wpAny_take (i := 2) (v := .bool true) rfl (by kernel_rfl) (by kernel_rfl) (by kernel_rfl) (fun _ _ _ h => h) (Or.inl ⟨by rfl, fun w => by go_simp⟩) ?_
          go_simp
          refine wpAny_take (i := 3) (v := .bool true) rfl (by kernel_rfl) (by kernel_rfl) (by kernel_rfl) (fun _ _ _ h => h) (Or.inl ⟨by rfl, fun w => by go_simp⟩) ?_
          go_simp
          refine wpAny_take (i := 4) (v := undef) rfl (by kernel_rfl) (by kernel_rfl) (by kernel_rfl) (fun _ _ _ h => h) (Or.inr ⟨by rfl, rfl⟩) ?_
          go_simp
          refine wpAny_take (i := 6) (v := undef) rfl (by kernel_rfl) (by kernel_rfl) (by kernel_rfl) (fun _ _ _ h => h) (Or.inr ⟨by rfl, rfl⟩) ?_
          go_simp
          refine wpAny_take (i := 7) (v := undef) rfl (by kernel_rfl) (by kernel_rfl) (by kernel_rfl) (fun _ _ _ h => h) (Or.inr ⟨by rfl, rfl⟩) ?_
          go_simp
          refine wpAny_take (i := 5) (v := undef) rfl (by kernel_rfl) (by kernel_rfl) (by kernel_rfl) (fun _ _ _ h => h) (Or.inr ⟨by rfl, rfl⟩) ?_
          go_simp
          refine wpAny_take (i := 8) (v := undef) rfl (by kernel_rfl) (by kernel_rfl) (by kernel_rfl) (fun _ _ _ h => h) (Or.inr ⟨by rfl, rfl⟩) ?_
          go_simp
          refine wpAny_take (i := 9) (v := undef) rfl (by kernel_rfl) (by kernel_rfl) (by kernel_rfl) (fun _ _ _ h => h) (Or.inr ⟨by rfl, rfl⟩) ?_
          go_simp
          refine wpAny_take (i := 10) (v := undef) rfl (by kernel_rfl) (by kernel_rfl) (by kernel_rfl) (fun _ _ _ h => h) (Or.inr ⟨by rfl, rfl⟩) ?_
          go_simp
          refine wpAny_take (i := 11) (v := undef) rfl (by kernel_rfl) (by kernel_rfl) (by kernel_rfl) (fun _ _ _ h => h) (Or.inr ⟨by rfl, rfl⟩) ?_
          go_simp
          refine wpAny_take (i := 12) (v := .bool true) rfl (by kernel_rfl) (by kernel_rfl) (by kernel_rfl) (fun _ _ _ h => h) (Or.inl ⟨by rfl, fun w => by go_simp⟩) ?_
          go_simp
          refine wpAny_done (by kernel_rfl) ?_ _
          have hB8 : Below wr.heap.size wr w8 := (Below.refl _ _).drew.trans hb8
          have he0 : w8.cell? ⟨w.heap.size, 0, none⟩ = some (.string ⟨#[]⟩) := (hB8.cell (p := ⟨w.heap.size, 0, none⟩) hzr).trans hd0'
          have he1 : w8.cell? ⟨w.heap.size, 1, none⟩ = some (.slice none 0 0) := (hB8.cell (p := ⟨w.heap.size, 1, none⟩) hzr).trans hd1'
          have hf0 : w8.frozen? ⟨w.heap.size, 0, none⟩ = false := (hB8.frozen (p := ⟨w.heap.size, 0, none⟩) hzr).trans hg0'
          have hf1 : w8.frozen? ⟨w.heap.size, 1, none⟩ = false := (hB8.frozen (p := ⟨w.heap.size, 1, none⟩) hzr).trans hg1'
          have q8 := q4.trans (hB8.mono q4.size)
          go_wp2
          refine bodyPost_ret (v := .tuple #[.agg #[.string ⟨#[]⟩, .slice none 0 0], .int .i64 0, .int .i64 4]) (by simp [results, Tryz.results58, go_sem, he0, he1]) rfl ?_
          rw [HE3.out]
          exact ⟨.slice none 0 0, rfl, ElsOwn.nil_ _ _, (q8.setCell (Nat.le_refl _) _).setCell (Nat.le_refl _) _⟩
        · have HE3 : Hid (nextF b = (noSeg, 0, 4)) := by show _ = _; rw [HE2.out, if_neg (fun h => by rw [hv] at h; exact absurd h.1 (by decide))]
          rw [hv] at HVA
          clear HE2 hv
          go_wp2
          refine wp_region_any (by kernel_rfl) ?_
          change wpAny _ _ _ _ _ _ _ (World.drew _)
          refine wpAny_ready (rs := [0]) (by kernel_rfl) (by simp) ?_
          refine AllReady.cons rfl (fun K hK => ?_) AllReady.nil
          go_simp
          refine hK _ _ ?_
          clear hK K
          refine wpAny_ready (rs := [1]) (by kernel_rfl) (by simp) ?_
          refine AllReady.cons rfl (fun K hK => ?_) AllReady.nil
          go_simp
          go_wp2_with (go_at_call 69; refine (HVA.out _ (Below.refl _ _).drew).mono ?_; rintro e w8 ⟨rfl, hb8⟩)
          refine wpAny_take (i := 2) (v := .bool true) rfl (by kernel_rfl) (by kernel_rfl) (by kernel_rfl) (fun _ _ _ h => h) (Or.inl ⟨by rfl, fun w => by go_simp⟩) ?_
          go_simp
          refine wpAny_take (i := 3) (v := .bool true) rfl (by kernel_rfl) (by kernel_rfl) (by kernel_rfl) (fun _ _ _ h => h) (Or.inl ⟨by rfl, fun w => by go_simp⟩) ?_
          go_simp
          refine wpAny_take (i := 4) (v := undef) rfl (by kernel_rfl) (by kernel_rfl) (by kernel_rfl) (fun _ _ _ h => h) (Or.inr ⟨by rfl, rfl⟩) ?_
          go_simp
          refine wpAny_take (i := 6) (v := undef) rfl (by kernel_rfl) (by kernel_rfl) (by kernel_rfl) (fun _ _ _ h => h) (Or.inr ⟨by rfl, rfl⟩) ?_
          go_simp
          refine wpAny_take (i := 7) (v := undef) rfl (by kernel_rfl) (by kernel_rfl) (by kernel_rfl) (fun _ _ _ h => h) (Or.inr ⟨by rfl, rfl⟩) ?_
          go_simp
          refine wpAny_take (i := 5) (v := undef) rfl (by kernel_rfl) (by kernel_rfl) (by kernel_rfl) (fun _ _ _ h => h) (Or.inr ⟨by rfl, rfl⟩) ?_
          go_simp
          refine wpAny_take (i := 8) (v := undef) rfl (by kernel_rfl) (by kernel_rfl) (by kernel_rfl) (fun _ _ _ h => h) (Or.inr ⟨by rfl, rfl⟩) ?_
          go_simp
          refine wpAny_take (i := 9) (v := undef) rfl (by kernel_rfl) (by kernel_rfl) (by kernel_rfl) (fun _ _ _ h => h) (Or.inr ⟨by rfl, rfl⟩) ?_
          go_simp
          refine wpAny_take (i := 10) (v := undef) rfl (by kernel_rfl) (by kernel_rfl) (by kernel_rfl) (fun _ _ _ h => h) (Or.inr ⟨by rfl, rfl⟩) ?_
          go_simp
          refine wpAny_take (i := 11) (v := undef) rfl (by kernel_rfl) (by kernel_rfl) (by kernel_rfl) (fun _ _ _ h => h) (Or.inr ⟨by rfl, rfl⟩) ?_
          go_simp
          refine wpAny_take (i := 12) (v := .bool true) rfl (by kernel_rfl) (by kernel_rfl) (by kernel_rfl) (fun _ _ _ h => h) (Or.inl ⟨by rfl, fun w => by go_simp⟩) ?_
          go_simp
          refine wpAny_done (by kernel_rfl) ?_ _
          have hB8 : Below wr.heap.size wr w8 := (Below.refl _ _).drew.trans hb8
          have he0 : w8.cell? ⟨w.heap.size, 0, none⟩ = some (.string ⟨#[]⟩) := (hB8.cell (p := ⟨w.heap.size, 0, none⟩) hzr).trans hd0'
          have he1 : w8.cell? ⟨w.heap.size, 1, none⟩ = some (.slice none 0 0) := (hB8.cell (p := ⟨w.heap.size, 1, none⟩) hzr).trans hd1'
          have hf0 : w8.frozen? ⟨w.heap.size, 0, none⟩ = false := (hB8.frozen (p := ⟨w.heap.size, 0, none⟩) hzr).trans hg0'
          have hf1 : w8.frozen? ⟨w.heap.size, 1, none⟩ = false := (hB8.frozen (p := ⟨w.heap.size, 1, none⟩) hzr).trans hg1'
          have q8 := q4.trans (hB8.mono q4.size)
          go_wp2
          refine bodyPost_ret (v := .tuple #[.agg #[.string ⟨#[]⟩, .slice none 0 0], .int .i64 0, .int .i64 4]) (by simp [results, Tryz.results58, go_sem, he0, he1]) rfl ?_
          rw [HE3.out]
          exact ⟨.slice none 0 0, rfl, ElsOwn.nil_ _ _, (q8.setCell (Nat.le_refl _) _).setCell (Nat.le_refl _) _⟩
end Go.Proofs.YtmjlnckmhdgoiaaGreatDoor
