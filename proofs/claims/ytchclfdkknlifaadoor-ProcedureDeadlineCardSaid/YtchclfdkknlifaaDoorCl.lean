/- Contract of Ascending: some list of ints that the call owns. -/
import Derived.Test.YtchclfdkknlifaaDoorCk
namespace Go.Proofs.YtchclfdkknlifaaDoor.Cal
open Go.RowKit
set_option linter.unusedVariables false

theorem Quiet.cell {w w' : World} (h : Quiet w w') {p : Addr} {v : Value} (hc : w.cell? p = some v) : w'.cell? p = some v := by obtain ⟨n, rfl⟩ := h; exact hc
def KRel (w : World) (n : Nat) (g : Nat) (kv : Value) (wr : World) : Prop := ∃ j : Nat, j = g ∧ j ≤ n ∧ kv = .int .i64 (j : Int) ∧ Quiet w wr
def AscRel (w : World) (l : List Int) (g : Nat) (v i : Value) (wr : World) : Prop :=
  ∃ k n, k + g = l.length ∧ i = .int .i64 (k : Int) ∧ n ≤ k ∧ Nums wr w.heap.size v n ∧ Below w.heap.size w wr
theorem _root_.Go.Proofs.YtchclfdkknlifaaDoor.Rd.tail_of {w : World} {A : Option Addr} {c n k : Nat} {xs : List Int} (h : Rd w A (ints xs)) (hn : xs.length = n) (hk : k ≤ n) (hc : n ≤ c) :
    ∃ news : List Int, news.length = n - k ∧ Rd w (if c = k then A else A.map (·.add k)) (ints news) := by
  refine ⟨xs.drop k, by simp; omega, ?_⟩
  by_cases e : c = k
  · rw [if_pos e, List.drop_of_length_le (by omega)]
    exact Rd.nil _ _
  · rw [if_neg e]
    have := h.drop k
    rwa [ints, ← List.map_drop] at this
theorem _root_.Go.Proofs.YtchclfdkknlifaaDoor.Rd.head_of {w : World} {A : Option Addr} {n k : Nat} {xs : List Int} (h : Rd w A (ints xs)) (hn : xs.length = n) (hk : k ≤ n) :
    ∃ news : List Int, news.length = k ∧ Rd w A (ints news) := by
  refine ⟨xs.take k, by simp; omega, ?_⟩
  have := h.take k
  rwa [ints, ← List.map_take] at this
theorem _root_.Go.Proofs.YtchclfdkknlifaaDoor.Rd.one_int (w : World) (x : Int) (t : TypeId) : ∃ news : List Int, news.length = 1 ∧ Rd (w.alloc (.cells #[.int .i64 x] t)) (some ⟨w.heap.size, 0, none⟩) (ints news) := ⟨[x], rfl, fun j u hu => ⟨_, rfl, cell_one_new w _ t j u hu⟩⟩
theorem _root_.Go.Proofs.YtchclfdkknlifaaDoor.Rd.ex_below {w w' : World} {A : Option Addr} {m : Nat} (h : ∃ news : List Int, news.length = m ∧ Rd w A (ints news)) (hb : Below w.heap.size w w') : ∃ news : List Int, news.length = m ∧ Rd w' A (ints news) := by
  obtain ⟨news, h1, h2⟩ := h
  exact ⟨news, h1, h2.below hb⟩
theorem _root_.Go.Proofs.YtchclfdkknlifaaDoor.Rd.ex_drew {w : World} {A : Option Addr} {m : Nat} (h : ∃ news : List Int, news.length = m ∧ Rd w A (ints news)) : ∃ news : List Int, news.length = m ∧ Rd w.drew A (ints news) := h
set_option maxHeartbeats 4000000 in
theorem ascending_any (A : Option Addr) (c : Nat) (l : List Int) (w : World) (hs : Rd w A (ints l)) (hl : l.length ≤ 100000) :
    Calls Tryd.prog 29 #[.slice A l.length c] w fun e w' => ∃ v n, e = .returned v ∧ n ≤ l.length ∧ Nums w' w.heap.size v n ∧ Below w.heap.size w w' := by
  go_enter Tryd.func29, Tryd.ntmps29
  go_wp2
  go_loopg [3, 4] l.length (fun g v i wr => AscRel w l g v i wr)
  case atStart => exact ⟨0, 0, by omega, rfl, by omega, .inl ⟨none, rfl, rfl⟩, Below.refl _ _⟩
  case round =>
    obtain ⟨k, n, hk, rfl, hn, hN, hb⟩ := hrel
    have HK := Lib.hid hk
    have hk2 : k ≤ l.length := by omega
    clear hk
    by_cases hlt : k < l.length
    · have hsr := hs.below hb
      obtain ⟨b, off, rfl, hc⟩ := hsr.int hlt
      generalize l[k]?.getD 0 = a at hc
      obtain ⟨A', c', xs, hx, rfl, hR, hcap, hmax⟩ := hN.shape
      have HN := Lib.hid hN
      have HB := Lib.hid hb
      clear hN hb
      go_wp2
      go_loopg [5] n (fun g kv wr2 => KRel wr n g kv wr2)
      case atStart => exact ⟨n, rfl, Nat.le_refl _, rfl, Quiet.refl _⟩
      case round =>
        obtain ⟨j, hj, hjn, rfl, hq⟩ := hrel
        have HJ := Lib.hid hj
        clear hj
        have hc2 := hq.cell hc
        have hR2 := hq.rd hR
        by_cases hj0 : 0 < j
        · have hj1 : 1 ≤ j := hj0
          have hjm : j - 1 < n := by omega
          obtain ⟨b', off', rfl, hcp⟩ := hR2.int (k := j - 1) (by omega)
          generalize xs[j - 1]?.getD 0 = y at hcp
          have hd0 : decide (0 < j) = true := by simp; omega
          by_cases hya : a < y
          · have hd1 : decide (a < y) = true := by simpa using hya
            clear hya
            go_wp2
            go_quiet (fail)
            go_wp2
            go_roundg (j - 1)
            case measure => have := HJ.out; omega
            case rel => exact ⟨j - 1, rfl, by omega, by go_num, hq.drewN _⟩
          · have hd1 : decide (a < y) = false := by simpa using hya
            clear hya
            by_cases hye : y = a
            · have hd2 : (y == a) = true := by simpa using hye
              clear hye
              go_wp2
              go_quiet (fail)
              go_wp2
              go_quiet (fail)
              go_wp2
              go_roundg (l.length - (k + 1))
              case measure => have := HK.out; omega
              case rel => exact ⟨k + 1, n, by omega, by go_num, by omega, HN.out.below ((hq.drewN _).below _), HB.out.trans ((hq.drewN _).below _)⟩
            · have hd2 : (y == a) = false := by simpa using hye
              clear hye
              go_wp2
              go_quiet (fail)
              go_wp2
              go_quiet (fail)
              go_wp2
              rename_i n1
              have hq3 := (hq.drewN n1).drewN nq
              generalize (wr.drewN n1).drewN nq = w3 at hq3 ⊢
              have hN3 := Lib.hid (HN.out.below (hq3.below _))
              have hB3 := Lib.hid (HB.out.trans (hq3.below _))
              have hR3 := hq3.rd hR
              have hc3 := hq3.cell hc
              have hlt3 := cell_lt hc3
              clear hcp hc2 hR2 hR hc hq HN HB hq3
              have hhd := fun W => run_head W (some ⟨b', off', none⟩) n c' j (by omega)
              have htl := fun W => run_tail W (some ⟨b', off', none⟩) n c' j hjn
              have hi0 : (0 : Int) ≤ (k : Int) := by omega
              have hi1 : (k : Int) < (l.length : Int) := by omega
              have HRH := Lib.hid (hR3.head_of hx hjn)
              have HRT := Lib.hid (hR3.tail_of (c := c') hx hjn hcap)
              have hnb : n ≤ 1000000 := by omega
              have hH3 : w.heap.size ≤ w3.heap.size := hB3.out.size
              generalize hTL : (if c' = j then (some ⟨b', off', none⟩ : Option Addr) else (some ⟨b', off', none⟩ : Option Addr).map (·.add j)) = TL at htl HRT
              clear hTL
              go_region_held3 (fun w' => Below w3.heap.size w3 w' ∧ w'.cell? ⟨b, off + k, none⟩ = some (.int .i64 a))
                ((refine (fun h => ⟨h, (Below.cell (p := ⟨b, off + k, none⟩) h hlt3).trans hc3⟩ : Below w3.heap.size w3 _ → _) ?_; first | exact (Below.refl _ _).drew | exact ((Below.refl _ _).alloc (Nat.le_refl _) _).drew | exact (((Below.refl _ _).alloc (Nat.le_refl _) _).alloc (by simp) _).drew | exact hB58 | exact hB54 | exact hB48.alloc hB48.size _ | exact hB48))
                (first
                  | (refine step_nums (by rfl) (.tmp 44) (.tmp 47) (by rfl) _ _ 0 (by rfl) (.inl ⟨_, rfl, rfl⟩) _ _ _ (by rfl) (Rd.ex_below HRH.out (by first | exact ((Below.refl _ _).alloc (Nat.le_refl _) _).drew | exact (((Below.refl _ _).alloc (Nat.le_refl _) _).alloc (by simp) _).drew)) (by omega) (Nat.le_refl _) ?_; intro v48 w48 hN48' hb48; have hN48 := hN48'.mono (B' := w3.heap.size) (by simp <;> omega); have hB48 : Below w3.heap.size w3 w48 := Below.trans (by first | exact ((Below.refl _ _).alloc (Nat.le_refl _) _).drew | exact (((Below.refl _ _).alloc (Nat.le_refl _) _).alloc (by simp) _).drew) (hb48.mono (by simp <;> omega)); first | (have hx53 : ∃ news : List Int, news.length = 1 ∧ Rd w48 (some ⟨w3.heap.size + 1, 0, none⟩) (ints news) := by (have q := Rd.ex_below (Rd.ex_drew (Rd.one_int (w3.alloc (.cells #[] 3)) a 3)) hb48; simpa using q)) | (have hx53 : ∃ news : List Int, news.length = 1 ∧ Rd w48 (some ⟨w3.heap.size, 0, none⟩) (ints news) := Rd.ex_below (Rd.ex_drew (Rd.ex_below (Rd.one_int w3 a 3) ((Below.refl _ _).alloc (Nat.le_refl _) (.cells #[] 3)))) hb48) | skip)
                  | (refine step_nums (by rfl) (.tmp 48) (.tmp 53) (by rfl) w3.heap.size _ (0 + j) (by rfl) (by first | exact hN48 | exact hN48.below ((Below.refl _ _).alloc (Nat.le_refl _) _)) _ _ _ (by rfl) (by first | exact hx53 | exact Rd.one_int _ _ _) (by omega) (by first | exact hB48.size | exact (hB48.alloc hB48.size _).size) ?_; intro v54 w54 hN54 hb54; have hB54 : Below w3.heap.size w3 w54 := Below.trans (by first | exact hB48 | exact hB48.alloc hB48.size _) hb54)
                  | (refine step_nums (by rfl) (.tmp 54) (.tmp 57) (by rfl) w3.heap.size _ (0 + j + 1) (by rfl) hN54 TL _ _ (by rfl) (Rd.ex_below HRT.out hB54) (by omega) hB54.size ?_; intro v58 w58 hN58 hb58; have hB58 := hB54.trans hb58))
              all_goals go_wp2
              all_goals (go_roundg (l.length - (k + 1)))
              all_goals (first | (have := HK.out; omega) | exact ⟨k + 1, 0 + j + 1 + (n - j), by omega, by go_num, by omega, hN58.mono hH3, hB3.out.trans (hB58.mono hH3)⟩)
        · have hd0 : decide (0 < j) = false := by simp; omega
          clear hj0
          go_wp2
          go_quiet (fail)
          go_wp2
          go_quiet (fail)
          go_wp2
          rename_i n1
          have hq3 := (hq.drewN n1).drewN nq
          generalize (wr.drewN n1).drewN nq = w3 at hq3 ⊢
          have hN3 := Lib.hid (HN.out.below (hq3.below _))
          have hB3 := Lib.hid (HB.out.trans (hq3.below _))
          have hR3 := hq3.rd hR
          have hc3 := hq3.cell hc
          have hlt3 := cell_lt hc3
          clear hc2 hR2 hR hc hq HN HB hq3
          have hhd := fun W => run_head W A' n c' j (by omega)
          have htl := fun W => run_tail W A' n c' j hjn
          have hi0 : (0 : Int) ≤ (k : Int) := by omega
          have hi1 : (k : Int) < (l.length : Int) := by omega
          have HRH := Lib.hid (hR3.head_of hx hjn)
          have HRT := Lib.hid (hR3.tail_of (c := c') hx hjn hcap)
          have hnb : n ≤ 1000000 := by omega
          have hH3 : w.heap.size ≤ w3.heap.size := hB3.out.size
          generalize hTL : (if c' = j then A' else A'.map (·.add j)) = TL at htl HRT
          clear hTL
          go_region_held3 (fun w' => Below w3.heap.size w3 w' ∧ w'.cell? ⟨b, off + k, none⟩ = some (.int .i64 a))
            ((refine (fun h => ⟨h, (Below.cell (p := ⟨b, off + k, none⟩) h hlt3).trans hc3⟩ : Below w3.heap.size w3 _ → _) ?_; first | exact (Below.refl _ _).drew | exact ((Below.refl _ _).alloc (Nat.le_refl _) _).drew | exact (((Below.refl _ _).alloc (Nat.le_refl _) _).alloc (by simp) _).drew | exact hB58 | exact hB54 | exact hB48.alloc hB48.size _ | exact hB48))
            (first
              | (refine step_nums (by rfl) (.tmp 44) (.tmp 47) (by rfl) _ _ 0 (by rfl) (.inl ⟨_, rfl, rfl⟩) _ _ _ (by rfl) (Rd.ex_below HRH.out (by first | exact ((Below.refl _ _).alloc (Nat.le_refl _) _).drew | exact (((Below.refl _ _).alloc (Nat.le_refl _) _).alloc (by simp) _).drew)) (by omega) (Nat.le_refl _) ?_; intro v48 w48 hN48' hb48; have hN48 := hN48'.mono (B' := w3.heap.size) (by simp <;> omega); have hB48 : Below w3.heap.size w3 w48 := Below.trans (by first | exact ((Below.refl _ _).alloc (Nat.le_refl _) _).drew | exact (((Below.refl _ _).alloc (Nat.le_refl _) _).alloc (by simp) _).drew) (hb48.mono (by simp <;> omega)); first | (have hx53 : ∃ news : List Int, news.length = 1 ∧ Rd w48 (some ⟨w3.heap.size + 1, 0, none⟩) (ints news) := by (have q := Rd.ex_below (Rd.ex_drew (Rd.one_int (w3.alloc (.cells #[] 3)) a 3)) hb48; simpa using q)) | (have hx53 : ∃ news : List Int, news.length = 1 ∧ Rd w48 (some ⟨w3.heap.size, 0, none⟩) (ints news) := Rd.ex_below (Rd.ex_drew (Rd.ex_below (Rd.one_int w3 a 3) ((Below.refl _ _).alloc (Nat.le_refl _) (.cells #[] 3)))) hb48) | skip)
              | (refine step_nums (by rfl) (.tmp 48) (.tmp 53) (by rfl) w3.heap.size _ (0 + j) (by rfl) (by first | exact hN48 | exact hN48.below ((Below.refl _ _).alloc (Nat.le_refl _) _)) _ _ _ (by rfl) (by first | exact hx53 | exact Rd.one_int _ _ _) (by omega) (by first | exact hB48.size | exact (hB48.alloc hB48.size _).size) ?_; intro v54 w54 hN54 hb54; have hB54 : Below w3.heap.size w3 w54 := Below.trans (by first | exact hB48 | exact hB48.alloc hB48.size _) hb54)
              | (refine step_nums (by rfl) (.tmp 54) (.tmp 57) (by rfl) w3.heap.size _ (0 + j + 1) (by rfl) hN54 TL _ _ (by rfl) (Rd.ex_below HRT.out hB54) (by omega) hB54.size ?_; intro v58 w58 hN58 hb58; have hB58 := hB54.trans hb58))
          all_goals go_wp2
          all_goals (go_roundg (l.length - (k + 1)))
          all_goals (first | (have := HK.out; omega) | exact ⟨k + 1, 0 + j + 1 + (n - j), by omega, by go_num, by omega, hN58.mono hH3, hB3.out.trans (hB58.mono hH3)⟩)
    · have hge : l.length ≤ k := by omega
      clear hlt
      go_wp2
      go_ret
      exact ⟨_, n, rfl, by omega, hN, hb⟩
end Go.Proofs.YtchclfdkknlifaaDoor.Cal
