/- Contract of message.Decode; what the rows list. -/
import Derived.Test.YtmjlnckmhdgoiaaDoorPl
import Derived.LaidLaws
namespace Go.Proofs.YtmjlnckmhdgoiaaDoor
open Go.ChangeShapes Go.WideShapes Go.RowKit
set_option linter.unusedVariables false

theorem err_of_laid {l : List (String × DataW Unit)} {W : World} (name : String) (g : Nat) (nm : String) (d : DataW Unit) (h : laidMetH Tryd.prog l W) (h0 : (l.all fun x => x.2.handleName?.isNone) = true)
    (hf : l.filter (fun x => x.1 == name) = [(name, .iface nm d)]) (hg : Tryd.prog.globalNamed name = some g) (hty : (Tryd.prog.globals[g]?).map (·.type) = some 102) : ∃ te pe, W.cell? ⟨g, 0, none⟩ = some (.iface te pe) := by
  rw [Go.MakeChecks.laidMetH_plain _ _ _ h0] at h
  have h2 := h.filter (fun x => x.1 == name)
  rw [hf] at h2
  obtain ⟨ps, ⟨g', t', cs, fuel, p, q, hg', ht', hvar, hd, _, _⟩, _⟩ := h2
  obtain rfl := Option.some.inj (hg.symm.trans hg')
  obtain rfl := Option.some.inj (hty.symm.trans ht')
  obtain ⟨l0⟩ := cs
  obtain ⟨f1, u, v, hcs, _, _⟩ := iface_of_trod Tryd.underlying102 hd
  have hcs' : l0 = [.iface u v] := hcs
  subst hcs'
  exact ⟨u, v, by simpa using World.var?_cell hg hvar 0⟩
/-- all that the laws ask of the listed variables -/
structure Given (W : World) : Prop where
  tab : Tab W
  err : ErrV W
theorem given_of_laid {l : List (String × DataW Unit)} {W : World} (h : laidMetH Tryd.prog l W) (h0 : (l.all fun x => x.2.handleName?.isNone) = true)
    (hf : l.filter (fun x => x.1 == "internal/strconv.uint64pow10") = [("internal/strconv.uint64pow10", Rows.laid_internal_strconv_uint64pow10)])
    (hr : l.filter (fun x => x.1 == "strconv.ErrRange") = [("strconv.ErrRange", Rows.laid_strconv_ErrRange)])
    (hs : l.filter (fun x => x.1 == "strconv.ErrSyntax") = [("strconv.ErrSyntax", Rows.laid_strconv_ErrSyntax)]) : Given W := by
  refine ⟨tab_of_laid h h0 hf, ?_, ?_⟩
  · obtain ⟨te, pe, hc⟩ := err_of_laid "strconv.ErrSyntax" 1 _ _ h h0 hs (by kernel_rfl) (by kernel_rfl)
    exact ⟨_, hc, .inr ⟨te, pe, rfl⟩⟩
  · obtain ⟨te, pe, hc⟩ := err_of_laid "strconv.ErrRange" 2 _ _ h h0 hr (by kernel_rfl) (by kernel_rfl)
    exact ⟨_, hc, .inr ⟨te, pe, rfl⟩⟩
theorem Given.below {w w' : World} (h : Given w) (hb : Below w.heap.size w w') : Given w' := ⟨h.tab.below hb, h.err.below hb⟩


noncomputable def decM (b : Bs) : Msg × Int := if (decodeF b).2.2 = 0 then parseP (decodeF b).1 else (zeroM, (decodeF b).2.2)
theorem cnt_bd : ∀ {l : List Seg} {n : Nat}, (∀ s ∈ l, cntF s ≤ n) → cntL l ≤ n * l.length
  | [], _, _ => by simp [cntL]
  | s :: r, n, h => by
    have h1 := h s (by simp)
    have h2 := cnt_bd (l := r) (n := n) (fun x hx => h x (by simp [hx]))
    unfold cntL at *
    rw [List.map_cons, List.sum_cons, List.length_cons, Nat.mul_succ]
    omega
theorem valid_sfit {s : Seg} (h : validF s = 0) : SFit s ∧ cntF s ≤ 100 := by
  have h1 := short_of (validF_zero.1 h).2.1
  refine ⟨⟨by omega, fun x hx => by have := (h1.2 x hx).1; omega, fun x hx c hc => by have := (h1.2 x hx).2 c hc; omega⟩, ?_⟩
  unfold cntF
  rcases el_mem s 0 with h2 | h2
  · rw [h2]; simp
  · exact (h1.2 _ h2).1
theorem encAll_ge : ∀ (l : List Seg), l.length ≤ (encAll l).length
  | [] => by simp [encAll]
  | s :: r => by
    have h1 := encAll_ge r
    have h2 := encS_pos s
    have e : encAll (s :: r) = encS s ++ encAll r := rfl
    rw [e, List.length_append, List.length_cons]
    omega
theorem decoded_fit {b : Bs} (h : (decodeF b).2.2 = 0) (hl : b.length ≤ 1000000000) : (decodeF b).1.length ≤ 1000000000 ∧ (∀ s ∈ (decodeF b).1, SFit s) ∧ cntL (decodeF b).1 ≤ 10000000000000 := by
  obtain ⟨l, n, e⟩ : ∃ l n e, decodeF b = (l, n, e) := ⟨_, _, _, rfl⟩
  obtain ⟨e, he⟩ := e
  rw [he] at h ⊢
  simp only at h
  subst h
  have hd := decode_ok he
  have h1 := encAll_ge l
  rw [← hd.1] at h1
  have h2 := cnt_bd (l := l) (n := 100) (fun s hs => (valid_sfit (hd.2.2 s hs)).2)
  exact ⟨by show l.length ≤ _; omega, fun s hs => (valid_sfit (hd.2.2 s hs)).1, by show cntL l ≤ _; have : 100 * l.length ≤ 100 * 1000000000 := Nat.mul_le_mul_left _ (by omega); omega⟩
set_option maxRecDepth 100000 in
set_option maxHeartbeats 8000000 in
theorem decodeM_any (A : Option Addr) (c : Nat) (b : Bs) (w : World) (hr : RdB w w.heap.size A (u8s b)) (hc : b.length ≤ c) (hl : b.length ≤ 1000000000) (hg : Given w) :
    Calls Tryd.prog 26 #[.slice A b.length c] w (PRet w (decM b)) := by
  have q0 := (Below.refl w.heap.size w).alloc (Nat.le_refl _) (.cells #[.int .i64 0, .int .i64 0, .int .i64 0, .int .i64 0, .int .i64 0, .int .i64 0, .int .i64 0, .string ⟨#[]⟩, .string ⟨#[]⟩, .int .i64 0, .int .i64 0, .slice none 0 0, .string ⟨#[]⟩] 24)
  have hres : MBlk (w.alloc (.cells #[.int .i64 0, .int .i64 0, .int .i64 0, .int .i64 0, .int .i64 0, .int .i64 0, .int .i64 0, .string ⟨#[]⟩, .string ⟨#[]⟩, .int .i64 0, .int .i64 0, .slice none 0 0, .string ⟨#[]⟩] 24)) w.heap.size zeroM none 0 := heap_alloc_new w _
  have HDE := Lib.hid (decode_any A c b (w.alloc (.cells #[.int .i64 0, .int .i64 0, .int .i64 0, .int .i64 0, .int .i64 0, .int .i64 0, .int .i64 0, .string ⟨#[]⟩, .string ⟨#[]⟩, .int .i64 0, .int .i64 0, .slice none 0 0, .string ⟨#[]⟩] 24)) ((hr.below q0).mono q0.size) hc hl)
  have HQ0 := Lib.hid q0
  have HRES := Lib.hid hres
  have HG := Lib.hid hg
  have HJ : Hid (decM b = if (decodeF b).2.2 = 0 then parseP (decodeF b).1 else (zeroM, (decodeF b).2.2)) := rfl
  have HDF := Lib.hid (fun h => decoded_fit (b := b) h hl)
  generalize decodeF b = r at *
  generalize decM b = q at *
  unfold DecRet at HDE
  clear hr q0 hres hg
  generalize b.length = nb at *
  go_enter Tryd.func26, Tryd.ntmps26
  go_wp2_with fail
  refine HDE.out.mono ?_
  rintro e W1 ⟨v, rfl, ho, hb1⟩
  have HB1 := Lib.hid (HQ0.out.trans (hb1.mono HQ0.out.size))
  have HRES1 := Lib.hid (HRES.out.below hb1)
  obtain ⟨A1, c1, rfl, _, hat⟩ := ho.at_
  have HAT := Lib.hid hat
  obtain ⟨l, n, er⟩ := r
  simp only at HJ HDF HAT ho
  by_cases h0 : er = 0
  · subst h0
    have hdf := HDF.out rfl
    have HPA := Lib.hid (parse_any A1 c1 l W1 HAT.out hdf.1 hdf.2.1 hdf.2.2 (HG.out.tab.below HB1.out) (HG.out.err.below HB1.out))
    have HJA : Hid (q = parseP l) := HJ.out.trans (if_pos rfl)
    unfold PRet at HPA
    clear hb1 ho hat HDE HQ0 HRES HJ HDF hdf HAT
    generalize parseP l = p at *
    generalize l.length = nl at *
    go_wp2_with fail
    refine HPA.out.mono ?_
    rintro e W2 ⟨Am, cm, rfl, ho2, hb2⟩
    have HO2 := Lib.hid (World.ownsRow.mono ho2 (Nat.lt_of_lt_of_le HRES1.out.lt (Nat.le_refl _) : w.heap.size + 1 ≤ W1.heap.size))
    have HB2 := Lib.hid (HB1.out.trans (hb2.mono HB1.out.size))
    have HRES2 := Lib.hid (HRES1.out.below hb2)
    clear ho2 hb2 HPA HRES1 HB1
    go_wp2_with (refine at_store 24 (.tmp 2) (.tmp 19) rfl ?_; refine wpList_store_box rfl 24 (.tmp 2) (.tmp 19) rfl w.heap.size 0 (msgV p.1 Am cm) (msgC p.1 Am cm) rfl rfl rfl [.int .i64 0, .int .i64 0, .int .i64 0, .int .i64 0, .int .i64 0, .int .i64 0, .int .i64 0, .string ⟨#[]⟩, .string ⟨#[]⟩, .int .i64 0, .int .i64 0, .slice none 0 0, .string ⟨#[]⟩] [.int .i64 p.1.kind, .int .i64 p.1.src, .int .i64 p.1.dst, .int .i64 p.1.number, .int .i64 p.1.day, .int .i64 p.1.lot, .int .i64 p.1.other, .string ⟨p.1.code.toArray⟩, .string ⟨p.1.country.toArray⟩, .int .i64 p.1.quantity, .int .i64 p.1.amount, .slice Am p.1.list.length cm, .string ⟨p.1.text.toArray⟩] _ HRES2.out (Nat.le_of_ble_eq_true rfl) rfl (by kernel_rfl) rfl ?_; intro W9 hb9 hP9; have HR9 := Lib.hid hb9; have HP9 := Lib.hid hP9; clear hb9 hP9)
    exact ret2 (k := 2) (j := 3) (g := w.heap.size) (T := 24) (cs := msgC p.1 Am cm) Tryd.results26 rfl HR9.out Tryd.underlying24 (by kernel_rfl) rfl (par_ret (p := p) HJA.out ⟨Am, cm, rfl, World.ownsRow.mono (own_but HO2.out HP9.out (Nat.lt_succ_self _)) (Nat.le_succ _), Below.but HB2.out HP9.out (Nat.le_refl _)⟩)
  · have HJA : Hid (q = (zeroM, er)) := HJ.out.trans (if_neg h0)
    have hne : (er != 0) = true := by simpa using h0
    clear hb1 ho hat HDE HQ0 HRES HJ HDF h0
    go_wp2_with (refine at_store 24 (.tmp 2) (.tmp 15) rfl ?_; refine wpList_store_box rfl 24 (.tmp 2) (.tmp 15) rfl w.heap.size 0 (.agg #[.int .i64 0, .int .i64 0, .int .i64 0, .int .i64 0, .int .i64 0, .int .i64 0, .int .i64 0, .string ⟨#[]⟩, .string ⟨#[]⟩, .int .i64 0, .int .i64 0, .slice none 0 0, .string ⟨#[]⟩]) #[.int .i64 0, .int .i64 0, .int .i64 0, .int .i64 0, .int .i64 0, .int .i64 0, .int .i64 0, .string ⟨#[]⟩, .string ⟨#[]⟩, .int .i64 0, .int .i64 0, .slice none 0 0, .string ⟨#[]⟩] rfl rfl rfl [.int .i64 0, .int .i64 0, .int .i64 0, .int .i64 0, .int .i64 0, .int .i64 0, .int .i64 0, .string ⟨#[]⟩, .string ⟨#[]⟩, .int .i64 0, .int .i64 0, .slice none 0 0, .string ⟨#[]⟩] [.int .i64 0, .int .i64 0, .int .i64 0, .int .i64 0, .int .i64 0, .int .i64 0, .int .i64 0, .string ⟨#[]⟩, .string ⟨#[]⟩, .int .i64 0, .int .i64 0, .slice none 0 0, .string ⟨#[]⟩] _ HRES1.out (Nat.le_of_ble_eq_true rfl) rfl (by kernel_rfl) rfl ?_; intro W9 hb9 hP9; have HR9 := Lib.hid hb9; have HP9 := Lib.hid hP9; clear hb9 hP9)
    exact ret2 (k := 2) (j := 3) (g := w.heap.size) (T := 24) (cs := msgC zeroM none 0) Tryd.results26 rfl HR9.out Tryd.underlying24 (by kernel_rfl) rfl (par_ret (p := (zeroM, er)) HJA.out ⟨none, 0, rfl, World.ownsRow_nil _ _ _ _, Below.but HB1.out HP9.out (Nat.le_refl _)⟩)
/-- a valid message is parsed back -/
theorem parse_segs {m : Msg} (ok : OkM m) : parseP (segsM m) = (m, 0) := by
  unfold parseP judge
  rw [read_segs ok]
  simp only [Bool.false_eq_true, if_false, if_true]
  rw [if_pos (okM_iff.2 ok)]
theorem decM_enc {m : Msg} (ok : OkM m) : decM (encAll (segsM m)) = (m, 0) := by
  unfold decM
  rw [decode_enc (segsM_ok ok)]
  simp only [if_true]
  exact parse_segs ok
end Go.Proofs.YtmjlnckmhdgoiaaDoor
