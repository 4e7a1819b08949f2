/- SnapshotPermitsWriteSkew. -/
import Derived.Test.YtinmpodnfofmdaaSnv
import Derived.Test.YtinmpodnfofmdaaSnw
import Derived.Test.YtinmpodnfofmdaaAdf
namespace Go.Proofs.Ytinmpodnfofmdaa.Sn
open Go Go.RowKit Hp So
open Mv (Val PC PV rowC rowC_one fm_len fm_take fm_drop fm_get fm_set fm_one RowIn StR Srt SOk pos has fx_lt fx_up ty_chg has_pos pos_le vacuumL cloneR latL cnt addL adL rowV kA row_any getL GetPost look lastTs)
set_option linter.unusedVariables false

theorem put_tr {d : Db} (ok : DOk d) {id : Int} {t : Tr} (ht : tr d id = some t) (hw : t.w = []) {k : ByteArray} {x : Wr} (hk : k.size ≤ 24) (hr : x.row.length ≤ 6) : bufP d id k x = (putW d id [(k, x)], 0) := by
  rw [buf_tr ok ht hk hr, hw, if_neg (by simp)]
  rfl
theorem add_st {d : Db} (ok : DOk d) (hc : cnt d.st < 400) (hcl : d.clock < 1000000) {k : ByteArray} {x : Wr} (hk : k.size ≤ 24) (hr : x.row.length ≤ 6) :
    (addL d.st d.hz k (wrV x (d.clock + 1))).1 = adL d.st k (wrV x (d.clock + 1)) ∧ SOk (adL d.st k (wrV x (d.clock + 1))) d.hz := by
  have h1 := ok.clock
  have h2 := ok.hz
  have e : (wrV x (d.clock + 1)).ts = d.clock + 1 := by unfold wrV; split <;> rfl
  have er : (wrV x (d.clock + 1)).row.length ≤ 6 := by unfold wrV; split <;> simp <;> exact hr
  have hl : ∀ c ∈ d.st, ∀ u ∈ c.2, u.ts < (wrV x (d.clock + 1)).ts := fun c hc u hu => by have := ok.ts c hc u hu; rw [e]; omega
  refine ⟨?_, ok.st.adL hk er (by rw [e]; omega) (by rw [e]; omega) hl hc⟩
  rw [Mv.addL_ok hk er (by rw [e]; omega) (by rw [e]; omega) (by rw [e]; omega) hl hc]
theorem lat_other {d : Db} (ok : DOk d) (hc : cnt d.st < 400) (hcl : d.clock < 1000000) {k k' : ByteArray} {x : Wr} (hk : k.size ≤ 24) (hr : x.row.length ≤ 6) (hne : k' ≠ k) : latL (addL d.st d.hz k (wrV x (d.clock + 1))).1 k' = latL d.st k' := by
  obtain ⟨e, o⟩ := add_st ok hc hcl hk hr
  rw [e, Mv.latL_look, Mv.latL_look, Mv.look_ad (hz := d.hz) ok.st.srt k _ o.srt, if_neg hne]
structure Two (d : Db) (c : Int) (a b : Int) (wa wb : WL) : Prop where
  ta : tr d a = some ⟨a, c, wa⟩
  tb : tr d b = some ⟨b, c, wb⟩
  ne : a ≠ b
  cnt : Mv.cnt d.st ≤ 150
  clock : d.clock = c
  c150 : c ≤ 150
theorem two_beg {d : Db} (ok : DOk d) (ok1 : DOk (begD d)) (hm : mass d ≤ 150) (hc : d.clock ≤ 150) : Two (begD (begD d)) d.clock (d.last + 1) (d.last + 1 + 1) [] [] := by
  have e : (begD d).last = d.last + 1 := rfl
  refine ⟨?_, ?_, by omega, by unfold mass at hm; show Mv.cnt d.st ≤ 150; omega, rfl, hc⟩
  · rw [tr_beg ok1, e, if_neg (by omega), tr_beg ok, if_pos rfl]
  · rw [tr_beg ok1, e, if_pos rfl]
    rfl
theorem two_putA {d : Db} {c a b : Int} {wb : WL} (ok : DOk d) (h : Two d c a b [] wb) {k : ByteArray} {x : Wr} (hk : k.size ≤ 24) (hr : x.row.length ≤ 6) : (bufP d a k x).2 = 0 ∧ Two (bufP d a k x).1 c a b [(k, x)] wb := by
  rw [put_tr ok h.ta rfl hk hr]
  exact ⟨rfl, tr_put_same h.ta _, by rw [tr_put_other (Ne.symm h.ne)]; exact h.tb, h.ne, h.cnt, h.clock, h.c150⟩
theorem two_putB {d : Db} {c a b : Int} {wa : WL} (ok : DOk d) (h : Two d c a b wa []) {k : ByteArray} {x : Wr} (hk : k.size ≤ 24) (hr : x.row.length ≤ 6) : (bufP d b k x).2 = 0 ∧ Two (bufP d b k x).1 c a b wa [(k, x)] := by
  rw [put_tr ok h.tb rfl hk hr]
  exact ⟨rfl, by rw [tr_put_other h.ne]; exact h.ta, tr_put_same h.tb _, h.ne, h.cnt, h.clock, h.c150⟩
theorem fin_clock (d : Db) (id : Int) : (finI d id).clock = d.clock := rfl
theorem two_com {d : Db} {c a b : Int} {k k' : ByteArray} {x y : Wr} (ok : DOk d) (h : Two d c a b [(k, x)] [(k', y)]) (hk : k.size ≤ 24) (hr : x.row.length ≤ 6) (hne : k' ≠ k) :
    (comP d a).2.2 = 0 ∧ (comP d a).1.clock ≤ 151 ∧ tr (comP d a).1 b = some ⟨b, c, [(k', y)]⟩ ∧ (comP (comP d a).1 b).2.2 = 0 := by
  have hc := h.cnt
  have hcl := h.clock
  have h150 := h.c150
  have h1 := ok.clock
  obtain ⟨ok1, hcn⟩ := fin_ok ok (tidx d.act a).toNat
  have hcn2 : Mv.cnt (finI d a).st ≤ Mv.cnt d.st := hcn
  have E : comP d a = ({ finI d a with clock := d.clock + 1, st := putAll (finI d a).st (finI d a).hz (d.clock + 1) [(k, x)] }, d.clock + 1, 0) := by
    rw [com_tr h.ta, conf_solo ok (by rw [hcl]; exact Int.le_refl _), if_neg (by decide), if_neg (by simp; omega), if_neg (by simp)]
  have E2 : putAll (finI d a).st (finI d a).hz (d.clock + 1) [(k, x)] = (addL (finI d a).st (finI d a).hz k (wrV x ((finI d a).clock + 1))).1 := rfl
  rw [E]
  have htb : tr { finI d a with clock := d.clock + 1, st := putAll (finI d a).st (finI d a).hz (d.clock + 1) [(k, x)] } b = some ⟨b, c, [(k', y)]⟩ := by
    show tr (finI d a) b = _
    rw [tr_fin ok h.ta, if_neg (Ne.symm h.ne)]
    exact h.tb
  refine ⟨rfl, by show d.clock + 1 ≤ 151; omega, htb, ?_⟩
  have hl := lat_other ok1 (show Mv.cnt (finI d a).st < 400 by omega) (show (finI d a).clock < 1000000 by rw [fin_clock]; omega) hk hr hne
  have hle := lat_le (c := d.clock) h1.1 ok1.ts k'
  have hcf : conf { finI d a with clock := d.clock + 1, st := putAll (finI d a).st (finI d a).hz (d.clock + 1) [(k, x)] } ⟨b, c, [(k', y)]⟩ = false := by
    unfold conf
    rw [List.any_eq_false]
    intro z hz
    rw [List.mem_singleton.1 hz]
    show ¬ decide (c < latL (putAll (finI d a).st (finI d a).hz (d.clock + 1) [(k, x)]) k') = true
    rw [E2]
    have hl2 : latL (addL (finI d a).st (finI d a).hz k (wrV x ((finI d a).clock + 1))).1 k' = latL (finI d a).st k' := hl
    rw [hl2]
    have : latL (finI d a).st k' ≤ d.clock := hle
    simp; omega
  have hcnt := putAll_cnt (finI d a).hz (d.clock + 1) [(k, x)] (finI d a).st
  rw [com_tr htb, hcf, if_neg (by decide), if_neg ?_, if_neg (by simp)]
  show ¬ 400 < Mv.cnt (putAll (finI d a).st (finI d a).hz (d.clock + 1) [(k, x)]) + 1
  simp only [List.length_cons, List.length_nil] at hcnt
  omega
def kM : ByteArray := { data := #[109] }
def kN : ByteArray := { data := #[110] }
open C in
def sk1 : Tx := ⟨0, 1, [kM], [kN]⟩
open C in
def sk2 : Tx := ⟨0, 2, [kN], [kM]⟩
open C in
theorem sk_valid : Valid [sk1, sk2] := ⟨by decide, by decide, by decide, by decide, by decide, by decide, fun i hi => by
  obtain rfl : i = 0 := by simp at hi; omega
  decide⟩
open C in
theorem sk_admit : admV [sk1, sk2] = [true, false] := by decide +kernel
theorem str1 (w : World) (b : Nat) (hb : b = w.heap.size) (s : ByteArray) : Strs (w.alloc (.cells #[.string s] 9)) (.slice (some ⟨b, 0, none⟩) 1 1) [s] := by
  subst hb
  refine ⟨_, 1, rfl, by simp, by omega, (fun h => by cases h), fun i hi => ⟨w.heap.size, 0, rfl, ?_⟩⟩
  obtain rfl : i = 0 := by simpa using hi
  refine ⟨⟨#[.string s], (0, 0), ?_⟩, At.new w #[.string s] 9 0 _ rfl⟩
  show (w.heap.push _)[w.heap.size]? = _
  simp
open C in
theorem sk_txs (w : World) : Txs (((((w.alloc (.cells #[.string kM] 9)).alloc (.cells #[.string kN] 9)).alloc (.cells #[.string kN] 9)).alloc (.cells #[.string kM] 9)).alloc (.cells #[.int .i64 0, .int .i64 1, .slice (some ⟨w.heap.size, 0, none⟩) 1 1, .slice (some ⟨w.heap.size + 1, 0, none⟩) 1 1, .int .i64 0, .int .i64 2, .slice (some ⟨w.heap.size + 2, 0, none⟩) 1 1, .slice (some ⟨w.heap.size + 3, 0, none⟩) 1 1] 70))
    (.slice (some ⟨w.heap.size + 4, 0, none⟩) 2 2) [sk1, sk2] := by
  have s1 := (str1 w _ rfl kM).grow strR_grows ((((((Up.refl _).alloc (.cells #[.string kN] 9)).alloc (.cells #[.string kN] 9)).alloc (.cells #[.string kM] 9)).alloc (.cells #[.int .i64 0, .int .i64 1, .slice (some ⟨w.heap.size, 0, none⟩) 1 1, .slice (some ⟨w.heap.size + 1, 0, none⟩) 1 1, .int .i64 0, .int .i64 2, .slice (some ⟨w.heap.size + 2, 0, none⟩) 1 1, .slice (some ⟨w.heap.size + 3, 0, none⟩) 1 1] 70)))
  have s2 := (str1 (w.alloc (.cells #[.string kM] 9)) (w.heap.size + 1) (by simp) kN).grow strR_grows (((((Up.refl _).alloc (.cells #[.string kN] 9)).alloc (.cells #[.string kM] 9)).alloc (.cells #[.int .i64 0, .int .i64 1, .slice (some ⟨w.heap.size, 0, none⟩) 1 1, .slice (some ⟨w.heap.size + 1, 0, none⟩) 1 1, .int .i64 0, .int .i64 2, .slice (some ⟨w.heap.size + 2, 0, none⟩) 1 1, .slice (some ⟨w.heap.size + 3, 0, none⟩) 1 1] 70)))
  have s3 := (str1 ((w.alloc (.cells #[.string kM] 9)).alloc (.cells #[.string kN] 9)) (w.heap.size + 2) (by simp) kN).grow strR_grows ((((Up.refl _).alloc (.cells #[.string kM] 9)).alloc (.cells #[.int .i64 0, .int .i64 1, .slice (some ⟨w.heap.size, 0, none⟩) 1 1, .slice (some ⟨w.heap.size + 1, 0, none⟩) 1 1, .int .i64 0, .int .i64 2, .slice (some ⟨w.heap.size + 2, 0, none⟩) 1 1, .slice (some ⟨w.heap.size + 3, 0, none⟩) 1 1] 70)))
  have s4 := (str1 (((w.alloc (.cells #[.string kM] 9)).alloc (.cells #[.string kN] 9)).alloc (.cells #[.string kN] 9)) (w.heap.size + 3) (by simp) kM).grow strR_grows (((Up.refl _).alloc (.cells #[.int .i64 0, .int .i64 1, .slice (some ⟨w.heap.size, 0, none⟩) 1 1, .slice (some ⟨w.heap.size + 1, 0, none⟩) 1 1, .int .i64 0, .int .i64 2, .slice (some ⟨w.heap.size + 2, 0, none⟩) 1 1, .slice (some ⟨w.heap.size + 3, 0, none⟩) 1 1] 70)))
  obtain ⟨W, hW⟩ : ∃ W : World, W = ((((w.alloc (.cells #[.string kM] 9)).alloc (.cells #[.string kN] 9)).alloc (.cells #[.string kN] 9)).alloc (.cells #[.string kM] 9)) := ⟨_, rfl⟩
  have hs : W.heap.size = w.heap.size + 4 := by rw [hW]; simp
  rw [← hW] at s1 s2 s3 s4 ⊢
  have hA := fun o v h => At.new W #[.int .i64 0, .int .i64 1, .slice (some ⟨w.heap.size, 0, none⟩) 1 1, .slice (some ⟨w.heap.size + 1, 0, none⟩) 1 1, .int .i64 0, .int .i64 2, .slice (some ⟨w.heap.size + 2, 0, none⟩) 1 1, .slice (some ⟨w.heap.size + 3, 0, none⟩) 1 1] 70 o v h
  rw [hs] at hA
  refine ⟨_, 2, rfl, by simp, by omega, (fun h => by cases h), fun i hi => ⟨w.heap.size + 4, 0, rfl, ?_⟩⟩
  match i, hi with
  | 0, _ => exact ⟨_, _, hA 0 _ rfl, hA 1 _ rfl, hA 2 _ rfl, hA 3 _ rfl, s1, s2⟩
  | 1, _ => exact ⟨_, _, hA 4 _ rfl, hA 5 _ rfl, hA 6 _ rfl, hA 7 _ rfl, s3, s4⟩
set_option maxRecDepth 100000 in
set_option maxHeartbeats 4000000 in
open C in
theorem walk46 (a : Option Addr) (len cap : Nat) (zs : List Int) (x y : Int) (w : World) (hE : Elems w a len zs) (hl : len ≤ cap) (hm : cap ≤ 9223372036854775807) :
    Calls Try.prog 11 #[.slice a len cap, .int .i64 x, .int .i64 y] w fun e w' => e = .returned (.bool true) ∧ Up w w' := by
  have HWK := Lib.hid fun W (hu : Up w W) => workload_any a len cap zs W (elems_up hE hu) hl hm
  have RX : Hid ((rowV x).length ≤ 6) := by unfold Hid; simp [rowV]
  have RY : Hid ((rowV y).length ≤ 6) := by unfold Hid; simp [rowV]
  clear hE
  go_enter Try.func11, Try.ntmps11
  go_wp2_with (first
    | (go_at_call 42; refine (equalB_any _ _ [true, false] [true, false] _ ((bv_arr HB.out (by simp)).grow boolR_grows ((Up.refl _).alloc _)) (bv_arr (l := [true, false]) (Blk.new _ #[.bool true, .bool false] _) (by simp))).mono ?_; rintro e w14 ⟨rfl, h14⟩; rw [show decide ([true, false] = [true, false]) = true from rfl]; have H14 := Lib.hid h14; clear h14)
    | (go_at_call 41; refine (admit_any _ [sk1, sk2] _ (sk_txs _) sk_valid).mono ?_; rintro e w13 ⟨g, rfl, hg, hb, hu⟩; rw [sk_admit] at hb; have HB := Lib.hid hb; have H13 := Lib.hid hu; clear hg hb hu)
    | (have tok := H11; go_at_call 36; refine (commitO H11.out.1 TC.out.2.2.1 (by have := TC.out.2.1; omega)).mono ?_; rw [TC.out.2.2.2]; rintro e w12 ⟨rfl, h12⟩; have H12 := Lib.hid h12; clear h12)
    | (have tok := H10; go_at_call 36; refine (commitO H10.out.1 T4.out.ta (by have := T4.out.clock; have := T4.out.c150; omega)).mono ?_; rw [TC.out.1]; rintro e w11 ⟨rfl, h11⟩; have H11 := Lib.hid h11; clear h11)
    | (have tok := H9; go_at_call 34; refine (putO (H8.out.1.up H9.out) T3.out.tb (k := kM) (by decide) RY.out (own_src R9.out)).mono ?_; rw [(two_putB H8.out.1.ok T3.out (k := kM) (x := ⟨false, rowV y⟩) (by decide) RY.out).1]; rintro e w10 ⟨rfl, h10⟩; have T4 := Lib.hid (two_putB H8.out.1.ok T3.out (k := kM) (x := ⟨false, rowV y⟩) (by decide) RY.out).2; have TC := Lib.hid (two_com h10.1.ok T4.out (by decide) RX.out (by decide)); have H10 := Lib.hid h10; clear h10)
    | (have tok := H8; go_at_call 21; refine (row_any y w8).mono ?_; rintro e w9 ⟨rfl, h8, h9⟩; have R9 := Lib.hid h8; have H9 := Lib.hid h9; clear h8 h9)
    | (have tok := H7; go_at_call 34; refine (putO (H4.out.1.up ((H5.out.trans H6.out).trans H7.out)) T2.out.ta (k := kN) (by decide) RX.out (own_src R7.out)).mono ?_; rw [(two_putA H4.out.1.ok T2.out (k := kN) (x := ⟨false, rowV x⟩) (by decide) RX.out).1]; rintro e w8 ⟨rfl, h8⟩; have T3 := Lib.hid (two_putA H4.out.1.ok T2.out (k := kN) (x := ⟨false, rowV x⟩) (by decide) RX.out).2; have H8 := Lib.hid h8; clear h8)
    | (have tok := H6; go_at_call 21; refine (row_any x w6).mono ?_; rintro e w7 ⟨rfl, h6, h7⟩; have R7 := Lib.hid h6; have H7 := Lib.hid h7; clear h6 h7)
    | (have tok := H5; go_at_call 40; refine (getO (H4.out.1.up H5.out) T2.out.tb kN).mono ?_; rintro e w6 ⟨v, rfl, h6, h7⟩; have H6 := Lib.hid h7; clear h6 h7)
    | (have tok := H4; go_at_call 40; refine (getO H4.out.1 T2.out.ta kM).mono ?_; rintro e w5 ⟨v, rfl, h6, h7⟩; have H5 := Lib.hid h7; clear h6 h7)
    | (have tok := H3; go_at_call 33; refine (beginO H3.out.1 (by show d.last + 1 < _; have := B2.out; omega) (by show (d.act ++ [_]).length ≠ 60; rw [List.length_append]; simp; have := B4.out; omega)).mono ?_; rintro e w4 ⟨rfl, h4⟩; have H4 := Lib.hid h4; have T2 := Lib.hid (two_beg H2.out.ok H3.out.1.ok BM.out B1.out); clear h4)
    | (have tok := H2; go_at_call 33; refine (beginO H2.out (by have := B2.out; omega) (by have := B4.out; omega)).mono ?_; rintro e w3 ⟨rfl, h3⟩; have H3 := Lib.hid h3; clear h3)
    | (go_at_call 38; refine (HWK.out w1 H1.out).mono ?_; rintro e w2 ⟨p, d, rfl, h2, h3, h4, h5, h6⟩; have H2 := Lib.hid h2; have B4 := Lib.hid h3; have BM := Lib.hid h4; have B1 := Lib.hid h5; have B2 := Lib.hid h6; clear h2 h3 h4 h5 h6)
    | (go_at_call 31; refine (works_any w).mono ?_; rintro e w1 ⟨rfl, h1⟩; have H1 := Lib.hid h1; clear h1)
    | fail)
  go_ret
  exact ⟨rfl, (((((((((H1.out.trans H12.out.1.upw).alloc _).alloc _).alloc _).alloc _).alloc _).trans H13.out).alloc _).trans H14.out)⟩
end Go.Proofs.Ytinmpodnfofmdaa.Sn
