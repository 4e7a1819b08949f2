/- What a scan hands back, kept beside the database; SnapshotReadsOwnWrites. -/
import Derived.Test.YtinmpodnfofmdaaSdd
import Derived.Test.YtinmpodnfofmdaaSnv
import Derived.Test.YtinmpodnfofmdaaSnw
namespace Go.Proofs.Ytinmpodnfofmdaa.Sn
open Go Go.RowKit Hp
open Mv (Val PC PV rowC rowC_one fm_len fm_take fm_drop fm_get fm_set fm_one RowIn StR Srt SOk pos has fx_lt fx_up ty_chg has_pos pos_le RM rmC rmC1 rmC_len rmC_get erR RecsR RecsS scanL scan_srt cloneR rowV row_any equalR_same eqrecs_any cnt getL vis1 addL adL vacL)
set_option linter.unusedVariables false

/-- Records in memory between B and T. -/
def RecsN (w : World) (B T : Nat) (v : Value) (l : Recs) : Prop := ∃ rs : List RM, rs.map erR = l ∧ w.ownsRow B 45 2 v rs.length (rmC rs) ∧ (∀ r ∈ rs, w.ownsRow B 39 3 r.rv r.row.length (rowC r.row)) ∧ (∀ k, v.ownBlock = some k → k < T) ∧ ∀ r ∈ rs, ∀ k, r.rv.ownBlock = some k → k < T
theorem RecsR.n {w : World} {B : Nat} {v : Value} {l : Recs} (h : RecsR w B v l) : RecsN w B w.heap.size v l := by
  obtain ⟨rs, h1, h2, h3, _⟩ := h
  exact ⟨rs, h1, h2, h3, own_lt h2, fun r hr => own_lt (h3 r hr)⟩
theorem RecsN.chg {S : Nat → Prop} {w w' : World} {B T : Nat} {v : Value} {l : Recs} (h : RecsN w B T v l) (hc : Chg S w w') (hS : ∀ k, B ≤ k → k < T → ¬ S k) : RecsN w' B T v l := by
  obtain ⟨rs, h1, h2, h3, h4, h5⟩ := h
  exact ⟨rs, h1, own_chg h2 hc fun k hk => hS k ((own_ty h2) k hk).2 (h4 k hk), fun r hr => own_chg (h3 r hr) hc fun k hk => hS k ((own_ty (h3 r hr)) k hk).2 (h5 r hr k hk), h4, h5⟩
theorem RecsN.up {w w' : World} {B T : Nat} {v : Value} {l : Recs} (h : RecsN w B T v l) (hu : Up w w') : RecsN w' B T v l := h.chg (Below.chg (fun _ => False) hu) fun _ _ _ e => e
theorem RecsN.src {w : World} {B T : Nat} {v : Value} {l : Recs} (h : RecsN w B T v l) (hl : ∀ r ∈ l, r.2.length ≤ 1000) : RecsS w v l := by
  obtain ⟨rs, h1, h2, h3, _⟩ := h
  exact ⟨rs, h1, own_src h2, fun r hr => ⟨own_src (h3 r hr), by subst h1; exact hl (erR r) (List.mem_map.2 ⟨r, hr, rfl⟩)⟩⟩
theorem recsR_form {w : World} {B : Nat} {v : Value} {l : Recs} (h : RecsR w B v l) : ∃ a n c, v = .slice a n c := by
  obtain ⟨rs, _, h2, _⟩ := h
  obtain ⟨a, c, e, _⟩ := own_form h2
  exact ⟨a, _, c, e⟩
def KN (B T : Nat) : Nat → Prop := fun k => B ≤ k ∧ k < T
theorem RecsN.step {w0 w w' : World} {B T p : Nat} {d : Db} {v : Value} {l : Recs} (h : RecsN w B T v l) (hc : OwnP w0 (KN B T) p d w w') : RecsN w' B T v l := h.chg hc.2 fun k h1 h2 e => e.2 ⟨h1, h2⟩
theorem Own.keepNew {w0 w w' : World} {K : Nat → Prop} {p : Nat} {d : Db} (h : Own w0 K w p d) (hu : Up w w') : Own w0 (KN w.heap.size w'.heap.size) w' p d := by
  obtain ⟨F, h1, h2, h3, h4⟩ := h
  exact ⟨F, h1.up hu, fun k hk => ⟨(h2 k hk).1, fun e => by have := h1.lt k hk; have := e.1; omega⟩, fun k hk => hk.2, h4.trans hu⟩
theorem srt_perm {a b c : Recs} (ha : Srt a) (hb : Srt b) (h1 : a.Perm c) (h2 : b.Perm c) : a = b := Mv.srt_ext ha hb fun x => (h1.mem_iff).trans (h2.mem_iff).symm
theorem scanT_nil (d : Db) (id c : Int) : scanT d ⟨id, c, []⟩ = scanL d.st c := by
  unfold scanT
  have : (scanL d.st c).filter (fun x => !has ([] : WL) x.1) = scanL d.st c := List.filter_eq_self.2 fun x _ => by simp [has, pos]
  rw [show (⟨id, c, []⟩ : Tr).w = [] from rfl, show (⟨id, c, []⟩ : Tr).start = c from rfl, this]
  simp [addT]
theorem perm_scan {d : Db} (ok : DOk d) {c : Int} {l : Recs} (h : l.Perm (scanL d.st c)) : l.length ≤ 1000 ∧ ∀ r ∈ l, r.2.length ≤ 1000 := by
  refine ⟨?_, fun r hr => ?_⟩
  · have := Mv.scan_len d.st c
    have := ok.st.len
    rw [h.length_eq]; omega
  · have := Mv.scan_row ok.st c r (h.mem_iff.1 hr)
    omega
/-! ### A transaction's own writes -/
structure W60 (d0 d : Db) (c o id : Int) (w : WL) : Prop where
  st : d.st = d0.st
  tO : tr d o = some ⟨o, c, []⟩
  ti : tr d id = some ⟨id, c, w⟩
  ne : o ≠ id
theorem w60_beg {d : Db} (ok : DOk d) (ok1 : DOk (begD d)) : W60 d (begD (begD d)) d.clock (d.last + 1) (d.last + 1 + 1) [] := by
  have e : (begD d).last = d.last + 1 := rfl
  refine ⟨rfl, ?_, ?_, by omega⟩
  · rw [tr_beg ok1, e, if_neg (by omega), tr_beg ok, if_pos rfl]
  · rw [tr_beg ok1, e, if_pos rfl]
    rfl
theorem has_one (k : ByteArray) (x : Wr) : has [(k, x)] k = true ∧ pos [(k, x)] k = 0 := by
  have hp : pos [(k, x)] k = 0 := Mv.pos_eq (Nat.zero_le _) (fun j hj h => by omega) fun _ => So.slt_irrefl k
  refine ⟨?_, hp⟩
  unfold has
  refine decide_eq_true ⟨by rw [hp]; simp, ?_⟩
  simp [hp]
theorem w60_put {d0 d : Db} {c o id : Int} (ok : DOk d) (h : W60 d0 d c o id []) {k : ByteArray} {x : Wr} (hk : k.size ≤ 24) (hr : x.row.length ≤ 6) : (bufP d id k x).2 = 0 ∧ W60 d0 (bufP d id k x).1 c o id [(k, x)] := by
  rw [buf_tr ok h.ti hk hr, if_neg (by simp)]
  exact ⟨rfl, h.st, by rw [tr_put_other h.ne]; exact h.tO, tr_put_same h.ti _, h.ne⟩
theorem w60_del {d0 d : Db} {c o id : Int} {k : ByteArray} {x : Wr} (ok : DOk d) (h : W60 d0 d c o id [(k, x)]) {y : Wr} (hk : k.size ≤ 24) (hr : y.row.length ≤ 6) : (bufP d id k y).2 = 0 ∧ W60 d0 (bufP d id k y).1 c o id [(k, y)] := by
  obtain ⟨h1, h2⟩ := has_one k x
  rw [buf_tr ok h.ti hk hr, if_neg (by simp)]
  have e : wput [(k, x)] k y = [(k, y)] := by unfold wput; rw [if_pos h1, h2]; rfl
  refine ⟨rfl, h.st, by rw [tr_put_other h.ne]; exact h.tO, ?_, h.ne⟩
  show tr (putW d id (wput [(k, x)] k y)) id = _
  rw [e]
  exact tr_put_same h.ti _
theorem getT_one (d : Db) (id c : Int) (k : ByteArray) (x : Wr) : getT d ⟨id, c, [(k, x)]⟩ k = if x.del = true then ([], 4) else (x.row, 0) := by
  obtain ⟨h1, h2⟩ := has_one k x
  unfold getT
  rw [if_pos h1]
  have e : ([(k, x)] : WL).getD (pos [(k, x)] k) (k, wr0) = (k, x) := by rw [h2]; rfl
  show (if ([(k, x)] : WL).getD (pos [(k, x)] k) (k, wr0) |>.2.del = true then _ else _) = _
  rw [e]
theorem rowV_len6 (x : Int) : (rowV x).length ≤ 6 := by simp [rowV]
set_option maxRecDepth 100000 in
set_option maxHeartbeats 4000000 in
theorem walk60 (a : Option Addr) (len cap : Nat) (zs : List Int) (key x : Int) (rm : Bool) (w : World) (hE : Elems w a len zs) (hl : len ≤ cap) (hm : cap ≤ 9223372036854775807) :
    Calls Try.prog 15 #[.slice a len cap, .int .i64 key, .int .i64 x, .bool rm] w fun e w' => e = .returned (.bool true) ∧ Up w w' := by
  have HWK := Lib.hid fun W (hu : Up w W) => workload_any a len cap zs W (elems_up hE hu) hl hm
  have RX : Hid ((rowV x).length ≤ 6) := rowV_len6 x
  have KS : Hid ((keyB key).size ≤ 24) := by unfold Hid; rw [keyB_size]; omega
  clear hE
  cases rm with
  | true =>
    go_enter Try.func15, Try.ntmps15
    go_wp2_with (first
      | (go_at_call 28; refine (eqrecs_any _ _ _ w13 ((R12.out.up H13.out).src P1.out.2) (S13.out.1.src P1.out.2) P1.out.1).mono ?_; rintro e w14 ⟨rfl, h14⟩; have H14 := Lib.hid h14; clear h14)
      | (have tok := H12; go_at_call 44; refine (scanO (H10.out.1.up (H11.out.trans H12.out)) T10.out.tO).mono ?_; rintro e w13 ⟨v2, l2, rfl, h6, h7, h8, h9⟩; obtain ⟨v2a, v2n, v2c, rfl⟩ := recsR_form h6; rw [scanT_nil, T10.out.st] at h8; have hq := srt_perm h7 S4.out.1 h8 S4.out.2; subst hq; have S13 := Lib.hid (And.intro (RecsR.n h6) h7); have H13 := Lib.hid h9; clear h6 h7 h8 h9)
      | (have tok := H11; go_at_call 40; refine (getO (H10.out.1.up H11.out) T10.out.ti (keyB key)).mono ?_; rw [getT_one]; rintro e w12 ⟨gv, rfl, h6, h7⟩; have R12 := Lib.hid ((R10.out.up H11.out).up h7); obtain ⟨ga, gc, rfl, _, _, _⟩ := own_form h6; have H12 := Lib.hid h7; clear h6 h7)
      | (have tok := H10; go_at_call 18; refine (key_any _ _).mono ?_; rintro e w11 ⟨rfl, h2⟩; have H11 := Lib.hid h2; clear h2)
      | (have tok := H9; go_at_call 43; refine (deleteO (H8.out.1.up H9.out) T8.out.ti KS.out).mono ?_; rw [(w60_del (y := ⟨true, []⟩) H8.out.1.ok T8.out KS.out (by simp)).1]; rintro e w10 ⟨rfl, h10⟩; have T10 := Lib.hid (w60_del (y := ⟨true, []⟩) H8.out.1.ok T8.out KS.out (by simp)).2; have R10 := Lib.hid ((R8.out.up H9.out).step h10); have H10 := Lib.hid h10; clear h10)
      | (have tok := H8; go_at_call 18; refine (key_any _ _).mono ?_; rintro e w9 ⟨rfl, h2⟩; have H9 := Lib.hid h2; clear h2)
      | (have tok := H7; go_at_call 34; refine (putO (H5.out.1.up (H6.out.trans H7.out)) T5.out.ti KS.out RX.out (own_src Q7.out)).mono ?_; rw [(w60_put (x := ⟨false, rowV x⟩) H5.out.1.ok T5.out KS.out RX.out).1]; rintro e w8 ⟨rfl, h8⟩; have T8 := Lib.hid (w60_put (x := ⟨false, rowV x⟩) H5.out.1.ok T5.out KS.out RX.out).2; have R8 := Lib.hid ((R5.out.up (H6.out.trans H7.out)).step h8); have H8 := Lib.hid h8; clear h8)
      | (have tok := H6; go_at_call 21; refine (row_any x w6).mono ?_; rintro e w7 ⟨rfl, h6, h7⟩; have Q7 := Lib.hid h6; have H7 := Lib.hid h7; clear h6 h7)
      | (have tok := H5; go_at_call 18; refine (key_any _ _).mono ?_; rintro e w6 ⟨rfl, h2⟩; have H6 := Lib.hid h2; clear h2)
      | (have tok := H4; go_at_call 33; refine (beginO O4.out (by show d.last + 1 < _; have := B2.out; omega) (by show (d.act ++ [_]).length ≠ 60; rw [List.length_append]; simp; have := B4.out; omega)).mono ?_; rintro e w5 ⟨rfl, h5⟩; have T5 := Lib.hid (w60_beg H2.out.ok H3.out.1.ok); have R5 := Lib.hid (R4.out.step h5); have H5 := Lib.hid h5; clear h5)
      | (have tok := H3; go_at_call 44; refine (scanO H3.out.1 T3.out).mono ?_; rintro e w4 ⟨v1, l1, rfl, h6, h7, h8, h9⟩; obtain ⟨v1a, v1n, v1c, rfl⟩ := recsR_form h6; rw [scanT_nil] at h8; have S4 := Lib.hid (And.intro h7 h8); have P1 := Lib.hid (perm_scan H3.out.1.ok h8); have R4 := Lib.hid (RecsR.n h6); have O4 := Lib.hid (H3.out.1.keepNew h9); have H4 := Lib.hid h9; clear h6 h7 h8 h9)
      | (have tok := H2; go_at_call 33; refine (beginO H2.out (by have := B2.out; omega) (by have := B4.out; omega)).mono ?_; rintro e w3 ⟨rfl, h3⟩; have T3 : Hid (tr (begD d) (d.last + 1) = some ⟨d.last + 1, d.clock, []⟩) := (by unfold Hid; rw [tr_beg H2.out.ok, if_pos rfl]); have H3 := Lib.hid h3; clear h3)
      | (go_at_call 38; refine (HWK.out w1 H1.out).mono ?_; rintro e w2 ⟨p, d, rfl, h2, h3, h4, h5, h6⟩; have H2 := Lib.hid h2; have B4 := Lib.hid h3; have B2 := Lib.hid h6; clear h2 h3 h4 h5 h6)
      | (go_at_call 31; refine (works_any w).mono ?_; rintro e w1 ⟨rfl, h1⟩; have H1 := Lib.hid h1; clear h1)
      | fail)
    go_ret
    exact ⟨rfl, ((((H1.out.trans H10.out.1.upw).trans (H11.out.trans H12.out)).trans H13.out).trans H14.out)⟩
  | false =>
    go_enter Try.func15, Try.ntmps15
    go_wp2_with (first
      | (go_at_call 24; refine (equalR_same _ _ (rowV x) _ (((own_src G12.out).up H13.out).up (H14.out.trans H15.out)) (own_src Q15.out) (by have := RX.out; omega)).mono ?_; rintro e w16 ⟨rfl, h16⟩; have H16 := Lib.hid h16; clear h16)
      | (have tok := H14; go_at_call 21; refine (row_any x w14).mono ?_; rintro e w15 ⟨rfl, h6, h7⟩; have Q15 := Lib.hid h6; have H15 := Lib.hid h7; clear h6 h7)
      | (go_at_call 28; refine (eqrecs_any _ _ _ w13 ((R12.out.up H13.out).src P1.out.2) (S13.out.1.src P1.out.2) P1.out.1).mono ?_; rintro e w14 ⟨rfl, h14⟩; have H14 := Lib.hid h14; clear h14)
      | (have tok := H12; go_at_call 44; refine (scanO (H8.out.1.up (H11.out.trans H12.out)) T8.out.tO).mono ?_; rintro e w13 ⟨v2, l2, rfl, h6, h7, h8, h9⟩; obtain ⟨v2a, v2n, v2c, rfl⟩ := recsR_form h6; rw [scanT_nil, T8.out.st] at h8; have hq := srt_perm h7 S4.out.1 h8 S4.out.2; subst hq; have S13 := Lib.hid (And.intro (RecsR.n h6) h7); have H13 := Lib.hid h9; clear h6 h7 h8 h9)
      | (have tok := H11; go_at_call 40; refine (getO (H8.out.1.up H11.out) T8.out.ti (keyB key)).mono ?_; rw [getT_one]; rintro e w12 ⟨gv, rfl, h6, h7⟩; have R12 := Lib.hid ((R8.out.up H11.out).up h7); obtain ⟨ga, gc, rfl, _, _, _⟩ := own_form h6; have G12 := Lib.hid h6; have H12 := Lib.hid h7; clear h6 h7)
      | (have tok := H8; go_at_call 18; refine (key_any _ _).mono ?_; rintro e w11 ⟨rfl, h2⟩; have H11 := Lib.hid h2; clear h2)
      | (have tok := H7; go_at_call 34; refine (putO (H5.out.1.up (H6.out.trans H7.out)) T5.out.ti KS.out RX.out (own_src Q7.out)).mono ?_; rw [(w60_put (x := ⟨false, rowV x⟩) H5.out.1.ok T5.out KS.out RX.out).1]; rintro e w8 ⟨rfl, h8⟩; have T8 := Lib.hid (w60_put (x := ⟨false, rowV x⟩) H5.out.1.ok T5.out KS.out RX.out).2; have R8 := Lib.hid ((R5.out.up (H6.out.trans H7.out)).step h8); have H8 := Lib.hid h8; clear h8)
      | (have tok := H6; go_at_call 21; refine (row_any x w6).mono ?_; rintro e w7 ⟨rfl, h6, h7⟩; have Q7 := Lib.hid h6; have H7 := Lib.hid h7; clear h6 h7)
      | (have tok := H5; go_at_call 18; refine (key_any _ _).mono ?_; rintro e w6 ⟨rfl, h2⟩; have H6 := Lib.hid h2; clear h2)
      | (have tok := H4; go_at_call 33; refine (beginO O4.out (by show d.last + 1 < _; have := B2.out; omega) (by show (d.act ++ [_]).length ≠ 60; rw [List.length_append]; simp; have := B4.out; omega)).mono ?_; rintro e w5 ⟨rfl, h5⟩; have T5 := Lib.hid (w60_beg H2.out.ok H3.out.1.ok); have R5 := Lib.hid (R4.out.step h5); have H5 := Lib.hid h5; clear h5)
      | (have tok := H3; go_at_call 44; refine (scanO H3.out.1 T3.out).mono ?_; rintro e w4 ⟨v1, l1, rfl, h6, h7, h8, h9⟩; obtain ⟨v1a, v1n, v1c, rfl⟩ := recsR_form h6; rw [scanT_nil] at h8; have S4 := Lib.hid (And.intro h7 h8); have P1 := Lib.hid (perm_scan H3.out.1.ok h8); have R4 := Lib.hid (RecsR.n h6); have O4 := Lib.hid (H3.out.1.keepNew h9); have H4 := Lib.hid h9; clear h6 h7 h8 h9)
      | (have tok := H2; go_at_call 33; refine (beginO H2.out (by have := B2.out; omega) (by have := B4.out; omega)).mono ?_; rintro e w3 ⟨rfl, h3⟩; have T3 : Hid (tr (begD d) (d.last + 1) = some ⟨d.last + 1, d.clock, []⟩) := (by unfold Hid; rw [tr_beg H2.out.ok, if_pos rfl]); have H3 := Lib.hid h3; clear h3)
      | (go_at_call 38; refine (HWK.out w1 H1.out).mono ?_; rintro e w2 ⟨p, d, rfl, h2, h3, h4, h5, h6⟩; have H2 := Lib.hid h2; have B4 := Lib.hid h3; have B2 := Lib.hid h6; clear h2 h3 h4 h5 h6)
      | (go_at_call 31; refine (works_any w).mono ?_; rintro e w1 ⟨rfl, h1⟩; have H1 := Lib.hid h1; clear h1)
      | fail)
    go_ret
    exact ⟨rfl, ((((((H1.out.trans H8.out.1.upw).trans (H11.out.trans H12.out)).trans H13.out).trans H14.out).trans H15.out).trans H16.out)⟩
end Go.Proofs.Ytinmpodnfofmdaa.Sn
