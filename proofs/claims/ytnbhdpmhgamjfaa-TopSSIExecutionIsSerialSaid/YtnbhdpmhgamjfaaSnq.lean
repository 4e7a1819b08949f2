/- The snapshot database: Commit. -/
import Derived.Test.YtnbhdpmhgamjfaaSnn
import Derived.StillTailTactics
namespace Go.Proofs.Ytnbhdpmhgamjfaa.Sn
open Go Go.RowKit Hp So
open Mv (Val PC PV rowC rowC_one fm_len fm_take fm_drop fm_get fm_set fm_one RowIn StR Srt SOk pos has fx_lt fx_up ty_chg has_pos pos_le vacuumL cloneR latL cnt addL)
set_option linter.unusedVariables false

/-- What Commit's walk goes by: the transaction at i, its writes. -/
structure ComAt (w : World) (p q g i n cap m capw : Nat) (x y : Int) (aw : Option Addr) (ws : List MW) (d : Db) : Prop where
  ix : i < n
  c0 : At w p 0 (.pointer (some ⟨q, 0, none⟩))
  c3 : At w p 3 (.slice (some ⟨g, 0, none⟩) n cap)
  t0 : At w g (i * 3) (.int .i64 x)
  t1 : At w g (i * 3 + 1) (.int .i64 y)
  t2 : At w g (i * 3 + 2) (.slice aw m capw)
  ow : w.ownsRow 0 73 3 (.slice aw m capw) m (mwC ws)
  hm : ws.length = m
  m40 : m ≤ 40 ∧ n ≤ 60 ∧ m ≤ capw ∧ capw ≤ 9223372036854775807
  rv : ∀ t ∈ ws, ∃ a n c, t.rv = .slice a n c
  lt : ∀ W, Up w W → ∀ k, Calls Try.prog 25 #[.pointer (some ⟨q, 0, none⟩), .string k] W fun e w' => e = .returned (.int .i64 (latL d.st k)) ∧ Up W w'
  ln : ∀ W, Up w W → Calls Try.prog 26 #[.pointer (some ⟨q, 0, none⟩)] W fun e w' => e = .returned (.int .i64 (cnt d.st : Nat)) ∧ Up W w'
  c400 : cnt d.st ≤ 400
theorem DbP.comAt {w : World} {p q : Nat} {d : Db} {F G : Nat → Prop} {av : Value} {ts : List MT} (h : DbP w p q d F G av ts) {id : Int} (hi : 0 ≤ tidx d.act id) : ∃ g i n cap m capw x y aw ws, ComAt w p q g i n cap m capw x y aw ws d ∧ TrAt w d av ts id i g n cap m capw aw ws ∧ d.act.getD i ⟨0, 0, []⟩ = ⟨x, y, ws.map erW⟩ := by
  obtain ⟨i, g, n, cap, m, capw, aw, ws, T⟩ := h.at_ hi
  have c0 := h.blk.cell 0
  have c3 := h.blk.cell 3
  rw [T.avE] at c3
  have hil := T.hi
  refine ⟨g, i, n, cap, m, capw, _, _, aw, ws, ⟨by have := T.hn; omega, ⟨h.blk.lt, c0⟩, ⟨h.blk.lt, c3⟩, T.c0, T.c1, T.c2, ?_, T.hm, ?_, fun t ht => ?_, fun W hu k => ?_, fun W hu => ?_, h.ok.st.cnt⟩, T, ?_⟩
  · have := h.wrs _ (List.getElem_mem T.hi); rw [T.wvE, T.wsE, T.hm] at this; exact this
  · have := h.wrs _ (List.getElem_mem T.hi); rw [T.wvE] at this
    obtain ⟨_, _, e, _, hc, _⟩ := own_form this
    simp only [Value.slice.injEq] at e
    obtain ⟨_, _, rfl⟩ := e
    exact ⟨T.len.1, T.len.2, T.capB.2, hc⟩
  · rcases (h.rws _ (List.getElem_mem T.hi) t (by rw [T.wsE]; exact ht)).1.2 with ⟨e, _⟩ | ⟨b, off, cap, e, _⟩
    · exact ⟨_, _, _, e⟩
    · exact ⟨_, _, _, e⟩
  · exact Mv.latest_any q d.st d.hz G k W (h.st.up hu)
  · exact Mv.len_any q d.st d.hz G W (h.st.up hu)
  · rw [T.gD, ← T.wD, ← T.sD.1, ← T.sD.2]
theorem FinPost.ns {w W3 w3 : World} {p q : Nat} {d : Db} {F1 G : Nat → Prop} {av : Value} {ts : List MT} (h : DbP w p q d F1 G av ts) : ∀ k, (w.heap.size ≤ k ∨ (F1 k ∧ ∃ T, Ty w k T ∧ T ≠ 63 ∧ T ≠ 59)) → ¬ ((av.ownBlock = some k ∨ k = p) ∨ G k) := fun k hk e => by
  rcases hk with hk | ⟨hk, T, h1, h2, h3⟩
  · rcases e with (e | e) | e
    · have := own_lt h.act k e; omega
    · have := h.blk.lt; omega
    · have := h.st.lt k e; omega
  · rcases e with (e | e) | e
    · exact h1.ne h2 ((own_ty h.act) k e).1
    · subst e; exact h1.ne h3 (blk_ty h.blk)
    · exact h.dis k hk e
theorem DbP.tick {w : World} {p q : Nat} {d : Db} {F G : Nat → Prop} {av : Value} {ts : List MT} (h : DbP w p q d F G av ts) (hc : d.clock < 1000000) : DbP (w.setCell ⟨p, 1, none⟩ (.int .i64 (d.clock + 1))) p q { d with clock := d.clock + 1 } F G av ts := by
  have C := chg_set w p 1 none (.int .i64 (d.clock + 1))
  have ok := h.ok
  have h1 := ok.clock
  have h2 := ok.hz
  have ne : ∀ k T, Ty w k T → T ≠ 59 → ¬ k = p := fun k T ht hn e => by subst e; exact ht.ne hn (blk_ty h.blk)
  refine ⟨h.er, ⟨ok.st, ⟨h2.1, by show d.hz ≤ d.clock + 1; omega⟩, ⟨by show 0 ≤ d.clock + 1; omega, by show d.clock + 1 ≤ _; omega⟩, ok.last, ok.act, ok.ids, ok.idl, fun t ht => ⟨(ok.start t ht).1, by have := (ok.start t ht).2; show t.start ≤ d.clock + 1; omega⟩, ok.srt, ok.len, ok.key, fun c hc v hv => by have := ok.ts c hc v hv; show v.ts ≤ d.clock + 1; omega⟩, fun k hk => Nat.lt_of_lt_of_le (h.lt k hk) C.size, h.dis, h.fp, h.blk.set 1 _, h.st.chg C fun k hk e => h.dis k (by rw [e]; exact h.fp) hk, own_chg h.act C fun k hk => ne k _ ((own_ty h.act) k hk).1 (by decide), h.actF, fun t ht => own_chg (h.wrs t ht) C fun k hk => ne k _ ((own_ty (h.wrs t ht)) k hk).1 (by decide), h.wrF, h.wrd, fun t ht x hx => (h.rws t ht x hx).chg C fun k hk ht => ⟨ne k _ ht (by decide), hk⟩⟩
/-- Behind k of the writes. -/
def CL (w4 wr : World) (p q : Nat) (d4 : Db) (F1 G4 : Nat → Prop) (av : Value) (ts : List MT) (l : WL) (k : Nat) : Prop := ∃ Gk, DbP wr p q { d4 with st := putAll d4.st d4.hz d4.clock (l.take k) } F1 Gk av ts ∧ (∀ j, Gk j → Fx G4 w4 wr j) ∧ Chg G4 w4 wr
theorem CL.zero {w4 : World} {p q : Nat} {d4 : Db} {F1 G4 : Nat → Prop} {av : Value} {ts : List MT} {l : WL} (h : DbP w4 p q d4 F1 G4 av ts) : CL w4 w4 p q d4 F1 G4 av ts l 0 := ⟨G4, h, fun j hj => .inl hj, Chg.refl _ _⟩
theorem putAll_take (st : List PC) (hz ts : Int) (l : WL) (k : Nat) (h : k < l.length) : putAll st hz ts (l.take (k + 1)) = (addL (putAll st hz ts (l.take k)) hz l[k].1 (wrV l[k].2 ts)).1 := by
  unfold putAll
  rw [List.take_succ_eq_append_getElem h, List.foldl_append]
  rfl
theorem CL.step {w4 wr W w' : World} {p q : Nat} {d4 : Db} {F1 G4 Gk : Nat → Prop} {av : Value} {ts : List MT} {l : WL} {k : Nat} {r : Int} {e : Ending} (hk : k < l.length) (h : DbP wr p q { d4 with st := putAll d4.st d4.hz d4.clock (l.take k) } F1 Gk av ts) (hG : ∀ j, Gk j → Fx G4 w4 wr j) (hC : Chg G4 w4 wr) (hu : Up wr W)
    (ha : Mv.AddPost q (addL (putAll d4.st d4.hz d4.clock (l.take k)) d4.hz l[k].1 (wrV l[k].2 d4.clock)).1 r d4.hz Gk W e w') : CL w4 w' p q d4 F1 G4 av ts l (k + 1) := by
  obtain ⟨_, hs, hc2⟩ := ha
  have ok := h.ok
  have sok : SOk (addL (putAll d4.st d4.hz d4.clock (l.take k)) d4.hz l[k].1 (wrV l[k].2 d4.clock)).1 d4.hz := by obtain ⟨_, _, _, _, o⟩ := hs; exact o
  have ok' : DOk { d4 with st := (addL (putAll d4.st d4.hz d4.clock (l.take k)) d4.hz l[k].1 (wrV l[k].2 d4.clock)).1, hz := d4.hz } := ⟨sok, ok.hz, ok.clock, ok.last, ok.act, ok.ids, ok.idl, ok.start, ok.srt, ok.len, ok.key, fun c hc v hv => by
    rcases addL_mem c hc v hv with rfl | ⟨c0, h0, h1⟩
    · unfold wrV; split <;> exact Int.le_refl _
    · exact ok.ts c0 h0 v h1⟩
  have h2 := (h.up hu).st' (l' := (addL (putAll d4.st d4.hz d4.clock (l.take k)) d4.hz l[k].1 (wrV l[k].2 d4.clock)).1) (hz' := d4.hz) ⟨hs, hc2⟩ ok'
  have s1 := hC.size
  have s2 := hu.size
  have s3 := hc2.size
  refine ⟨_, by rw [putAll_take _ _ _ _ _ hk]; exact h2, fun j hj => ?_, (hC.trans (Below.chg (fun _ => False) hu) fun _ _ e => e.elim).trans hc2 fun j hj e => ?_⟩
  · rcases hj with hj | hj
    · rcases hG j hj with e | e
      · exact .inl e
      · exact .inr ⟨e.1, by omega⟩
    · exact .inr ⟨by omega, hj.2⟩
  · rcases hG j e with e | e
    · exact e
    · omega
def ComPost (p : Nat) (d : Db) (F : Nat → Prop) (id : Int) (w : World) (e : Ending) (w' : World) : Prop := e = .returned (.tuple #[.int .i64 (comP d id).2.1, .int .i64 (comP d id).2.2]) ∧ DbPost p (comP d id).1 F w w'
section
variable (p : Nat) (d : Db) (F : Nat → Prop) (id : Int) (w : World)
set_option maxRecDepth 100000 in
set_option maxHeartbeats 4000000 in
theorem com_conf (h : DbR w p d F) (hi : 0 ≤ tidx d.act id) (hcf : conf d (d.act.getD (tidx d.act id).toNat ⟨0, 0, []⟩) = true) :
    Calls Try.prog 13 #[.pointer (some ⟨p, 0, none⟩), .int .i64 id] w (ComPost p d F id w) := by
  have HP : Hid (comP d id = (finD d (tidx d.act id).toNat, 0, 13)) := by unfold Hid comP; rw [if_neg (show ¬ tidx d.act id < 0 by omega), if_pos hcf]
  obtain ⟨q, F1, G, av, ts, h, hF, hlt⟩ := h
  have HS := Lib.hid h
  have HF := Lib.hid hF
  have HLT := Lib.hid hlt
  have HIX := Lib.hid (index_any p q d F1 G av ts id w h)
  rw [if_neg (show ¬ tidx d.act id < 0 by omega)] at HIX
  obtain ⟨g, i, n, cap, m, capw, x, y, aw, ws, C, T, hg⟩ := h.comAt hi
  have hti : (tidx d.act id).toNat = i := by have := T.ti; omega
  rw [hti] at hcf HP
  rw [hg] at hcf
  rw [T.ti] at HIX
  have hil : Hid (i < ts.length) := T.hi
  have HC := Lib.hid C
  have bi : (i : Int) < (n : Int) := by have := C.ix; omega
  have HCF : Hid (∃ j, ∃ hj : j < ws.length, y < latL d.st ws[j].key) := by
    unfold conf at hcf
    obtain ⟨z, hz, hz2⟩ := List.any_eq_true.1 hcf
    obtain ⟨t, ht, rfl⟩ := List.mem_map.1 hz
    obtain ⟨j, hj, rfl⟩ := List.getElem_of_mem ht
    exact ⟨j, hj, of_decide_eq_true hz2⟩
  clear h hF hlt hi hti hcf hg C T
  go_enter Try.func13, Try.ntmps13
  go_wp2_with (first
    | (go_at_call 21; refine HIX.out.mono ?_; rintro e w1 ⟨rfl, h1⟩; have H1 := Lib.hid h1; have c3 := (HC.out.c3.grow h1).2; have t0 := (HC.out.t0.grow h1).2; have t1 := (HC.out.t1.grow h1).2; have t2 := (HC.out.t2.grow h1).2; clear h1)
    | fail)
  have U2 := Lib.hid (H1.out.alloc (.cells #[.int .i64 x, .int .i64 y, .slice aw m capw] 63))
  have T1 := Lib.hid (At.new w1 #[.int .i64 x, .int .i64 y, .slice aw m capw] 63 1 (.int .i64 y) rfl)
  obtain ⟨w2, hw2⟩ : ∃ w2 : World, w2 = w1.alloc (.cells #[.int .i64 x, .int .i64 y, .slice aw m capw] 63) := ⟨_, rfl⟩
  rw [← hw2] at U2 T1 ⊢
  clear hw2 c3 t0 t1 t2 bi
  generalize w1.heap.size = tb at *
  clear H1
  go_loopw [32] (fun iv wr => ∃ k : Nat, k ≤ m ∧ iv = .int .i64 k ∧ Hid (Up w2 wr) ∧ Hid (∀ j (h : j < ws.length), j < k → latL d.st ws[j].key ≤ y)) (fun iv _ => m - (intOf iv).toNat)
  case atStart => exact ⟨0, by omega, rfl, Up.refl _, fun j h hj => by omega⟩
  case round =>
    obtain ⟨k, hk, rfl, HU, HN⟩ := hrel
    have hm := HC.out.hm
    by_cases hlt : k < m
    · have hk1 : k < ws.length := by omega
      have HUU := Lib.hid (U2.out.trans HU.out)
      obtain ⟨gw, cap', hv, _, _, hc⟩ := Mv.own_cell (own_up HC.out.ow HUU.out) (by omega)
      simp only [Value.slice.injEq] at hv
      obtain ⟨rfl, _, rfl⟩ := hv
      obtain ⟨g0, g1, g2⟩ := mwC_get ws k hk1
      obtain ⟨ra, rn, rc, hrv⟩ := HC.out.rv _ (List.getElem_mem hk1)
      rw [hrv] at g2
      have e0 := (hc _ _ g0).2
      have e1 := (hc _ _ g1).2
      have e2 := (hc _ _ g2).2
      have bk : (k : Int) < (m : Int) := by omega
      have HT : Hid (latL d.st ws[k].key ≤ y → ∀ j (h : j < ws.length), j < k + 1 → latL d.st ws[j].key ≤ y) := fun he j h hj => by
        rcases Nat.lt_or_ge j k with h1 | h1
        · exact HN.out j h h1
        · obtain rfl : j = k := by omega
          exact he
      generalize hky : ws[k].key = key at *
      generalize ws[k].del = dl at *
      clear hc g0 g1 g2 hrv hm HN
      have hp0 := ((HC.out.c0.grow HUU.out).grow ((Up.refl wr).alloc (.cells #[.string key, .bool dl, .slice ra rn rc] 73)))
      have ht1 := ((T1.out.grow HU.out).grow ((Up.refl wr).alloc (.cells #[.string key, .bool dl, .slice ra rn rc] 73)))
      have hx0 := At.new wr #[.string key, .bool dl, .slice ra rn rc] 73 0 _ rfl
      go_wp2
      obtain ⟨hp1, hp2⟩ := hp0
      obtain ⟨ht1a, ht1b⟩ := ht1
      obtain ⟨hx1, hx2⟩ := hx0
      have hUW := HUU.out.alloc (.cells #[.string key, .bool dl, .slice ra rn rc] 73)
      have hUW2 := HU.out.alloc (.cells #[.string key, .bool dl, .slice ra rn rc] 73)
      obtain ⟨W, hW⟩ : ∃ W : World, W = wr.alloc (.cells #[.string key, .bool dl, .slice ra rn rc] 73) := ⟨_, rfl⟩
      rw [← hW] at hp1 hp2 ht1a ht1b hx1 hx2 hUW hUW2 ⊢
      generalize wr.heap.size = xb at *
      clear hW e0 e1 e2
      have UW := Lib.hid hUW
      have UW2 := Lib.hid hUW2
      have LT : Hid (∀ g : Gr W, Calls Try.prog 25 #[.pointer (some ⟨q, 0, none⟩), .string key] (gr W g) fun e w' => e = .returned (.int .i64 (latL d.st key)) ∧ Up (gr W g) w') := fun g => HC.out.lt _ (UW.out.trans (gr_up W g)) key
      generalize latL d.st key = L at *
      clear hUW hUW2
      rcases Int.lt_or_le y L with hy | hy
      · have hy2 := decide_eq_true hy
        clear HT
        refine wp_region_gr (by kernel_rfl) (by kernel_rfl) ?_
        repeat (go_big_quiet_step (first | (go_at_call 25; exact gr_call (LT.out _)) | fail))
        refine wpQuiet_nil ?_
        intro _ hw'
        obtain ⟨gg, rfl⟩ := hw'
        have UG := Lib.hid (UW.out.trans (gr_up W gg))
        go_wp2_with (first
          | (go_at_call 22; refine (fin_any p q d F1 G av ts i _ (HS.out.up UG.out) hil.out).mono ?_; rintro e w3 h2; obtain ⟨rfl, h3⟩ := h2.out HF.out HLT.out HS.out UG.out; have H3 := Lib.hid h3; clear h2 h3)
          | fail)
        go_ret2
        unfold ComPost
        rw [HP.out]
        exact ⟨rfl, H3.out⟩
      · have hy2 := decide_eq_false (Int.not_lt.2 hy)
        have HN2 := Lib.hid (HT.out hy)
        clear HT
        refine wp_region_gr (by kernel_rfl) (by kernel_rfl) ?_
        repeat (go_big_quiet_step (first | (go_at_call 25; exact gr_call (LT.out _)) | fail))
        refine wpQuiet_nil ?_
        intro _ hw'
        obtain ⟨gg, rfl⟩ := hw'
        have UG := Lib.hid (UW2.out.trans (gr_up W gg))
        go_wp2
        go_roundw
        case rel => exact ⟨k + 1, by omega, by go_num, UG.out, HN2.out⟩
        case measure => simp [intOf]; omega
    · obtain ⟨j, hj, hy⟩ := HCF.out
      exact absurd hy (Int.not_lt.2 (HN.out j hj (by omega)))
set_option maxRecDepth 100000 in
set_option maxHeartbeats 4000000 in
theorem com_ok (h : DbR w p d F) (hi : 0 ≤ tidx d.act id) (hcf : conf d (d.act.getD (tidx d.act id).toNat ⟨0, 0, []⟩) = false) (hclk : d.clock < 1000000) :
    Calls Try.prog 13 #[.pointer (some ⟨p, 0, none⟩), .int .i64 id] w (ComPost p d F id w) := by
  have hP : comP d id = if 400 < cnt d.st + (d.act.getD (tidx d.act id).toNat ⟨0, 0, []⟩).w.length then (d, 0, 18) else if (d.act.getD (tidx d.act id).toNat ⟨0, 0, []⟩).w.length = 0 then (finD d (tidx d.act id).toNat, d.clock, 0) else (comD d (tidx d.act id).toNat (d.act.getD (tidx d.act id).toNat ⟨0, 0, []⟩), d.clock + 1, 0) := by unfold comP; rw [if_neg (show ¬ tidx d.act id < 0 by omega), hcf, if_neg (by decide)]
  obtain ⟨q, F1, G, av, ts, h, hF, hlt⟩ := h
  have HS := Lib.hid h
  have HF := Lib.hid hF
  have HLT := Lib.hid hlt
  have HIX := Lib.hid (index_any p q d F1 G av ts id w h)
  rw [if_neg (show ¬ tidx d.act id < 0 by omega)] at HIX
  obtain ⟨g, i, n, cap, m, capw, x, y, aw, ws, C, T, hg⟩ := h.comAt hi
  have hti : (tidx d.act id).toNat = i := by have := T.ti; omega
  rw [hti] at hcf hP
  rw [hg] at hcf hP
  have hPl : (ws.map erW).length = m := by rw [List.length_map]; exact C.hm
  have HP : Hid (comP d id = if 400 < cnt d.st + m then (d, 0, 18) else if m = 0 then (finD d i, d.clock, 0) else (comD d i ⟨x, y, ws.map erW⟩, d.clock + 1, 0)) := by unfold Hid; rw [hP]; simp only [hPl]
  rw [T.ti] at HIX
  have hil : Hid (i < ts.length) := T.hi
  have HC := Lib.hid C
  have HWS : Hid (∀ t ∈ ws, RowIn w F1 t.rv t.row) := fun t ht => h.rws _ (List.getElem_mem T.hi) t (by rw [T.wsE]; exact ht)
  have HWL : Hid (∀ t ∈ ws, t.row.length ≤ 6) := fun t ht => (h.ok.key _ (List.getElem_mem T.hd) (erW t) (by rw [T.wD]; exact List.mem_map.2 ⟨t, ht, rfl⟩)).2
  have HWF : Hid (∀ k, (Value.slice aw m capw).ownBlock = some k → F1 k) := fun k hk => h.wrF _ (List.getElem_mem T.hi) k (by rw [T.wvE]; exact hk)
  have bi : (i : Int) < (n : Int) := by have := C.ix; omega
  have HCF : Hid (∀ j (hj : j < ws.length), latL d.st ws[j].key ≤ y) := fun j hj => by
    unfold conf at hcf
    have := List.any_eq_false.1 hcf (erW ws[j]) (List.mem_map.2 ⟨_, List.getElem_mem hj, rfl⟩)
    have h2 : ¬ y < latL d.st ws[j].key := fun e => this (decide_eq_true e)
    omega
  have HCK := Lib.hid hclk
  clear h hF hlt hi hti hcf hg C T hP hPl hclk
  go_enter Try.func13, Try.ntmps13
  go_wp2_with (first
    | (go_at_call 21; refine HIX.out.mono ?_; rintro e w1 ⟨rfl, h1⟩; have H1 := Lib.hid h1; have c3 := (HC.out.c3.grow h1).2; have t0 := (HC.out.t0.grow h1).2; have t1 := (HC.out.t1.grow h1).2; have t2 := (HC.out.t2.grow h1).2; clear h1)
    | fail)
  have U2 := Lib.hid (H1.out.alloc (.cells #[.int .i64 x, .int .i64 y, .slice aw m capw] 63))
  have T2 := Lib.hid (At.new w1 #[.int .i64 x, .int .i64 y, .slice aw m capw] 63 2 (.slice aw m capw) rfl)
  have T1 := Lib.hid (At.new w1 #[.int .i64 x, .int .i64 y, .slice aw m capw] 63 1 (.int .i64 y) rfl)
  obtain ⟨w2, hw2⟩ : ∃ w2 : World, w2 = w1.alloc (.cells #[.int .i64 x, .int .i64 y, .slice aw m capw] 63) := ⟨_, rfl⟩
  rw [← hw2] at U2 T1 T2 ⊢
  clear hw2 c3 t0 t1 t2 bi
  have HTB : Hid (w.heap.size ≤ w1.heap.size) := H1.out.size
  generalize w1.heap.size = tb at *
  clear H1
  go_loopw [32] (fun iv wr => ∃ k : Nat, k ≤ m ∧ iv = .int .i64 k ∧ Hid (Up w2 wr) ) (fun iv _ => m - (intOf iv).toNat)
  case atStart => exact ⟨0, by omega, rfl, Up.refl _⟩
  case round =>
    obtain ⟨k, hk, rfl, HU⟩ := hrel
    have hm := HC.out.hm
    by_cases hlt : k < m
    · have hk1 : k < ws.length := by omega
      have HUU := Lib.hid (U2.out.trans HU.out)
      obtain ⟨gw, cap', hv, _, _, hc⟩ := Mv.own_cell (own_up HC.out.ow HUU.out) (by omega)
      simp only [Value.slice.injEq] at hv
      obtain ⟨rfl, _, rfl⟩ := hv
      obtain ⟨g0, g1, g2⟩ := mwC_get ws k hk1
      obtain ⟨ra, rn, rc, hrv⟩ := HC.out.rv _ (List.getElem_mem hk1)
      rw [hrv] at g2
      have e0 := (hc _ _ g0).2
      have e1 := (hc _ _ g1).2
      have e2 := (hc _ _ g2).2
      have bk : (k : Int) < (m : Int) := by omega
      have hy := HCF.out k hk1
      generalize hky : ws[k].key = key at *
      generalize ws[k].del = dl at *
      clear hc g0 g1 g2 hrv hm
      have hp0 := ((HC.out.c0.grow HUU.out).grow ((Up.refl wr).alloc (.cells #[.string key, .bool dl, .slice ra rn rc] 73)))
      have ht1 := ((T1.out.grow HU.out).grow ((Up.refl wr).alloc (.cells #[.string key, .bool dl, .slice ra rn rc] 73)))
      have hx0 := At.new wr #[.string key, .bool dl, .slice ra rn rc] 73 0 _ rfl
      go_wp2
      obtain ⟨hp1, hp2⟩ := hp0
      obtain ⟨ht1a, ht1b⟩ := ht1
      obtain ⟨hx1, hx2⟩ := hx0
      have hUW := HUU.out.alloc (.cells #[.string key, .bool dl, .slice ra rn rc] 73)
      have hUW2 := HU.out.alloc (.cells #[.string key, .bool dl, .slice ra rn rc] 73)
      obtain ⟨W, hW⟩ : ∃ W : World, W = wr.alloc (.cells #[.string key, .bool dl, .slice ra rn rc] 73) := ⟨_, rfl⟩
      rw [← hW] at hp1 hp2 ht1a ht1b hx1 hx2 hUW hUW2 ⊢
      generalize wr.heap.size = xb at *
      clear hW e0 e1 e2
      have UW := Lib.hid hUW
      have UW2 := Lib.hid hUW2
      have LT : Hid (∀ g : Gr W, Calls Try.prog 25 #[.pointer (some ⟨q, 0, none⟩), .string key] (gr W g) fun e w' => e = .returned (.int .i64 (latL d.st key)) ∧ Up (gr W g) w') := fun g => HC.out.lt _ (UW.out.trans (gr_up W g)) key
      generalize latL d.st key = L at *
      clear hUW hUW2
      have hy2 := decide_eq_false (Int.not_lt.2 hy)
      refine wp_region_gr (by kernel_rfl) (by kernel_rfl) ?_
      repeat (go_big_quiet_step (first | (go_at_call 25; exact gr_call (LT.out _)) | fail))
      refine wpQuiet_nil ?_
      intro _ hw'
      obtain ⟨gg, rfl⟩ := hw'
      have UG := Lib.hid (UW2.out.trans (gr_up W gg))
      go_wp2
      go_roundw
      case rel => exact ⟨k + 1, by omega, by go_num, UG.out⟩
      case measure => simp [intOf]; omega
    · obtain rfl : k = m := by omega
      have HUU := Lib.hid (U2.out.trans HU.out)
      have hp0 := HC.out.c0.grow HUU.out
      have ht2 := T2.out.grow HU.out
      obtain ⟨hp1, hp2⟩ := hp0
      obtain ⟨ht2a, ht2b⟩ := ht2
      have LN : Hid (∀ g : Gr wr, Calls Try.prog 26 #[.pointer (some ⟨q, 0, none⟩)] (gr wr g) fun e w' => e = .returned (.int .i64 (cnt d.st : Nat)) ∧ Up (gr wr g) w') := fun g => HC.out.ln _ (HUU.out.trans (gr_up wr g))
      have hc4 := HC.out.c400
      have hm4 := HC.out.m40.1
      have hin := hil.out
      generalize cnt d.st = cn at *
      go_wp2
      by_cases hfull : 400 < cn + k
      · have hq : decide (400 < (cn : Int) + (k : Int)) = true := decide_eq_true (by omega)
        rw [if_pos hfull] at HP
        refine wp_region_gr (by kernel_rfl) (by kernel_rfl) ?_
        repeat (go_big_quiet_step (first | (go_at_call 26; exact gr_call (LN.out _)) | fail))
        refine wpQuiet_nil ?_
        intro _ hw'
        obtain ⟨gg, rfl⟩ := hw'
        have UG := Lib.hid (HUU.out.trans (gr_up wr gg))
        go_wp2
        go_ret2
        unfold ComPost
        rw [HP.out]
        exact ⟨rfl, DbR.upP (w := w) (p := p) (d := d) (F := F) ⟨q, F1, G, av, ts, HS.out, HF.out, HLT.out⟩ UG.out⟩
      · have hq : decide (400 < (cn : Int) + (k : Int)) = false := decide_eq_false (by omega)
        rw [if_neg hfull] at HP
        refine wp_region_gr (by kernel_rfl) (by kernel_rfl) ?_
        repeat (go_big_quiet_step (first | (go_at_call 26; exact gr_call (LN.out _)) | fail))
        refine wpQuiet_nil ?_
        intro _ hw'
        obtain ⟨gg, rfl⟩ := hw'
        have UG := Lib.hid (HUU.out.trans (gr_up wr gg))
        obtain ⟨W3, hW3⟩ : ∃ W3 : World, W3 = gr wr gg := ⟨_, rfl⟩
        rw [← hW3] at UG ⊢
        have T23 : Hid (At W3 tb 2 (.slice aw k capw)) := by rw [hW3]; exact (T2.out.grow HU.out).grow (gr_up wr gg)
        clear hW3
        by_cases hk0 : k = 0
        · subst hk0
          go_wp2_with (first
            | (go_at_call 22; refine (fin_any p q d F1 G av ts i _ (HS.out.up UG.out) hin).mono ?_; rintro e w3 h2; obtain ⟨rfl, h3⟩ := h2.out HF.out HLT.out HS.out UG.out; obtain ⟨_, av2, G2, hd, _, hC⟩ := h2; have ht3 := (T23.out.chg hC (FinPost.ns (W3 := W3) (w3 := w3) HS.out _ (.inl HTB.out))); have t3 := ht3.2; have t3l := ht3.1; have k3 := hd.blk.cell 1; have p3 := hd.blk.lt; rw [show ([Value.pointer (some ⟨q, 0, none⟩), .int .i64 (finD d i).clock, .int .i64 (finD d i).last, av2])[1]? = some (.int .i64 d.clock) from rfl] at k3; have H3 := Lib.hid h3; clear h3 hd hC ht3)
            | fail)
          go_ret2
          unfold ComPost
          rw [HP.out]
          exact ⟨rfl, H3.out⟩
        · rw [if_neg hk0] at HP
          have hk3 : ¬ (k : Int) = 0 := by omega
          have hk4 : ((k : Int) == 0) = false := beq_eq_false_iff_ne.2 hk3
          have hcb := HS.out.ok.clock
          have hwr : IntKind.i64.wrap (d.clock + 1) = d.clock + 1 := IntWalk.i64_in _ (by omega)
          go_wp2_with (first
            | (go_at_call 22; refine (fin_any p q d F1 G av ts i _ (HS.out.up UG.out) hin).mono ?_; rintro e w3 h2; obtain ⟨rfl, av2, G2, hd, hG2, hC⟩ := h2; have ht3 := (T23.out.chg hC (FinPost.ns (W3 := W3) (w3 := w3) HS.out _ (.inl HTB.out))); have t3 := ht3.2; have t3l := ht3.1; have k3 := hd.blk.cell 1; have p3 := hd.blk.lt; have f3 := hd.blk.free 1; rw [show ([Value.pointer (some ⟨q, 0, none⟩), .int .i64 (finD d i).clock, .int .i64 (finD d i).last, av2])[1]? = some (.int .i64 d.clock) from rfl] at k3; have HD := Lib.hid hd; have HG := Lib.hid hG2; have HCh := Lib.hid hC; clear hd hC ht3 hG2)
            | fail)
          clear t3 t3l
          have CS := chg_set w3 p 1 none (.int .i64 (d.clock + 1))
          obtain ⟨w4, hw4⟩ : ∃ w4 : World, w4 = w3.setCell ⟨p, 1, none⟩ (.int .i64 (d.clock + 1)) := ⟨_, rfl⟩
          have DB4' : DbP w4 p q { finD d i with clock := d.clock + 1 } F1 G2 av2 (ts.eraseIdx i) := by rw [hw4]; exact HD.out.tick HCK.out
          rw [← hw4] at CS ⊢
          have HCS : Hid (Chg (fun j => ((av.ownBlock = some j ∨ j = p) ∨ G j) ∨ j = p) w w4) := ((Below.chg (fun j => (av.ownBlock = some j ∨ j = p) ∨ G j) UG.out).trans HCh.out fun _ _ e => e).or CS
          have NS : ∀ k T, F1 k → Ty w k T → T ≠ 63 → T ≠ 59 → ¬ (((av.ownBlock = some k ∨ k = p) ∨ G k) ∨ k = p) := fun k T hk ht h1 h2 e => by
            have := FinPost.ns (W3 := W3) (w3 := w3) HS.out k (.inr ⟨hk, T, ht, h1, h2⟩)
            rcases e with e | e
            · exact this e
            · exact this (.inl (.inr e))
          have OW4 := Lib.hid (own_chg HC.out.ow HCS.out fun j hj => NS j _ (HWF.out j hj) ((own_ty HC.out.ow) j hj).1 (by decide) (by decide))
          have RW4 : Hid (∀ t ∈ ws, RowIn w4 F1 t.rv t.row) := fun t ht => (HWS.out t ht).chg HCS.out fun j hj hty => ⟨NS j _ hj hty (by decide) (by decide), hj⟩
          obtain ⟨d4, hd4⟩ : ∃ d4 : Db, d4 = { finD d i with clock := d.clock + 1 } := ⟨_, rfl⟩
          rw [← hd4] at DB4'
          have HD4 := Lib.hid hd4
          have DB4 := Lib.hid DB4'
          have HM := HC.out.hm
          have M40 := HC.out.m40
          clear hw4 DB4' hd4 CS NS f3 k3 p3 T23 HD HCh hwr hcb
          go_loopw [81] (fun iv wr' => ∃ j : Nat, j ≤ k ∧ iv = .int .i64 j ∧ Hid (CL w4 wr' p q d4 F1 G2 av2 (ts.eraseIdx i) (ws.map erW) j)) (fun iv _ => k - (intOf iv).toNat)
          case atStart => exact ⟨0, by omega, rfl, CL.zero DB4.out⟩
          case round =>
            obtain ⟨j, hj, rfl, hcl⟩ := hrel
            by_cases hjk : j < k
            · have hj1 : j < ws.length := by omega
              have hj2 : j < (ws.map erW).length := by rw [List.length_map]; exact hj1
              obtain ⟨Gk, hd, hg, hc⟩ := hcl.out
              have nG : ∀ k, F1 k → ¬ G2 k := DB4.out.dis
              obtain ⟨gw, cap', hv, _, _, hcc⟩ := Mv.own_cell (own_chg OW4.out hc fun j hj => nG j (HWF.out j hj)) (by omega)
              simp only [Value.slice.injEq] at hv
              obtain ⟨rfl, _, rfl⟩ := hv
              obtain ⟨g0, g1, g2⟩ := mwC_get ws j hj1
              obtain ⟨ra, rn, rc, hrv⟩ := HC.out.rv _ (List.getElem_mem hj1)
              have HR : Hid (Src wr 3 (.slice ra rn rc) ws[j].row.length (rowC ws[j].row)) := by
                have := ((RW4.out _ (List.getElem_mem hj1)).chg (F' := F1) hc fun k hk _ => ⟨nG k hk, hk⟩).1
                rw [hrv] at this; exact this
              have hrl := HWL.out _ (List.getElem_mem hj1)
              rw [hrv] at g2
              have e0 := (hcc _ _ g0).2
              have e1 := (hcc _ _ g1).2
              have e2 := (hcc _ _ g2).2
              have p0 := hd.blk.cell 0
              have p1 := hd.blk.cell 1
              have hpl := hd.blk.lt
              rw [show ([Value.pointer (some ⟨q, 0, none⟩), .int .i64 d4.clock, .int .i64 d4.last, av2])[0]? = some (.pointer (some ⟨q, 0, none⟩)) from rfl] at p0
              rw [show ([Value.pointer (some ⟨q, 0, none⟩), .int .i64 d4.clock, .int .i64 d4.last, av2])[1]? = some (.int .i64 d4.clock) from rfl] at p1
              have HST := Lib.hid fun (w' W : World) (hu : Up wr W) (ha : StR w' q (addL (putAll d4.st d4.hz d4.clock ((ws.map erW).take j)) d4.hz (ws.map erW)[j].1 (wrV (ws.map erW)[j].2 d4.clock)).1 d4.hz (Fx Gk W w') ∧ Chg Gk W w') => CL.step (r := 0) (e := .returned (.int .i64 0)) hj2 hd hg hc hu ⟨rfl, ha⟩
              have hst := hd.st
              rw [List.getElem_map] at HST
              have hme : erW ws[j] = (ws[j].key, ⟨ws[j].del, ws[j].row⟩) := rfl
              rw [hme] at HST
              have HSR := Lib.hid hst
              generalize ws[j].key = key at *
              generalize ws[j].row = row at *
              generalize hst2 : putAll d4.st d4.hz d4.clock ((ws.map erW).take j) = st2 at *
              generalize hdl : ws[j].del = dl at *
              generalize hck : d4.clock = ck at *
              clear hd hg hc hst hcc g0 g1 g2 hrv hme hj2 hdl
              have bj : (j : Int) < (k : Int) := by omega
              have w0 := At.new wr #[.string key, .bool dl, .slice ra rn rc] 73 0 (.string key) rfl
              have w1' := At.new wr #[.string key, .bool dl, .slice ra rn rc] 73 1 (.bool dl) rfl
              have w2' := At.new wr #[.string key, .bool dl, .slice ra rn rc] 73 2 (.slice ra rn rc) rfl
              have P0 := (At.grow ⟨hpl, p0⟩ ((Up.refl wr).alloc (.cells #[.string key, .bool dl, .slice ra rn rc] 73)))
              have P1 := (At.grow ⟨hpl, p1⟩ ((Up.refl wr).alloc (.cells #[.string key, .bool dl, .slice ra rn rc] 73)))
              have x0 := w0.2
              have x1 := w1'.2
              have x2 := w2'.2
              have z0 := P0.2
              have z1 := P1.2
              have ZL := P0.1
              have XL := w0.1
              have HU := (Up.refl wr).alloc (.cells #[.string key, .bool dl, .slice ra rn rc] 73)
              clear w0 w1' w2' P0 P1 hcl HCF HWS HD4
              cases dl with
              | true =>
                go_wp2
                obtain ⟨W, hW⟩ : ∃ W : World, W = wr.alloc (.cells #[.string key, .bool true, .slice ra rn rc] 73) := ⟨_, rfl⟩
                rw [← hW] at x0 x1 x2 z0 z1 ZL XL HU ⊢
                have HU' := Lib.hid HU
                clear hW p0 p1 e0 e1 e2 HU
                go_still_tail 10, (by kernel_rfl)
                change wpList _ _ _ _ _ W.drew
                go_wp2_with (first
                  | (go_at_call 27; refine (Mv.del_any q st2 d4.hz Gk key ck W.drew (HSR.out.up HU'.out.drew)).mono ?_; rintro e w6 ⟨rfl, h6⟩; have H6 := Lib.hid (HST.out w6 _ HU'.out.drew h6); clear h6)
                  | fail)
                go_roundw
                case rel => exact ⟨j + 1, by omega, by go_num, H6.out⟩
                case measure => simp [intOf]; omega
              | false =>
                go_wp2
                obtain ⟨W, hW⟩ : ∃ W : World, W = wr.alloc (.cells #[.string key, .bool false, .slice ra rn rc] 73) := ⟨_, rfl⟩
                rw [← hW] at x0 x1 x2 z0 z1 ZL XL HU ⊢
                have HU' := Lib.hid HU
                clear hW p0 p1 e0 e1 e2 HU
                go_still_tail 12, (by kernel_rfl)
                change wpList _ _ _ _ _ W.drew
                go_wp2_with (first
                  | (go_at_call 28; refine (Mv.put_any q st2 d4.hz Gk key ck (.slice ra rn rc) row W.drew (HSR.out.up HU'.out.drew) (HR.out.up HU'.out.drew) (by omega)).mono ?_; rintro e w6 ⟨rfl, h6⟩; have H6 := Lib.hid (HST.out w6 _ HU'.out.drew h6); clear h6)
                  | fail)
                go_roundw
                case rel => exact ⟨j + 1, by omega, by go_num, H6.out⟩
                case measure => simp [intOf]; omega
            · obtain rfl : j = k := by omega
              obtain ⟨Gk, hd, hg, hc⟩ := hcl.out
              have p1 := hd.blk.cell 1
              have hpl := hd.blk.lt
              rw [show ([Value.pointer (some ⟨q, 0, none⟩), .int .i64 d4.clock, .int .i64 d4.last, av2])[1]? = some (.int .i64 d4.clock) from rfl] at p1
              have HDd := Lib.hid hd
              clear hd
              go_wp2
              go_ret2
              have hd := HDd.out
              have ek : (ws.map erW).take j = ws.map erW := List.take_of_length_le (by rw [List.length_map]; omega)
              rw [ek] at hd
              have ed : ({ d4 with st := putAll d4.st d4.hz d4.clock (ws.map erW) } : Db) = comD d i ⟨x, y, ws.map erW⟩ := by rw [HD4.out]; rfl
              rw [ed] at hd
              have hck : d4.clock = d.clock + 1 := by rw [HD4.out]
              have s1 := UG.out.size
              have s2 := HCS.out.size
              have s3 := hc.size
              have gG : ∀ k, G2 k → Fx G w w4 k := fun k hk => by
                rcases HG.out k hk with e | e
                · exact .inl e
                · exact .inr ⟨by omega, DB4.out.st.lt k hk⟩
              have CC : Chg (fun j => (((av.ownBlock = some j ∨ j = p) ∨ G j) ∨ j = p)) w wr := HCS.out.trans hc fun k hk e => by
                rcases gG k e with e | e
                · exact .inl (.inr e)
                · omega
              unfold ComPost
              rw [HP.out, hck]
              refine ⟨rfl, hd.post HF.out HLT.out (fun k hk => .inl hk) (fun k hk => ?_) CC fun k _ e => ?_⟩
              · rcases hg k hk with e | e
                · rcases gG k e with e | e
                  · exact .inl e
                  · exact .inr ⟨e.1, by omega⟩
                · exact .inr ⟨by omega, e.2⟩
              · rcases e with ((e | rfl) | e) | rfl
                · exact .inl (HS.out.actF k e)
                · exact .inl HS.out.fp
                · exact .inr e
                · exact .inl HS.out.fp
theorem commit_any (h : DbR w p d F) (hi : 0 ≤ tidx d.act id) (hclk : d.clock < 1000000) :
    Calls Try.prog 13 #[.pointer (some ⟨p, 0, none⟩), .int .i64 id] w (ComPost p d F id w) := by
  cases hcf : conf d (d.act.getD (tidx d.act id).toNat ⟨0, 0, []⟩) with
  | true => exact com_conf p d F id w h hi hcf
  | false => exact com_ok p d F id w h hi hcf hclk
end
end Go.Proofs.Ytnbhdpmhgamjfaa.Sn
