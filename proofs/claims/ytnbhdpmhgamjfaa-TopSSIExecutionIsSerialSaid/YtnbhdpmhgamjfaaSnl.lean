/- The snapshot database: buffer. -/
import Derived.Test.YtnbhdpmhgamjfaaSnk
namespace Go.Proofs.Ytnbhdpmhgamjfaa.Sn
open Go Go.RowKit Hp So
open Mv (Val PC PV rowC fm_len fm_take fm_drop fm_get fm_set fm_one RowIn StR Srt pos has fx_lt fx_up ty_chg has_pos pos_le)
set_option linter.unusedVariables false

theorem mtC_set (ts : List MT) (i : Nat) (hi : i < ts.length) (v : Value) (ws : List MW) : (mtC ts).set (i * 3 + 2) v = mtC (ts.set i ⟨ts[i].id, ts[i].start, v, ws⟩) :=
  fm_set (f := mtC1) (k := 3) (fun _ => rfl) ts i 2 hi (by omega) v _ rfl
theorem mwC_set (ws : List MW) (i : Nat) (hi : i < ws.length) (x : MW) : (((mwC ws).set (i * 3) (.string x.key)).set (i * 3 + 1) (.bool x.del)).set (i * 3 + 2) x.rv = mwC (ws.set i x) := by
  have e0 : (mwC ws).set (i * 3) (.string x.key) = mwC (ws.set i ⟨x.key, ws[i].del, ws[i].rv, x.row⟩) := fm_set (f := mwC1) (k := 3) (fun _ => rfl) ws i 0 hi (by omega) _ _ rfl
  have hi1 : i < (ws.set i ⟨x.key, ws[i].del, ws[i].rv, x.row⟩).length := by simpa using hi
  have e1 : (mwC (ws.set i ⟨x.key, ws[i].del, ws[i].rv, x.row⟩)).set (i * 3 + 1) (.bool x.del) = mwC ((ws.set i ⟨x.key, ws[i].del, ws[i].rv, x.row⟩).set i ⟨x.key, x.del, ws[i].rv, x.row⟩) := fm_set (f := mwC1) (k := 3) (fun _ => rfl) _ i 1 hi1 (by omega) _ _ (by simp [mwC1])
  have hi2 : i < ((ws.set i ⟨x.key, ws[i].del, ws[i].rv, x.row⟩).set i ⟨x.key, x.del, ws[i].rv, x.row⟩).length := by simpa using hi
  have e2 : (mwC ((ws.set i ⟨x.key, ws[i].del, ws[i].rv, x.row⟩).set i ⟨x.key, x.del, ws[i].rv, x.row⟩)).set (i * 3 + 2) x.rv = mwC (((ws.set i ⟨x.key, ws[i].del, ws[i].rv, x.row⟩).set i ⟨x.key, x.del, ws[i].rv, x.row⟩).set i x) := fm_set (f := mwC1) (k := 3) (fun _ => rfl) _ i 2 hi2 (by omega) _ _ (by simp [mwC1])
  rw [e0, e1, e2]
  simp
theorem mtC_same (ts : List MT) (i : Nat) (hi : i < ts.length) (ws : List MW) : mtC (ts.set i ⟨ts[i].id, ts[i].start, ts[i].wv, ws⟩) = mtC ts := by
  unfold mtC
  rw [List.flatMap_def, List.flatMap_def, List.map_set]
  have : mtC1 ⟨ts[i].id, ts[i].start, ts[i].wv, ws⟩ = (ts.map mtC1)[i]'(by simpa using hi) := by simp [mtC1]
  rw [this, List.set_getElem_self]
theorem mwC_ins (ws : List MW) (i : Nat) (x : MW) : mwC (ws.take i ++ x :: ws.drop i) = (mwC ws).take (i * 3) ++ [.string x.key, .bool x.del, x.rv] ++ (mwC ws).drop (i * 3) := by
  unfold mwC
  rw [fm_take (f := mwC1) (k := 3) (fun _ => rfl), fm_drop (f := mwC1) (k := 3) (fun _ => rfl), List.flatMap_append, List.flatMap_cons, List.append_assoc]
  rfl
theorem wput_set {ws : List MW} {x : MW} (hh : has (ws.map erW) x.key = true) : (ws.set (pos (ws.map erW) x.key) x).map erW = wput (ws.map erW) x.key ⟨x.del, x.row⟩ := by
  unfold wput
  rw [if_pos hh, List.map_set]
  rfl
theorem wput_ins {ws : List MW} {x : MW} (hh : has (ws.map erW) x.key = false) : (ws.take (pos (ws.map erW) x.key) ++ x :: ws.drop (pos (ws.map erW) x.key)).map erW = wput (ws.map erW) x.key ⟨x.del, x.row⟩ := by
  unfold wput
  rw [if_neg (by rw [hh]; decide)]
  simp [erW]
/-- The transaction at i, and where it stands. -/
structure TrAt (w : World) (d : Db) (av : Value) (ts : List MT) (id : Int) (i g n cap m capw : Nat) (aw : Option Addr) (ws : List MW) : Prop where
  ti : tidx d.act id = (i : Int)
  hi : i < ts.length
  hd : i < d.act.length
  hn : ts.length = n
  avE : av = .slice (some ⟨g, 0, none⟩) n cap
  wvE : ts[i].wv = .slice aw m capw
  wsE : ts[i].ws = ws
  hm : ws.length = m
  gD : d.act.getD i ⟨0, 0, []⟩ = d.act[i]
  wD : d.act[i].w = ws.map erW
  sD : d.act[i].start = ts[i].start ∧ d.act[i].id = ts[i].id
  c2 : At w g (i * 3 + 2) (.slice aw m capw)
  c0 : At w g (i * 3) (.int .i64 ts[i].id)
  c1 : At w g (i * 3 + 1) (.int .i64 ts[i].start)
  len : m ≤ 40 ∧ n ≤ 60
  capB : n ≤ cap ∧ m ≤ capw
theorem DbP.at_ {w : World} {p q : Nat} {d : Db} {F G : Nat → Prop} {av : Value} {ts : List MT} (h : DbP w p q d F G av ts) {id : Int} (hi : 0 ≤ tidx d.act id) : ∃ i g n cap m capw aw ws, TrAt w d av ts id i g n cap m capw aw ws := by
  obtain ⟨hl1, hl2⟩ := h.tslen
  have hb := idx_bd (fun t : Tr => decide (t.id = id)) d.act
  have hb2 : tidx d.act id < d.act.length := hb.2
  have hil : (tidx d.act id).toNat < ts.length := by omega
  have hid : (tidx d.act id).toNat < d.act.length := by omega
  obtain ⟨g, cap, e, hc1, _, hc⟩ := Mv.own_cell h.act (by omega)
  obtain ⟨aw, capw, e2, hc2, _⟩ := own_form (h.wrs _ (List.getElem_mem hil))
  obtain ⟨g0, g1, g2⟩ := mtC_get ts _ hil
  have hei : erT ts[(tidx d.act id).toNat] = d.act[(tidx d.act id).toNat] := by
    have e := h.er
    have e2 : (ts.map erT)[(tidx d.act id).toNat]? = d.act[(tidx d.act id).toNat]? := by rw [e]
    rw [List.getElem?_map, List.getElem?_eq_getElem hil, List.getElem?_eq_getElem hid] at e2
    simpa using e2
  have hwl := h.ok.len _ (List.getElem_mem hid)
  rw [← hei] at hwl
  have hwl : ts[(tidx d.act id).toNat].ws.length ≤ 40 := by simpa [erT] using hwl
  refine ⟨(tidx d.act id).toNat, g, ts.length, cap, _, capw, aw, ts[(tidx d.act id).toNat].ws, ⟨by omega, hil, hid, rfl, e, e2, rfl, rfl, by simp [List.getD, hid], by rw [← hei]; rfl, by rw [← hei]; exact ⟨rfl, rfl⟩, ?_, hc _ _ g0, hc _ _ g1, ⟨hwl, hl2⟩, hc1, hc2⟩⟩
  rw [← e2]
  exact hc _ _ g2
theorem DbP.mono {w : World} {p q : Nat} {d : Db} {F F' G : Nat → Prop} {av : Value} {ts : List MT} (h : DbP w p q d F G av ts) (hF : ∀ k, F k → F' k) (hl : ∀ k, F' k → k < w.heap.size) (hd : ∀ k, F' k → ¬ G k) : DbP w p q d F' G av ts :=
  ⟨h.er, h.ok, hl, hd, hF _ h.fp, h.blk, h.st, h.act, fun k hk => hF k (h.actF k hk), h.wrs, fun t ht k hk => hF k (h.wrF t ht k hk), h.wrd, fun t ht x hx => (h.rws t ht x hx).mono hF⟩
theorem DbP.fx {w w' : World} {p q : Nat} {d : Db} {F G : Nat → Prop} {av : Value} {ts : List MT} (h : DbP w p q d F G av ts) (hu : Up w w') : DbP w' p q d (Fx F w w') G av ts :=
  (h.up hu).mono (fun k hk => .inl hk) (fx_lt h.lt hu.size) fun k hk e => by
    rcases hk with hk | hk
    · exact h.dis k hk e
    · have := h.st.lt k e; omega
/-- The facts that buffer's walk goes by. -/
structure BufAt (w : World) (p q : Nat) (d : Db) (id : Int) (k : ByteArray) (B : Bool) (i g n cap m capw : Nat) (aw : Option Addr) (ws : List MW) : Prop where
  ix : ∀ W, Up w W → Calls Try.prog 21 #[.pointer (some ⟨p, 0, none⟩), .int .i64 id] W fun e w' => e = .returned (.tuple #[.int .i64 (i : Nat), .int .i64 0]) ∧ Up W w'
  sc : ∀ W, Up w W → Calls Try.prog 30 #[.pointer (some ⟨g, i * 3, none⟩), .string k] W fun e w' => e = .returned (.tuple #[.int .i64 (pos (ws.map erW) k : Nat), .bool B]) ∧ Up W w'
  c3 : At w p 3 (.slice (some ⟨g, 0, none⟩) n cap)
  c2 : At w g (i * 3 + 2) (.slice aw m capw)
  bi : (i : Int) < (n : Int)
theorem DbP.bufAt {w : World} {p q : Nat} {d : Db} {F G : Nat → Prop} {av : Value} {ts : List MT} (h : DbP w p q d F G av ts) {id : Int} {k : ByteArray} {B : Bool} {i g n cap m capw : Nat} {aw : Option Addr} {ws : List MW} (T : TrAt w d av ts id i g n cap m capw aw ws)
    (hh : has (ws.map erW) k = B) : BufAt w p q d id k B i g n cap m capw aw ws := by
  refine ⟨fun W hu => ?_, fun W hu => ?_, ⟨h.blk.lt, ?_⟩, T.c2, by have := T.hi; have := T.hn; omega⟩
  · have := index_any p q d F G av ts id W (h.up hu)
    rwa [if_neg (show ¬ tidx d.act id < 0 by have := T.ti; omega), T.ti] at this
  · have := search_any g (i * 3) (.slice aw m capw) ws k W (T.c2.grow hu) (by have := own_up (h.wrs _ (List.getElem_mem T.hi)) hu; rwa [T.wvE, T.wsE] at this) (by have := h.ok.srt _ (List.getElem_mem T.hd); rwa [T.wD] at this) (by have := T.hm; have := T.len; omega)
    rwa [hh] at this
  · have c3 := h.blk.cell 3
    rwa [T.avE] at c3
section
variable (p q : Nat) (d : Db) (F G : Nat → Prop) (av : Value) (ts : List MT) (id : Int) (k : ByteArray) (dl : Bool) (ra : Option Addr) (rc : Nat) (row : List Val) (w : World)
def BufPost (p q : Nat) (d : Db) (F G : Nat → Prop) (id : Int) (k : ByteArray) (dl : Bool) (row : List Val) (w : World) (e : Ending) (w' : World) : Prop :=
  e = .returned (.int .i64 (bufP d id k ⟨dl, row⟩).2) ∧ ∃ av' ts', DbP w' p q (bufP d id k ⟨dl, row⟩).1 (Fx F w w') G av' ts' ∧ Chg F w w'
set_option maxRecDepth 100000 in
set_option maxHeartbeats 4000000 in
theorem buf_full (h : DbP w p q d F G av ts) (hi : 0 ≤ tidx d.act id) (hk : k.size ≤ 24) (hr : row.length ≤ 6) (hh : has (d.act.getD (tidx d.act id).toNat ⟨0, 0, []⟩).w k = false) (hl : (d.act.getD (tidx d.act id).toNat ⟨0, 0, []⟩).w.length = 40) :
    Calls Try.prog 23 #[.pointer (some ⟨p, 0, none⟩), .int .i64 id, .agg #[.string k, .bool dl, .slice ra row.length rc]] w (BufPost p q d F G id k dl row w) := by
  have HP : Hid (bufP d id k ⟨dl, row⟩ = (d, 18)) := by unfold Hid bufP; rw [if_neg (show ¬ tidx d.act id < 0 by omega), if_neg (show ¬ (24 < k.size ∨ 6 < row.length) by omega), if_pos ⟨hh, hl⟩]
  have HH := Lib.hid h
  have hk2 : ¬ (24 : Int) < (k.size : Int) := by omega
  have hr2 : ¬ (6 : Int) < (row.length : Int) := by omega
  obtain ⟨i, g, n, cap, m, capw, aw, ws, T⟩ := h.at_ hi
  have hti : (tidx d.act id).toNat = i := by have := T.ti; omega
  rw [hti, T.gD, T.wD] at hh hl
  have BA := Lib.hid (h.bufAt T hh)
  obtain rfl : m = 40 := by rw [List.length_map] at hl; have := T.hm; omega
  have BX : Hid (∀ W, Up (w.alloc (.cells #[.string k, .bool dl, .slice ra row.length rc] 73)) W → W.cell? ⟨w.heap.size, 0, none⟩ = some (.string k) ∧ W.cell? ⟨w.heap.size, 2, none⟩ = some (.slice ra row.length rc)) := fun W hu => ⟨((At.new w _ _ 0 _ rfl).grow hu).2, ((At.new w _ _ 2 _ rfl).grow hu).2⟩
  have b1 := BA.out.bi
  clear h T hh hl hi hti
  go_enter Try.func23, Try.ntmps23
  go_wp2_with (first
    | (have tok := H1; go_at_call 30; refine (BA.out.sc _ H1.out).mono ?_; rintro e w2 ⟨rfl, h2⟩; have H2 := Lib.hid (H1.out.trans h2); have c2 := (BA.out.c2.grow H2.out).2; clear h2)
    | (go_at_call 21; refine (BA.out.ix _ ((Up.refl w).alloc _)).mono ?_; rintro e w1 ⟨rfl, h1⟩; have H1 := Lib.hid (((Up.refl w).alloc _).trans h1); obtain ⟨x0, x2⟩ := BX.out _ h1; have c3 := (BA.out.c3.grow H1.out).2; clear h1)
    | fail)
  go_ret
  unfold BufPost
  rw [HP.out]
  exact ⟨rfl, _, _, HH.out.fx H2.out, Below.chg F H2.out⟩
/-- The transaction's writes behind a write in place or an insertion. -/
theorem bufP_eq (hi : 0 ≤ tidx d.act id) (hk : k.size ≤ 24) (hr : row.length ≤ 6) {i : Nat} (hti : tidx d.act id = (i : Int)) (hid : i < d.act.length) (hf : ¬ (has d.act[i].w k = false ∧ d.act[i].w.length = 40)) : bufP d id k ⟨dl, row⟩ = (setW d i d.act[i] (wput d.act[i].w k ⟨dl, row⟩), 0) := by
  have e1 : (tidx d.act id).toNat = i := by omega
  have e2 : d.act.getD i ⟨0, 0, []⟩ = d.act[i] := by simp [List.getD, hid]
  unfold bufP
  rw [if_neg (show ¬ tidx d.act id < 0 by omega), if_neg (show ¬ (24 < k.size ∨ 6 < row.length) by omega), e1, e2, if_neg hf]
theorem buf_ok (ok : DOk d) (hk : k.size ≤ 24) (hr : row.length ≤ 6) {i : Nat} (hid : i < d.act.length) (hf : ¬ (has d.act[i].w k = false ∧ d.act[i].w.length = 40)) : DOk (setW d i d.act[i] (wput d.act[i].w k ⟨dl, row⟩)) :=
  setW_ok ok hid (wput_srt (ok.srt _ (List.getElem_mem hid)) _ _) (wput_len hf (ok.len _ (List.getElem_mem hid))) fun x hx => by
    rcases wput_mem hx with hx | rfl
    · exact ok.key _ (List.getElem_mem hid) x hx
    · exact ⟨hk, hr⟩
set_option maxRecDepth 100000 in
set_option maxHeartbeats 4000000 in
theorem buf_old (h : DbP w p q d F G av ts) (hi : 0 ≤ tidx d.act id) (hk : k.size ≤ 24) (hr : row.length ≤ 6) (hh : has (d.act.getD (tidx d.act id).toNat ⟨0, 0, []⟩).w k = true) (hrow : RowIn w F (.slice ra row.length rc) row) :
    Calls Try.prog 23 #[.pointer (some ⟨p, 0, none⟩), .int .i64 id, .agg #[.string k, .bool dl, .slice ra row.length rc]] w (BufPost p q d F G id k dl row w) := by
  have HH := Lib.hid h
  have HRW := Lib.hid hrow
  have hk2 : ¬ (24 : Int) < (k.size : Int) := by omega
  have hr2 : ¬ (6 : Int) < (row.length : Int) := by omega
  obtain ⟨i, g, n, cap, m, capw, aw, ws, T⟩ := h.at_ hi
  have hti : (tidx d.act id).toNat = i := by have := T.ti; omega
  rw [hti, T.gD, T.wD] at hh
  have hid : i < d.act.length := T.hd
  have hnf : ¬ (has d.act[i].w k = false ∧ d.act[i].w.length = 40) := fun e => by rw [T.wD, hh] at e; cases e.1
  have HP := Lib.hid (bufP_eq d id k dl row hi hk hr T.ti hid hnf)
  have OK := Lib.hid (buf_ok d k dl row h.ok hk hr hid hnf)
  have BA := Lib.hid (h.bufAt T hh)
  have hps : pos (ws.map erW) k < ws.length := by obtain ⟨a, _⟩ := has_pos hh; rwa [List.length_map] at a
  have HW : Hid (w.ownsRow 0 73 3 (.slice aw m capw) m (mwC ws)) := by have := h.wrs _ (List.getElem_mem T.hi); rw [T.wvE, T.wsE, T.hm] at this; exact this
  obtain ⟨gw, cap2, ev, _, hcp, hgl, hcell, hfz⟩ := own_some HW.out (by have := T.hm; omega)
  simp only [Value.slice.injEq] at ev
  obtain ⟨rfl, _, rfl⟩ := ev
  have BX : Hid (∀ W, Up (w.alloc (.cells #[.string k, .bool dl, .slice ra row.length rc] 73)) W → W.cell? ⟨w.heap.size, 0, none⟩ = some (.string k) ∧ W.cell? ⟨w.heap.size, 1, none⟩ = some (.bool dl) ∧ W.cell? ⟨w.heap.size, 2, none⟩ = some (.slice ra row.length rc)) := fun W hu => ⟨((At.new w _ _ 0 _ rfl).grow hu).2, ((At.new w _ _ 1 _ rfl).grow hu).2, ((At.new w _ _ 2 _ rfl).grow hu).2⟩
  have b1 := BA.out.bi
  have b2 : ((pos (ws.map erW) k : Nat) : Int) < (m : Int) := by have := T.hm; omega
  have FZ : Hid (∀ W, Up w W → ∀ j, W.frozen? ⟨gw, j, none⟩ = false ∧ ∀ u, (mwC ws)[j]? = some u → W.cell? ⟨gw, j, none⟩ = some u) := fun W hu j => by
    obtain ⟨g', c', e, _, _, _, hcl, hz⟩ := own_some (own_up HW.out hu) (by have := T.hm; omega)
    simp only [Value.slice.injEq, Option.some.injEq, Addr.mk.injEq, and_true, true_and] at e
    obtain ⟨rfl, _⟩ := e
    exact ⟨hz j, hcl j⟩
  have HT := Lib.hid T
  have HPS := Lib.hid hps
  have HHH := Lib.hid hh
  generalize hps' : pos (ws.map erW) k = ps at *
  clear h T hh hi hti hnf hrow hcell hfz hps hgl
  go_enter Try.func23, Try.ntmps23
  go_wp2_with (first
    | (have tok := H1; go_at_call 30; refine (BA.out.sc _ H1.out).mono ?_; rintro e w2 ⟨rfl, h2⟩; have H2 := Lib.hid (H1.out.trans h2); have X2 := Lib.hid (BX.out _ (HU1.out.trans h2)); clear h2; rw [hps'])
    | (go_at_call 21; refine (BA.out.ix _ ((Up.refl w).alloc _)).mono ?_; rintro e w1 ⟨rfl, h1⟩; have H1 := Lib.hid (((Up.refl w).alloc _).trans h1); have HU1 := Lib.hid h1; obtain ⟨x0, x1, x2⟩ := BX.out _ h1; have c3 := (BA.out.c3.grow H1.out).2; clear h1)
    | fail)
  obtain ⟨x0, x1, x2⟩ := X2.out
  have c2 := (BA.out.c2.grow H2.out).2
  have f0 := (FZ.out _ H2.out (ps * 3)).1
  have f1 := (FZ.out _ H2.out (ps * 3 + 1)).1
  have f2 := (FZ.out _ H2.out (ps * 3 + 2)).1
  have y0 := (FZ.out _ H2.out (ps * 3)).2 _ (mwC_get ws ps HPS.out).1
  have y1 := (FZ.out _ H2.out (ps * 3 + 1)).2 _ (mwC_get ws ps HPS.out).2.1
  have y2 := (FZ.out _ H2.out (ps * 3 + 2)).2 _ (mwC_get ws ps HPS.out).2.2
  have hgw2 : gw < w2.heap.size := own_lt (own_up HW.out H2.out) _ rfl
  go_region
  all_goals
    go_wp2
    go_ret
    have hil : i < ts.length := HT.out.hi
    have hm := HT.out.hm
    have hps := HPS.out
    have O2 := own_up HW.out H2.out
    have hl := mwC_len ws
    have O3 := own_set (own_set (own_set O2 (ps * 3) (by omega) (.string k)) (ps * 3 + 1) (by rw [List.length_set]; omega) (.bool dl)) (ps * 3 + 2) (by rw [List.length_set, List.length_set]; omega) (.slice ra row.length rc)
    rw [mwC_set ws ps hps ⟨k, dl, .slice ra row.length rc, row⟩] at O3
    have O4 := own_chg O3 (Chg.refl (fun _ => False) _).drew fun _ _ e => e
    have CC : Chg (fun j => j = gw) w (((w2.setCell ⟨gw, ps * 3, none⟩ (.string k)).setCell ⟨gw, ps * 3 + 1, none⟩ (.bool dl)).setCell ⟨gw, ps * 3 + 2, none⟩ (.slice ra row.length rc)).drew := ((((Below.chg (fun j => j = gw) H2.out).set (b := gw) (.inl rfl) _ _ _).set (b := gw) (.inl rfl) _ _ _).set (b := gw) (.inl rfl) _ _ _).drew
    have hgw : ts[i].wv.ownBlock = some gw := by rw [HT.out.wvE]; rfl
    have hR := HH.out.wr (ws' := ws.set ps ⟨k, dl, .slice ra row.length rc, row⟩) (wv' := ts[i].wv) HT.out.hi hid (CC.mono fun j _ e => .inl (by rw [e]; exact hgw)) (by rw [HT.out.wvE, List.length_set, hm]; exact O4)
      (by rw [mtC_same]; exact own_chg HH.out.act CC fun j hj e => by subst e; exact (((own_ty HH.out.act) _ hj).1).ne (by decide) ((own_ty HW.out) _ rfl).1)
      (fun j hj => .inl hj) (fun x hx => by
        rcases List.mem_or_eq_of_mem_set hx with hx | rfl
        · exact .inl (by rw [HT.out.wsE]; exact hx)
        · exact .inr HRW.out)
      (by have e := wput_set (ws := ws) (x := ⟨k, dl, .slice ra row.length rc, row⟩) HHH.out; rw [hps', ← HT.out.wD] at e; rw [e]; exact OK.out)
    have e := wput_set (ws := ws) (x := ⟨k, dl, .slice ra row.length rc, row⟩) HHH.out
    rw [hps', ← HT.out.wD] at e
    rw [e] at hR
    unfold BufPost
    rw [HP.out]
    exact ⟨rfl, _, _, hR.1, CC.mono fun j _ e => hR.2 j (.inl (by rw [e]; exact hgw))⟩
theorem one3 {ws : List MW} {w : World} {F : Nat → Prop} (h : ∀ x ∈ ws, RowIn w F x.rv x.row) : ∀ u ∈ mwC ws, u.oneCell' = true := fun u hu => by
  obtain ⟨x, hx, hu⟩ := List.mem_flatMap.1 hu
  simp only [mwC1, List.mem_cons, List.not_mem_nil, or_false] at hu
  rcases hu with rfl | rfl | rfl
  · rfl
  · rfl
  · rcases (h x hx).1.2 with ⟨e, _⟩ | ⟨b, off, cap, e, _⟩ <;> rw [e] <;> rfl
set_option maxRecDepth 100000 in
set_option maxHeartbeats 4000000 in
theorem buf_new (h : DbP w p q d F G av ts) (hi : 0 ≤ tidx d.act id) (hk : k.size ≤ 24) (hr : row.length ≤ 6) (hh : has (d.act.getD (tidx d.act id).toNat ⟨0, 0, []⟩).w k = false) (hl : (d.act.getD (tidx d.act id).toNat ⟨0, 0, []⟩).w.length ≠ 40) (hrow : RowIn w F (.slice ra row.length rc) row) :
    Calls Try.prog 23 #[.pointer (some ⟨p, 0, none⟩), .int .i64 id, .agg #[.string k, .bool dl, .slice ra row.length rc]] w (BufPost p q d F G id k dl row w) := by
  have HH := Lib.hid h
  have HRW := Lib.hid hrow
  have hk2 : ¬ (24 : Int) < (k.size : Int) := by omega
  have hr2 : ¬ (6 : Int) < (row.length : Int) := by omega
  obtain ⟨i, g, n, cap, m, capw, aw, ws, T⟩ := h.at_ hi
  have hti : (tidx d.act id).toNat = i := by have := T.ti; omega
  rw [hti, T.gD, T.wD] at hh hl
  have hid : i < d.act.length := T.hd
  have hnf : ¬ (has d.act[i].w k = false ∧ d.act[i].w.length = 40) := fun e => by rw [T.wD] at e; exact hl e.2
  have HP := Lib.hid (bufP_eq d id k dl row hi hk hr T.ti hid hnf)
  have OK := Lib.hid (buf_ok d k dl row h.ok hk hr hid hnf)
  have BA := Lib.hid (h.bufAt T hh)
  have hps : pos (ws.map erW) k ≤ ws.length := by have := pos_le (ws.map erW) k; rwa [List.length_map] at this
  have HW : Hid (w.ownsRow 0 73 3 (.slice aw m capw) m (mwC ws)) := by have := h.wrs _ (List.getElem_mem T.hi); rw [T.wvE, T.wsE, T.hm] at this; exact this
  have hm0 := T.hm
  have hm40 := T.len.1
  have hcw := T.capB.2
  have hm2 : ¬ (m : Int) = 40 := by rw [List.length_map] at hl; omega
  have hm3 : ((m : Int) == 40) = false := beq_eq_false_iff_ne.2 hm2
  have BX : Hid (∀ W, Up (w.alloc (.cells #[.string k, .bool dl, .slice ra row.length rc] 73)) W → W.cell? ⟨w.heap.size, 0, none⟩ = some (.string k) ∧ W.cell? ⟨w.heap.size, 1, none⟩ = some (.bool dl) ∧ W.cell? ⟨w.heap.size, 2, none⟩ = some (.slice ra row.length rc)) := fun W hu => ⟨((At.new w _ _ 0 _ rfl).grow hu).2, ((At.new w _ _ 1 _ rfl).grow hu).2, ((At.new w _ _ 2 _ rfl).grow hu).2⟩
  have b1 := BA.out.bi
  have ONE := Lib.hid (one3 (ws := ws) (w := w) (F := F) fun x hx => h.rws _ (List.getElem_mem T.hi) x (by rw [T.wsE]; exact hx))
  have HT := Lib.hid T
  have HPS := Lib.hid hps
  have HHH := Lib.hid hh
  have HA : Hid (w.ownsRow 0 63 3 (.slice (some ⟨g, 0, none⟩) n cap) n (mtC ts)) := by have := h.act; rw [T.avE, T.hn] at this; exact this
  have hnn : 0 < n := by have := T.hi; have := T.hn; omega
  have hgl : g < w.heap.size := own_lt HA.out _ rfl
  have NE : Hid (∀ W, Up w W → ∀ w3, W.grownBy w3 (Value.slice aw m capw).ownBlock → w3.ownsRow 0 63 3 (.slice (some ⟨g, 0, none⟩) n cap) n (mtC ts) ∧ w3.cell? ⟨g, i * 3 + 2, none⟩ = some (.slice aw m capw) ∧ w3.frozen? ⟨g, i * 3 + 2, none⟩ = false) := fun W hu w3 hg => by
    have c : Chg (fun j => (Value.slice aw m capw).ownBlock = some j) W w3 := (Chg.refl _ W).grown hg fun j hj => .inl hj
    have ng : ¬ (Value.slice aw m capw).ownBlock = some g := fun e => (((own_ty HW.out) _ e).1).ne (by decide) ((own_ty HA.out) _ rfl).1
    have o := own_chg (own_up HA.out hu) c fun j hj e => by cases hj; exact ng e
    obtain ⟨g', c', e, _, _, _, _, hz⟩ := own_some o hnn
    simp only [Value.slice.injEq, Option.some.injEq, Addr.mk.injEq, and_true, true_and] at e
    obtain ⟨rfl, _⟩ := e
    exact ⟨o, ((HT.out.c2.grow hu).chg c ng).2, hz _⟩
  generalize hps' : pos (ws.map erW) k = ps at *
  clear h T hh hi hti hnf hrow hps hl
  go_enter Try.func23, Try.ntmps23
  go_wp2_with (first
    | (have tok := H1; go_at_call 30; refine (BA.out.sc _ H1.out).mono ?_; rintro e w2 ⟨rfl, h2⟩; have H2 := Lib.hid (H1.out.trans h2); have X2 := Lib.hid (BX.out _ (HU1.out.trans h2)); have c2 := (BA.out.c2.grow H2.out).2; clear h2; rw [hps'])
    | (go_at_call 21; refine (BA.out.ix _ ((Up.refl w).alloc _)).mono ?_; rintro e w1 ⟨rfl, h1⟩; have H1 := Lib.hid (((Up.refl w).alloc _).trans h1); have HU1 := Lib.hid h1; obtain ⟨x0, x1, x2⟩ := BX.out _ h1; have c3 := (BA.out.c3.grow H1.out).2; clear h1)
    | fail)
  clear x0 x1 x2 c3 c2
  obtain ⟨x0, x1, x2⟩ := X2.out
  have c2 := (BA.out.c2.grow H2.out).2
  have hg2 : g < w2.heap.size := Nat.lt_of_lt_of_le hgl H2.out.size
  have c2a := ((Up.refl w2).alloc (.cells #[.string k, .bool dl, .slice ra row.length rc] 73)).cell (p := ⟨g, i * 3 + 2, none⟩) hg2
  rw [c2] at c2a
  have HI : Hid (∀ W, Up w2 W → ∀ vb, Blk W vb [.string k, .bool dl, .slice ra row.length rc] 73 → w2.heap.size ≤ vb → Calls Try.prog 39 #[.slice aw m capw, .int .i64 ps, .slice (some ⟨vb, 0, none⟩) 1 1] W fun e w' => ∃ v', e = .returned v' ∧ w'.ownsRow 0 73 3 v' (m + 1) ((mwC ws).take (ps * 3) ++ [.string k, .bool dl, .slice ra row.length rc] ++ (mwC ws).drop (ps * 3)) ∧
      W.grownBy w' (Value.slice aw m capw).ownBlock ∧ (v'.ownBlock = (Value.slice aw m capw).ownBlock ∨ ∃ g, v'.ownBlock = some g ∧ W.heap.size ≤ g)) := fun W hu vb hb hvb =>
    ins_any _ m ps (mwC ws) _ vb W (own_up HW.out (H2.out.trans hu)) (by have := HPS.out; omega) (by omega) hb rfl (fun e => by have := own_lt HW.out _ e; have := H2.out.size; omega) ONE.out (by intro u hu; simp at hu; rcases hu with rfl | rfl | rfl <;> rfl)
  go_region_law (first
    | (refine step_go (f := 39) Try.call39 #[.slice aw m capw, .int .i64 ps, .slice (some ⟨w2.heap.size, 0, none⟩) 1 1] (by simp [Act.eval]) (HI.out _ (by first | exact ((Up.refl _).alloc _).drew | exact (Up.refl _).drew.alloc _) w2.heap.size (by first | exact Blk.drew (Blk.new w2 _ _) | exact Blk.new w2.drew _ _) (Nat.le_refl _)) ?_
       rintro e w3 ⟨v', rfl, h1, h2, h3⟩
       refine ⟨_, rfl, ?_⟩
       obtain ⟨a3, c3, rfl, _, _, _⟩ := own_form h1
       obtain ⟨q1, q2, q3⟩ := NE.out _ (by first | exact H2.out.trans ((Up.refl _).alloc _).drew | exact H2.out.trans ((Up.refl _).drew.alloc _)) _ h2
       have hg3 : g < w3.heap.size := own_lt q1 _ rfl
       have Q1 := Lib.hid q1
       have CI : Hid (Chg (fun j => (Value.slice aw m capw).ownBlock = some j) w w3) := (by first | exact (Below.chg _ (H2.out.trans ((Up.refl _).alloc _).drew)) | exact (Below.chg _ (H2.out.trans ((Up.refl _).drew.alloc _))) : Chg (fun j => (Value.slice aw m capw).ownBlock = some j) w _).grown h2 fun j hj => .inl hj
       have H3 : Hid (∀ j, (Value.slice a3 (m + 1) c3).ownBlock = some j → (Value.slice aw m capw).ownBlock = some j ∨ w.heap.size ≤ j) := fun j hj => by
         rcases h3 with e | ⟨g', e, hg'⟩
         · exact .inl (e ▸ hj)
         · right
           rw [e] at hj
           cases hj
           have := H2.out.size
           simp at hg'
           omega
       have HO := Lib.hid h1
       clear q1 h1 h2 h3)
    | fail)
  all_goals
    go_wp2
    go_ret
    have hil : i < ts.length := HT.out.hi
    have hm := HT.out.hm
    have hps := HPS.out
    have hwv : ts[i].wv = .slice aw m capw := HT.out.wvE
    have hmem : ∀ x ∈ ws.take ps ++ (⟨k, dl, .slice ra row.length rc, row⟩ : MW) :: ws.drop ps, x ∈ ws ∨ x = ⟨k, dl, .slice ra row.length rc, row⟩ := fun x hx => by
      rcases List.mem_append.1 hx with hx | hx
      · exact .inl (List.mem_of_mem_take hx)
      · rcases List.mem_cons.1 hx with hx | hx
        · exact .inr hx
        · exact .inl (List.mem_of_mem_drop hx)
    have hlen : (ws.take ps ++ (⟨k, dl, .slice ra row.length rc, row⟩ : MW) :: ws.drop ps).length = m + 1 := by simp only [List.length_append, List.length_take, List.length_cons, List.length_drop]; show min _ _ + _ = _; omega
    have hO := HO.out
    rw [← mwC_ins ws ps ⟨k, dl, .slice ra row.length rc, row⟩] at hO
    have SC := chg_set w3 g (i * 3 + 2) none (.slice a3 (m + 1) c3)
    have CC := CI.out.or SC
    have AW : av.ownBlock = some g := by rw [HT.out.avE]; rfl
    have gT : Ty w3 g 63 := ((own_ty Q1.out) _ rfl).1
    have oA := own_set Q1.out (i * 3 + 2) (by rw [mtC_len]; omega) (.slice a3 (m + 1) c3)
    rw [mtC_set ts i hil _ (ws.take ps ++ (⟨k, dl, .slice ra row.length rc, row⟩ : MW) :: ws.drop ps)] at oA
    have e := wput_ins (ws := ws) (x := ⟨k, dl, .slice ra row.length rc, row⟩) HHH.out
    rw [hps', ← HT.out.wD] at e
    have hR := HH.out.wr (ws' := ws.take ps ++ (⟨k, dl, .slice ra row.length rc, row⟩ : MW) :: ws.drop ps) (wv' := .slice a3 (m + 1) c3) hil hid (CC.mono fun j _ e => by
        rcases e with e | e
        · exact .inl (by rw [hwv]; exact e)
        · exact .inr (by rw [e]; exact AW)) (by rw [hlen]; exact own_chg hO SC fun j hj e => by subst e; exact (((own_ty hO) _ hj).1).ne (by decide) gT)
      (by rw [HT.out.avE, HT.out.hn]; exact oA) (fun j hj => by rw [hwv]; exact H3.out j hj) (fun x hx => by
        rcases hmem x hx with hx | rfl
        · exact .inl (by rw [HT.out.wsE]; exact hx)
        · exact .inr HRW.out) (by rw [e]; exact OK.out)
    rw [e] at hR
    unfold BufPost
    rw [HP.out]
    exact ⟨rfl, _, _, hR.1, CC.mono fun j _ e => by
      rcases e with e | e
      · exact hR.2 j (.inl (by rw [hwv]; exact e))
      · exact hR.2 j (.inr (by rw [e]; exact AW))⟩
theorem buf_any (h : DbP w p q d F G av ts) (hi : 0 ≤ tidx d.act id) (hk : k.size ≤ 24) (hr : row.length ≤ 6) (hrow : RowIn w F (.slice ra row.length rc) row) :
    Calls Try.prog 23 #[.pointer (some ⟨p, 0, none⟩), .int .i64 id, .agg #[.string k, .bool dl, .slice ra row.length rc]] w (BufPost p q d F G id k dl row w) := by
  cases hh : has (d.act.getD (tidx d.act id).toNat ⟨0, 0, []⟩).w k with
  | true => exact buf_old p q d F G av ts id k dl ra rc row w h hi hk hr hh hrow
  | false =>
    by_cases hl : (d.act.getD (tidx d.act id).toNat ⟨0, 0, []⟩).w.length = 40
    · exact buf_full p q d F G av ts id k dl ra rc row w h hi hk hr hh hl
    · exact buf_new p q d F G av ts id k dl ra rc row w h hi hk hr hh hl hrow
end
end Go.Proofs.Ytnbhdpmhgamjfaa.Sn
