/- The snapshot database: Get. -/
import Derived.Test.YtnbhdpmhgamjfaaSnr
namespace Go.Proofs.Ytnbhdpmhgamjfaa.Sn
open Go Go.RowKit Hp So
open Mv (Val PC PV rowC rowC_one fm_len fm_take fm_drop fm_get fm_set fm_one RowIn StR Srt SOk pos has fx_lt fx_up ty_chg has_pos pos_le vacuumL cloneR latL cnt addL rowV kA getL GetPost)
set_option linter.unusedVariables false

def wr0 : Wr := ⟨false, []⟩
def getT (d : Db) (t : Tr) (k : ByteArray) : List Val × Int :=
  if has t.w k = true then (if (t.w.getD (pos t.w k) (k, wr0)).2.del = true then ([], 4) else ((t.w.getD (pos t.w k) (k, wr0)).2.row, 0)) else getL d.st d.hz k t.start
set_option maxRecDepth 100000 in
set_option maxHeartbeats 4000000 in
theorem get_any (p q : Nat) (d : Db) (F G : Nat → Prop) (av : Value) (ts : List MT) (id : Int) (k : ByteArray) (w : World) (h : DbP w p q d F G av ts) {t : Tr} (ht : tr d id = some t) :
    Calls Try.prog 16 #[.pointer (some ⟨p, 0, none⟩), .int .i64 id, .string k] w (GetPost w (getT d t k).1 (getT d t k).2) := by
  obtain ⟨hi, hix, hit, _, _⟩ := tr_at ht
  obtain ⟨i, g, n, cap, m, capw, aw, ws, T⟩ := h.at_ hi
  have hti : (tidx d.act id).toNat = i := by have := T.ti; omega
  have hdt : d.act[i]'T.hd = t := by rw [← hit]; congr 1; exact hti.symm
  have hwD : t.w = ws.map erW := by rw [← hdt]; exact T.wD
  have hsD : t.start = (ts[i]'T.hi).start := by rw [← hdt]; exact T.sD.1
  have HG := Lib.hid (Mv.get_any q d.st d.hz G k t.start)
  have HST := Lib.hid h.st
  have c0 := h.blk.cell 0
  have hpl := h.blk.lt
  have C0 : Hid (At w p 0 (.pointer (some ⟨q, 0, none⟩))) := ⟨hpl, c0⟩
  have C1 : Hid (At w g (i * 3 + 1) (.int .i64 t.start)) := by rw [hsD]; exact T.c1
  have HM := T.hm
  cases hh : has (ws.map erW) k with
  | false =>
    have HP : Hid (getT d t k = getL d.st d.hz k t.start) := by unfold Hid getT; rw [hwD, hh]; rfl
    have BA := Lib.hid (h.bufAt T hh)
    have b1 := BA.out.bi
    generalize t.start = y at *
    clear h T hit hix hi hdt hwD hsD hti ht c0 hh
    go_enter Try.func16, Try.ntmps16
    go_wp2_with (first
      | (have tok := H1; go_at_call 30; refine (BA.out.sc _ H1.out).mono ?_; rintro e w2 ⟨rfl, h2⟩; have H2 := Lib.hid (H1.out.trans h2); have c2 := (C1.out.grow H2.out).2; have c0 := (C0.out.grow H2.out).2; clear h2)
      | (go_at_call 21; refine (BA.out.ix _ (Up.refl w)).mono ?_; rintro e w1 ⟨rfl, h1⟩; have H1 := Lib.hid h1; have c3 := (BA.out.c3.grow H1.out).2; clear h1)
      | fail)
    have HC1 := Lib.hid (C1.out.grow H2.out)
    have HC0 := Lib.hid (C0.out.grow H2.out)
    go_region_held3 (fun w' => w'.cell? ⟨p, 0, none⟩ = some (.pointer (some ⟨q, 0, none⟩)) ∧ w'.cell? ⟨g, i * 3 + 1, none⟩ = some (.int .i64 y))
      (first | exact ⟨s0, s1⟩ | go_keep)
      (first
        | (go_at_call 31; refine (HG.out _ (HST.out.up (by first | exact H2.out | exact H2.out.drew))).mono ?_; rintro e w6 ⟨v, rfl, h6, h7⟩; have h7' : Up w2 w6 := (by first | exact h7 | exact (Up.refl w2).drew.trans h7); have s0 := (HC0.out.grow h7').2; have s1 := (HC1.out.grow h7').2; have H6 := Lib.hid h6; have H7 := Lib.hid h7'; clear h6 h7 h7')
        | fail)
    all_goals
      go_wp2
      go_ret2
      rw [HP.out]
      refine ⟨_, rfl, own_base' H6.out fun j hj => ?_, H2.out.trans H7.out⟩
      have := ((own_ty H6.out) j hj).2
      have := H2.out.size
      have hz : w2.drew.heap.size = w2.heap.size := rfl
      omega
  | true =>
    obtain ⟨hp, he⟩ := has_pos hh
    have hps : pos (ws.map erW) k < ws.length := by rwa [List.length_map] at hp
    have BA := Lib.hid (h.bufAt T hh)
    have b1 := BA.out.bi
    have HW : Hid (w.ownsRow 0 73 3 (.slice aw m capw) m (mwC ws)) := by have := h.wrs _ (List.getElem_mem T.hi); rw [T.wvE, T.wsE, T.hm] at this; exact this
    have HR := Lib.hid (h.rws _ (List.getElem_mem T.hi) (ws[pos (ws.map erW) k]) (by rw [T.wsE]; exact List.getElem_mem hps)).1
    have hrl := (h.ok.key _ (List.getElem_mem T.hd) (erW ws[pos (ws.map erW) k]) (by rw [T.wD]; exact List.mem_map.2 ⟨_, List.getElem_mem hps, rfl⟩)).2
    obtain ⟨gw, cap', hv, _, _, hcc⟩ := Mv.own_cell HW.out (by omega)
    simp only [Value.slice.injEq] at hv
    obtain ⟨rfl, _, rfl⟩ := hv
    obtain ⟨g0, g1, g2⟩ := mwC_get ws _ hps
    have e1 := Lib.hid (hcc _ _ g1)
    have e2 := Lib.hid (hcc _ _ g2)
    obtain ⟨ra, rc, hrv⟩ := Mv.src_rn HR.out
    have HP : Hid (getT d t k = if ws[pos (ws.map erW) k].del = true then ([], 4) else (ws[pos (ws.map erW) k].row, 0)) := by
      unfold Hid getT
      rw [hwD, if_pos hh]
      have : (ws.map erW).getD (pos (ws.map erW) k) (k, wr0) = erW ws[pos (ws.map erW) k] := by simp [List.getD, hps]
      rw [this]
      rfl
    rw [hrv] at HR e2
    have b2 : ((pos (ws.map erW) k : Nat) : Int) < (m : Int) := by omega
    generalize hps' : pos (ws.map erW) k = ps at *
    generalize ws[ps].del = dl at *
    have hrl' : ws[ps].row.length ≤ 6 := hrl
    generalize ws[ps].row = row at *
    clear h T hit hix hi hdt hwD hsD hti ht c0 hh hcc g0 g1 g2 hrv he hp hrl hps
    cases dl with
    | true =>
      rw [if_pos rfl] at HP
      go_enter Try.func16, Try.ntmps16
      go_wp2_with (first
        | (have tok := H1; go_at_call 30; refine (BA.out.sc _ H1.out).mono ?_; rw [hps']; rintro e w2 ⟨rfl, h2⟩; have H2 := Lib.hid (H1.out.trans h2); have c2 := (BA.out.c2.grow H2.out).2; have x1 := (e1.out.grow H2.out).2; clear h2)
        | (go_at_call 21; refine (BA.out.ix _ (Up.refl w)).mono ?_; rintro e w1 ⟨rfl, h1⟩; have H1 := Lib.hid h1; have c3 := (BA.out.c3.grow H1.out).2; clear h1)
        | fail)
      go_ret2
      rw [HP.out]
      exact ⟨_, rfl, World.ownsRow_nil _ _ _ _, H2.out⟩
    | false =>
      rw [if_neg (by decide)] at HP
      go_enter Try.func16, Try.ntmps16
      go_wp2_with (first
        | (have tok := H2; go_at_call 24; refine (cloneR _ _ _ w2 (HR.out.up H2.out) (rowC_one _) (by omega)).mono ?_; rintro e w3 ⟨nv, rfl, h3, h4⟩; have H3 := Lib.hid h3; have H4 := Lib.hid h4; clear h3 h4)
        | (have tok := H1; go_at_call 30; refine (BA.out.sc _ H1.out).mono ?_; rw [hps']; rintro e w2 ⟨rfl, h2⟩; have H2 := Lib.hid (H1.out.trans h2); have c2 := (BA.out.c2.grow H2.out).2; have x1 := (e1.out.grow H2.out).2; have x2 := (e2.out.grow H2.out).2; clear h2)
        | (go_at_call 21; refine (BA.out.ix _ (Up.refl w)).mono ?_; rintro e w1 ⟨rfl, h1⟩; have H1 := Lib.hid h1; have c3 := (BA.out.c3.grow H1.out).2; clear h1)
        | fail)
      go_ret2
      rw [HP.out]
      refine ⟨_, rfl, own_base' H3.out fun j hj => ?_, H2.out.trans H4.out⟩
      have := ((own_ty H3.out) j hj).2
      have := H2.out.size
      omega
theorem getO {w0 w : World} {K : Nat → Prop} {p : Nat} {d : Db} (h : Own w0 K w p d) {id : Int} {t : Tr} (ht : tr d id = some t) (k : ByteArray) :
    Calls Try.prog 16 #[.pointer (some ⟨p, 0, none⟩), .int .i64 id, .string k] w (GetPost w (getT d t k).1 (getT d t k).2) := by
  obtain ⟨F, ⟨q, F1, G, av, ts, h1, _⟩, _⟩ := h
  exact get_any p q d F1 G av ts id k w h1 ht
end Go.Proofs.Ytnbhdpmhgamjfaa.Sn
