/- The snapshot database: Scan. -/
import Derived.Test.YtinmpodnfofmdaaSdc
namespace Go.Proofs.Ytinmpodnfofmdaa.Sn
open Go Go.RowKit Hp
open Mv (Val PC PV rowC rowC_one fm_len fm_take fm_drop fm_get fm_set fm_one RowIn StR Srt SOk pos has fx_lt fx_up ty_chg has_pos pos_le pos_eq RM rmC rmC1 rmC_len rmC_get erR RecsR scanL scan_srt cloneR)
open Go.Proofs.Ytinmpodnfofmdaa.So (slt scmp scmp_lt slt_irrefl slt_trans slt_asymm slt_total)
set_option linter.unusedVariables false

abbrev Recs := List (ByteArray × List Val)
def kA0 : ByteArray := ByteArray.empty
def addT (w : WL) : Recs := (w.filter fun x => !x.2.del).map fun x => (x.1, x.2.row)
def scanT (d : Db) (t : Tr) : Recs := ((scanL d.st t.start).filter fun x => !has t.w x.1) ++ addT t.w
theorem addT_take (w : WL) (j : Nat) (h : j < w.length) : addT (w.take (j + 1)) = addT (w.take j) ++ if w[j].2.del then [] else [(w[j].1, w[j].2.row)] := by
  unfold addT
  rw [List.take_succ_eq_append_getElem h, List.filter_append, List.map_append]
  congr 1
  cases hd : w[j].2.del <;> simp [hd]
theorem addT_len (w : WL) : (addT w).length ≤ w.length := by unfold addT; rw [List.length_map]; exact List.length_filter_le _ _
theorem has_mem {α : Type} {l : List (ByteArray × α)} (hs : Srt l) {k : ByteArray} {x : α} (h : (k, x) ∈ l) : has l k = true := by
  obtain ⟨i, hi, e⟩ := List.getElem_of_mem h
  have ek : l[i].1 = k := by rw [e]
  have hp : pos l k = i := pos_eq (Nat.le_of_lt hi) (fun j hj hji => by rw [← ek]; exact hs.get hji hi) fun _ => by rw [ek]; exact slt_irrefl k
  unfold has
  exact decide_eq_true ⟨by omega, by have : l[pos l k]'(by omega) = l[i] := by congr 1
                                     rw [this]; exact ek⟩
/-- No key stands twice. -/
def Apart (l : Recs) : Prop := l.Pairwise fun a b => a.1 ≠ b.1
theorem srt_apart {l : Recs} (h : Srt l) : Apart l := h.imp fun h e => by rw [e] at h; exact slt_irrefl _ h
theorem scanT_apart {d : Db} (ok : DOk d) {t : Tr} (ht : t ∈ d.act) : Apart (scanT d t) := by
  refine List.pairwise_append.2 ⟨(srt_apart (scan_srt ok.st.srt t.start)).sublist List.filter_sublist, ?_, fun a ha b hb e => ?_⟩
  · unfold addT
    refine List.pairwise_map.2 ((ok.srt t ht).sublist List.filter_sublist |>.imp fun h e => ?_)
    simp only at e
    rw [e] at h
    exact slt_irrefl _ h
  · have h1 := (List.mem_filter.1 ha).2
    obtain ⟨x, hx, rfl⟩ := List.mem_map.1 hb
    have h2 := has_mem (x := x.2) (ok.srt t ht) (k := x.1) (List.mem_filter.1 hx).1
    simp only at e
    rw [e, h2] at h1
    exact absurd h1 (by decide)
theorem sorted_of {rs rs' : List RM} (hp : rs'.Perm rs) (hs : rs'.Pairwise fun a b => ¬ slt b.key a.key) (ha : Apart (rs.map erR)) : Srt (rs'.map erR) := by
  have ha2 : Apart (rs'.map erR) := (List.Perm.pairwise_iff (fun {x y} h => Ne.symm h) (hp.map erR)).2 ha
  refine List.pairwise_map.2 ?_
  have h3 := List.pairwise_map.1 ha2
  refine (hs.and h3).imp fun ⟨h1, h2⟩ => ?_
  rcases Decidable.em (slt (erR _).1 (erR _).1) with h | h
  · exact h
  · exact absurd (slt_total h h1) h2

theorem recs_rvs {w : World} {B : Nat} {rs : List RM} (h3 : ∀ r ∈ rs, w.ownsRow B 39 3 r.rv r.row.length (rowC r.row)) : RvS rs := fun r hr => by
  obtain ⟨a, c, e, _⟩ := own_form (h3 r hr)
  exact ⟨a, _, c, e⟩
theorem recs_one {rs : List RM} (h : RvS rs) : ∀ u ∈ rmC rs, u.oneCell' = true := fun u hu => by
  obtain ⟨r, hr, hu⟩ := List.mem_flatMap.1 hu
  obtain ⟨a, n, c, e⟩ := h r hr
  simp only [rmC1, List.mem_cons, List.not_mem_nil, or_false] at hu
  rcases hu with rfl | rfl
  · rfl
  · rw [e]; rfl
theorem recs_keep {w w' : World} {B : Nat} {v v' : Value} {rs rs' : List RM} (h2 : w.ownsRow B 45 2 v rs.length (rmC rs)) (h3 : ∀ r ∈ rs, w.ownsRow B 39 3 r.rv r.row.length (rowC r.row)) (hc : Chg (fun j => v.ownBlock = some j) w w')
    (ho : w'.ownsRow B 45 2 v' rs'.length (rmC rs')) (hm : ∀ r ∈ rs', r ∈ rs) (h4 : rs'.Pairwise fun a b => ∀ k, a.rv.ownBlock = some k → b.rv.ownBlock ≠ some k) : RecsR w' B v' (rs'.map erR) :=
  ⟨rs', rfl, ho, fun r hr => own_chg (h3 r (hm r hr)) hc fun k hk e => (((own_ty (h3 r (hm r hr))) k hk).1).ne (by decide) ((own_ty h2) k e).1, h4⟩
theorem keep_map (p : ByteArray → Bool) (rs : List RM) : (keepR p rs).map erR = (rs.map erR).filter fun x => !p x.1 := by
  unfold keepR
  rw [List.filter_map]
  rfl
theorem apart_symm {rs rs' : List RM} (hp : rs'.Perm rs) (h : rs.Pairwise fun a b => ∀ k, a.rv.ownBlock = some k → b.rv.ownBlock ≠ some k) : rs'.Pairwise fun a b => ∀ k, a.rv.ownBlock = some k → b.rv.ownBlock ≠ some k :=
  (List.Perm.pairwise_iff (fun {x y} h k hk e => h k e hk) hp).2 h
def SnPost (w : World) (d : Db) (t : Tr) (e : Ending) (w' : World) : Prop := ∃ v l, e = .returned (.tuple #[v, .int .i64 0]) ∧ RecsR w' w.heap.size v l ∧ Srt l ∧ l.Perm (scanT d t) ∧ Up w w'
theorem rcell2 (w : World) (g : Nat) (hg : w.heap.size = g) (a b : Value) (E : TypeId) : ∀ (j : Nat) u, [a, b][j]? = some u → (w.alloc (.cells #[a, b] E)).cell? ((⟨g, 0, none⟩ : Addr).add j) = some u := by
  subst hg
  exact cells_new w #[a, b] E
set_option maxRecDepth 100000 in
set_option maxHeartbeats 4000000 in
theorem scan_any (p q : Nat) (d : Db) (F G : Nat → Prop) (av : Value) (ts : List MT) (id : Int) (w : World) (h : DbP w p q d F G av ts) {t : Tr} (ht : tr d id = some t) :
    Calls Try.prog 44 #[.pointer (some ⟨p, 0, none⟩), .int .i64 id] w (SnPost w d t) := by
  obtain ⟨i0, hi0, hz0, hz1, hz2⟩ := info_parts Try.info_cloneRec
  obtain ⟨hi, hix, hit, _, htm⟩ := tr_at ht
  obtain ⟨i, g, n, cap, m, capw, aw, ws, T⟩ := h.at_ hi
  have hti : (tidx d.act id).toNat = i := by have := T.ti; omega
  have hdt : d.act[i]'T.hd = t := by rw [← hit]; congr 1; exact hti.symm
  have hwD : t.w = ws.map erW := by rw [← hdt]; exact T.wD
  have hsD : t.start = (ts[i]'T.hi).start := by rw [← hdt]; exact T.sD.1
  have hst := (h.ok.start t htm).1
  have HG := Lib.hid fun W hW => Mv.scan_any q d.st d.hz G t.start W hW (by omega)
  have HST := Lib.hid h.st
  have C0 : Hid (At w p 0 (.pointer (some ⟨q, 0, none⟩))) := ⟨h.blk.lt, h.blk.cell 0⟩
  have C1 : Hid (At w g (i * 3 + 1) (.int .i64 t.start)) := by rw [hsD]; exact T.c1
  have C2 : Hid (At w g (i * 3 + 2) (.slice aw m capw)) := T.c2
  have HM := Lib.hid T.hm
  have M40 := T.len.1
  have HOW : Hid (w.ownsRow 0 105 3 (.slice aw m capw) m (mwC ws)) := by have := h.wrs _ (List.getElem_mem T.hi); rw [T.wvE, T.wsE, T.hm] at this; exact this
  have BA := Lib.hid (h.bufAt T (k := kA0) rfl)
  have b1 := BA.out.bi
  have HS : Hid (∀ W, Up w W → ∀ k, Calls Try.prog 56 #[.pointer (some ⟨g, i * 3, none⟩), .string k] W fun e w' => e = .returned (.tuple #[.int .i64 (pos (ws.map erW) k : Nat), .bool (has (ws.map erW) k)]) ∧ Up W w') := fun W hu k => (h.bufAt T (k := k) rfl).sc W hu
  have HRV : Hid (∀ x ∈ ws, ∃ a n c, x.rv = .slice a n c) := fun x hx => by
    rcases (h.rws _ (List.getElem_mem T.hi) x (by rw [T.wsE]; exact hx)).1.2 with ⟨e, _⟩ | ⟨b, off, cap, e, _⟩
    · exact ⟨_, _, _, e⟩
    · exact ⟨_, _, _, e⟩
  have HRW : Hid (∀ x ∈ ws, Src w 3 x.rv x.row.length (rowC x.row) ∧ x.row.length ≤ 6) := fun x hx => ⟨(h.rws _ (List.getElem_mem T.hi) x (by rw [T.wsE]; exact hx)).1, (h.ok.key _ (List.getElem_mem T.hd) (erW x) (by rw [T.wD]; exact List.mem_map.2 ⟨x, hx, rfl⟩)).2⟩
  have SL : Hid ((scanL d.st t.start).length ≤ 400) := Nat.le_trans (Mv.scan_len _ _) h.ok.st.len
  have AP := Lib.hid (scanT_apart h.ok htm)
  have HSC : Hid (scanT d t = ((scanL d.st t.start).filter fun x => !has (ws.map erW) x.1) ++ addT (ws.map erW)) := by unfold Hid scanT; rw [hwD]
  have hmf : ∀ (fn : Fn) (first cap : Array Value) (w : World), (Instr.makeFunc fn first cap).run Try.prog w = .ok (.func fn first cap) w := fun _ _ _ _ => rfl
  generalize hy : t.start = y at *
  generalize hsl : scanL d.st y = sl at *
  have HSL := Lib.hid hsl
  clear h T hit hix hi hdt hwD hsD hti ht hst hsl
  go_enter Try.func44, Try.ntmps44
  go_wp2_with (first
    | (go_at_call 54; refine (BA.out.ix _ (Up.refl w)).mono ?_; rintro e w1 ⟨rfl, h1⟩; have H1 := Lib.hid h1; have c3 := (BA.out.c3.grow H1.out).2; clear h1)
    | fail)
  clear c3
  have UT := Lib.hid (H1.out.alloc (.cells #[.pointer (some ⟨g, i * 3, none⟩)] 109))
  have TB := Lib.hid (At.new w1 #[.pointer (some ⟨g, i * 3, none⟩)] 109 0 (.pointer (some ⟨g, i * 3, none⟩)) rfl)
  obtain ⟨wt, hwt⟩ : ∃ wt : World, wt = w1.alloc (.cells #[.pointer (some ⟨g, i * 3, none⟩)] 109) := ⟨_, rfl⟩
  rw [← hwt] at UT TB ⊢
  clear hwt
  generalize w1.heap.size = tb at *
  have TEL := Lib.hid (sc1_any tb g (i * 3) wt ws TB.out fun W hu k => HS.out W (UT.out.trans hu) k)
  have HC0 := Lib.hid (C0.out.grow UT.out)
  have HC1 := Lib.hid (C1.out.grow UT.out)
  have HC2 := Lib.hid (C2.out.grow UT.out)
  have p0 := HC0.out.2
  have p1 := HC1.out.2
  have p2 := TB.out.2
  have l0 := HC0.out.1
  have l1 := HC1.out.1
  have l2 := TB.out.1
  have HL0 := Lib.hid l0
  have SCN : Hid (∀ W, Up wt W → W.heap.size = wt.heap.size → Calls Try.prog 26 #[.pointer (some ⟨q, 0, none⟩), .int .i64 y] W fun e w2 => ∃ va vc rs, e = .returned (.tuple #[.slice va (List.length rs) vc, .int .i64 0]) ∧ List.map erR rs = sl ∧ w2.ownsRow wt.heap.size 45 2 (.slice va rs.length vc) rs.length (rmC rs) ∧ (∀ r ∈ rs, w2.ownsRow wt.heap.size 39 3 r.rv r.row.length (rowC r.row)) ∧ (rs.Pairwise fun a b => ∀ k, a.rv.ownBlock = some k → b.rv.ownBlock ≠ some k) ∧ Up wt w2) := fun W hu hz => by
    refine (HG.out W (HST.out.up (UT.out.trans hu))).mono ?_
    rintro e w2 ⟨v, rfl, ⟨rs, q1, q2, q3, q4⟩, h7⟩
    obtain ⟨va, vc, rfl, _, _, _⟩ := own_form q2
    rw [hz] at q2 q3
    exact ⟨va, vc, rs, rfl, q1, q2, q3, q4, hu.trans h7⟩
  go_region_held3 (fun w' => w'.cell? ⟨p, 0, none⟩ = some (.pointer (some ⟨q, 0, none⟩)) ∧ w'.cell? ⟨tb, 0, none⟩ = some (.pointer (some ⟨g, i * 3, none⟩)) ∧ w'.cell? ⟨g, i * 3 + 1, none⟩ = some (.int .i64 y))
    (first | exact ⟨s0, s2, s1⟩ | go_keep)
    (first
      | (go_at_call 26; refine (SCN.out _ (by first | exact Up.refl wt | exact (Up.refl wt).drew) (by rfl)).mono ?_; rintro e w2 ⟨va, vc, rs, rfl, q1, q2, q3, q4, h7⟩; have s0 := (HC0.out.grow h7).2; have s1 := (HC1.out.grow h7).2; have s2 := (TB.out.grow h7).2; have Q1 := Lib.hid q1; have Q2 := Lib.hid q2; have Q3 := Lib.hid q3; have Q4 := Lib.hid q4; have U2 := Lib.hid h7; clear q1 q2 q3 q4 h7)
      | fail)
  have hrl : rs.length ≤ 400 := by have := SL.out; rw [← Q1.out, List.length_map] at this; exact this
  have HDF := Lib.hid (delf_any wt tb (has (ws.map erW)) TEL.out wt.heap.size _ rs w2 U2.out (Nat.le_refl _) Q2.out (recs_rvs Q3.out) (by omega))
  have R3 : Hid (∀ v' w3, w3.ownsRow wt.heap.size 45 2 v' (keepR (has (ws.map erW)) rs).length (rmC (keepR (has (ws.map erW)) rs)) → Chg (fun j => (Value.slice va rs.length vc).ownBlock = some j) w2 w3 → RecsR w3 wt.heap.size v' (sl.filter fun x => !has (ws.map erW) x.1) ∧ Up wt w3) := fun v' w3 ho hc => by
    refine ⟨?_, (U2.out.chg fun _ => False).trans hc (fun j hj e => by have := ((own_ty Q2.out) j e).2; omega) |>.up fun _ _ e => e⟩
    rw [← Q1.out, ← keep_map]
    exact recs_keep Q2.out Q3.out hc ho (fun r hr => (List.mem_filter.1 hr).1) (Q4.out.sublist List.filter_sublist)
  go_wp2_with (first
    | (go_at_call 60; refine HDF.out.mono ?_; rintro e w3 ⟨v3, rfl, h3, h4, _⟩; obtain ⟨a3, c3, rfl, _, _, _⟩ := own_form h3; obtain ⟨r3, u3⟩ := R3.out _ _ h3 h4; have RR := Lib.hid r3; have U3 := Lib.hid u3; have d2 := (TB.out.grow u3).2; have d2l := (TB.out.grow u3).1; have d3 := (HC2.out.grow u3).2; have d3l := (HC2.out.grow u3).1; clear h3 h4 r3 u3)
    | fail)
  obtain ⟨fl, hfl⟩ : ∃ fl, fl = sl.filter fun x => !has (ws.map erW) x.1 := ⟨_, rfl⟩
  rw [← hfl] at RR HSC
  have FL : Hid (fl.length ≤ 400) := by unfold Hid; rw [hfl]; exact Nat.le_trans (List.length_filter_le _ _) SL.out
  obtain ⟨B, hBq⟩ : ∃ B, B = wt.heap.size := ⟨_, rfl⟩
  have HBW : Hid (w.heap.size ≤ B) := by rw [hBq]; exact UT.out.size
  have HB := Lib.hid hBq
  rw [← hBq] at RR
  clear R3 HDF SCN hfl hBq hmf p0 p1 p2 l0 l1 l2 d2 d2l d3 d3l
  go_loopw [11, 49] (fun v iv wr => ∃ j : Nat, j ≤ m ∧ iv = .int .i64 j ∧ Hid (RecsR wr B v (fl ++ addT ((ws.map erW).take j))) ∧ Hid (Up wt wr)) (fun _ iv _ => m - (intOf iv).toNat)
  case atStart => exact ⟨0, by omega, rfl, by have := RR.out; unfold Hid; simpa [addT] using this, U3.out⟩
  case round =>
    obtain ⟨j, hj, rfl, HR, HU⟩ := hrel
    obtain ⟨xs, hr1, hr2, hr3, hr4⟩ := HR.out
    obtain ⟨xa, xc, rfl, _, _, _⟩ := own_form hr2
    have HR1 := Lib.hid hr1
    have HR2 := Lib.hid hr2
    have HR3 := Lib.hid hr3
    have HR4 := Lib.hid hr4
    have hxl : xs.length ≤ 440 := by
      have h1 := congrArg List.length hr1
      rw [List.length_map, List.length_append] at h1
      have h2 := addT_len ((ws.map erW).take j)
      rw [List.length_take] at h2
      have h3 : min j (ws.map erW).length ≤ j := Nat.min_le_left _ _
      have := FL.out
      omega
    clear hr1 hr2 hr3 hr4
    by_cases hlt : j < m
    · have hj1 : j < ws.length := by have := HM.out; omega
      have hj2 : j < (ws.map erW).length := by rw [List.length_map]; exact hj1
      obtain ⟨gw, cap', hv, _, _, hcc⟩ := Mv.own_cell (own_up HOW.out (UT.out.trans HU.out)) (by omega)
      simp only [Value.slice.injEq] at hv
      obtain ⟨rfl, _, rfl⟩ := hv
      obtain ⟨g0, g1, g2⟩ := mwC_get ws j hj1
      obtain ⟨ra, rn, rc, hrv⟩ := HRV.out _ (List.getElem_mem hj1)
      have HST1 := addT_take (ws.map erW) j hj2
      rw [List.getElem_map] at HST1
      rw [show (erW ws[j]).2.del = ws[j].del from rfl, show (erW ws[j]).1 = ws[j].key from rfl, show (erW ws[j]).2.row = ws[j].row from rfl] at HST1
      have HRO := Lib.hid (HRW.out _ (List.getElem_mem hj1))
      rw [hrv] at g2 HRO
      have e0 := (hcc _ _ g0).2
      have e1 := (hcc _ _ g1).2
      have e2 := (hcc _ _ g2).2
      have bj : (j : Int) < (m : Int) := by omega
      generalize ws[j].key = key at *
      generalize ws[j].row = row at *
      cases hdl : ws[j].del with
      | true =>
        rw [hdl] at e1 HST1
        rw [if_pos rfl, List.append_nil] at HST1
        have HST := Lib.hid HST1
        clear hcc g0 g1 g2 hrv hdl HST1
        go_wp2
        go_roundw
        case rel => exact ⟨j + 1, by omega, by go_num, by unfold Hid; rw [HST.out]; exact HR.out.up ((Up.refl _).alloc _), HU.out.alloc _⟩
        case measure => simp [intOf]; omega
      | false =>
        rw [hdl] at e1 HST1
        rw [if_neg (by decide)] at HST1
        have HST := Lib.hid HST1
        clear hcc g0 g1 g2 hrv hdl HST1
        go_wp2
        obtain ⟨W, hW⟩ : ∃ W, W = wr.alloc (.cells #[.string key, .bool false, .slice ra rn rc] 105) := ⟨_, rfl⟩
        rw [← hW]
        have Y1 : Hid (At W wr.heap.size 0 (.string key)) := by unfold Hid; rw [hW]; exact At.new _ _ _ 0 _ rfl
        have Z2 : Hid (At W wr.heap.size 2 (.slice ra rn rc)) := by unfold Hid; rw [hW]; exact At.new _ _ _ 2 _ rfl
        have HWr : Hid (Up wr W) := by unfold Hid; rw [hW]; exact (Up.refl _).alloc _
        have hzw : B ≤ wr.heap.size := by rw [HB.out]; exact HU.out.size
        have HZW := Lib.hid hzw
        have c2 := Z2.out.2
        have c3 := Y1.out.2
        have HCL : Hid (∀ W', Up W W' → Calls Try.prog 48 #[.slice ra rn rc] W' fun e w' => ∃ nv, e = .returned nv ∧ w'.ownsRow W.heap.size 39 3 nv row.length (rowC row) ∧ Up W w') := fun W' hu => by
          refine (cloneR _ _ _ W' (HRO.out.1.up ((UT.out.trans HU.out).trans (HWr.out.trans hu))) (rowC_one _) (by have := HRO.out.2; omega)).mono ?_
          rintro e w' ⟨nv, rfl, h6, h7⟩
          exact ⟨nv, rfl, own_base' h6 fun k hk => by have := ((own_ty h6) k hk).2; have := hu.size; omega, hu.trans h7⟩
        clear hW e0 e1 e2 hzw
        go_region_held3 (fun w' => w'.cell? ⟨wr.heap.size, 0, none⟩ = some (.string key) ∧ w'.cell? ⟨wr.heap.size, 2, none⟩ = some (.slice ra rn rc))
          (first | exact ⟨s1, s2⟩ | exact ⟨r1, r2⟩ | go_keep)
          (first
            | (refine (HCL.out _ (by first | exact Up.refl W | exact (Up.refl W).drew)).mono ?_; rintro e w3 ⟨nv, rfl, h6, h7⟩; obtain ⟨an, cn, rfl, _, _, _⟩ := own_form h6; have r1 := (Y1.out.grow h7).2; have r2 := (Z2.out.grow h7).2; have H8 := Lib.hid h6; have H9 := Lib.hid h7; clear h6 h7)
            | (refine step_append_lies _ rfl (.tmp 56) (.tmp 63) 41 rfl B 45 i0 (.agg #[.string ByteArray.empty, .slice none 0 0]) 2 40 Try.underlying41 hi0 hz0 hz1 hz2 rfl (by decide) (.slice xa xs.length xc) xs.length (rmC xs) (by rfl) (by first | exact own_up HR2.out ((HWr.out.trans H9.out).alloc _) | exact own_up HR2.out (((HWr.out.trans H9.out).alloc _).drew)) ⟨w3.heap.size, 0, none⟩ 1 1 [.string key, .slice an row.length cn] (by rfl) rfl (rcell2 w3 w3.heap.size rfl _ _ _) (by intro u hu; simp at hu; rcases hu with rfl | rfl <;> rfl) (by decide) (by unfold maxLen; omega) (by omega) (by have := (HWr.out.trans H9.out).size; have := HZW.out; simp; omega) (w3.heap.size + 1) (by simp) ?_
               intro g2 c2 w4 hown2 hgrow2 hat2 hlt2
               have HC : Hid (Chg (fun j => (Value.slice xa xs.length xc).ownBlock = some j) w3 w4) := ((Chg.refl _ w3).alloc _).grown hgrow2 fun k hk => .inl hk
               have NV : Hid (∀ j, (Value.slice xa xs.length xc).ownBlock = some j → j < wr.heap.size ∧ B ≤ j) := fun j hj => ⟨own_lt HR2.out j hj, ((own_ty HR2.out) j hj).2⟩
               have s1 := (HC.out.cell (b := wr.heap.size) (o := 0) (Y1.out.grow H9.out).1 (fun e => by have := (NV.out _ e).1; omega)).trans r1
               have s2 := (HC.out.cell (b := wr.heap.size) (o := 2) (Z2.out.grow H9.out).1 (fun e => by have := (NV.out _ e).1; omega)).trans r2
               have hown2 := Lib.hid hown2
               have hgrow2 := Lib.hid hgrow2
               have hat2 := Lib.hid hat2)
            | fail)
        all_goals
          go_wp2
          go_roundw
          case rel =>
            refine ⟨j + 1, by omega, by go_num, ?_, ?_⟩
            · unfold Hid
              rw [HST.out, ← List.append_assoc, ← HR1.out]
              exact RecsR.snoc HR2.out HR3.out HR4.out HZW.out HWr.out H8.out H9.out hown2.out HC.out
            · exact ((HU.out.trans (HWr.out.trans H9.out)).chg fun _ => False).trans HC.out (fun k hk e => by have := (NV.out k e).2; have := HB.out; omega) |>.up fun _ _ e => e
          case measure => simp [intOf]; omega
    · obtain rfl : j = m := by omega
      have hal : (ws.map erW).take j = ws.map erW := List.take_of_length_le (by rw [List.length_map]; have := HM.out; omega)
      have HL : Hid (xs.map erR = scanT d t) := by unfold Hid; rw [HSC.out, HR1.out, hal]
      have HSR := Lib.hid (sortR_any B _ xs wr HR2.out (recs_rvs HR3.out) (by omega))
      clear hal
      go_wp2_with (first
        | (go_at_call 62; refine HSR.out.mono ?_; rintro e w5 ⟨rfl, ys, y1, y2, y3, y4⟩; have Y1 := Lib.hid y1; have Y2 := Lib.hid y2; have Y3 := Lib.hid y3; have Y4 := Lib.hid y4; have HYV : Hid (RvS ys) := (fun r hr => recs_rvs HR3.out r (y1.mem_iff.1 hr)); clear y1 y2 y3 y4)
        | (go_at_call 65; refine (cloneRec _ _ _ w5 (own_src Y3.out) (recs_one HYV.out) (by omega)).mono ?_; rintro e w6 ⟨v6, rfl, h6, h7⟩; have H6 := Lib.hid h6; have H7 := Lib.hid h7; clear h6 h7)
        | fail)
      go_ret2
      have hU5 : Up wt w5 := ((HU.out.chg fun _ => False).trans Y4.out (fun k hk e => by have := ((own_ty HR2.out) k e).2; have := HB.out; omega)).up fun _ _ e => e
      have hyl : ys.length = xs.length := Y1.out.length_eq
      have hr := recs_keep HR2.out HR3.out Y4.out (by rw [hyl]; exact Y3.out) (fun r hr => Y1.out.mem_iff.1 hr) (apart_symm Y1.out HR4.out)
      obtain ⟨zs, z1, z2, z3, z4⟩ := hr
      have hs5 := hU5.size
      have hB5 := HB.out
      have hwB := HBW.out
      refine ⟨_, ys.map erR, rfl, ⟨ys, rfl, ?_, fun r hrm => ?_, apart_symm Y1.out HR4.out⟩, sorted_of Y1.out Y2.out (by rw [HL.out]; exact AP.out), ?_, (UT.out.trans hU5).trans H7.out⟩
      · rw [hyl]
        exact own_base' H6.out fun k hk => by have := ((own_ty H6.out) k hk).2; omega
      · have := HR3.out r (Y1.out.mem_iff.1 hrm)
        have h8 := own_up (own_chg this Y4.out fun k hk e => (((own_ty this) k hk).1).ne (by decide) ((own_ty HR2.out) k e).1) H7.out
        exact own_base' h8 fun k hk => by have := ((own_ty h8) k hk).2; omega
      · rw [← HL.out]
        exact Y1.out.map erR
theorem scanO {w0 w : World} {K : Nat → Prop} {p : Nat} {d : Db} (h : Own w0 K w p d) {id : Int} {t : Tr} (ht : tr d id = some t) :
    Calls Try.prog 44 #[.pointer (some ⟨p, 0, none⟩), .int .i64 id] w (SnPost w d t) := by
  obtain ⟨F, ⟨q, F1, G, av, ts, h1, _⟩, _⟩ := h
  exact scan_any p q d F1 G av ts id w h1 ht
end Go.Proofs.Ytinmpodnfofmdaa.Sn
