/- SnapshotReadsAreStable. -/
import Derived.Test.YtinmpodnfofmdaaSde
import Derived.Deep.DeepCutAuto
import Derived.Deep.CutRange
namespace Go.Proofs.Ytinmpodnfofmdaa.Sn
open Go Go.RowKit Hp
open Mv (Val PC PV rowC rowC_one fm_len fm_take fm_drop fm_get fm_set fm_one RowIn StR Srt SOk pos has fx_lt fx_up ty_chg has_pos pos_le RM rmC rmC1 rmC_len rmC_get erR RecsR RecsS scanL scan_srt cloneR rowV row_any equalR_same eqrecs_any cnt getL vis1 addL adL vacL scan_vac scan_ad)
set_option linter.unusedVariables false

theorem fin_scan58 {d : Db} (ok : DOk d) (i : Nat) {ts : Int} (h : oldL d.clock (d.act.eraseIdx i) ≤ ts) : scanL (finD d i).st ts = scanL d.st ts := by
  obtain ⟨_, _, _, h4⟩ := fin_hz ok i
  unfold finD
  rcases h4 with h4 | h4 <;> rw [h4]
  exact scan_vac ok.st h
theorem adL_srt {l : List PC} (hs : Srt l) (k : ByteArray) (v : PV) : Srt (adL l k v) := by
  unfold adL
  split
  · rename_i hh
    obtain ⟨hp, he⟩ := has_pos hh
    have := hs.set (pos l k) hp ((l.getD (pos l k) (k, [])).2 ++ [v])
    rwa [he] at this
  · rename_i hh
    exact hs.ins k _ (by simpa using hh)
theorem addL_cases (l : List PC) (hz : Int) (k : ByteArray) (v : PV) : (addL l hz k v).1 = l ∨ (addL l hz k v).1 = adL l k v := by
  unfold addL adL
  repeat' split
  all_goals first
    | exact .inl rfl
    | exact .inr rfl
theorem scan_add {l : List PC} (hs : Srt l) (hz : Int) (k : ByteArray) (v : PV) {ts : Int} (h : ts < v.ts) : Srt (addL l hz k v).1 ∧ scanL (addL l hz k v).1 ts = scanL l ts := by
  rcases addL_cases l hz k v with e | e <;> rw [e]
  · exact ⟨hs, rfl⟩
  · exact ⟨adL_srt hs k v, scan_ad hs k v (adL_srt hs k v) h⟩
theorem wrV_ts (x : Wr) (t : Int) : (wrV x t).ts = t := by unfold wrV; split <;> rfl
theorem scan_putAll (hz t : Int) {ts : Int} (h : ts < t) (l : WL) (st : List PC) (hs : Srt st) : scanL (putAll st hz t l) ts = scanL st ts := by
  induction l generalizing st with
  | nil => rfl
  | cons x l ih =>
    obtain ⟨h1, h2⟩ := scan_add hs hz x.1 (wrV x.2 t) (ts := ts) (by rw [wrV_ts]; exact h)
    show scanL (putAll _ hz t l) ts = _
    rw [ih _ h1, h2]
structure W58 (SC : Recs) (d : Db) (r c0 : Int) (k : Nat) : Prop where
  tR : tr d r = some ⟨r, c0, []⟩
  sc : scanL d.st c0 = SC
  clock : d.clock ≤ 150 + (k : Int)
  le : c0 ≤ d.clock
  last : d.last ≤ 151 + (k : Int)
  act : d.act.length ≤ 5
structure V58 (SC : Recs) (d : Db) (r c0 id : Int) (w : WL) (k : Nat) : Prop where
  tR : tr d r = some ⟨r, c0, []⟩
  tI : tr d id = some ⟨id, d.clock, w⟩
  ne : r ≠ id
  sc : scanL d.st c0 = SC
  clock : d.clock ≤ 150 + (k : Int)
  le : c0 ≤ d.clock
  last : d.last ≤ 152 + (k : Int)
  act : d.act.length ≤ 6
theorem w58_zero {d : Db} (ok : DOk d) (ha : d.act.length ≤ 4) (hc : d.clock ≤ 150) (hl : d.last ≤ 150) : W58 (scanL d.st d.clock) (begD d) (d.last + 1) d.clock 0 :=
  ⟨by rw [tr_beg ok, if_pos rfl], rfl, by show d.clock ≤ _; omega, Int.le_refl _, by show d.last + 1 ≤ _; omega, by show (d.act ++ [_]).length ≤ 5; simp; omega⟩
theorem v58_beg {SC : Recs} {d : Db} {r c0 : Int} {k : Nat} (ok : DOk d) (h : W58 SC d r c0 k) : V58 SC (begD d) r c0 (d.last + 1) [] k := by
  obtain ⟨_, _, _, hid, hm⟩ := tr_at h.tR
  have hr := (ok.idl _ hm).2
  simp only at hr
  have hne : r ≠ d.last + 1 := by omega
  exact ⟨by rw [tr_beg ok, if_neg hne]; exact h.tR, by rw [tr_beg ok, if_pos rfl]; rfl, hne, h.sc, h.clock, h.le, by have := h.last; show d.last + 1 ≤ _; omega, by have := h.act; show (d.act ++ [_]).length ≤ 6; simp; omega⟩
theorem v58_buf {SC : Recs} {d : Db} {r c0 id : Int} {w : WL} {k : Nat} (ok : DOk d) (h : V58 SC d r c0 id w k) {key : ByteArray} {x : Wr} (hk : key.size ≤ 24) (hr : x.row.length ≤ 6) (hw : w.length < 40) : (bufP d id key x).2 = 0 ∧ V58 SC (bufP d id key x).1 r c0 id (wput w key x) k := by
  rw [buf_tr ok h.tI hk hr, if_neg (by simp only; omega)]
  exact ⟨rfl, by rw [tr_put_other h.ne]; exact h.tR, tr_put_same h.tI _, h.ne, h.sc, h.clock, h.le, h.last, by show (d.act.map _).length ≤ 6; rw [List.length_map]; exact h.act⟩
theorem fin58 {SC : Recs} {d : Db} {r c0 id : Int} {w : WL} {k : Nat} (ok : DOk d) (h : V58 SC d r c0 id w k) : tr (finI d id) r = some ⟨r, c0, []⟩ ∧ tr (finI d id) id = none ∧ scanL (finI d id).st c0 = SC ∧ (finI d id).act.length ≤ 5 ∧ Srt (finI d id).st := by
  have t1 : tr (finI d id) r = some ⟨r, c0, []⟩ := by rw [tr_fin ok h.tI, if_neg h.ne]; exact h.tR
  obtain ⟨_, _, _, _, hm⟩ := tr_at t1
  have hz := (fin_hz ok (tidx d.act id).toNat).2.2.1 _ hm
  obtain ⟨_, hi, _⟩ := tr_at h.tI
  refine ⟨t1, by rw [tr_fin ok h.tI, if_pos rfl], ?_, ?_, (fin_ok ok _).1.st.srt⟩
  · show scanL (finD d _).st c0 = SC
    rw [fin_scan58 ok _ hz, h.sc]
  · show (d.act.eraseIdx _).length ≤ 5
    rw [List.length_eraseIdx_of_lt hi]
    have := h.act
    omega
theorem v58_rol {SC : Recs} {d : Db} {r c0 id : Int} {w : WL} {k : Nat} (ok : DOk d) (h : V58 SC d r c0 id w k) : W58 SC (rolP d id).1 r c0 (k + 1) := by
  obtain ⟨t1, _, t3, t4, _⟩ := fin58 ok h
  rw [rol_tr h.tI]
  have hc := h.clock
  have hl := h.last
  exact ⟨t1, t3, by show d.clock ≤ _; omega, h.le, by show d.last ≤ _; omega, t4⟩
/-- Behind the commit: the writer is gone, or nothing has changed. -/
theorem v58_com {SC : Recs} {d : Db} {r c0 id : Int} {w : WL} {k : Nat} (ok : DOk d) (h : V58 SC d r c0 id w k) (hk : k ≤ 100) :
    ((comP d id).2.2 = 18 ∧ (comP d id).1 = d) ∨ ((comP d id).2.2 = 0 ∧ tr (comP d id).1 id = none ∧ W58 SC (comP d id).1 r c0 (k + 1)) := by
  obtain ⟨t1, t2, t3, t4, t5⟩ := fin58 ok h
  have hc := h.clock
  have hl := h.last
  have hle := h.le
  rw [com_tr h.tI, conf_solo ok (Int.le_refl _), if_neg (by decide)]
  split
  · exact .inl ⟨rfl, rfl⟩
  · right
    split
    · exact ⟨rfl, t2, t1, t3, by show d.clock ≤ _; omega, hle, by show d.last ≤ _; omega, t4⟩
    · refine ⟨rfl, t2, t1, ?_, by show d.clock + 1 ≤ _; omega, by show c0 ≤ d.clock + 1; omega, by show d.last ≤ _; omega, t4⟩
      show scanL (putAll (finI d id).st (finI d id).hz (d.clock + 1) w) c0 = SC
      rw [scan_putAll _ _ (by omega) _ _ t5, t3]
set_option maxRecDepth 100000 in
set_option maxHeartbeats 8000000 in
theorem walk58 (a : Option Addr) (len cap : Nat) (zs : List Int) (a2 : Option Addr) (len2 cap2 : Nat) (zs2 : List Int) (w : World) (hE : Elems w a len zs) (hl : len ≤ cap) (hm : cap ≤ 9223372036854775807) (hE2 : Elems w a2 len2 zs2) (hl2 : len2 ≤ cap2) (hm2 : cap2 ≤ 9223372036854775807) :
    Calls Try.prog 13 #[.slice a len cap, .slice a2 len2 cap2] w fun e w' => e = .returned (.bool true) ∧ Up w w' := by
  have HWK := Lib.hid fun W (hu : Up w W) => workload_any a len cap zs W (elems_up hE hu) hl hm
  have HE2 := Lib.hid hE2
  obtain ⟨m, hmin', hm1, hm3⟩ := min_len 60 len2
  have hmin : (if (60 : Int) < (len2 : Int) then (60 : Int) else (len2 : Int)) = (m : Int) := hmin'
  have hmc : (m : Int) ≤ (cap2 : Int) := by omega
  have hmi2 : min (len2 : Int) 60 = (m : Int) := by split at hmin <;> omega
  clear hE hE2 hmin'
  go_enter Try.func13, Try.ntmps13
  go_wp2_with (first
    | (have tok := H3; go_at_call 44; refine (scanO H3.out.1 T3.out).mono ?_; rintro e w4 ⟨v1, l1, rfl, h6, h7, h8, h9⟩; obtain ⟨v1a, v1n, v1c, rfl⟩ := recsR_form h6; rw [scanT_nil] at h8; have S4 := Lib.hid (And.intro h7 h8); have P1 := Lib.hid (perm_scan H3.out.1.ok h8); have R4 := Lib.hid (RecsR.n h6); have O4 := Lib.hid (H3.out.1.keepNew h9); have H4 := Lib.hid h9; clear h6 h7 h8 h9)
    | (have tok := H2; go_at_call 33; refine (beginO H2.out (by have := B2.out; omega) (by have := B4.out; omega)).mono ?_; rintro e w3 ⟨rfl, h3⟩; have T3 : Hid (tr (begD d) (d.last + 1) = some ⟨d.last + 1, d.clock, []⟩) := (by unfold Hid; rw [tr_beg H2.out.ok, if_pos rfl]); have H3 := Lib.hid h3; clear h3)
    | (go_at_call 38; refine (HWK.out w1 H1.out).mono ?_; rintro e w2 ⟨p, d, rfl, h2, h3, h4, h5, h6⟩; have H2 := Lib.hid h2; have B4 := Lib.hid h3; have B1 := Lib.hid h5; have B2 := Lib.hid h6; clear h2 h3 h4 h5 h6)
    | (go_at_call 31; refine (works_any w).mono ?_; rintro e w1 ⟨rfl, h1⟩; have H1 := Lib.hid h1; clear h1)
    | fail)
  clear hmin hmi2
  have HE3 := Lib.hid (elems_up HE2.out H1.out)
  obtain ⟨K0, hK0⟩ : ∃ K0, K0 = KN w3.heap.size w4.heap.size := ⟨_, rfl⟩
  have KSTEP : Hid (∀ {W W' : World} {dx : Db}, RecsN W w3.heap.size w4.heap.size (.slice v1a v1n v1c) l1 → OwnP w1 K0 p dx W W' → RecsN W' w3.heap.size w4.heap.size (.slice v1a v1n v1c) l1) := fun h hc => by rw [hK0] at hc; exact h.step hc
  rw [← hK0] at O4
  clear hK0
  have W0 := Lib.hid (w58_zero H2.out.ok B4.out B1.out B2.out)
  have S4' : Hid (Mv.Srt l1 ∧ l1.Perm (scanL d.st d.clock)) := S4.out
  generalize scanL d.st d.clock = SC at *
  generalize d.last + 1 = r at *
  generalize d.clock = c0 at *
  clear S4
  go_loopw [47] (fun iv wr => ∃ k : Nat, k ≤ m ∧ iv = .int .i64 k ∧ Hid (∃ d', Own w1 K0 wr p d' ∧ W58 SC d' r c0 k) ∧ Hid (RecsN wr w3.heap.size w4.heap.size (.slice v1a v1n v1c) l1)) (fun iv _ => m - (intOf iv).toNat)
  case atStart => exact ⟨0, by omega, rfl, ⟨_, O4.out, W0.out⟩, R4.out⟩
  case round =>
    obtain ⟨k, hk, rfl, HD, HR⟩ := hrel
    obtain ⟨d', hO, hS⟩ := HD.out
    by_cases hlt : k < m
    · obtain ⟨b, off, rfl, hb, hx⟩ := elems_up HE3.out hO.upw k (by omega)
      obtain ⟨op, hop⟩ : ∃ op, op = zs2.getD k 0 := ⟨_, rfl⟩
      rw [← hop] at hx
      have HO := Lib.hid hO
      have HS := Lib.hid hS
      have VB := Lib.hid (v58_beg hO.ok hS)
      have RL : Hid ((rowV (wrap64 (op.tdiv 8))).length ≤ 6) := rowV_len6 _
      have VP : Hid (DOk (begD d') → (bufP (begD d') (d'.last + 1) (keyB op) ⟨false, rowV (wrap64 (op.tdiv 8))⟩).2 = 0 ∧ V58 SC (bufP (begD d') (d'.last + 1) (keyB op) ⟨false, rowV (wrap64 (op.tdiv 8))⟩).1 r c0 (d'.last + 1) (wput [] (keyB op) ⟨false, rowV (wrap64 (op.tdiv 8))⟩) k) := fun ok => v58_buf ok VB.out (by rw [keyB_size]; omega) RL.out (by simp)
      have hlb : d'.last < 1000000 := by have := hS.last; omega
      have hab : d'.act.length ≠ 60 := by have := hS.act; omega
      clear hO hS hop HD
      obtain ⟨md, hmd⟩ : ∃ md : Nat, modV op 3 = (md : Int) := ⟨(modV op 3).toNat, by have := modV_nonneg op 3 (by omega); omega⟩
      have PWL := Lib.hid (wput_pos [] (keyB op) ⟨false, rowV (wrap64 (op.tdiv 8))⟩).2
      go_upto_if 71 with (first
        | (go_at_call 22; refine (mod_any _ _ _ (by omega) (by omega)).mono ?_; rw [hmd]; rintro e w' ⟨rfl, rfl⟩)
        | (have tok := K4; go_at_call 34; refine (putO (H5.out.1.up (K3.out.trans K4.out)) VB.out.tI (k := keyB op) (by rw [keyB_size]; omega) RL.out (own_src R4'.out)).mono ?_; rw [(VP.out H5.out.1.ok).1]; rintro e w6 ⟨rfl, h6⟩; have V6 := Lib.hid (VP.out H5.out.1.ok).2; have HR6 := Lib.hid (KSTEP.out (HR5.out.up (K3.out.trans K4.out)) h6); have H6 := Lib.hid h6; clear h6)
        | (have tok := K3; go_at_call 21; refine (row_any _ _).mono ?_; rintro e w4' ⟨rfl, h3, h4⟩; have R4' := Lib.hid h3; have K4 := Lib.hid h4; clear h3 h4)
        | (have tok := H5; go_at_call 18; refine (key_any _ _).mono ?_; rintro e w3' ⟨rfl, h3⟩; have K3 := Lib.hid h3; clear h3)
        | (go_at_call 33; refine (beginO HO.out hlb hab).mono ?_; rintro e w5 ⟨rfl, h5⟩; have HR5 := Lib.hid (KSTEP.out HR.out h5); have H5 := Lib.hid h5; clear h5)
        | fail)
      go_cut [] from 69 to 77 (fun wx => ∃ d3 l3, Own w1 K0 wx p d3 ∧ V58 SC d3 r c0 (d'.last + 1) l3 k ∧ RecsN wx w3.heap.size w4.heap.size (.slice v1a v1n v1c) l1)
      case first =>
        by_cases h0 : md = 0
        · have VD := Lib.hid (v58_buf (key := keyB (wrap64 (op + 1))) (x := ⟨true, []⟩) H6.out.1.ok V6.out (by rw [keyB_size]; omega) (by simp) (by have := PWL.out; simp only [List.length_nil] at this; omega))
          subst h0
          go_wp2_with (first
            | (go_at_call 43; refine (deleteO (H6.out.1.up K7.out) V6.out.tI (k := keyB (wrap64 (op + 1))) (by rw [keyB_size]; omega)).mono ?_; rintro e w8 ⟨rfl, h8⟩; have HR8 := Lib.hid (KSTEP.out (HR6.out.up K7.out) h8); have H8 := Lib.hid h8; clear h8)
            | (go_at_call 18; refine (key_any _ _).mono ?_; rintro e w7 ⟨rfl, h3⟩; have K7 := Lib.hid h3; clear h3)
            | fail)
          go_meet
          exact ⟨_, _, H8.out.1, VD.out.2, HR8.out⟩
        · have h00 : ¬ (md : Int) = 0 := by omega
          have h01 : ((md : Int) == 0) = false := beq_eq_false_iff_ne.2 h00
          go_wp2
          go_meet
          exact ⟨_, _, H6.out.1, V6.out, HR6.out⟩
      case rest =>
        obtain ⟨d3, l3, hO3, hV3, hR3⟩ := hcut
        have O3 := Lib.hid hO3
        have V3 := Lib.hid hV3
        have R3 := Lib.hid hR3
        have hck : d3.clock < 1000000 := by have := hV3.clock; omega
        have hcm := v58_com hO3.ok hV3 (by omega)
        have hrl := Lib.hid (v58_rol hO3.ok hV3)
        clear hO3 hV3 hR3
        rcases hcm with ⟨h1, h2⟩ | ⟨h1, h2, h3⟩
        · have E2 := Lib.hid h2
          clear h2
          go_wp2_with (first
            | (go_at_call 36; refine (commitO O3.out V3.out.tI hck).mono ?_; rw [h1]; rintro e w9 ⟨rfl, h9⟩; have HR9 := Lib.hid (KSTEP.out R3.out h9); have H9 := Lib.hid h9; clear h9)
            | (go_at_call 35; refine (rollbackO H9.out.1 _).mono ?_; rintro e w10 ⟨rfl, h10⟩; have HR10 := Lib.hid (KSTEP.out HR9.out h10); have H10 := Lib.hid h10; clear h10)
            | fail)
          go_roundw
          case rel => exact ⟨k + 1, by omega, by go_num, ⟨_, H10.out.1, by rw [E2.out]; exact hrl.out⟩, HR10.out⟩
          case measure => simp [intOf]; omega
        · have T2 := Lib.hid h2
          have W3 := Lib.hid h3
          clear h2 h3
          go_wp2_with (first
            | (go_at_call 36; refine (commitO O3.out V3.out.tI hck).mono ?_; rw [h1]; rintro e w9 ⟨rfl, h9⟩; have HR9 := Lib.hid (KSTEP.out R3.out h9); have H9 := Lib.hid h9; clear h9)
            | (go_at_call 35; refine (rollbackO H9.out.1 _).mono ?_; rintro e w10 ⟨rfl, h10⟩; have HR10 := Lib.hid (KSTEP.out HR9.out h10); have H10 := Lib.hid h10; clear h10)
            | fail)
          go_roundw
          case rel => exact ⟨k + 1, by omega, by go_num, ⟨_, H10.out.1, by rw [rol_none T2.out]; exact W3.out⟩, HR10.out⟩
          case measure => simp [intOf]; omega
    · have HO := Lib.hid hO
      have HS := Lib.hid hS
      clear hO hS HD
      go_wp2_with (first
        | (go_at_call 28; refine (eqrecs_any _ _ _ _ ((HR.out.up H8.out).src P1.out.2) (S8.out.1.src P1.out.2) P1.out.1).mono ?_; rintro e w9 ⟨rfl, h14⟩; have H9 := Lib.hid h14; clear h14)
        | (go_at_call 44; refine (scanO HO.out HS.out.tR).mono ?_; rintro e w8 ⟨v2, l2, rfl, h6, h7, h8, h9⟩; obtain ⟨v2a, v2n, v2c, rfl⟩ := recsR_form h6; rw [scanT_nil, HS.out.sc] at h8; have hq := srt_perm h7 S4'.out.1 h8 S4'.out.2; subst hq; have S8 := Lib.hid (And.intro (RecsR.n h6) h7); have H8 := Lib.hid h9; clear h6 h7 h8 h9)
        | fail)
      go_ret
      exact ⟨rfl, ((H1.out.trans HO.out.upw).trans H8.out).trans H9.out⟩
end Go.Proofs.Ytinmpodnfofmdaa.Sn
