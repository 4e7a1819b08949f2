/- SnapshotRollbackHasNoEffect, SnapshotReadsAreStable: the plain parts and the walks. -/
import Derived.Test.YtinmpodnfofmdaaSde
namespace Go.Proofs.Ytinmpodnfofmdaa.Sn
open Go Go.RowKit Hp
open Mv (Val PC PV rowC rowC_one fm_len fm_take fm_drop fm_get fm_set fm_one RowIn StR Srt SOk pos has fx_lt fx_up ty_chg has_pos pos_le RM rmC rmC1 rmC_len rmC_get erR RecsR RecsS scanL scan_srt cloneR rowV row_any equalR_same eqrecs_any cnt getL vis1 addL adL vacL scan_vac scan_ad)
set_option linter.unusedVariables false

theorem fin_scan_le {d : Db} (ok : DOk d) (i : Nat) {ts : Int} (h : oldL d.clock (d.act.eraseIdx i) ≤ ts) : scanL (finD d i).st ts = scanL d.st ts := by
  obtain ⟨_, _, _, h4⟩ := fin_hz ok i
  unfold finD
  rcases h4 with h4 | h4 <;> rw [h4]
  exact scan_vac ok.st h
structure W59 (d0 d : Db) (c o id : Int) (w : WL) : Prop where
  base : W60 d0 d c o id w
  clock : d.clock = c
  last : d.last ≤ 200
  act : d.act.length ≤ 6
theorem w59_beg {d : Db} (ok : DOk d) (ok1 : DOk (begD d)) (hl : d.last ≤ 150) (ha : d.act.length ≤ 4) : W59 d (begD (begD d)) d.clock (d.last + 1) (d.last + 1 + 1) [] :=
  ⟨w60_beg ok ok1, rfl, by show d.last + 1 + 1 ≤ 200; omega, by show ((d.act ++ [_]) ++ [_]).length ≤ 6; simp; omega⟩
theorem w59_put {d0 d : Db} {c o id : Int} {w : WL} (ok : DOk d) (h : W59 d0 d c o id w) {k : ByteArray} {x : Wr} (hk : k.size ≤ 24) (hr : x.row.length ≤ 6) (hw : w.length < 40) : (bufP d id k x).2 = 0 ∧ W59 d0 (bufP d id k x).1 c o id (wput w k x) := by
  rw [buf_tr ok h.base.ti hk hr, if_neg (by simp only; omega)]
  exact ⟨rfl, ⟨h.base.st, by rw [tr_put_other h.base.ne]; exact h.base.tO, tr_put_same h.base.ti _, h.base.ne⟩, h.clock, h.last, by show (d.act.map _).length ≤ 6; rw [List.length_map]; exact h.act⟩
theorem fin_act' (d : Db) (id : Int) : (finI d id).act.length ≤ d.act.length := (List.eraseIdx_sublist _ _).length_le
theorem w59_rol {d0 d : Db} {c o id : Int} {w : WL} (ok : DOk d) (h : W59 d0 d c o id w) : (rolP d id).2 = 0 ∧ (rolP d id).1.clock = c ∧ (rolP d id).1.last ≤ 200 ∧ (rolP d id).1.act.length ≤ 6 ∧ scanL (rolP d id).1.st c = scanL d0.st c := by
  rw [rol_tr h.base.ti]
  refine ⟨rfl, h.clock, h.last, Nat.le_trans (fin_act' d id) h.act, ?_⟩
  have := fin_hz ok (tidx d.act id).toNat
  show scanL (finD d (tidx d.act id).toNat).st c = _
  rw [fin_scan_le ok _ (by rw [← h.clock]; exact this.2.1), h.base.st]
set_option maxRecDepth 100000 in
set_option maxHeartbeats 4000000 in
theorem walk59 (a : Option Addr) (len cap : Nat) (zs : List Int) (a2 : Option Addr) (len2 cap2 : Nat) (zs2 : List Int) (w : World) (hE : Elems w a len zs) (hl : len ≤ cap) (hm : cap ≤ 9223372036854775807) (hE2 : Elems w a2 len2 zs2) (hl2 : len2 ≤ cap2) (hm2 : cap2 ≤ 9223372036854775807) :
    Calls Try.prog 14 #[.slice a len cap, .slice a2 len2 cap2] w fun e w' => e = .returned (.bool true) ∧ Up w w' := by
  have HWK := Lib.hid fun W (hu : Up w W) => workload_any a len cap zs W (elems_up hE hu) hl hm
  have HE2 := Lib.hid hE2
  obtain ⟨m, hmin', hm1, hm3⟩ := min_len 40 len2
  have hmin : (if (40 : Int) < (len2 : Int) then (40 : Int) else (len2 : Int)) = (m : Int) := hmin'
  have hmc : (m : Int) ≤ (cap2 : Int) := by omega
  have hmi2 : min (len2 : Int) 40 = (m : Int) := by split at hmin <;> omega
  clear hE hE2 hmin'
  go_enter Try.func14, Try.ntmps14
  go_wp2_with (first
    | (have tok := H4; go_at_call 33; refine (beginO O4.out (by show d.last + 1 < _; have := B2.out; omega) (by show (d.act ++ [_]).length ≠ 60; rw [List.length_append]; simp; have := B4.out; omega)).mono ?_; rintro e w5 ⟨rfl, h5⟩; have T5 := Lib.hid (w59_beg H2.out.ok H3.out.1.ok B2.out B4.out); have R5 := Lib.hid (R4.out.step h5); have H5 := Lib.hid h5; clear h5)
    | (have tok := H3; go_at_call 44; refine (scanO H3.out.1 T3.out).mono ?_; rintro e w4 ⟨v1, l1, rfl, h6, h7, h8, h9⟩; obtain ⟨v1a, v1n, v1c, rfl⟩ := recsR_form h6; rw [scanT_nil] at h8; have S4 := Lib.hid (And.intro h7 h8); have P1 := Lib.hid (perm_scan H3.out.1.ok h8); have R4 := Lib.hid (RecsR.n h6); have O4 := Lib.hid (H3.out.1.keepNew h9); have H4 := Lib.hid h9; clear h6 h7 h8 h9)
    | (have tok := H2; go_at_call 33; refine (beginO H2.out (by have := B2.out; omega) (by have := B4.out; omega)).mono ?_; rintro e w3 ⟨rfl, h3⟩; have T3 : Hid (tr (begD d) (d.last + 1) = some ⟨d.last + 1, d.clock, []⟩) := (by unfold Hid; rw [tr_beg H2.out.ok, if_pos rfl]); have H3 := Lib.hid h3; clear h3)
    | (go_at_call 38; refine (HWK.out w1 H1.out).mono ?_; rintro e w2 ⟨p, d, rfl, h2, h3, h4, h5, h6⟩; have H2 := Lib.hid h2; have B4 := Lib.hid h3; have B2 := Lib.hid h6; clear h2 h3 h4 h5 h6)
    | (go_at_call 31; refine (works_any w).mono ?_; rintro e w1 ⟨rfl, h1⟩; have H1 := Lib.hid h1; clear h1)
    | fail)
  clear hmin hmi2
  have HE3 := Lib.hid (elems_up HE2.out H1.out)
  obtain ⟨K0, hK0⟩ : ∃ K0, K0 = KN w3.heap.size w4.heap.size := ⟨_, rfl⟩
  have KSTEP : Hid (∀ {W W' : World} {dx : Db}, RecsN W w3.heap.size w4.heap.size (.slice v1a v1n v1c) l1 → OwnP w1 K0 p dx W W' → RecsN W' w3.heap.size w4.heap.size (.slice v1a v1n v1c) l1) := fun h hc => by rw [hK0] at hc; exact h.step hc
  rw [← hK0] at H5 O4
  clear hK0
  obtain ⟨id, hid⟩ : ∃ id, id = d.last + 1 + 1 := ⟨_, rfl⟩
  have hid2 : (begD d).last + 1 = id := by rw [hid]; rfl
  obtain ⟨o, ho⟩ : ∃ o, o = d.last + 1 := ⟨_, rfl⟩
  rw [← hid, ← ho] at T5
  rw [hid2]
  obtain ⟨c, hc⟩ : ∃ c, c = d.clock := ⟨_, rfl⟩
  rw [← hc] at T5
  have S4' : Hid (Mv.Srt l1 ∧ l1.Perm (scanL d.st c)) := by rw [hc]; exact S4.out
  clear hid hid2 ho hc S4
  go_loopw [53] (fun iv wr => ∃ k : Nat, k ≤ m ∧ iv = .int .i64 k ∧ Hid (∃ d' l, Own w1 K0 wr p d' ∧ W59 d d' c o id l ∧ l.length ≤ k) ∧ Hid (RecsN wr w3.heap.size w4.heap.size (.slice v1a v1n v1c) l1)) (fun iv _ => m - (intOf iv).toNat)
  case atStart => exact ⟨0, by omega, rfl, ⟨_, [], H5.out.1, T5.out, Nat.le_refl _⟩, R5.out⟩
  case round =>
    obtain ⟨k, hk, rfl, HD, HR⟩ := hrel
    obtain ⟨d', l, hO, hS, hll⟩ := HD.out
    by_cases hlt : k < m
    · obtain ⟨b, off, rfl, hb, hx⟩ := elems_up HE3.out hO.upw k (by omega)
      obtain ⟨op, hop⟩ : ∃ op, op = zs2.getD k 0 := ⟨_, rfl⟩
      rw [← hop] at hx
      have HO := Lib.hid hO
      have HS := Lib.hid hS
      have RL : Hid ((rowV (wrap64 (op.tdiv 8))).length ≤ 6) := rowV_len6 _
      have PUT := Lib.hid (w59_put (k := keyB op) (x := ⟨false, rowV (wrap64 (op.tdiv 8))⟩) hO.ok hS (by rw [keyB_size]; omega) RL.out (by omega))
      clear hO hS hop HD
      go_wp2_with (first
        | (go_at_call 34; refine (putO (HO.out.up (K3.out.trans K4.out)) HS.out.base.ti (k := keyB op) (by rw [keyB_size]; omega) RL.out (own_src R4'.out)).mono ?_; rw [PUT.out.1]; rintro e w5 ⟨rfl, h5⟩; have HR5 := Lib.hid (KSTEP.out (HR.out.up (K3.out.trans K4.out)) h5); have H5' := Lib.hid h5; clear h5)
        | (go_at_call 21; refine (row_any _ _).mono ?_; rintro e w4' ⟨rfl, h3, h4⟩; have R4' := Lib.hid h3; have K4 := Lib.hid h4; clear h3 h4)
        | (go_at_call 18; refine (key_any _ _).mono ?_; rintro e w3' ⟨rfl, h3⟩; have K3 := Lib.hid h3; clear h3)
        | fail)
      go_roundw
      case rel =>
        have q := wput_pos l (keyB op) ⟨false, rowV (wrap64 (op.tdiv 8))⟩
        exact ⟨k + 1, by omega, by go_num, ⟨_, _, H5'.out.1, PUT.out.2, by omega⟩, HR5.out⟩
      case measure => simp [intOf]; omega
    · have HO := Lib.hid hO
      have HS := Lib.hid hS
      have RR := Lib.hid (w59_rol hO.ok hS)
      clear hO hS HD
      go_wp2_with (first
        | (go_at_call 28; refine (eqrecs_any _ _ _ _ ((R7.out.up H8.out).src P1.out.2) (S8.out.1.src P1.out.2) P1.out.1).mono ?_; rintro e w9 ⟨rfl, h14⟩; have H9 := Lib.hid h14; clear h14)
        | (go_at_call 44; refine (scanO H7.out.1 T7.out).mono ?_; rintro e w8 ⟨v2, l2, rfl, h6, h7, h8, h9⟩; obtain ⟨v2a, v2n, v2c, rfl⟩ := recsR_form h6; rw [scanT_nil] at h8; have h8' : l2.Perm (scanL d.st c) := (by have := RR.out.2.2.2.2; rw [← this]; exact h8); have hq := srt_perm h7 S4'.out.1 h8' S4'.out.2; subst hq; have S8 := Lib.hid (And.intro (RecsR.n h6) h7); have H8 := Lib.hid h9; clear h6 h7 h8 h8' h9)
        | (have tok := H6; go_at_call 33; refine (beginO H6.out.1 (by have := RR.out.2.2.1; omega) (by have := RR.out.2.2.2.1; omega)).mono ?_; rintro e w7 ⟨rfl, h7⟩; have T7 : Hid (tr (begD (rolP d' id).1) ((rolP d' id).1.last + 1) = some ⟨(rolP d' id).1.last + 1, c, []⟩) := (by unfold Hid; rw [tr_beg H6.out.1.ok, if_pos rfl, RR.out.2.1]); have R7 := Lib.hid (KSTEP.out R6.out h7); have H7 := Lib.hid h7; clear h7)
        | (have tok := H6; go_at_call 37; refine (clockO H6.out.1).mono ?_; rw [RR.out.2.1]; rintro e w' ⟨rfl, rfl⟩)
        | (go_at_call 35; refine (rollbackO HO.out _).mono ?_; rw [RR.out.1]; rintro e w6 ⟨rfl, h6⟩; have R6 := Lib.hid (KSTEP.out HR.out h6); have H6 := Lib.hid h6; clear h6)
        | (go_at_call 37; refine (clockO HO.out).mono ?_; rw [HS.out.clock]; rintro e w' ⟨rfl, rfl⟩)
        | fail)
      go_ret
      exact ⟨rfl, ((H1.out.trans H7.out.1.upw).trans H8.out).trans H9.out⟩
end Go.Proofs.Ytinmpodnfofmdaa.Sn
