/- The snapshot workload. -/
import Derived.Test.YtinmpodnfofmdaaSnu
import Derived.Deep.DeepCutAuto
import Derived.Deep.CutRange
import Derived.Deep.RegionHeld3
namespace Go.Proofs.Ytinmpodnfofmdaa.Sn
open Go Go.RowKit Hp So
open Mv (Val PC PV rowC rowC_one fm_len fm_take fm_drop fm_get fm_set fm_one RowIn StR Srt SOk pos has fx_lt fx_up ty_chg has_pos pos_le vacuumL cloneR latL cnt addL rowV kA row_any)
set_option linter.unusedVariables false

/-- The four numbers, in the array at ib. -/
def IB (w : World) (ib : Nat) (ids : List Int) : Prop := Blk w ib (ids.map fun x => .int .i64 x) 107
theorem IB.at_ {w : World} {ib : Nat} {ids : List Int} (h : IB w ib ids) {q : Nat} (hq : q < ids.length) : At w ib q (.int .i64 ids[q]) := Blk.at h (by rw [List.getElem?_map, List.getElem?_eq_getElem hq]; rfl)
theorem IB.set {w : World} {ib : Nat} {ids : List Int} (h : IB w ib ids) (q : Nat) (x : Int) : IB (w.setCell ⟨ib, q, none⟩ (.int .i64 x)) ib (ids.set q x) := by
  unfold IB
  rw [List.map_set]
  exact Blk.set h q _
theorem IB.up {w w' : World} {ib : Nat} {ids : List Int} (h : IB w ib ids) (hu : Up w w') : IB w' ib ids := Blk.up h hu
theorem IB.own {w0 w w' : World} {ib p : Nat} {d : Db} {ids : List Int} (h : IB w ib ids) (hc : OwnP w0 (fun k => False ∨ k = ib) p d w w') : IB w' ib ids := Blk.chg h hc.2 fun e => e.2 (.inr rfl)
/-- Behind the round's Begin: the transaction at q runs. -/
def WS1 (w0 w : World) (ib p : Nat) (m l q : Nat) : Prop := ∃ d ids, Own w0 (fun k => False ∨ k = ib) w p d ∧ IB w ib ids ∧ WInv d m l ids ∧ ∃ hq : q < ids.length, ids[q] ≠ 0
/-- A round's state. -/
def WS (w0 w : World) (ib p : Nat) (m l : Nat) : Prop := ∃ d ids, Own w0 (fun k => False ∨ k = ib) w p d ∧ IB w ib ids ∧ WInv d m l ids
def WorkPost (w : World) (e : Ending) (w' : World) : Prop := ∃ p d, e = .returned (.tuple #[.pointer (some ⟨p, 0, none⟩), .bool true]) ∧ Own w (fun _ => False) w' p d ∧ d.act.length ≤ 4 ∧ mass d ≤ 150 ∧ d.clock ≤ 150 ∧ d.last ≤ 150
set_option maxRecDepth 100000 in
set_option maxHeartbeats 4000000 in
theorem workload_any (a : Option Addr) (len cap : Nat) (zs : List Int) (w : World) (hE : Elems w a len zs) (hl : len ≤ cap) (hm : cap ≤ 9223372036854775807) :
    Calls Try.prog 38 #[.slice a len cap] w (WorkPost w) := by
  have HE := Lib.hid hE
  obtain ⟨m, hmin', hm1, hm2⟩ := min_len 150 len
  have hmin : (if (150 : Int) < (len : Int) then (150 : Int) else (len : Int)) = (m : Int) := hmin'
  clear hmin' hE
  have hmc : (m : Int) ≤ (cap : Int) := by omega
  go_enter Try.func38, Try.ntmps38
  go_wp2_with (first
    | (go_at_call 32; refine (newO w).mono ?_; rintro e w2 ⟨p, rfl, h2⟩; have H2 := Lib.hid h2; clear h2)
    | fail)
  clear hmin
  have W0 : Hid (WS w (w2.alloc (.cells #[.int .i64 0, .int .i64 0, .int .i64 0, .int .i64 0] 107)) w2.heap.size p 0 0) := ⟨_, [0, 0, 0, 0], H2.out.alloc _, Blk.new _ _ _, WInv.init⟩
  obtain ⟨w3, hw3⟩ : ∃ w3 : World, w3 = w2.alloc (.cells #[.int .i64 0, .int .i64 0, .int .i64 0, .int .i64 0] 107) := ⟨_, rfl⟩
  rw [← hw3] at W0 ⊢
  have HIB := Lib.hid H2.out.upw.size
  clear hw3
  generalize w2.heap.size = ib at *
  clear H2
  go_loopw [18] (fun iv wr => ∃ k : Nat, k ≤ m ∧ iv = .int .i64 k ∧ Hid (WS w wr ib p k k)) (fun iv _ => m - (intOf iv).toNat)
  case atStart => exact ⟨0, by omega, rfl, W0.out⟩
  case round =>
    obtain ⟨k, hk, rfl, HD⟩ := hrel
    obtain ⟨d, ids, hO, hI, hW⟩ := HD.out
    by_cases hlt : k < m
    · obtain ⟨b, off, rfl, hb, hx⟩ := elems_up HE.out hO.upw k (by omega)
      obtain ⟨op, hop⟩ : ∃ op, op = zs.getD k 0 := ⟨_, rfl⟩
      rw [← hop] at hx
      obtain ⟨q, hq⟩ : ∃ q : Nat, modV (wrap64 (op.tdiv 8)) 4 = (q : Int) := ⟨(modV (wrap64 (op.tdiv 8)) 4).toNat, by have := modV_nonneg (wrap64 (op.tdiv 8)) 4 (by omega); omega⟩
      have hq4 : q < 4 := by have := modV_lt (wrap64 (op.tdiv 8)) 4 (by omega); omega
      have hql : q < ids.length := by rw [hW.len]; exact hq4
      have hid := hI.at_ hql
      have HO := Lib.hid hO
      have HI := Lib.hid hI
      have HW := Lib.hid hW
      have hidl := hid.1
      have hidc := hid.2
      have b4 : (q : Int) < 4 := by omega
      generalize hx0 : ids[q] = x0 at *
      have HX0 := Lib.hid hx0
      clear hO hI hW hid hop HD hx0
      go_upto_if 29 with (first | (go_at_call 22; refine (mod_any _ _ _ (by omega) (by omega)).mono ?_; rw [hq]; rintro e w' ⟨rfl, rfl⟩) | fail)
      go_cut [9, 10] from 28 to 39 (fun s9 s10 wx => WS1 w wx ib p k (k + 1) q)
      case first =>
        by_cases h0 : x0 = 0
        · have h00 : (x0 == 0) = true := by rw [h0]; rfl
          have hf4 := HW.out.four
          have hcb := HO.out.ok.last
          have hlb := HW.out.last
          go_wp2_with (first
            | (go_at_call 33; refine (beginO HO.out (by omega) (by omega)).mono ?_; rintro e w5 ⟨rfl, h5⟩; have hI5 := HI.out.own h5; have f5 := Blk.free hI5 q; have c5 := (hI5.at_ hql).2; have l5 := Blk.lt hI5; have H5 := Lib.hid h5; have HI5 := Lib.hid hI5; clear h5 hI5)
            | fail)
          go_meet
          have hq0 : ids[q] = 0 := by rw [HX0.out]; exact h0
          have hne : d.last + 1 ≠ 0 := by omega
          first
            | exact ⟨_, _, H5.out.1.set (.inr rfl) HIB.out _ _ _, HI5.out.set q _, w_beg HO.out.ok HW.out hql hq0, by rw [List.length_set]; exact hql, by rw [List.getElem_set_self]; exact hne⟩
            | exact ⟨rfl, rfl, ⟨_, _, H5.out.1.set (.inr rfl) HIB.out _ _ _, HI5.out.set q _, w_beg HO.out.ok HW.out hql hq0, by rw [List.length_set]; exact hql, by rw [List.getElem_set_self]; exact hne⟩⟩
        · have h00 : (x0 == 0) = false := beq_eq_false_iff_ne.2 h0
          go_wp2
          go_meet
          exact ⟨_, _, HO.out, HI.out, HW.out.mono (Nat.le_refl _) (Nat.le_succ _), hql, by rw [HX0.out]; exact h0⟩
      case rest =>
        clear HO HI HW HX0 hidl hidc hql
        obtain ⟨d2, ids2, hO, hI, hW, hq2, hne⟩ := hcut
        have hid := hI.at_ hq2
        have hidl := hid.1
        have hidc := hid.2
        have XI := Lib.hid hid
        have hfz := Blk.free hI q
        have HO2 := Lib.hid hO
        have HI2 := Lib.hid hI
        have HW2 := Lib.hid hW
        have HNE := Lib.hid hne
        obtain ⟨t, ht⟩ := hW.act q hq2 hne
        have HT := Lib.hid ht
        obtain ⟨r, hr⟩ : ∃ r : Nat, modV op 8 = (r : Int) := ⟨(modV op 8).toNat, by have := modV_nonneg op 8 (by omega); omega⟩
        have hr8 : (r = 0 ∨ r = 1 ∨ r = 2) ∨ r = 3 ∨ (r = 4 ∨ r = 5) ∨ r = 6 ∨ r = 7 := by have := modV_lt op 8 (by omega); omega
        generalize hx2 : ids2[q] = x2 at *
        have HX2 := Lib.hid hx2
        clear hO hI hW hid hne ht hx2
        rcases hr8 with h3 | rfl | h3 | rfl | rfl
        · have RL : Hid ((rowV (IntKind.i64.wrap (op.tdiv 256))).length ≤ 6) := by unfold Hid; simp [rowV]
          rcases h3 with rfl | rfl | rfl
          all_goals
            go_wp2_with (first
              | (go_at_call 22; refine (mod_any _ _ _ (by omega) (by omega)).mono ?_; rw [hr]; rintro e w' ⟨rfl, rfl⟩)
              | fail)
            go_region_held3 (fun w' => w'.cell? ⟨ib, q, none⟩ = some (.int .i64 x2))
              (first | exact s5 | exact s4 | exact s3 | go_keep)
              (first
                | (have tok := UA; go_at_call 34; refine (putO (w := w4) (HO2.out.up UA.out) HT.out (k := keyB (IntKind.i64.wrap (op.tdiv 32))) (by rw [keyB_size]; omega) (row := rowV (IntKind.i64.wrap (op.tdiv 256))) RL.out (own_src RA.out)).mono ?_; rintro e w5 ⟨rfl, h5⟩; have hI5 := (HI2.out.up UA.out).own h5; have s5 := (OwnP.at_ h5 (XI.out.grow UA.out) (.inl (.inr rfl))).2; have H5 := Lib.hid h5; have HI5 := Lib.hid hI5; clear h5 hI5)
                | (have tok := UB; go_at_call 34; refine (putO (w := w3) (HO2.out.up UB.out) HT.out (k := keyB (IntKind.i64.wrap (op.tdiv 32))) (by rw [keyB_size]; omega) (row := rowV (IntKind.i64.wrap (op.tdiv 256))) RL.out ((own_src R4.out).up VB.out)).mono ?_; rintro e w5 ⟨rfl, h5⟩; have hI5 := (HI2.out.up UB.out).own h5; have s5 := (OwnP.at_ h5 (XI.out.grow UB.out) (.inl (.inr rfl))).2; have H5 := Lib.hid h5; have HI5 := Lib.hid hI5; clear h5 hI5)
                | (have tok := U3; go_at_call 21; refine (row_any _ _).mono ?_; rintro e w4 ⟨rfl, h4, h4u⟩; have UA : Hid (Up wc w4) := U3.out.trans h4u; have RA := Lib.hid h4; have s4 := (XI.out.grow UA.out).2; clear h4 h4u)
                | (have tok := U4; go_at_call 18; refine (key_any _ _).mono ?_; rintro e w3 ⟨rfl, h3⟩; have UB : Hid (Up wc w3) := U4.out.trans h3; have VB := Lib.hid h3; have s3 := (XI.out.grow UB.out).2; clear h3)
                | (go_at_call 18; refine (key_any _ _).mono ?_; rintro e w3 ⟨rfl, h3⟩; have U3 : Hid (Up wc w3) := (by first | exact h3 | exact (Up.refl wc).drew.trans h3); have s3 := (XI.out.grow U3.out).2; clear h3)
                | (go_at_call 21; refine (row_any _ _).mono ?_; rintro e w4 ⟨rfl, h4, h4u⟩; have U4 : Hid (Up wc w4) := (by first | exact h4u | exact (Up.refl wc).drew.trans h4u); have R4 := Lib.hid h4; have s4 := (XI.out.grow U4.out).2; clear h4 h4u)
                | fail)
            all_goals
              go_wp2
              go_roundw
              case rel => exact ⟨k + 1, by omega, by go_num, _, _, H5.out.1, HI5.out, by rw [← HX2.out]; exact w_buf HO2.out.ok HW2.out hq2 (by rw [HX2.out]; exact HNE.out) (by rw [keyB_size]; omega) RL.out⟩
              case measure => simp [intOf]; omega
        · go_wp2_with (first
            | (go_at_call 22; refine (mod_any _ _ _ (by omega) (by omega)).mono ?_; rw [hr]; rintro e w' ⟨rfl, rfl⟩)
            | fail)
          go_region_held3 (fun w' => w'.cell? ⟨ib, q, none⟩ = some (.int .i64 x2))
            (first | exact s5 | exact s3 | go_keep)
            (first
              | (have tok := U3; go_at_call 43; refine (deleteO (w := w3) (HO2.out.up U3.out) HT.out (k := keyB (IntKind.i64.wrap (op.tdiv 32))) (by rw [keyB_size]; omega)).mono ?_; rintro e w5 ⟨rfl, h5⟩; have hI5 := (HI2.out.up U3.out).own h5; have s5 := (OwnP.at_ h5 (XI.out.grow U3.out) (.inl (.inr rfl))).2; have H5 := Lib.hid h5; have HI5 := Lib.hid hI5; clear h5 hI5)
              | (go_at_call 18; refine (key_any _ _).mono ?_; rintro e w3 ⟨rfl, h3⟩; have U3 : Hid (Up wc w3) := (by first | exact h3 | exact (Up.refl wc).drew.trans h3); have s3 := (XI.out.grow U3.out).2; clear h3)
              | fail)
          all_goals
            go_wp2
            go_roundw
            case rel => exact ⟨k + 1, by omega, by go_num, _, _, H5.out.1, HI5.out, by rw [← HX2.out]; exact w_buf HO2.out.ok HW2.out hq2 (by rw [HX2.out]; exact HNE.out) (by rw [keyB_size]; omega) (by simp)⟩
            case measure => simp [intOf]; omega
        · rcases h3 with rfl | rfl
          all_goals
            go_wp2_with (first
              | (go_at_call 36; refine (commitO HO2.out HT.out (by have := HW2.out.clock; omega)).mono ?_; rintro e w5 ⟨rfl, h5⟩; have hI5 := HI2.out.own h5; have f5 := Blk.free hI5 q; have c5 := (OwnP.at_ h5 XI.out (.inl (.inr rfl))).2; have l5 := Blk.lt hI5; have H5 := Lib.hid h5; have HI5 := Lib.hid hI5; clear h5 hI5)
              | (go_at_call 22; refine (mod_any _ _ _ (by omega) (by omega)).mono ?_; rw [hr]; rintro e w' ⟨rfl, rfl⟩)
              | fail)
            go_roundw
            case rel => exact ⟨k + 1, by omega, by go_num, _, _, H5.out.1.set (.inr rfl) HIB.out _ _ _, HI5.out.set q _, by rw [← HX2.out]; exact w_com HO2.out.ok HW2.out (by omega) hq2 (by rw [HX2.out]; exact HNE.out)⟩
            case measure => simp [intOf]; omega
        · have RR := w_rol HO2.out.ok HW2.out hq2 (by rw [HX2.out]; exact HNE.out)
          rw [HX2.out] at RR
          have RR := Lib.hid RR
          go_wp2_with (first
            | (go_at_call 35; refine (rollbackO HO2.out _).mono ?_; rw [RR.out.1]; rintro e w5 ⟨rfl, h5⟩; have hI5 := HI2.out.own h5; have f5 := Blk.free hI5 q; have c5 := (OwnP.at_ h5 XI.out (.inl (.inr rfl))).2; have l5 := Blk.lt hI5; have H5 := Lib.hid h5; have HI5 := Lib.hid hI5; clear h5 hI5)
            | (go_at_call 22; refine (mod_any _ _ _ (by omega) (by omega)).mono ?_; rw [hr]; rintro e w' ⟨rfl, rfl⟩)
            | fail)
          go_roundw
          case rel => exact ⟨k + 1, by omega, by go_num, _, _, H5.out.1.set (.inr rfl) HIB.out _ _ _, HI5.out.set q _, RR.out.2.mono (Nat.le_succ _) (Nat.le_refl _)⟩
          case measure => simp [intOf]; omega
        · go_wp2_with (first
            | (go_at_call 22; refine (mod_any _ _ _ (by omega) (by omega)).mono ?_; rw [hr]; rintro e w' ⟨rfl, rfl⟩)
            | fail)
          go_roundw
          case rel => exact ⟨k + 1, by omega, by go_num, _, _, HO2.out, HI2.out, HW2.out.mono (Nat.le_succ _) (Nat.le_refl _)⟩
          case measure => simp [intOf]; omega
    · go_wp2
      go_ret2
      exact ⟨p, d, rfl, hO.lose fun _ e => e.elim, hW.four, by have := hW.mass; omega, by have := hW.clock; omega, by have := hW.last; omega⟩
end Go.Proofs.Ytinmpodnfofmdaa.Sn
