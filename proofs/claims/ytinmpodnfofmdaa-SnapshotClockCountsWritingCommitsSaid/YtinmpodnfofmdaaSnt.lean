/- SnapshotClockCountsWritingCommits. -/
import Derived.Test.YtinmpodnfofmdaaSnr
namespace Go.Proofs.Ytinmpodnfofmdaa.Sn
open Go Go.RowKit Hp So
open Mv (Val PC PV rowC rowC_one fm_len fm_take fm_drop fm_get fm_set fm_one RowIn StR Srt SOk pos has fx_lt fx_up ty_chg has_pos pos_le vacuumL cloneR latL cnt addL rowV kA row_any)
set_option linter.unusedVariables false

set_option maxRecDepth 100000 in
set_option maxHeartbeats 4000000 in
theorem walk42 (a : Option Addr) (len cap : Nat) (zs : List Int) (w : World) (hE : Elems w a len zs) (hl : len ≤ cap) (hm : cap ≤ 9223372036854775807) :
    Calls Try.prog 9 #[.slice a len cap] w fun e w' => e = .returned (.bool true) ∧ Up w w' := by
  have HE := Lib.hid hE
  obtain ⟨m, hmin', hm1, hm2⟩ := min_len 60 len
  have hmin : (if (60 : Int) < (len : Int) then (60 : Int) else (len : Int)) = (m : Int) := hmin'
  clear hmin' hE
  have hmc : (m : Int) ≤ (cap : Int) := by omega
  go_enter Try.func9, Try.ntmps9
  go_wp2_with (first
    | (go_at_call 32; refine (newO w1).mono ?_; rintro e w2 ⟨p, rfl, h2⟩; have H2 := Lib.hid h2; clear h2)
    | (go_at_call 31; refine (works_any w).mono ?_; rintro e w1 ⟨rfl, h1⟩; have H1 := Lib.hid h1; clear h1)
    | fail)
  clear hmin
  go_loopw [4, 22] (fun cv iv wr => ∃ k : Nat, ∃ c : Int, k ≤ m ∧ iv = .int .i64 k ∧ cv = .int .i64 c ∧ 0 ≤ c ∧ c ≤ (k : Int) ∧ Hid (∃ d, Own w1 (fun _ => False) wr p d ∧ Solo d c k)) (fun _ iv _ => m - (intOf iv).toNat)
  case atStart => exact ⟨0, 0, by omega, rfl, rfl, by omega, by omega, _, H2.out, solo0⟩
  case round =>
    obtain ⟨k, c, hk, rfl, rfl, hc0, hc1, HD⟩ := hrel
    obtain ⟨d, hO, hS⟩ := HD.out
    by_cases hlt : k < m
    · obtain ⟨b, off, rfl, hb, hx⟩ := elems_up HE.out (H1.out.trans hO.upw) k (by omega)
      obtain ⟨op, hop⟩ : ∃ op, op = zs.getD k 0 := ⟨_, rfl⟩
      rw [← hop] at hx
      have HO := Lib.hid hO
      have HS := Lib.hid hS
      obtain ⟨n, hn⟩ : ∃ n : Nat, modV op 3 = (n : Int) := ⟨(modV op 3).toNat, by have := modV_nonneg op 3 (by omega); omega⟩
      have hn2 : n ≤ 2 := by have := modV_lt op 3 (by omega); omega
      clear hO hS hop HD
      go_wp2_with (first
        | (go_at_call 22; refine (mod_any _ _ _ (by omega) (by omega)).mono ?_; rw [hn]; rintro e w' ⟨rfl, rfl⟩)
        | (go_at_call 33; refine (beginO HO.out (by have := HS.out.last; omega) (by rw [HS.out.act]; decide)).mono ?_; rw [HS.out.last]; rintro e w2 ⟨rfl, h2⟩; have H3 := Lib.hid h2; clear h2)
        | fail)
      go_loopw [36] (fun iv wr => ∃ j : Nat, j ≤ n ∧ iv = .int .i64 j ∧ Hid (∃ d l, Own w1 (fun _ => False) wr p d ∧ One d c k l ∧ l.length ≤ j ∧ (0 < j → 0 < l.length))) (fun iv _ => n - (intOf iv).toNat)
      case atStart => exact ⟨0, by omega, rfl, _, [], H3.out.1, solo_beg HS.out, Nat.le_refl _, fun e => by omega⟩
      case round =>
        obtain ⟨j, hj, rfl, HD⟩ := hrel
        obtain ⟨d2, l, hO, hS, hl1, hl2⟩ := HD.out
        have HO2 := Lib.hid hO
        have HS2 := Lib.hid hS
        have hbw := hO.ok.last
        clear HD hO hS
        by_cases hjn : j < n
        · have RL : Hid ((rowV op).length ≤ 6) := by unfold Hid; simp [rowV]
          have PUT := Lib.hid fun (key : ByteArray) (hk : key.size ≤ 24) => one_put HO2.out.ok HS2.out (k := key) (x := ⟨false, rowV op⟩) hk RL.out (by omega)
          go_wp2_with (first
            | (go_at_call 34; refine (putO (HO2.out.up (K3.out.trans K4.out)) HS2.out.tr (k := keyB (wrap64 (op + j))) (by rw [keyB_size]; omega) RL.out (own_src R4.out)).mono ?_; rw [(PUT.out (keyB (wrap64 (op + j))) (by rw [keyB_size]; omega)).1]; rintro e w5 ⟨rfl, h5⟩; have H5 := Lib.hid h5; clear h5)
            | (go_at_call 21; refine (row_any _ _).mono ?_; rintro e w4 ⟨rfl, h3, h4⟩; have R4 := Lib.hid h3; have K4 := Lib.hid h4; clear h3 h4)
            | (go_at_call 18; refine (key_any _ _).mono ?_; rintro e w3 ⟨rfl, h3⟩; have K3 := Lib.hid h3; clear h3)
            | fail)
          go_roundw
          case rel =>
            have q := wput_pos l (keyB (wrap64 (op + j))) ⟨false, rowV op⟩
            exact ⟨j + 1, by omega, by go_num, _, _, H5.out.1, (PUT.out _ (by rw [keyB_size]; omega)).2, by omega, fun _ => q.1⟩
          case measure => simp [intOf]; omega
        · obtain rfl : j = n := by omega
          by_cases hq : modV (wrap64 (op.tdiv 3)) 4 = 0
          · have hq2 : (modV (wrap64 (op.tdiv 3)) 4 == 0) = true := by rw [hq]; rfl
            have RR := Lib.hid (one_rol HO2.out.ok HS2.out)
            go_wp2_with (first
              | (go_at_call 22; refine (mod_any _ _ _ (by omega) (by omega)).mono ?_; rw [hq]; rintro e w' ⟨rfl, rfl⟩)
              | (go_at_call 35; refine (rollbackO HO2.out _).mono ?_; rw [RR.out.1]; rintro e w5 ⟨rfl, h5⟩; have H5 := Lib.hid h5; clear h5)
              | (go_at_call 37; refine (clockO H5.out.1).mono ?_; rw [RR.out.2.clock]; rintro e w' ⟨rfl, rfl⟩)
              | fail)
            go_roundw
            case rel => exact ⟨k + 1, c, by omega, by go_num, rfl, hc0, by omega, _, H5.out.1, RR.out.2⟩
            case measure => simp [intOf]; omega
          · have hq2 : (modV (wrap64 (op.tdiv 3)) 4 == 0) = false := beq_eq_false_iff_ne.2 hq
            have CC := one_com HO2.out.ok HS2.out (by omega) (by omega)
            by_cases hj0 : j = 0
            · have hl0 : l.length = 0 := by omega
              rw [if_pos hl0] at CC
              have CC := Lib.hid CC
              subst hj0
              go_wp2_with (first
                | (go_at_call 22; refine (mod_any _ _ _ (by omega) (by omega)).mono ?_; rintro e w' ⟨rfl, rfl⟩)
                | (go_at_call 36; refine (commitO HO2.out HS2.out.tr (by rw [HS2.out.clock]; omega)).mono ?_; rw [CC.out.1]; rintro e w5 ⟨rfl, h5⟩; have H5 := Lib.hid h5; clear h5)
                | (go_at_call 37; refine (clockO H5.out.1).mono ?_; rw [CC.out.2.clock]; rintro e w' ⟨rfl, rfl⟩)
                | fail)
              go_roundw
              case rel => exact ⟨k + 1, c, by omega, by go_num, rfl, hc0, by omega, _, H5.out.1, CC.out.2⟩
              case measure => simp [intOf]; omega
            · have hl0 : ¬ l.length = 0 := by omega
              have hj2 : (0 : Int) < (j : Int) := by omega
              rw [if_neg hl0] at CC
              have CC := Lib.hid CC
              have hw : IntKind.i64.wrap (c + 1) = c + 1 := IntWalk.i64_in _ (by omega)
              go_wp2_with (first
                | (go_at_call 22; refine (mod_any _ _ _ (by omega) (by omega)).mono ?_; rintro e w' ⟨rfl, rfl⟩)
                | (go_at_call 36; refine (commitO HO2.out HS2.out.tr (by rw [HS2.out.clock]; omega)).mono ?_; rw [CC.out.1]; rintro e w5 ⟨rfl, h5⟩; have H5 := Lib.hid h5; clear h5)
                | (go_at_call 37; refine (clockO H5.out.1).mono ?_; rw [CC.out.2.clock]; rintro e w' ⟨rfl, rfl⟩)
                | fail)
              go_roundw
              case rel => exact ⟨k + 1, c + 1, by omega, by go_num, by first | rfl | go_num, by omega, by omega, _, H5.out.1, CC.out.2⟩
              case measure => simp [intOf]; omega
    · go_wp2
      go_ret
      exact ⟨rfl, H1.out.trans hO.upw⟩
end Go.Proofs.Ytinmpodnfofmdaa.Sn
