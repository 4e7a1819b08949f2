/- BackupDoesNotShareMemory: the walk. -/
import Derived.Test.YtdaehidbeleblaaBkv
import Derived.Deep.CutRange
namespace Go.Proofs.Ytdaehidbeleblaa.Bk
open Go Go.RowKit Hp
open Mv (Val rowC rowC_len rowC_one rowC_get RM rmC rmC1 rmC_len rmC_get erR RecsR RecsS Srt pos has pos_le has_pos fm_len fm_take fm_drop fm_get fm_set fm_one cloneR rowV row_any Raw own_raw scribble_any wl_append_run app_row equalR_same)
open So (slt)
set_option linter.unusedVariables false

set_option maxRecDepth 100000 in
set_option maxHeartbeats 8000000 in
theorem walk34 (a : Option Addr) (len cap : Nat) (zs : List Int) (w : World) (hE : Elems w a len zs) (hl : len ≤ cap) (hm : cap ≤ 9223372036854775807) :
    Calls Try.prog 3 #[.slice a len cap] w fun e w' => e = .returned (.bool true) ∧ Up w w' := by
  have HE := Lib.hid hE
  obtain ⟨m, hmin', hm1, hm2⟩ := min_len 6 len
  have hmin : (if (6 : Int) < (len : Int) then (6 : Int) else (len : Int)) = (m : Int) := hmin'
  have hmi2 : min (len : Int) 6 = (m : Int) := by split at hmin <;> omega
  have hmc : (m : Int) ≤ (cap : Int) := by omega
  clear hE hmin'
  go_enter Try.func3, Try.ntmps3
  go_wp2_with (first
    | (go_at_call 8; refine (newO _).mono ?_; rintro e w2 ⟨p, rfl, h2⟩; have H2 := Lib.hid h2; clear h2)
    | (go_at_call 7; refine (works_any _).mono ?_; rintro e w1 ⟨rfl, h1⟩; have H1 := Lib.hid h1; clear h1)
    | fail)
  clear hmin hmi2
  go_loopw [25] (fun iv wr => ∃ k : Nat, k ≤ m ∧ iv = .int .i64 k ∧ Hid (∃ K, Own w1 K wr p (mem34 zs k))) (fun iv _ => m - (intOf iv).toNat)
  case atStart => exact ⟨0, by omega, rfl, _, H2.out⟩
  case round =>
    obtain ⟨k, hk, rfl, HS⟩ := hrel
    obtain ⟨K, hO⟩ := HS.out
    have HO := Lib.hid hO
    by_cases hlt : k < m
    · obtain ⟨b, off, rfl, hb, hx⟩ := elems_up HE.out (H1.out.trans hO.upw) k (by omega)
      have BD := Lib.hid (t34_bd zs (k := k) (by omega))
      have HMK : Hid ({ mem34 zs k with chgs := (mem34 zs k).chgs ++ [⟨(k : Int) + 1, keyB k, rowV (zs.getD k 0)⟩] } = mem34 zs (k + 1)) := rfl
      generalize zs.getD k 0 = r at *
      have RL : Hid ((rowV r).length = 1) := rfl
      have hw1 : Hid (w1.heap.size ≤ wr.heap.size) := hO.upw.size
      clear hO HS
      go_wp2_with (first
        | (have tok := RW9; go_at_call 13; refine (scribble_any w3.heap.size 1 C 3 0 over w9 (RW9.out) (by omega) hA3).mono ?_; rintro e w10 ⟨rfl, h4⟩; have O10 := Lib.hid (O9.out.scrib h4 GK.out.2 GK.out.1); clear h4)
        | (have tok := R8; go_at_call 12; refine (equalR_same _ _ (rowV r) _ SR8.out (own_src R8.out) (by have := RL.out; omega)).mono ?_; rintro e w9 ⟨rfl, h4⟩; have O9 := Lib.hid (O8.out.up h4); have RW9 := Lib.hid (RW8.out.chg (Below.chg (fun _ => False) h4) (fun e => e)); clear h4)
        | (have tok := O7; go_at_call 9; refine (row_any r _).mono ?_; rintro e w8 ⟨rfl, h4, h5⟩; have R8 := Lib.hid h4; have O8 := Lib.hid (O7.out.1.up h5); have SR8 := Lib.hid (SR7.out.up h5); have RW8 := Lib.hid (RW7.out.chg (Below.chg (fun _ => False) h5) (fun e => e)); clear h4 h5)
        | (have tok := U6; go_at_call 10; refine (recordO (HO.out.widen U6.out) (t := (k : Int) + 1) (k := keyB k) SR6.out BD.out.2.2.2.2.2.2 (by omega) (by rw [keyB_size]; omega) (by have := RL.out; omega) BD.out.2.2.2.2.2.1).mono ?_; rw [HMK.out]; rintro e w7 ⟨rfl, h4⟩; have GK : Hid (w1.heap.size ≤ w3.heap.size ∧ (K w3.heap.size ∨ (wr.heap.size ≤ w3.heap.size ∧ w3.heap.size < w6.heap.size))) := (by have := hw1.out; have := U3.out.size; exact ⟨by omega, .inr ⟨by omega, hz6⟩⟩); have SR7 := Lib.hid (SR6.out.chg h4.2 fun a n c e => by cases e; exact fun e2 => e2.2 GK.out.2); have RW7 := Lib.hid (RW6.out.chg h4.2 fun e2 => e2.2 GK.out.2); have O7 := Lib.hid h4; clear h4)
        | (have tok := U4; go_at_call 11; refine (key_any _ _).mono ?_; rintro e w6 ⟨rfl, h4⟩; have U6 := Lib.hid ((U3.out.trans U4.out).trans h4); have SR6 := Lib.hid (SR4.out.up h4); have RW6 := Lib.hid (RW4.out.chg (Below.chg (fun _ => False) h4) (fun e => e)); have hz6 : w3.heap.size < w6.heap.size := Nat.lt_of_lt_of_le hA7 h4.size; clear h4)
        | (have tok := U3; at_builtin; obtain ⟨C, w4, hA1, hA2, hA3, hA4, hA5, hA6, hA7⟩ := app_row w3 wr.heap.size (rowV r) RL.out R3.out; refine wl_append_run _ rfl (.tmp 31) (.const (.int .i64 2)) 27 3 rfl _ _ rfl rfl hA1 ?_; have U4 := Lib.hid hA4; have RW4 := Lib.hid hA5; have SR4 := Lib.hid hA6; have hA8 : (1 : Int) ≤ (C : Int) := (by omega); clear hA1 hA4 hA5 hA6)
        | (go_at_call 9; refine (row_any r _).mono ?_; rintro e w3 ⟨rfl, h3, h4⟩; have R3 := Lib.hid h3; have U3 := Lib.hid h4; clear h3 h4)
        | fail)
      go_roundw
      case rel => exact ⟨k + 1, by omega, by go_num, _, O10.out⟩
      case measure => simp [intOf]; omega
    · obtain rfl : k = m := by omega
      have BD := Lib.hid (t34_bd zs (k := k) (by omega))
      clear hO HS
      obtain ⟨wo, hwo⟩ : ∃ wo : World, wo = wr := ⟨_, rfl⟩
      have O0 : Hid (Own w1 (fun j => K j ∨ (wo.heap.size ≤ j ∧ j < (wo.alloc (.cells #[.int .i64 50, .int .i64 60] 3)).heap.size)) (wo.alloc (.cells #[.int .i64 50, .int .i64 60] 3)) p (mem34 zs k)) := by rw [hwo]; exact HO.out.widen ((Up.refl wr).alloc _)
      have B0 : Hid (Blk (wo.alloc (.cells #[.int .i64 50, .int .i64 60] 3)) wo.heap.size [.int .i64 50, .int .i64 60] 3) := Blk.new wo _ _
      rw [← hwo]
      have W1 : Hid (w1.heap.size ≤ wo.heap.size) := by unfold Hid; rw [hwo]; exact HO.out.upw.size
      clear hwo HO
      go_wp2
      go_loopw [55] (fun iv wr => ∃ q : Nat, q ≤ 2 ∧ iv = .int .i64 q ∧ Hid (∃ K A, Own w1 K wr p A ∧ T34 zs k A q ∧ K wo.heap.size) ∧ Hid (Blk wr wo.heap.size [.int .i64 50, .int .i64 60] 3)) (fun iv _ => 2 - (intOf iv).toNat)
      case atStart => exact ⟨0, by omega, rfl, ⟨_, _, O0.out, ⟨fun _ => rfl, fun e => by cases e⟩, .inr ⟨Nat.le_refl _, by simp⟩⟩, B0.out⟩
      case round =>
        obtain ⟨q, hq, rfl, HQ, HB⟩ := hrel
        by_cases hq2 : q < 2
        · obtain ⟨K2, A, hO, hT, hKt⟩ := HQ.out
          have HO := Lib.hid hO
          have HT := Lib.hid hT
          have HKT := Lib.hid hKt
          obtain ⟨tv, htv⟩ : ∃ tv : Int, tv = if q = 0 then 50 else 60 := ⟨_, rfl⟩
          have TS := t34_state (by omega) hq2 hT
          rw [← htv] at TS
          have TS := Lib.hid TS
          have t0 := (HB.out.at (i := q) (v := .int .i64 tv) (by rw [htv]; rcases Nat.eq_zero_or_pos q with h | h; · subst h; rfl
                                                                 · obtain rfl : q = 1 := by omega
                                                                   rfl)).2
          have t1 := HB.out.lt
          have hqi : (q : Int) < 2 := by omega
          have HTV := Lib.hid htv
          clear hO hT hKt htv HQ
          obtain ⟨wx, hwx⟩ : ∃ wx : World, wx = wr := ⟨_, rfl⟩
          rw [← hwx] at HO HB t0 t1 ⊢
          clear hwx
          go_wp2_with (first
            | (go_at_call 14; refine (stateO HO.out (t := tv) TS.out.1).mono ?_; rw [TS.out.2]; rintro e w3 ⟨v, rfl, h5, h6⟩; obtain ⟨rs, hrs, hR⟩ := RestC.start h5; have hrl : rs.length = k := (by have := congrArg List.length hrs; rwa [List.length_map, S34_len] at this); obtain ⟨ra, rc, hv, _, _, _⟩ := own_form hR.own; rw [hrl] at hv; subst hv; have HGK : Hid (∀ i (h : i < rs.length) g, rs[i].rv.ownBlock = some g → wx.heap.size ≤ g ∧ g < w3.heap.size) := (fun i h g hg => ⟨((own_ty (hR.row i h (Nat.zero_le _))) g hg).2, own_lt (hR.row i h (Nat.zero_le _)) g hg⟩); have HRS := Lib.hid hrs; have HRL := Lib.hid hrl; have HR := Lib.hid hR; have O3 := Lib.hid (HO.out.widen h6); have B3 := Lib.hid (HB.out.up h6); clear hrs hrl hR h5 h6)
            | fail)
          go_loopw [76] (fun iv wr => ∃ j : Nat, j ≤ k ∧ iv = .int .i64 j ∧ Hid (RestC wr wx.heap.size j (.slice ra k rc) rs) ∧ Hid (Own w1 (fun j => K2 j ∨ (wx.heap.size ≤ j ∧ j < w3.heap.size)) wr p A) ∧ Hid (Blk wr wo.heap.size [.int .i64 50, .int .i64 60] 3)) (fun iv _ => k - (intOf iv).toNat)
          case atStart => exact ⟨0, by omega, rfl, HR.out, O3.out, B3.out⟩
          case round =>
            obtain ⟨j, hj, rfl, HRj, HOj, HBj⟩ := hrel
            by_cases hjk : j < k
            · have hjr : j < rs.length := by rw [HRL.out]; exact hjk
              obtain ⟨e1, e2⟩ := rest_at HRS.out hjr
              have hrow := HRj.out.row j hjr (Nat.le_refl _)
              obtain ⟨g, gc, hgv, hg1, hg2, _⟩ := own_some hrow (by rw [e2, rowV_len]; decide)
              rw [e2, rowV_len] at hgv
              obtain ⟨sg, sc, hsv, _, _, hsg, hsat, _⟩ := own_some HRj.out.own (by omega)
              simp only [Value.slice.injEq] at hsv
              obtain ⟨rfl, hkk, rfl⟩ := hsv
              clear hkk
              have c0 := hsat _ _ (rmC_get rs j hjr).1
              have c1 := hsat _ _ (rmC_get rs j hjr).2
              rw [e1] at c0
              rw [hgv] at c1
              have HGV := Lib.hid hgv
              have hGK := HGK.out j hjr g (by rw [hgv]; rfl)
              rw [e2, hgv] at hrow
              rw [e2, rowV_len] at hg1
              have HROW := Lib.hid hrow
              obtain ⟨b, off, rfl, hb, hx⟩ := elems_up HE.out (H1.out.trans HOj.out.upw) j (by omega)
              generalize zs.getD j 0 = r at *
              have hjki : (j : Int) < (k : Int) := by omega
              have X0 : Hid (At wr b (off + j) (.int .i64 r)) := ⟨hb, hx⟩
              have RL : Hid ((rowV r).length = 1) := rfl
              obtain ⟨raw, _, hgc2⟩ := own_raw (by rw [rowV_len] at hrow; exact hrow)
              have RAW := Lib.hid raw
              have N0 := Lib.hid (At.new wr #[.string (keyB j), .slice (some ⟨g, 0, none⟩) 1 gc] 40 0 (.string (keyB j)) rfl)
              have N1 := Lib.hid (At.new wr #[.string (keyB j), .slice (some ⟨g, 0, none⟩) 1 gc] 40 1 (.slice (some ⟨g, 0, none⟩) 1 gc) rfl)
              have UA := Lib.hid ((Up.refl wr).alloc (.cells #[.string (keyB j), .slice (some ⟨g, 0, none⟩) 1 gc] 40))
              have hkb : ((keyB j).toList == (keyB j).toList) = true := by simp
              clear hb hx hrow raw e1 e2 hgv hsat
              go_wp2
              obtain ⟨WA, hWA⟩ : ∃ WA, WA = wr.alloc (.cells #[.string (keyB j), .slice (some ⟨g, 0, none⟩) 1 gc] 40) := ⟨_, rfl⟩
              rw [← hWA] at N0 N1 UA ⊢
              clear hWA c0 c1
              have n0 := N0.out.2
              have n1 := N1.out.2
              have n0l := N0.out.1
              have x0 := (X0.out.grow UA.out).2
              have x0l := (X0.out.grow UA.out).1
              go_region_held3 (fun w' => w'.cell? ⟨wr.heap.size, 0, none⟩ = some (.string (keyB j)) ∧ w'.cell? ⟨wr.heap.size, 1, none⟩ = some (.slice (some ⟨g, 0, none⟩) 1 gc) ∧ w'.cell? ⟨b, off + j, none⟩ = some (.int .i64 r))
                (first | exact s6 | exact s5 | exact s4 | go_keep)
                (first
                  | (have tok := R5; go_at_call 12; refine (equalR_same _ _ (rowV r) _ (own_src (own_up HROW.out (UA.out.trans U5.out))) (own_src R5.out) (by have := RL.out; omega)).mono ?_; rintro e w6 ⟨rfl, h6⟩; have U6 : Hid (Up WA w6) := U5.out.trans h6; have s6 := And.intro (N0.out.grow U6.out).2 (And.intro (N1.out.grow U6.out).2 (X0.out.grow (UA.out.trans U6.out)).2); have n6l := (N1.out.grow U6.out).1; clear h6)
                  | (have tok := U4; go_at_call 9; refine (row_any r _).mono ?_; rintro e w5 ⟨rfl, h5, h6⟩; have R5 := Lib.hid h5; have U5 : Hid (Up WA w5) := U4.out.trans h6; have s5 := And.intro (N0.out.grow U5.out).2 (And.intro (N1.out.grow U5.out).2 (X0.out.grow (UA.out.trans U5.out)).2); have n5l := (N1.out.grow U5.out).1; clear h5 h6)
                  | (go_at_call 11; refine (key_any _ _).mono ?_; rintro e w4 ⟨rfl, h4⟩; have U4 : Hid (Up WA w4) := (by first | exact h4 | exact (Up.refl WA).drew.trans h4); have s4 := And.intro (N0.out.grow U4.out).2 (And.intro (N1.out.grow U4.out).2 (X0.out.grow (UA.out.trans U4.out)).2); have n4l := (N1.out.grow U4.out).1; clear h4)
                  | fail)
              all_goals
                obtain ⟨s60, s61, s62⟩ := s6
                go_wp2_with (first
                  | (go_at_call 13; refine (scribble_any g 1 gc 0 0 ByteArray.empty w6 (RAW.out.chg (Below.chg (fun _ => False) (UA.out.trans U6.out)) (fun e => e)) hg1 hgc2).mono ?_; rintro e w7 ⟨rfl, h7⟩; have C7 := Lib.hid h7; clear h7)
                  | fail)
                go_roundw
                case rel =>
                  have u6 := UA.out.trans U6.out
                  refine ⟨j + 1, by omega, by go_num, (HRj.out.up u6).step hjr (by rw [HGV.out]; rfl) C7.out, (HOj.out.up u6).scrib C7.out (.inr hGK) ?_, (HBj.out.up u6).chg C7.out fun e => ?_⟩
                  · have := W1.out; omega
                  · omega
                case measure => simp [intOf]; omega
            · obtain rfl : j = k := by omega
              rcases Nat.eq_zero_or_pos q with h0 | h0
              · have htv : tv = 50 := by rw [HTV.out, h0]; rfl
                subst htv
                subst h0
                have hA0 := HT.out.1 rfl
                subst hA0
                go_wp2_with (first
                  | (go_at_call 15; refine (fullO HOj.out (t := 50) BD.out.1 (by decide) BD.out.2.1 BD.out.2.2.1 BD.out.2.2.2.1 BD.out.2.2.2.2.1).mono ?_; rintro e w7 ⟨A', st, idx, rfl, h2, h3, h4, h5, h6⟩; have T7 := Lib.hid (t34_next (by omega) h3 h4 h5 h6); have O7 := Lib.hid h2; clear h2 h3 h4 h5 h6)
                  | fail)
                go_roundw
                case rel => exact ⟨1, by omega, by first | rfl | go_num, ⟨_, _, O7.out.1, T7.out, .inl HKT.out⟩, HBj.out.chg O7.out.2 fun e => e.2 (.inl HKT.out)⟩
                case measure => simp [intOf]
              · have h1 : q = 1 := by omega
                have htv : tv = 60 := by rw [HTV.out, h1]; rfl
                subst htv
                subst h1
                go_wp2
                go_roundw
                case rel => exact ⟨2, by omega, by first | rfl | go_num, ⟨_, _, HOj.out, ⟨fun e => (by cases e), fun e => (by cases e)⟩, .inl HKT.out⟩, HBj.out⟩
                case measure => simp [intOf]
        · obtain rfl : q = 2 := by omega
          go_wp2
          go_ret
          obtain ⟨K2, A, hO, _, _⟩ := HQ.out
          exact ⟨rfl, H1.out.trans hO.upw⟩
end Go.Proofs.Ytdaehidbeleblaa.Bk
