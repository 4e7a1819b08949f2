/- CheckpointRecoversPrefix. -/
import Derived.Test.YtmaeeidaegigcaaCkt
namespace Go.Proofs.Ytmaeeidaegigcaa.Ck
open Go Go.RowKit Hp So
open Dk (Elems elems_up)
open Wl (Log St)
set_option linter.unusedVariables false

set_option maxRecDepth 100000 in
set_option maxHeartbeats 4000000 in
theorem walk47 (a0 : Option Addr) (len0 cap0 : Nat) (z0 : List Int) (v1 v2 : Value) (sv1 sv2 : List Bool) (w : World) (hE : Elems w a0 len0 z0) (hl : len0 ≤ cap0) (hm : cap0 ≤ 9223372036854775807) (h1 : Bools w v1 sv1) (h2 : Bools w v2 sv2) :
    Calls Try.prog 11 #[.slice a0 len0 cap0, v1, v2] w fun e w' => e = .returned (.bool true) ∧ Up w w' := by
  have HE := Lib.hid hE
  have H1 := Lib.hid h1
  have H2 := Lib.hid h2
  obtain ⟨ca, cc, rfl, _, _, _, _⟩ := h1
  obtain ⟨la, lc, rfl, _, _, _, _⟩ := h2
  clear hE
  obtain ⟨N, hN⟩ : ∃ N : Nat, N = min len0 150 := ⟨_, rfl⟩
  have hmin : (if (150 : Int) < (len0 : Int) then (150 : Int) else (len0 : Int)) = (N : Int) := by split <;> omega
  have hN1 : N ≤ 150 := by omega
  have hN2 : N ≤ len0 := by omega
  have hN3 : N ≤ cap0 := by omega
  clear hN
  obtain ⟨ie, hie, hze0, hze1, hze2⟩ := info_parts Try.infoEntry
  go_enter Try.func11, Try.ntmps11
  go_wp2_with (first
    | (go_at_call 32; refine (lwnew 40 _ (by decide) (by decide)).mono ?_; rintro e w2 ⟨p, rfl, H3, U2⟩)
    | (go_at_call 31; refine (works_any w).mono ?_; rintro e w1 ⟨rfl, h1⟩; have U1 := Lib.hid h1; clear h1)
    | fail)
  clear hmin
  have H0 := Lib.hid (H3.out.from U1.out)
  clear H3 U1 U2
  go_loopw [9, 10, 35] (fun uv dv iv wr => ∃ (k D : Nat) (U : Ws), k ≤ N ∧ dv = .int .i64 (D : Int) ∧ iv = .int .i64 (k : Int) ∧ Hid (Lw 40 w wr p k uv D U U)) (fun _ _ iv _ => N - (intOf iv).toNat)
  case atStart => exact ⟨0, 0, [], Nat.zero_le _, rfl, rfl, H0.out⟩
  case round =>
    obtain ⟨k, D, U, hk, rfl, rfl, HL⟩ := hrel
    obtain ⟨ua, uc, rfl, _, _, _⟩ := own_form HL.out.own
    have hlen := HL.out.len
    by_cases hlt : k < N
    · have hli : (k : Int) < (N : Int) := by omega
      obtain ⟨b, off, rfl, hb1, hb2⟩ := (elems_up HE.out HL.out.up) k (by omega)
      obtain ⟨x, hx⟩ : ∃ x, x = z0.getD k 0 := ⟨_, rfl⟩
      rw [← hx] at hb2
      clear hx
      have HM := Lib.hid (fun W => Dk.mod_any x 8 W (by decide) (by decide))
      have hm0 := modV_nonneg x 8 (by decide)
      have hm8 := modV_lt x 8 (by decide)
      generalize modV x 8 = m at *
      go_upto_block 2 with (first
        | (go_at_call 15; refine (HM.out _).mono ?_; rintro e w3 ⟨rfl, rfl⟩)
        | fail)
      have hk8 : Hid (k ≤ 800) := by unfold Hid; omega
      go_cut [9, 10, 13, 14] from 41 to 70 (fun s9 s10 s13 s14 wx => ∃ ua' uc' D' U', s9 = .slice ua' U'.length uc' ∧ s10 = .int .i64 ((D' : Nat) : Int) ∧ Hid (Lw 40 w wx p (k + 1) (.slice ua' U'.length uc') D' U' U'))
      case first =>
        have hcs : m = 0 ∨ m = 1 ∨ m = 2 ∨ m = 3 ∨ (¬ m = 0 ∧ ¬ m = 1 ∧ ¬ m = 2 ∧ ¬ m = 3) := by omega
        clear hm0 hm8
        rcases hcs with rfl | rfl | rfl | rfl | ⟨q0, q1, q2, q3⟩
        · go_wp2_with (first
            | (go_at_call 37; refine (lwsync HL.out).mono ?_; rintro e w4 ⟨rfl, H4⟩)
            | fail)
          go_meet
          exact ⟨ua, uc, U.length, U, rfl, rfl, H4⟩
        · go_wp2_with (first
            | (go_at_call 34; refine (lwbegin HL.out hk8.out).mono ?_; rintro e w4 ⟨y, rfl, H4⟩)
            | fail)
          go_meet
          exact ⟨ua, uc, D, U, rfl, rfl, H4⟩
        · go_wp2_with (first
            | (go_at_call 35; refine (lwstep HL.out (by decide) (by decide) hk8.out).mono ?_; rintro e w4 ⟨y, y2, rfl, H4⟩)
            | fail)
          go_meet
          exact ⟨ua, uc, D, U, rfl, rfl, H4⟩
        · go_wp2_with (first
            | (go_at_call 35; refine (lwstep HL.out (by decide) (by decide) hk8.out).mono ?_; rintro e w4 ⟨y, y2, rfl, H4⟩)
            | fail)
          go_meet
          exact ⟨ua, uc, D, U, rfl, rfl, H4⟩
        · go_upto_region 13 with (first
            | (go_at_call 33; refine (lwput HL.out (by decide) (by decide) hk8.out (wrap64 (x.tdiv 8))).mono ?_; rintro e w4 ⟨y, rfl, hy⟩; have HY := Lib.hid hy; clear hy)
            | fail)
          obtain ⟨u, hu⟩ : ∃ u, u = updB (wrap64 (x.tdiv 8)) := ⟨_, rfl⟩
          rw [← hu] at HY ⊢
          clear hu
          rcases HY.out with ⟨rfl, H4⟩ | ⟨rfl, H4⟩
          · go_wp2
            go_meet
            exact ⟨ua, uc, D, U, rfl, rfl, H4.out.mv ((Up.refl _).alloc _)⟩
          · have H5 := Lib.hid (H4.out.mv (((Up.refl w4).alloc (.cells #[.string u.1, .string u.2] 62)).alloc (.cells #[.string u.1, .string u.2] 62)))
            have HNEWS := Lib.hid (cells_new (w4.alloc (.cells #[.string u.1, .string u.2] 62)) #[.string u.1, .string u.2] 62)
            rw [show (w4.alloc (.cells #[.string u.1, .string u.2] 62)).heap.size = w4.heap.size + 1 by simp] at HNEWS
            go_wp2_with (at_builtin; refine wpList_append_own_at _ rfl (.tmp 50) (.tmp 52) 67 rfl 0 62 ie (.agg #[.string ByteArray.empty, .string ByteArray.empty]) 2 32 Try.underlying67 hie hze0 hze1 hze2 rfl (by decide) (.slice ua U.length uc) U.length _ rfl H5.out.own ⟨w4.heap.size + 1, 0, none⟩ 1 1 [.string u.1, .string u.2] rfl rfl HNEWS.out (by intro u' hu'; simp at hu'; rcases hu' with rfl | rfl <;> rfl) (by unfold maxLen; omega) (by omega) (by omega) ?_)
            intro v6 w6 hown6 hg6 _ hat6
            obtain ⟨a6, c6, rfl, _, _, _⟩ := own_form hown6
            have H6 : Hid (Lw 40 w w6 p (k + 1) (.slice a6 (U.length + 1) c6) D (U ++ [u]) (U ++ [u])) := H5.out.app hown6 hg6 (by
              rcases hat6 with e | e
              · exact .inl e
              · exact .inr ⟨_, e, by simp⟩)
            clear hown6 hg6 hat6
            go_wp2
            go_meet
            exact ⟨a6, c6, D, U ++ [u], by rw [List.length_append]; rfl, rfl, by rw [List.length_append]; exact H6.out⟩
      case rest =>
        obtain ⟨ua2, uc2, D2, U2, rfl, rfl, H7⟩ := hcut
        have HAL := Lib.hid (lwall H7.out)
        have HLN : Hid (U2.length ≤ 1000) := by have := H7.out.len; unfold Hid; omega
        have HEW : Hid ((U2.foldl apL []).length ≤ 1000) := Nat.le_trans H7.out.ewok.len (by decide)
        have HRP : Hid (∀ W, Lw 40 w W p (k + 1) (.slice ua2 U2.length uc2) D2 U2 U2 → Calls Try.prog 40 #[.slice ua2 U2.length uc2] W fun e w' => ∃ v', e = .returned v' ∧ Hid (w'.ownsRow 0 62 2 v' (U2.foldl apL []).length (ec (U2.foldl apL []))) ∧ Hid (Up W w')) := fun W hW => by
          have := replay_pre hW.own (Nat.le_refl _) HLN.out hW.wok hW.key
          rw [List.take_length] at this
          exact this
        clear hk8 HM
        go_wp2_with (first
          | (go_at_call 38; refine (equalE_any v8 v9 _ _ _ (own_src (own_up O8.out U9.out)) (own_src O9.out) HEW.out HEW.out).mono ?_; rintro e w10 ⟨rfl, h10⟩; rw [decide_eq_true rfl]; have U10 := Lib.hid h10; clear h10)
          | (go_at_call 40; refine (HRP.out _ H8.out).mono ?_; rintro e w9 ⟨v9, rfl, O9, U9⟩)
          | (go_at_call 39; refine HAL.out.mono ?_; rintro e w8 ⟨v8, rfl, O8, U8, H8⟩)
          | fail)
        go_roundw
        case rel => exact ⟨k + 1, D2, U2, hlt, rfl, by go_num, (H8.out.mv U9.out).mv U10.out⟩
        case measure => simp [intOf]; omega
    · obtain rfl : k = N := by omega
      have HCR := Lib.hid (lwcrash2 HL.out (by decide) (by decide) (by omega) sv1 sv2 _ _ H1.out H2.out)
      have HWK := Lib.hid HL.out.wok
      have HKY := Lib.hid HL.out.key
      have HDL := Lib.hid HL.out.dle
      have hlen2 : U.length ≤ 150 := by omega
      have HLN : Hid (U.length ≤ 150) := hlen2
      go_wp2_with (first
        | (go_at_call 39; refine (hall H4.out S4.out).mono ?_; rintro e w5 ⟨v5, rfl, O5, U5, H5⟩; rw [E4.out] at O5)
        | (go_at_call 41; refine HCR.out.mono ?_; rintro e w4 ⟨rfl, J, C4, base4, us4, i4, d4, hJ1, hJ2, E4, S4, H4⟩)
        | fail)
      have HOW : Hid (w5.ownsRow 0 62 2 (.slice ua U.length uc) U.length (ec U)) := by obtain ⟨F, _, _, h3, _⟩ := H5.out; exact h3
      have HUW := Lib.hid H5.out.world
      have HEJ : Hid (((U.take J).foldl apL []).length ≤ 1000) := Nat.le_trans (HWK.out J hJ2).len (by decide)
      have hcap : U.length ≤ uc := by assumption
      clear HCR E4 S4 H4 H5 U5 hlen hlen2
      go_loopw [16] (fun s16 wr => ∃ n : Nat, s16 = .int .i64 (n : Int) ∧ D ≤ n ∧ n ≤ J ∧ Hid (Up w5 wr)) (fun s16 _ => J + 1 - (intOf s16).toNat)
      case atStart => exact ⟨D, rfl, Nat.le_refl _, hJ1, Up.refl _⟩
      case round =>
        obtain ⟨n, rfl, hDn, hnJ, UR⟩ := hrel
        have hnU : (n : Int) ≤ (U.length : Int) := by omega
        have hn0 : (0 : Int) ≤ (n : Int) := by omega
        have hnc : (n : Int) ≤ (uc : Int) := by omega
        have HRP := Lib.hid (replay_pre (m := n) (own_up HOW.out UR.out) (by omega) (by have := HLN.out; omega) HWK.out HKY.out)
        have HEN : Hid (((U.take n).foldl apL []).length ≤ 1000) := Nat.le_trans (HWK.out n (by omega)).len (by decide)
        by_cases hq : (U.take J).foldl apL [] = (U.take n).foldl apL []
        · go_wp2_with (first
            | (go_at_call 38; refine (equalE_any v5 v6 _ _ _ (own_src (own_up O5.out (UR.out.trans U6.out))) (own_src O6.out) HEJ.out HEN.out).mono ?_; rintro e w7 ⟨rfl, h7⟩; rw [decide_eq_true hq]; have U7 := Lib.hid h7; clear h7)
            | (go_at_call 40; refine HRP.out.mono ?_; rintro e w6 ⟨v6, rfl, O6, U6⟩)
            | fail)
          go_ret
          exact ⟨rfl, ((HUW.out.trans UR.out).trans U6.out).trans U7.out⟩
        · have hnJ2 : ¬ n = J := fun e => hq (by rw [e])
          go_wp2_with (first
            | (go_at_call 38; refine (equalE_any v5 v6 _ _ _ (own_src (own_up O5.out (UR.out.trans U6.out))) (own_src O6.out) HEJ.out HEN.out).mono ?_; rintro e w7 ⟨rfl, h7⟩; rw [decide_eq_false hq]; have U7 := Lib.hid h7; clear h7)
            | (go_at_call 40; refine HRP.out.mono ?_; rintro e w6 ⟨v6, rfl, O6, U6⟩)
            | fail)
          go_roundw
          case rel => exact ⟨n + 1, by go_num, by omega, by omega, (UR.out.trans U6.out).trans U7.out⟩
          case measure => simp [intOf]; omega
end Go.Proofs.Ytmaeeidaegigcaa.Ck
