/- WALCrashIsIdempotent: the walk. -/
import Derived.Test.YtmaeeidaegigcaaWlo
import Derived.Test.YtmaeeidaegigcaaBo
namespace Go.Proofs.Ytmaeeidaegigcaa.Wl
open Go Go.RowKit Hp
open Dk (Dsk DiskR bc DOk Bytes Elems elems_up)
set_option linter.unusedVariables false

theorem RecP.chg {S : Nat → Prop} {w w' : World} {B : Nat} {v : Value} {rs : List (List Int)} (h : RecP w B v rs) (hc : Chg S w w') (hS : ∀ k, B ≤ k → k < w.heap.size → ¬ S k) : RecP w' B v rs := by
  obtain ⟨xs, h1, h2⟩ := h
  have key : ∀ {E : TypeId} {s n : Nat} {x : Value} {l : List Value}, w.ownsRow B E s x n l → w'.ownsRow B E s x n l := fun hx => own_chg hx hc fun k hk => hS k ((own_ty hx) k hk).2 (own_lt hx k hk)
  exact ⟨xs, key h1, h2.same fun x r hx => key hx⟩
theorem bools_far {w : World} {vs : Value} {sv : List Bool} (h : Bools w vs sv) (hne : sv ≠ []) : ∀ a n c, vs = .slice (some a) n c → a.block < w.heap.size := by
  rintro a n c rfl
  obtain ⟨a', cap, e, _, _, _, h4⟩ := h
  cases e
  obtain ⟨b, off, e, hr⟩ := h4 0 (List.length_pos_iff.2 hne)
  cases e
  exact hr.1
theorem bools_up {w w' : World} {vs : Value} {sv : List Bool} (h : Bools w vs sv) (hu : Up w w') : Bools w' vs sv := by
  obtain ⟨a, cap, e, h1, h2, h3, h4⟩ := h
  exact ⟨a, cap, e, h1, h2, h3, fun i hi => by obtain ⟨b, off, e, hr⟩ := h4 i hi; exact ⟨b, off, e, At.grow hr hu⟩⟩
theorem LogPost.self {p : Nat} {L : Log} {F : Nat → Prop} {w : World} (h : LogR w p L F) : LogPost p L F w w := by
  obtain ⟨q, G, dv, ev, hp⟩ := h
  exact ⟨⟨q, G, dv, ev, hp.fx0 (Chg.refl F w) hp.lt⟩, Chg.refl F w⟩
theorem fx_far {F : Nat → Prop} {w w2 W : World} (hF : ∀ k, F k → w.heap.size ≤ k) (hu : Up w w2) : ∀ k, Fx F w2 W k → w.heap.size ≤ k := fun k hk => by
  have := hu.size
  rcases hk with h | h
  · exact hF k h
  · omega
set_option maxRecDepth 100000 in
set_option maxHeartbeats 4000000 in
theorem walk38 (a0 : Option Addr) (len0 cap0 : Nat) (z0 : List Int) (v1 v2 : Value) (sv1 sv2 : List Bool) (w : World) (hE : Elems w a0 len0 z0) (hl : len0 ≤ cap0) (hm : cap0 ≤ 9223372036854775807) (h1 : Bools w v1 sv1) (h2 : Bools w v2 sv2) :
    Calls Try.prog 7 #[.slice a0 len0 cap0, v1, v2] w fun e w' => e = .returned (.bool true) ∧ Up w w' := by
  have HE := Lib.hid hE
  have H1 := Lib.hid h1
  have H2 := Lib.hid h2
  clear hE h1 h2
  obtain ⟨N, hN⟩ : ∃ N : Nat, N = min len0 40 := ⟨_, rfl⟩
  have hmin : (if (40 : Int) < (len0 : Int) then (40 : Int) else (len0 : Int)) = (N : Int) := by split <;> omega
  have hN1 : N ≤ 40 := by omega
  have hN2 : N ≤ len0 := by omega
  have hN3 : N ≤ cap0 := by omega
  clear hN
  have HNW : Hid (∀ W, Calls Try.prog 22 #[.int .i64 30] W fun e w' => ∃ p F, e = .returned (.tuple #[.pointer (some ⟨p, 0, none⟩), .int .i64 0]) ∧ Hid (LogR w' p (newL 30).head F) ∧ Hid (∀ k, F k → W.heap.size ≤ k) ∧ Hid (Up W w')) := fun W => new_any 30 W (by decide) (by decide)
  have HST := Lib.hid (St.new 30 (by decide))
  go_enter Try.func7, Try.ntmps7
  go_wp2_with (first
    | (go_at_call 21; refine (works_any w).mono ?_; rintro e w1 ⟨rfl, h1⟩; have U1 := Lib.hid h1; clear h1)
    | (go_at_call 22; refine (HNW.out _).mono ?_; rintro e w2 ⟨p, F, rfl, R2, F2, U2⟩)
    | fail)
  clear hmin
  have FW : Hid (∀ k, F k → w.heap.size ≤ k) := fun k hk => Nat.le_trans U1.out.size (F2.out k hk)
  have UW := Lib.hid (U1.out.trans U2.out)
  have PW : Hid (LogPost p (newL 30).head F w2 w2) := LogPost.self R2.out
  have HLT := Lib.hid R2.out.lt
  generalize (newL 30).head = L0 at *
  clear U1 U2 F2 R2
  go_loopw [30] (fun iv wr => ∃ (i : Nat) (L : Log) (d : Nat) (rs : List (List Int)), i ≤ N ∧ iv = .int .i64 (i : Int) ∧ Hid (St 30 i L d rs) ∧ Hid (LogPost p L F w2 wr)) (fun iv _ => N - (intOf iv).toNat)
  case atStart => exact ⟨0, L0, 0, [], Nat.zero_le _, rfl, HST.out, PW.out⟩
  case round =>
    obtain ⟨i, L, d, rs, hi, rfl, HS, HP⟩ := hrel
    by_cases hlt : i < N
    · have hli : (i : Int) < (N : Int) := by omega
      obtain ⟨b, off, rfl, hb1, hb2⟩ := (elems_up HE.out (post_up HP.out FW.out UW.out)) i (by omega)
      obtain ⟨x, hx⟩ : ∃ x, x = z0.getD i 0 := ⟨_, rfl⟩
      rw [← hx] at hb2
      clear hx
      have HM := Lib.hid (fun W => Dk.mod_any x 5 W (by decide) (by decide))
      have HSY := Lib.hid (sync_st HS.out HP.out HLT.out)
      have HREC : Hid (∀ y : Int, Calls Try.prog 23 #[.int .i64 (i : Int), .int .i64 y] wr fun e w' => ∃ g c r n, e = .returned (.slice (some ⟨g, 0, none⟩) n n) ∧ Hid (n = r.length ∧ r.length ≤ 40 ∧ IsB r ∧ wr.heap.size ≤ g ∧ Blk w' g (bc r ++ c) 5) ∧ Hid (Up wr w')) := by
        intro y
        refine (record_any (i : Int) y wr).mono ?_
        rintro e w' ⟨g, rfl, hg, ⟨c, hb⟩, hu⟩
        exact ⟨g, c, _, _, rfl, ⟨rfl, (recd_len _ _).2, recd_isB _ _, hg, hb⟩, hu⟩
      have HAP : Hid (∀ g c r n w', Hid (n = r.length ∧ r.length ≤ 40 ∧ IsB r ∧ wr.heap.size ≤ g ∧ Blk w' g (bc r ++ c) 5) → Hid (Up wr w') → Calls Try.prog 24 #[.pointer (some ⟨p, 0, none⟩), .slice (some ⟨g, 0, none⟩) n n] w' fun e w'' => ∃ L' rs' k, e = .returned (.int .i64 k) ∧ Hid (St 30 (i + 1) L' d rs') ∧ Hid (LogPost p L' F w2 w'')) := by
        intro g c r n w' hr hu
        obtain ⟨r1, r2, r3, r4, r5⟩ := hr.out
        rw [r1]
        refine (app_st HS.out HP.out HLT.out (by decide) (by decide) (by omega) w' g r c hu.out r4 r5 r2 r3).mono ?_
        rintro e w'' ⟨L', rs', k, rfl, _, a1, a2, _⟩
        exact ⟨L', rs', k, rfl, a1, a2⟩
      by_cases hm0 : modV x 5 = 0
      · have hmb : (modV x 5 == 0) = true := by simp [hm0]
        go_wp2_with (first
          | (go_at_call 15; refine (HM.out _).mono ?_; rintro e w3 ⟨rfl, rfl⟩)
          | (go_at_call 27; refine HSY.out.mono ?_; rintro e w4 ⟨rfl, L4, S4, P4⟩)
          | fail)
        go_roundw
        case rel => exact ⟨i + 1, L4, _, _, hlt, by go_num, S4.out, P4.out⟩
        case measure => simp [intOf]; omega
      · have hmb : (modV x 5 == 0) = false := by simp [hm0]
        go_wp2_with (first
          | (go_at_call 15; refine (HM.out _).mono ?_; rintro e w3 ⟨rfl, rfl⟩)
          | (go_at_call 23; refine (HREC.out _).mono ?_; rintro e w4 ⟨g, c, r, n, rfl, R4, U4⟩)
          | (go_at_call 24; refine (HAP.out _ _ _ _ _ R4 U4).mono ?_; rintro e w5 ⟨L5, rs5, k5, rfl, S5, P5⟩)
          | fail)
        go_roundw
        case rel => exact ⟨i + 1, L5, _, _, hlt, by go_num, S5.out, P5.out⟩
        case measure => simp [intOf]; omega
    · obtain rfl : i = N := by omega
      have hli : ¬ (i : Int) < (i : Int) := by omega
      have hfar := fx_far FW.out UW.out (W := wr)
      have HC1 := Lib.hid (crash_st HS.out HP.out HLT.out (by decide) (by decide) (by omega) sv1 v1 (bools_up H1.out (post_up HP.out FW.out UW.out)) (fun hne a n c e k => by have := bools_far H1.out hne a n c e; have := hfar _ k; omega))
      have HR1 : Hid (∀ L' j W, Hid (St 30 (i + 1) L' j (rs.take j)) → Hid (LogPost p L' F w2 W) → Calls Try.prog 26 #[.pointer (some ⟨p, 0, none⟩)] W fun e w' => ∃ v, e = .returned v ∧ Hid (RecP w' W.heap.size v (rs.take j)) ∧ Hid (Up W w')) := fun L' j W hS hP => recs_st hS.out hP.out (by omega)
      have HC2 : Hid (∀ L' j W W', Hid (St 30 (i + 1) L' j (rs.take j)) → j ≤ rs.length → Hid (LogPost p L' F w2 W) → Hid (Up W W') → Calls Try.prog 28 #[.pointer (some ⟨p, 0, none⟩), v2] W' fun e w' => e = .returned (.int .i64 0) ∧ ∃ L'', Hid (St 30 (i + 2) L'' j (rs.take j)) ∧ Hid (LogPost p L'' (Fx F w2 W) W' w')) := by
        intro L' j W W' hS hj hP hU
        have hjl : (rs.take j).length = j := by rw [List.length_take]; omega
        have hf2 := fx_far FW.out UW.out (W := W)
        have hu := (post_up hP.out FW.out UW.out).trans hU.out
        have hf3 : ∀ k, Fx (Fx F w2 W) W' W' k → w.heap.size ≤ k := fx_far hf2 hu
        refine (crash_st hS.out (LogPost.self (hP.out.1.up hU.out)) (fun k hk => Nat.lt_of_lt_of_le (hP.out.1.lt k hk) hU.out.size) (by decide) (by decide) (by omega) sv2 v2 (bools_up H2.out hu) (fun hne a n c e k => by have := bools_far H2.out hne a n c e; have := hf3 _ k; omega)).mono ?_
        rintro e w' ⟨rfl, L'', j', g1, g2, g3, g4⟩
        rw [hjl] at g2
        obtain rfl : j' = j := by omega
        have g3 := g3.out
        rw [List.take_take, Nat.min_self] at g3
        exact ⟨rfl, L'', g3, g4⟩
      go_wp2_with (first
        | (go_at_call 26; refine (recs_st S6.out P6.out (by omega)).mono ?_; rintro e w7 ⟨v7, rfl, R7, U7⟩)
        | (go_at_call 28; refine (HC2.out _ _ _ _ S3 hj3 P3 U5).mono ?_; rintro e w6 ⟨rfl, L6, S6, P6⟩)
        | (go_at_call 26; refine (HR1.out _ _ _ S3 P3).mono ?_; rintro e w5 ⟨v5, rfl, R5, U5⟩)
        | (go_at_call 28; refine HC1.out.mono ?_; rintro e w3 ⟨rfl, L3, j, _, hj3, S3, P3⟩)
        | (go_at_call 29; refine (eqf_any _ _ (rs.take j) _ (RecP.bs (RecP.up (RecP.chg R5.out P6.out.2 (fun k hk _ e => by have := P3.out.1.lt k e; omega)) U7.out)) R7.out.bs (by have h3 := S3.out.cnt; omega)).mono ?_; rintro e w8 ⟨rfl, h8⟩; have U8 := Lib.hid h8; clear h8)
        | fail)
      go_ret
      have u5 : Up w w5 := (post_up P3.out FW.out UW.out).trans U5.out
      exact ⟨rfl, ((post_up P6.out (fx_far FW.out UW.out) u5).trans U7.out).trans U8.out⟩
end Go.Proofs.Ytmaeeidaegigcaa.Wl
