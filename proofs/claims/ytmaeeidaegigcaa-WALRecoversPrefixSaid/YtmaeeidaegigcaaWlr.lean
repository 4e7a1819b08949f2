/- WALRecoversPrefix: the walk. -/
import Derived.Test.YtmaeeidaegigcaaWls
import Derived.Test.YtmaeeidaegigcaaBo
namespace Go.Proofs.Ytmaeeidaegigcaa.Wl
open Go Go.RowKit Hp
open Dk (Dsk DiskR bc DOk Bytes Elems elems_up)
set_option linter.unusedVariables false

/-- The log is full. -/
theorem app_full {n i d p : Nat} {L : Log} {rs : List (List Int)} {F : Nat → Prop} (h : St n i L d rs) (hn1 : 4 ≤ n) (hn2 : n ≤ 256) (hi : i ≤ 1000) (w' : World) (hR : LogR w' p L F) (g : Nat) (r : List Int) (c : List Value) (hg : ¬ F g) (hb0 : Blk w' g (bc r ++ c) 5) (hr : r.length ≤ 40) (hf : L.full r.length = true) :
    Calls Try.prog 24 #[.pointer (some ⟨p, 0, none⟩), .slice (some ⟨g, 0, none⟩) r.length r.length] w' fun e w'' => e = .returned (.int .i64 18) ∧ Up w' w'' := by
  have h1 := h.len
  have h3 := h.inc
  have h5 := h.cnt
  refine (append_any p L F _ r w' hR (bytes_blk hb0 (by omega)) (fun a n c e => by cases e; exact hg) (by rw [h.dur]; omega) (by rw [h.dur]; exact hn2) (by omega) (by omega) h.pl (by omega) (by rw [h.ends, endsG_len]; omega)).mono ?_
  intro e w'' hh
  rw [hf, if_pos rfl] at hh
  exact hh
/-- What the law holds between two steps. -/
structure Mid (w wr : World) (p i : Nat) (L : Log) (d : Nat) (rs : List (List Int)) (Fr : Nat → Prop) (a : Option Addr) (c : Nat) (xs : List Value) : Prop where
  st : St 20 i L d rs
  log : LogR wr p L Fr
  far : ∀ k, Fr k → w.heap.size ≤ k
  up : Up w wr
  held : HeldR wr (.slice a rs.length c) xs rs Fr
  afar : ∀ b, a = some b → w.heap.size ≤ b.block
theorem Mid.ups {w wr wr' : World} {p i : Nat} {L : Log} {d : Nat} {rs : List (List Int)} {Fr : Nat → Prop} {a : Option Addr} {c : Nat} {xs : List Value} (h : Mid w wr p i L d rs Fr a c xs) (hu : Up wr wr') : Mid w wr' p i L d rs Fr a c xs :=
  ⟨h.st, h.log.up hu, h.far, h.up.trans hu, h.held.up hu, h.afar⟩
/-- After a call of the log's. -/
theorem Mid.post {w wr wr' : World} {p i : Nat} {L L' : Log} {d d' : Nat} {rs rs' : List (List Int)} {Fr : Nat → Prop} {a : Option Addr} {c : Nat} {xs : List Value} (h : Mid w wr p i L d rs Fr a c xs) (hP : LogPost p L' Fr wr wr') (hS : St 20 (i + 1) L' d' rs') :
    St 20 (i + 1) L' d' rs' ∧ LogR wr' p L' (Fx Fr wr wr') ∧ (∀ k, Fx Fr wr wr' k → w.heap.size ≤ k) ∧ Up w wr' ∧ HeldR wr' (.slice a rs.length c) xs rs (Fx Fr wr wr') :=
  ⟨hS, hP.1, fx_far h.far h.up, post_up hP h.far h.up, h.held.post hP⟩
set_option maxRecDepth 100000 in
set_option maxHeartbeats 4000000 in
theorem walk41 (a0 : Option Addr) (len0 cap0 : Nat) (z0 : List Int) (a1 : Option Addr) (len1 cap1 : Nat) (w : World) (hE : Elems w a0 len0 z0) (hl : len0 ≤ cap0) (hm : cap0 ≤ 9223372036854775807) (hB : Bools2 w a1 len1) (hl1 : len1 ≤ cap1) (hm1 : cap1 ≤ 9223372036854775807) :
    Calls Try.prog 9 #[.slice a0 len0 cap0, .slice a1 len1 cap1] w fun e w' => e = .returned (.bool true) ∧ Up w w' := by
  have HE := Lib.hid hE
  have HB := Lib.hid hB
  clear hE hB
  obtain ⟨N, hN⟩ : ∃ N : Nat, N = min len0 120 := ⟨_, rfl⟩
  have hmin : (if (120 : Int) < (len0 : Int) then (120 : Int) else (len0 : Int)) = (N : Int) := by split <;> omega
  have hN1 : N ≤ 120 := by omega
  have hN2 : N ≤ len0 := by omega
  have hN3 : N ≤ cap0 := by omega
  clear hN
  have hz : len1 = 0 ∨ 0 < len1 := by omega
  have HNW : Hid (∀ W, Calls Try.prog 22 #[.int .i64 20] W fun e w' => ∃ p F, e = .returned (.tuple #[.pointer (some ⟨p, 0, none⟩), .int .i64 0]) ∧ Hid (LogR w' p (newL 20).head F) ∧ Hid (∀ k, F k → W.heap.size ≤ k) ∧ Hid (Up W w')) := fun W => new_any 20 W (by decide) (by decide)
  have HST := Lib.hid (St.new 20 (by decide))
  go_enter Try.func9, Try.ntmps9
  go_wp2_with (first
    | (go_at_call 21; refine (works_any w).mono ?_; rintro e w1 ⟨rfl, h1⟩; have U1 := Lib.hid h1; clear h1)
    | (go_at_call 22; refine (HNW.out _).mono ?_; rintro e w2 ⟨p, F, rfl, R2, F2, U2⟩)
    | fail)
  clear hmin
  have M0 : Hid (Mid w w2 p 0 (newL 20).head 0 [] F none 0 []) := ⟨HST.out, R2.out, fun k hk => Nat.le_trans U1.out.size (F2.out k hk), U1.out.trans U2.out, ⟨.inl ⟨rfl, rfl⟩, fun k hk => (by cases hk), rfl, fun j hj => absurd hj (Nat.not_lt_zero _)⟩, fun b e => (by cases e)⟩
  generalize (newL 20).head = L0 at *
  clear U1 U2 F2 R2
  go_loopw [35, 7, 8, 9] (fun iv av dv cv wr => ∃ (i : Nat) (L : Log) (d : Nat) (rs : List (List Int)) (Fr : Nat → Prop) (a : Option Addr) (c : Nat) (xs : List Value) (cr : Nat), i ≤ N ∧ iv = .int .i64 (i : Int) ∧ av = .slice a rs.length c ∧ dv = .int .i64 (d : Int) ∧ cv = .int .i64 (cr : Int) ∧ cr ≤ i ∧ Hid (Mid w wr p i L d rs Fr a c xs)) (fun iv _ _ _ _ => N - (intOf iv).toNat)
  case atStart => exact ⟨0, L0, 0, [], F, none, 0, [], 0, Nat.zero_le _, rfl, rfl, rfl, rfl, Nat.le_refl _, M0.out⟩
  case round =>
    obtain ⟨i, L, d, rs, Fr, a, c, xs, cr, hi, rfl, rfl, rfl, rfl, hcr, HM⟩ := hrel
    by_cases hlt : i < N
    · have hli : (i : Int) < (N : Int) := by omega
      obtain ⟨b, off, rfl, hb1, hb2⟩ := (elems_up HE.out HM.out.up) i (by omega)
      obtain ⟨x, hx⟩ : ∃ x, x = z0.getD i 0 := ⟨_, rfl⟩
      rw [← hx] at hb2
      clear hx
      have HMD := Lib.hid (fun W => Dk.mod_any x 8 W (by decide) (by decide))
      obtain ⟨y, hy⟩ : ∃ y, y = modV x 8 := ⟨_, rfl⟩
      have hy0 : 0 ≤ y := by rw [hy]; exact modV_nonneg x 8 (by decide)
      have hy8 : y < 8 := by rw [hy]; exact modV_lt x 8 (by decide)
      rw [← hy] at HMD
      clear hy
      have hcnt := HM.out.st.cnt
      have hdr := HM.out.st.d
      obtain ⟨a', c', hform, hc1, hc2, hc3, hc4⟩ := HM.out.held.off.form
      rw [HM.out.held.len] at hform hc1
      cases hform
      have hrl : rs.length ≤ 120 := by omega
      have HC4 := Lib.hid hc4
      clear hc4
      have hnne : ∀ n : Nat, ((n : Int) != (n : Int)) = false := fun n => by simp
      by_cases hy1 : y = 0
      · subst hy1
        have HSY := Lib.hid (sync_st HM.out.st (LogPost.self HM.out.log) HM.out.log.lt)
        go_wp2_with (first
          | (go_at_call 15; refine (HMD.out _).mono ?_; rintro e w3 ⟨rfl, rfl⟩)
          | (go_at_call 27; refine HSY.out.mono ?_; rintro e w4 ⟨rfl, L4, S4, P4⟩; have Q4 := Lib.hid (HM.out.post P4.out S4.out); have M4 : Hid (Mid w w4 p (i + 1) L4 rs.length rs (Fx Fr wr w4) a c xs) := ⟨Q4.out.1, Q4.out.2.1, Q4.out.2.2.1, Q4.out.2.2.2.1, Q4.out.2.2.2.2, HM.out.afar⟩)
          | (go_at_call 26; refine (recs_st M4.out.st (LogPost.self M4.out.log) (by omega)).mono ?_; rintro e wA ⟨vA, rfl, RA, UA⟩)
          | (go_at_call 29; refine (eqf_any _ _ _ _ RA.out.bs (M4.out.held.bs.up UA.out) (by omega)).mono ?_; rintro e wB ⟨rfl, hB⟩; have UB := Lib.hid hB; clear hB)
          | fail)
        go_roundw
        case rel => exact ⟨i + 1, L4, rs.length, rs, _, a, c, xs, cr, hlt, by go_num, rfl, rfl, rfl, by omega, (M4.out.ups UA.out).ups UB.out⟩
        case measure => simp [intOf]; omega
      · have hy0b : (y == 0) = false := by rw [beq_eq_false_iff_ne]; exact hy1
        by_cases hy2 : y = 1
        · subst hy2
          go_upto_if 68 with (first
            | (go_at_call 15; refine (HMD.out _).mono ?_; rintro e w3 ⟨rfl, rfl⟩)
            | fail)
          go_cut [12] from 68 to 75 (fun s12 wx => ∃ bs, Hid (Bools w s12 bs) ∧ wr = wx)
          case first =>
            rcases hz with rfl | hz
            · go_wp2
              go_meet
              exact ⟨[], Arr.nil _ _ _, rfl⟩
            · have hz1 : (0 : Int) < (len1 : Int) := by omega
              have hz2 : ¬ (len1 : Int) = 0 := by omega
              have hmlt : cr % len1 < len1 := Nat.mod_lt _ hz
              have htm : (cr : Int).tmod (len1 : Int) = ((cr % len1 : Nat) : Int) := by rw [Int.tmod_eq_emod_of_nonneg (by omega)]; omega
              obtain ⟨b', off', vb, bs, rfl, hat, hbo⟩ := HB.out (cr % len1) hmlt
              have hat2 := (hat.grow HM.out.up)
              obtain ⟨h1, h2⟩ := hat2
              have hmi2 : ((cr % len1 : Nat) : Int) < (len1 : Int) := by omega
              obtain ⟨q, hq⟩ : ∃ q, q = cr % len1 := ⟨_, rfl⟩
              rw [← hq] at htm h2 hmi2 hmlt
              clear hq
              have HBO := Lib.hid hbo
              obtain ⟨ab, cb, rfl, _⟩ := hbo
              go_wp2
              go_meet
              exact ⟨bs, HBO.out, rfl⟩
          case rest =>
            obtain ⟨bs, HV, rfl⟩ := hcut
            have HCR := Lib.hid (crash_st HM.out.st (LogPost.self HM.out.log) HM.out.log.lt (by decide) (by decide) (by omega) bs _ (bools_up HV.out HM.out.up) (fun hne a n c e k => by have := bools_far HV.out hne a n c e; have := (fx_far HM.out.far HM.out.up) _ k; omega))
            have HRS : Hid (∀ L4 j W, Hid (St 20 (i + 1) L4 j (rs.take j)) → j ≤ rs.length → Hid (LogPost p L4 Fr wr W) → Calls Try.prog 26 #[.pointer (some ⟨p, 0, none⟩)] W fun e w' => ∃ a c, e = .returned (.slice a j c) ∧ Hid (Up W w')) := by
              intro L4 j W hS hj hP
              refine (recs_st hS.out hP.out (by omega)).mono ?_
              rintro e w' ⟨v, rfl, h1, h2⟩
              obtain ⟨a, c, rfl, _⟩ := bs_form h1.out.bs
              rw [List.length_take, Nat.min_eq_left hj]
              exact ⟨a, c, rfl, h2⟩
            go_upto_region 30 with (first
              | (go_at_call 28; refine HCR.out.mono ?_; rintro e w4 ⟨rfl, L4, j, hj1, hj2, S4, P4⟩; have Q4 := Lib.hid (HM.out.post P4.out S4.out))
              | (go_at_call 26; refine (HRS.out _ _ _ S4 hj2 P4).mono ?_; rintro e w5 ⟨a5, c5, rfl, U5⟩)
              | fail)
            have hd1 : ¬ (j : Int) < (d : Int) := by omega
            have hd2 : ¬ (rs.length : Int) < (j : Int) := by omega
            have hd3 : (j : Int) ≤ (c : Int) := by omega
            have hjl : (rs.take j).length = j := by rw [List.length_take]; omega
            have HJL := Lib.hid hjl
            clear hjl
            have M5 : Hid (Mid w w5 p (i + 1) L4 j (rs.take j) (Fx Fr wr w4) a j (xs.take j)) := by
              obtain ⟨q1, q2, q3, q4, q5⟩ := Q4.out
              exact Mid.ups ⟨q1, q2, q3, q4, by rw [HJL.out]; exact q5.take j hj2, HM.out.afar⟩ U5.out
            go_wp2_with (first
              | (go_at_call 26; refine (recs_st M5.out.st (LogPost.self M5.out.log) (by omega)).mono ?_; rintro e wA ⟨vA, rfl, RA, UA⟩)
              | (go_at_call 29; refine (eqf_any _ _ (rs.take j) _ RA.out.bs (by have hh := M5.out.held.bs.up UA.out; rw [HJL.out] at hh; exact hh) (by have := HJL.out; omega)).mono ?_; rintro e wB ⟨rfl, hB⟩; have UB := Lib.hid hB; clear hB)
              | fail)
            go_roundw
            case rel => exact ⟨i + 1, L4, j, rs.take j, _, a, j, _, cr + 1, hlt, by go_num, by rw [HJL.out], rfl, by go_num, by omega, (M5.out.ups UA.out).ups UB.out⟩
            case measure => simp [intOf]; omega
        · have hy1b : (y == 1) = false := by rw [beq_eq_false_iff_ne]; exact hy2
          by_cases hy3 : y = 2
          · subst hy3
            have HM2 : Hid (∀ (v : Int) W, Calls Try.prog 15 #[.int .i64 v, .int .i64 ((rs.length : Int) + 1)] W fun e w' => ∃ m : Nat, e = .returned (.int .i64 (m : Int)) ∧ m ≤ rs.length ∧ W = w') := by
              intro v W
              refine (Dk.mod_any v ((rs.length : Int) + 1) W (by omega) (by omega)).mono ?_
              rintro e w' ⟨rfl, rfl⟩
              have h1 := modV_nonneg v ((rs.length : Int) + 1) (by omega)
              have h2 := modV_lt v ((rs.length : Int) + 1) (by omega)
              obtain ⟨m, hm⟩ := Int.eq_ofNat_of_zero_le h1
              exact ⟨m, by rw [hm], by omega, rfl⟩
            have hrl1 : (rs.length : Int) ≤ 120 := by omega
            go_upto_region 34 with (first
              | (go_at_call 15; refine (HMD.out _).mono ?_; rintro e w3 ⟨rfl, rfl⟩)
              | fail)
            go_upto_region 35 with (first
              | (go_at_call 15; refine (HM2.out _ _).mono ?_; rintro e w4 ⟨m, rfl, hmr, rfl⟩)
              | fail)
            have hmc : (m : Int) ≤ (rs.length : Int) := by omega
            have hmc2 : (m : Int) ≤ (c : Int) := by omega
            obtain ⟨ap, hap⟩ : ∃ ap : Option Addr, ap = a := ⟨_, rfl⟩
            by_cases hm0 : m = 0
            · subst hm0
              have HT0 := Lib.hid (trunc0_any p L Fr wr HM.out.log (by rw [HM.out.st.ends, endsG_len]; omega))
              have hmn : (if (rs.length : Int) < (d : Int) then (rs.length : Int) else (d : Int)) = (d : Int) := by rw [if_neg (by omega)]
              have hz0 : ¬ (0 : Int) < ((0 : Nat) : Int) := by omega
              cases a with
              | none =>
                obtain rfl : c = 0 := hc3 rfl
                have hr0 : rs.length = 0 := by omega
                have HR0 := Lib.hid hr0
                have HM1 := HM.out
                obtain ⟨st1, log1, far1, up1, held1, afar1⟩ := HM1
                rw [hr0] at hmn held1 ⊢
                have HE0 := Lib.hid held1
                clear hr0 held1
                go_wp2_with (first
                  | (go_at_call 30; refine HT0.out.mono ?_; rintro e w5 ⟨rfl, U5⟩)
                  | (go_at_call 26; refine (recs_st st1 (LogPost.self (log1.up U5.out)) (by omega)).mono ?_; rintro e wA ⟨vA, rfl, RA, UA⟩)
                  | (go_at_call 29; refine (eqf_any _ _ _ _ RA.out.bs ((HE0.out.up U5.out).bs.up UA.out) (by omega)).mono ?_; rintro e wB ⟨rfl, hB⟩; have UB := Lib.hid hB; clear hB)
                  | fail)
                go_roundw
                case rel =>
                  have M6 := ((HM.out.ups U5.out).ups UA.out).ups UB.out
                  exact ⟨i + 1, L, d, rs, Fr, none, 0, xs, cr, hlt, by go_num, by rw [HR0.out], rfl, rfl, by omega, ⟨M6.st.mono (Nat.le_succ _), M6.log, M6.far, M6.up, M6.held, M6.afar⟩⟩
                case measure => simp [intOf]; omega
              | some b =>
                obtain ⟨_, hb4⟩ := HC4.out b rfl
                obtain ⟨bg, bo, bs⟩ := b
                obtain rfl : bs = none := by cases hb4; rfl
                clear hb4
                have hce : c = 0 ∨ ¬ c = 0 := by omega
                go_wp2_with (first
                  | (go_at_call 30; refine HT0.out.mono ?_; rintro e w5 ⟨rfl, U5⟩; have M5 := Lib.hid (HM.out.ups U5.out))
                  | (go_at_call 26; refine (recs_st M5.out.st (LogPost.self M5.out.log) (by omega)).mono ?_; rintro e wA ⟨vA, rfl, RA, UA⟩)
                  | (go_at_call 29; refine (eqf_any _ _ _ _ RA.out.bs (M5.out.held.bs.up UA.out) (by omega)).mono ?_; rintro e wB ⟨rfl, hB⟩; have UB := Lib.hid hB; clear hB)
                  | fail)
                go_roundw
                case rel =>
                  have M6 := (M5.out.ups UA.out).ups UB.out
                  exact ⟨i + 1, L, d, rs, Fr, _, c, xs, cr, hlt, by go_num, rfl, rfl, rfl, by omega, ⟨M6.st.mono (Nat.le_succ _), M6.log, M6.far, M6.up, M6.held, M6.afar⟩⟩
                case measure => simp [intOf]; omega
            · have hm1 : 1 ≤ m := by omega
              have HTR := Lib.hid (trunc_st HM.out.st (LogPost.self HM.out.log) HM.out.log.lt (by decide) (by decide) (by omega) m hm1 hmr)
              have hmz : (0 : Int) < (m : Int) := by omega
              cases a with
              | none =>
                have := hc3 rfl
                omega
              | some b =>
                obtain ⟨_, hb4⟩ := HC4.out b rfl
                obtain ⟨bg, bo, bs⟩ := b
                obtain rfl : bs = none := by cases hb4; rfl
                clear hb4
                have hdl : Hid ((rs.drop m).length = rs.length - m) := List.length_drop ..
                go_upto_region 38 with (first
                  | (go_at_call 30; refine HTR.out.mono ?_; rintro e w5 ⟨rfl, L5, S5, P5⟩)
                  | fail)
                have M5 : Hid (Mid w w5 p (i + 1) L5 (rs.length - m) (rs.drop m) (Fx Fr wr w5) (if c = m then some ⟨bg, bo, none⟩ else some ⟨bg, bo + m, none⟩) (c - m) (xs.drop m)) := by
                  obtain ⟨q1, q2, q3, q4, q5⟩ := HM.out.post P5.out S5.out
                  refine ⟨q1, q2, q3, q4, by rw [hdl.out]; exact q5.drop m hmr, fun b hb => ?_⟩
                  have := HM.out.afar ⟨bg, bo, none⟩ rfl
                  split at hb
                  · cases hb; exact this
                  · cases hb; exact this
                go_wp2_with (first
                  | (go_at_call 26; refine (recs_st M5.out.st (LogPost.self M5.out.log) (by omega)).mono ?_; rintro e wA ⟨vA, rfl, RA, UA⟩)
                  | (go_at_call 29; refine (eqf_any _ _ (rs.drop m) _ RA.out.bs (by have hh := M5.out.held.bs.up UA.out; rw [hdl.out] at hh; exact hh) (by have := hdl.out; omega)).mono ?_; rintro e wB ⟨rfl, hB⟩; have UB := Lib.hid hB; clear hB)
                  | fail)
                go_roundw
                case rel => exact ⟨i + 1, L5, rs.length - m, rs.drop m, _, _, c - m, _, cr, hlt, by go_num, by rw [hdl.out], by first | rfl | go_num, rfl, by omega, (M5.out.ups UA.out).ups UB.out⟩
                case measure => simp [intOf]; omega
          · have hy2b : (y == 2) = false := by rw [beq_eq_false_iff_ne]; exact hy3
            go_upto_region 12 with (first
              | (go_at_call 15; refine (HMD.out _).mono ?_; rintro e w3 ⟨rfl, rfl⟩)
              | fail)
            have HREC : Hid (∀ (q : Int), Calls Try.prog 23 #[.int .i64 (i : Int), .int .i64 q] wr fun e w' => ∃ g c r n, e = .returned (.slice (some ⟨g, 0, none⟩) n n) ∧ Hid (n = r.length ∧ r.length ≤ 40 ∧ IsB r ∧ wr.heap.size ≤ g ∧ Blk w' g (bc r ++ c) 5) ∧ Hid (Up wr w')) := by
              intro q
              refine (record_any (i : Int) q wr).mono ?_
              rintro e w' ⟨g, rfl, hg, ⟨c, hb⟩, hu⟩
              exact ⟨g, c, _, _, rfl, ⟨rfl, (recd_len _ _).2, recd_isB _ _, hg, hb⟩, hu⟩
            go_upto_region 13 with (first
              | (go_at_call 23; refine (HREC.out _).mono ?_; rintro e w4 ⟨g4, c4, r, n, rfl, HR4, U4⟩)
              | fail)
            obtain ⟨r1, r2, r3, r4, r5⟩ := HR4.out
            have hng : ¬ Fr g4 := fun e => by have := HM.out.log.lt g4 e; omega
            have HN := Lib.hid r1
            have hn40 : n ≤ 40 := by omega
            cases hf : L.full r.length with
            | true =>
              have HAP : Hid (Calls Try.prog 24 #[.pointer (some ⟨p, 0, none⟩), .slice (some ⟨g4, 0, none⟩) n n] w4 fun e w' => e = .returned (.int .i64 18) ∧ Hid (Up w4 w')) := by
                rw [HN.out]
                exact app_full HM.out.st (by decide) (by decide) (by omega) w4 (HM.out.log.up U4.out) g4 r c4 hng r5 r2 hf
              clear r1 r3 r4 r5 hf
              go_wp2_with (first
                | (go_at_call 24; refine HAP.out.mono ?_; rintro e w5 ⟨rfl, U5⟩; have M5 := Lib.hid ((HM.out.ups U4.out).ups U5.out))
                | (go_at_call 26; refine (recs_st M5.out.st (LogPost.self M5.out.log) (by omega)).mono ?_; rintro e wA ⟨vA, rfl, RA, UA⟩)
                | (go_at_call 29; refine (eqf_any _ _ _ _ RA.out.bs (M5.out.held.bs.up UA.out) (by omega)).mono ?_; rintro e wB ⟨rfl, hB⟩; have UB := Lib.hid hB; clear hB)
                | fail)
              go_roundw
              case rel =>
                have M6 := (M5.out.ups UA.out).ups UB.out
                exact ⟨i + 1, L, d, rs, Fr, a, c, xs, cr, hlt, by go_num, rfl, rfl, rfl, by omega, ⟨M6.st.mono (Nat.le_succ _), M6.log, M6.far, M6.up, M6.held, M6.afar⟩⟩
              case measure => simp [intOf]; omega
            | false =>
              have HAP : Hid (Calls Try.prog 24 #[.pointer (some ⟨p, 0, none⟩), .slice (some ⟨g4, 0, none⟩) n n] w4 fun e w' => e = .returned (.int .i64 0) ∧ ∃ L' ax cx wx, Hid (St 20 (i + 1) L' d (rs ++ [r])) ∧ Hid ((Builtin.append_ #[48, 48] 48 #[.slice a rs.length c, .slice (some ⟨w'.heap.size, 0, none⟩) 1 1]).run Try.prog (w'.alloc (.cells #[.slice (some ⟨g4, 0, none⟩) n n] 28)) = .ok (.slice ax (rs.length + 1) cx) wx) ∧ Hid (Mid w wx p (i + 1) L' d (rs ++ [r]) (Fx Fr w4 w') ax cx (xs ++ [.slice (some ⟨g4, 0, none⟩) n n]))) := by
                rw [HN.out]
                refine (app_own HM.out.st (by decide) (by decide) (by omega) w4 (HM.out.log.up U4.out) g4 r c4 hng r5 r2 r3 hf).mono ?_
                rintro e w' ⟨rfl, L', S', P', B'⟩
                have hM4 := HM.out.ups U4.out
                obtain ⟨q1, q2, q3, q4, q5⟩ := hM4.post P'.out S'.out
                have hglt := r5.lt
                have hafar : ∀ k, blkOf (.slice a rs.length c) = some k → w.heap.size ≤ k := fun k hk => by
                  cases a with
                  | none => cases hk
                  | some b => cases hk; exact HM.out.afar b rfl
                have hga : blkOf (.slice a rs.length c) ≠ some g4 := fun hk => by
                  cases a with
                  | none => cases hk
                  | some b =>
                    cases hk
                    have := (HC4.out b rfl).1
                    omega
                obtain ⟨ax, cx, wx, k1, k2, k3, k4⟩ := held_append (y := ⟨w'.heap.size, 0, none⟩) (r := r) q5 q2.lt (fun e => by
                  rcases e with e | e
                  · exact hng e
                  · omega) hga (by omega) B'.out ((Up.refl w').alloc (.cells #[.slice (some ⟨g4, 0, none⟩) r.length r.length] 28)) ((Blk.new w' #[.slice (some ⟨g4, 0, none⟩) r.length r.length] 28).cell 0) (by omega) 48
                refine ⟨rfl, L', ax, cx, wx, S'.out, k1, ⟨S'.out, q2.chg k3 (fun k hk e => e.1 hk), q3, ?_, ?_, ?_⟩⟩
                · exact ((Below.chg _ q4).trans k3 fun _ _ e => e).up fun k hk e => by have := hafar k e.2; omega
                · rw [List.length_append, List.length_singleton]; exact k2
                · intro b hb
                  subst hb
                  rcases k4 b.block rfl with e | e
                  · exact hafar _ e
                  · have := q4.size; omega
              clear r1 r3 r4 r5 hf
              have HL1 : Hid ((rs ++ [r]).length = rs.length + 1) := by unfold Hid; rw [List.length_append, List.length_singleton]
              go_wp2_with (first
                | (go_at_call 24; refine HAP.out.mono ?_; rintro e w5 ⟨rfl, L5, ax, cx, wx, S5, K5, M5⟩)
                | (at_builtin; refine Lib.wpList_append_run _ rfl (.tmp 52) (.tmp 54) 48 48 rfl _ _ rfl rfl _ _ K5.out ?_)
                | (go_at_call 26; refine (recs_st M5.out.st (LogPost.self M5.out.log) (by omega)).mono ?_; rintro e wA ⟨vA, rfl, RA, UA⟩)
                | (go_at_call 29; refine (eqf_any _ _ (rs ++ [r]) _ RA.out.bs (by have hh := M5.out.held.bs.up UA.out; rw [HL1.out] at hh; exact hh) (by have := HL1.out; omega)).mono ?_; rintro e wB ⟨rfl, hB⟩; have UB := Lib.hid hB; clear hB)
                | fail)
              go_roundw
              case rel => exact ⟨i + 1, L5, d, rs ++ [r], _, ax, cx, _, cr, hlt, by go_num, by rw [HL1.out], rfl, rfl, by omega, (M5.out.ups UA.out).ups UB.out⟩
              case measure => simp [intOf]; omega
    · obtain rfl : i = N := by omega
      have hli : ¬ (i : Int) < (i : Int) := by omega
      go_wp2
      go_ret
      exact ⟨rfl, HM.out.up⟩
end Go.Proofs.Ytmaeeidaegigcaa.Wl
