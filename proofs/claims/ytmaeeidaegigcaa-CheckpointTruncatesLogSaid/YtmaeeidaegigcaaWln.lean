/- WALReusesSpace: the walk. -/
import Derived.Test.YtmaeeidaegigcaaWlm
namespace Go.Proofs.Ytmaeeidaegigcaa.Wl
open Go Go.RowKit Hp
open Dk (Dsk DiskR bc DOk Bytes Elems elems_up)
set_option linter.unusedVariables false

theorem bytes_blk {w : World} {g : Nat} {r : List Int} {c : List Value} (h : Blk w g (bc r ++ c) 5) (hl : r.length ≤ 1000000) : Bytes w (.slice (some ⟨g, 0, none⟩) r.length r.length) r :=
  ⟨_, r.length, rfl, Nat.le_refl _, by omega, (fun e => by cases e), fun i hi => ⟨g, 0, rfl, by
    rw [Nat.mul_one, Nat.zero_add]
    refine h.at ?_
    rw [List.getElem?_append_left (by rw [List.length_map]; exact hi)]
    simp [bc, hi]⟩⟩
theorem recd_len (i k : Int) : 1 ≤ (recd i k).length ∧ (recd i k).length ≤ 40 := by
  unfold recd
  rw [List.length_cons, List.length_replicate]
  have h1 := modV_nonneg k 40 (by decide)
  have h2 := modV_lt k 40 (by decide)
  omega
theorem put_len (L : Log) (r : List Int) : (L.put r).dat.length = L.dat.length + 2 + r.length := by
  show (L.dat ++ [_, _] ++ r).length = _
  simp only [List.length_append, List.length_cons, List.length_nil]
/-- What an append leaves. -/
theorem app_same (L : Log) (r : List Int) : (L.app r).hd = L.hd ∧ (L.app r).inc = L.inc ∧ (L.app r).st = L.st ∧ (L.app r).dat = (L.put r).dat ∧ (L.app r).ends = L.ends ++ [L.dat.length + 2 + r.length] ∧ (L.app r).dsk.dur.length = L.dsk.dur.length := wbs_same (L.put r) _ _
theorem app_pend (L : Log) (r : List Int) (h : L.dsk.pend.length ≤ 1000) : (L.app r).dsk.pend.length ≤ 1000 := wbs_pend (L.put r) _ h _
theorem wb_dur (L : Log) (b : Nat) : (L.wb b).dsk.dur.length = L.dsk.dur.length := (wbs_same L b 1).2.2.2.2.2
theorem head_dur (L : Log) : L.head.dsk.dur.length = L.dsk.dur.length := by
  show (Dk.applyW (Dk.applyW _ _) _).length = _
  rw [Dk.applyW_len, Dk.applyW_len]
theorem trunc_same (L : Log) (n : Nat) : (L.trunc n).hd = L.hd + 1 ∧ (L.trunc n).inc = L.inc ∧ (L.trunc n).st = (L.cutD n).st ∧ (L.trunc n).dat = (L.cutD n).dat ∧ (L.trunc n).ends = (L.cutD n).ends ∧ (L.trunc n).dsk.dur.length = L.dsk.dur.length ∧ (L.trunc n).dsk.pend = [] := by
  unfold Log.trunc
  refine ⟨?_, ?_, ?_, ?_, ?_, ?_, rfl⟩
  · split <;> rfl
  · split <;> rfl
  · split <;> rfl
  · split <;> rfl
  · split <;> rfl
  · rw [head_dur]
    split
    · rw [wb_dur]; rfl
    · rfl
/-- A record of the law's own is appended. -/
theorem app_rec (p : Nat) (L : Log) (F : Nat → Prop) (w2 W w' : World) (g : Nat) (r : List Int) (c : List Value) (hP : LogPost p L F w2 W) (hl : ∀ k, F k → k < w2.heap.size) (hu : Up W w') (hg : W.heap.size ≤ g) (hb0 : Blk w' g (bc r ++ c) 5)
    (hb : 3 ≤ L.dsk.dur.length) (hb2 : L.dsk.dur.length ≤ 256) (hb3 : L.st + L.dat.length ≤ 10000000) (hb5 : L.inc < 4294967296) (hb8 : L.dsk.pend.length ≤ 1000) (hr : r.length ≤ 1000) (hEL : L.ends.length ≤ 100000) :
    Calls Try.prog 24 #[.pointer (some ⟨p, 0, none⟩), .slice (some ⟨g, 0, none⟩) r.length r.length] w' fun e w'' => (if L.full r.length then e = .returned (.int .i64 18) ∧ LogPost p L F w2 w'' else e = .returned (.int .i64 0) ∧ LogPost p (L.app r) F w2 w'') ∧ Blk w'' g (bc r ++ c) 5 := by
  have hng : ¬ Fx F w2 W g := fun e => by have := hP.1.lt g e; omega
  have hlt : ∀ k, Fx F w2 W k → k < W.heap.size := hP.1.lt
  refine (append_any p L (Fx F w2 W) _ r w' (hP.1.up hu) (bytes_blk hb0 (by omega)) (fun a n c e => by cases e; exact hng) hb hb2 hb3 hb5 hb8 hr hEL).mono ?_
  intro e w'' h
  by_cases hf : L.full r.length = true
  · rw [if_pos hf] at h ⊢
    exact ⟨⟨h.1, (hP.up hu hl).up h.2 hl⟩, hb0.up h.2⟩
  · rw [if_neg hf] at h ⊢
    exact ⟨⟨h.1, hP.trans (LogPost.behind hu h.2 hlt) hl⟩, hb0.chg h.2.2 hng⟩
structure J (n i : Nat) (L : Log) : Prop where
  dat : L.dat = []
  ends : L.ends = []
  inc : L.inc = 0
  hd : L.hd = i + 1
  st : L.st ≤ 42 * i
  dur : L.dsk.dur.length = n
  pend : L.dsk.pend.length ≤ 1000
theorem J.new (n : Nat) : J n 0 (newL n).head := ⟨rfl, rfl, rfl, rfl, Nat.le_refl _, by rw [head_dur]; exact List.length_replicate .., Nat.zero_le _⟩
theorem J.full {n i : Nat} {L : Log} (h : J n i L) (hn : 6 ≤ n) (k : Nat) (hk : k ≤ 40) (hk1 : 1 ≤ k) : L.full k = false := by
  unfold Log.full Log.bl Log.en
  rw [h.dat, h.dur]
  refine decide_eq_false ?_
  show ¬ n - 2 < (L.st + 0 + 2 + k - 1) / 20 - L.st / 20 + 1
  omega
theorem J.one {n i : Nat} {L : Log} (h : J n i L) (r : List Int) : (L.app r).ends = [2 + r.length] ∧ (L.app r).dat.length = 2 + r.length ∧ (L.app r).recs = [r] := by
  obtain ⟨h1, h2, h3, h4, h5, h6⟩ := app_same L r
  have hd : (L.app r).dat = [((r.length / 256 : Nat) : Int), ((r.length % 256 : Nat) : Int)] ++ r := by
    rw [h4]
    show L.dat ++ _ ++ r = _
    rw [h.dat]
    rfl
  have he : (L.app r).ends = [2 + r.length] := by rw [h5, h.ends, h.dat]; simp
  refine ⟨he, by rw [hd]; simp; omega, ?_⟩
  unfold Log.recs
  rw [he, hd]
  show [_] = _
  congr 1
  rw [List.take_of_length_le (by simp; omega)]
  rfl
theorem J.next {n i : Nat} {L : Log} (h : J n i L) (r : List Int) (hr : r.length ≤ 40) (hp : L.dsk.pend.length ≤ 1000) : J n (i + 1) ((L.app r).trunc 1) := by
  obtain ⟨h1, h2, h3, h4, h5, h6⟩ := app_same L r
  obtain ⟨o1, o2, o3⟩ := h.one r
  obtain ⟨t1, t2, t3, t4, t5, t6, t7⟩ := trunc_same (L.app r) 1
  have hc : (L.app r).ends.getD (1 - 1) 0 = 2 + r.length := by rw [o1]; rfl
  refine ⟨?_, ?_, by rw [t2, h2]; exact h.inc, by rw [t1, h1, h.hd], ?_, by rw [t6, h6]; exact h.dur, by rw [t7]; exact Nat.zero_le _⟩
  · rw [t4]
    show (L.app r).dat.drop ((L.app r).ends.getD (1 - 1) 0) = []
    rw [hc, List.drop_eq_nil_of_le (by omega)]
  · rw [t5]
    show ((L.app r).ends.drop 1).map _ = []
    rw [o1]
    rfl
  · rw [t3]
    show (L.app r).st + (L.app r).ends.getD (1 - 1) 0 ≤ _
    rw [hc, h3]
    have := h.st
    omega
set_option maxRecDepth 100000 in
set_option maxHeartbeats 4000000 in
theorem walk40 (s0 : Int) (a2 : Option Addr) (len2 cap2 : Nat) (z2 : List Int) (w : World) (hE : Elems w a2 len2 z2) (hl : len2 ≤ cap2) (hm : cap2 ≤ 9223372036854775807) :
    Calls Try.prog 8 #[.int .i64 s0, .slice a2 len2 cap2] w fun e w' => e = .returned (.bool true) ∧ Up w w' := by
  have HE := Lib.hid hE
  clear hE
  obtain ⟨m, hmd⟩ : ∃ m : Nat, modV s0 10 = (m : Int) := Int.eq_ofNat_of_zero_le (modV_nonneg s0 10 (by decide))
  have hm10 : m < 10 := by have := modV_lt s0 10 (by decide); omega
  have HMD : Hid (∀ W, Calls Try.prog 15 #[.int .i64 s0, .int .i64 10] W fun e w' => e = .returned (.int .i64 (m : Int)) ∧ W = w') := fun W => by
    have := Dk.mod_any s0 10 W (by decide) (by decide)
    rw [hmd] at this
    exact this
  have HNW : Hid (∀ W, Calls Try.prog 22 #[.int .i64 (6 + (m : Int))] W fun e w' => ∃ p F, e = .returned (.tuple #[.pointer (some ⟨p, 0, none⟩), .int .i64 0]) ∧ Hid (LogR w' p (newL (6 + m)).head F) ∧ Hid (∀ k, F k → W.heap.size ≤ k) ∧ Hid (Up W w')) := fun W => by
    have := new_any (6 + m) W (by omega) (by omega)
    rw [show ((6 + m : Nat) : Int) = 6 + (m : Int) by omega] at this
    exact this
  have HJ := Lib.hid (J.new (6 + m))
  have hmi : (m : Int) < 10 := by omega
  have hz : len2 = 0 ∨ 0 < len2 := by omega
  clear hmd
  go_enter Try.func8, Try.ntmps8
  go_wp2_with (first
    | (go_at_call 21; refine (works_any w).mono ?_; rintro e w1 ⟨rfl, h1⟩; have U1 := Lib.hid h1; clear h1)
    | (go_at_call 15; refine (HMD.out _).mono ?_; rintro e w2 ⟨rfl, rfl⟩)
    | (go_at_call 22; refine (HNW.out _).mono ?_; rintro e w2 ⟨p, F, rfl, R2, F2, U2⟩)
    | fail)
  have FW : Hid (∀ k, F k → w.heap.size ≤ k) := fun k hk => Nat.le_trans U1.out.size (F2.out k hk)
  have UW := Lib.hid (U1.out.trans U2.out)
  have PW : Hid (LogPost p (newL (6 + m)).head F w2 w2) := ⟨by obtain ⟨q, G, dv, ev, h⟩ := R2.out; exact ⟨q, G, dv, ev, h.fx0 (Chg.refl F w2) R2.out.lt⟩, Chg.refl F w2⟩
  have HLT := Lib.hid R2.out.lt
  generalize (newL (6 + m)).head = L0 at *
  clear U1 U2 F2 R2
  go_loopw [26] (fun iv wr => ∃ (i : Nat) (L : Log), i ≤ 200 ∧ iv = .int .i64 (i : Int) ∧ Hid (J (6 + m) i L) ∧ Hid (LogPost p L F w2 wr)) (fun iv _ => 200 - (intOf iv).toNat)
  case atStart => exact ⟨0, L0, Nat.zero_le _, rfl, HJ.out, PW.out⟩
  case round =>
    obtain ⟨i, L, hi, rfl, HJL, HP⟩ := hrel
    by_cases hlt : i < 200
    · have hli : (i : Int) < 200 := by omega
      have hi2 : ¬ (i : Int) < 0 := by omega
      go_upto_if 31 with fail
      go_cut [8] from 31 to 38 (fun s8 wx => ∃ x, s8 = .int .i64 x ∧ wr = wx)
      case first =>
        rcases hz with rfl | hz
        · go_wp2
          go_meet
          exact ⟨0, rfl, rfl⟩
        · have hz1 : (0 : Int) < (len2 : Int) := by omega
          have hz2 : ¬ (len2 : Int) = 0 := by omega
          have hmlt : i % len2 < len2 := Nat.mod_lt _ hz
          have htm : (i : Int).tmod (len2 : Int) = ((i % len2 : Nat) : Int) := by rw [Int.tmod_eq_emod_of_nonneg (by omega)]; omega
          obtain ⟨b, off, rfl, hb1, hb2⟩ := (elems_up HE.out (post_up HP.out FW.out UW.out)) (i % len2) hmlt
          have hmi2 : ((i % len2 : Nat) : Int) < (len2 : Int) := by omega
          obtain ⟨y, hy⟩ : ∃ y, y = i % len2 := ⟨_, rfl⟩
          rw [← hy] at htm hb2 hmi2 hmlt
          clear hy
          go_wp2
          go_meet
          exact ⟨_, rfl, rfl⟩
      case rest =>
        obtain ⟨x, rfl, rfl⟩ := hcut
        obtain ⟨r, hr⟩ : ∃ r, r = recd (i : Int) x := ⟨_, rfl⟩
        obtain ⟨n, hn⟩ : ∃ n, n = r.length := ⟨_, rfl⟩
        have hrl := recd_len (i : Int) x
        rw [← hr, ← hn] at hrl
        obtain ⟨hrl1, hrl2⟩ := hrl
        have HREC : Hid (Calls Try.prog 23 #[.int .i64 (i : Int), .int .i64 x] wr fun e w' => ∃ g c, e = .returned (.slice (some ⟨g, 0, none⟩) n n) ∧ Hid (wr.heap.size ≤ g) ∧ Hid (Blk w' g (bc r ++ c) 5) ∧ Hid (Up wr w')) := by
          refine (record_any (i : Int) x wr).mono ?_
          rintro e w' ⟨g, rfl, hg, ⟨c, hb⟩, hu⟩
          rw [← hr] at hb ⊢
          rw [← hn]
          exact ⟨g, c, rfl, hg, hb, hu⟩
        have hdur := HJL.out.dur
        obtain ⟨o1, o2, o3⟩ := HJL.out.one r
        obtain ⟨s1, s2, s3, s4, s5, s6⟩ := app_same L r
        have hst := HJL.out.st
        have hd0 : L.dat.length = 0 := by rw [HJL.out.dat]; rfl
        have he0 : L.ends.length = 0 := by rw [HJL.out.ends]; rfl
        have HAPP : Hid (∀ g c w', Hid (wr.heap.size ≤ g) → Hid (Blk w' g (bc r ++ c) 5) → Hid (Up wr w') → Calls Try.prog 24 #[.pointer (some ⟨p, 0, none⟩), .slice (some ⟨g, 0, none⟩) n n] w' fun e w'' => e = .returned (.int .i64 0) ∧ Hid (LogPost p (L.app r) F w2 w'') ∧ Hid (Blk w'' g (bc r ++ c) 5)) := by
          intro g c w' hg hb hu
          have h := app_rec p L F w2 wr w' g r c HP.out HLT.out hu.out hg.out hb.out (by omega) (by omega) (by omega) (by rw [HJL.out.inc]; decide) HJL.out.pend (by omega) (by omega)
          rw [← hn, HJL.out.full (by omega) n hrl2 hrl1] at h
          exact h.mono fun e w'' ⟨⟨h1, h2⟩, h3⟩ => ⟨h1, h2, h3⟩
        have HRS : Hid (∀ W, Hid (LogPost p (L.app r) F w2 W) → Calls Try.prog 26 #[.pointer (some ⟨p, 0, none⟩)] W fun e w' => ∃ b o c x, e = .returned (.slice (some ⟨b, o, none⟩) 1 c) ∧ w'.cell? ⟨b, o, none⟩ = some x ∧ b < w'.heap.size ∧ Hid (Bytes w' x r) ∧ Hid (Up W w')) := by
          intro W hW
          refine (recs_any p (L.app r) _ W hW.out.1 (by rw [o1, o2]; exact ⟨by omega, Nat.le_refl _, trivial⟩) (by rw [o1]; show 1 ≤ 100000; decide) (by rw [o2]; omega)).mono ?_
          rintro e w' ⟨v, rfl, h1, h2⟩
          rw [o3] at h1
          have hb := h1.bs
          obtain ⟨a, c, rfl, hc, ha⟩ := bs_form hb
          obtain ⟨b, o, rfl⟩ := ha 0 Nat.one_pos
          obtain ⟨x, x1, x2, x3⟩ := bs_at hb 0 Nat.one_pos
          exact ⟨b, o, c, x, rfl, by rw [← x1, Nat.add_zero], x2, x3, h2⟩
        have HTR : Hid (∀ W, Hid (LogPost p (L.app r) F w2 W) → Calls Try.prog 30 #[.pointer (some ⟨p, 0, none⟩), .int .i64 1] W fun e w' => e = .returned (.int .i64 0) ∧ Hid (LogPost p ((L.app r).trunc 1) F w2 w')) := by
          intro W hW
          have hg : (L.app r).ends.getD (1 - 1) 0 = 2 + r.length := by rw [o1]; rfl
          refine (trunc_any p (L.app r) _ 1 W hW.out.1 (Nat.le_refl _) (by rw [o1]; exact Nat.le_refl _) (by rw [o1]; show 1 ≤ 100000; decide) (by rw [hg]; omega) (by rw [hg, o2]; exact Nat.le_refl _) (by rw [o1]; intro e he; cases he) (by rw [o1]; intro e he; rw [List.mem_singleton.1 he]; omega) (by rw [s3, o2]; omega) (by rw [s6]; omega) (by rw [s6]; omega) (by rw [s2, HJL.out.inc]; decide) (by rw [s1, HJL.out.hd]; omega) (app_pend L r HJL.out.pend)).mono ?_
          rintro e w' ⟨h1, h2⟩
          exact ⟨h1, hW.out.trans h2 HLT.out⟩
        have HJN : Hid (J (6 + m) (i + 1) ((L.app r).trunc 1)) := HJL.out.next r (by omega) HJL.out.pend
        have HR0 : Hid (∀ W, Hid (LogPost p ((L.app r).trunc 1) F w2 W) → Calls Try.prog 26 #[.pointer (some ⟨p, 0, none⟩)] W fun e w' => ∃ a c, e = .returned (.slice a 0 c) ∧ Hid (Up W w')) := by
          intro W hW
          have hE := HJN.out.ends
          have hD := HJN.out.dat
          refine (recs_any p _ _ W hW.out.1 (by rw [hE]; trivial) (by rw [hE]; decide) (by rw [hD]; decide)).mono ?_
          rintro e w' ⟨v, rfl, h1, h2⟩
          unfold Log.recs at h1
          rw [hE] at h1
          obtain ⟨a, c, rfl, _⟩ := bs_form h1.bs
          exact ⟨a, c, rfl, h2⟩
        have HBY : Hid (∀ W g c, Hid (Blk W g (bc r ++ c) 5) → Bytes W (.slice (some ⟨g, 0, none⟩) n n) r) := fun W g c hb => by rw [hn]; exact bytes_blk hb.out (by omega)
        clear hr hn o1 o2 o3 s1 s2 s3 s4 s5 s6 hdur hd0 he0 hst
        go_wp2_with (first
          | (go_at_call 23; refine HREC.out.mono ?_; rintro e w3 ⟨g, c, rfl, HG3, HB3, HU3⟩)
          | (go_at_call 24; refine (HAPP.out g c _ HG3 HB3 HU3).mono ?_; rintro e w4 ⟨rfl, HP4, HB4⟩)
          | (go_at_call 26; refine (HR0.out _ HP7).mono ?_; rintro e w8 ⟨a8, c8, rfl, HU8⟩)
          | (go_at_call 26; refine (HRS.out _ HP4).mono ?_; rintro e w5 ⟨b5, o5, c5, x5, rfl, hx5, hl5, HX5, HU5⟩)
          | (go_at_call 18; refine (Dk.equalB_same _ _ r _ HX5.out (HBY.out _ g c (HB4.out.up HU5.out))).mono ?_; rintro e w6 ⟨rfl, rfl⟩)
          | (go_at_call 30; refine (HTR.out _ (HP4.out.up HU5.out HLT.out)).mono ?_; rintro e w7 ⟨rfl, HP7⟩)
          | fail)
        go_roundw
        case rel => exact ⟨i + 1, _, hlt, by go_num, HJN.out, HP7.out.up HU8.out HLT.out⟩
        case measure => simp [intOf]; omega
    · obtain rfl : i = 200 := by omega
      go_wp2
      go_ret
      exact ⟨rfl, post_up HP.out FW.out UW.out⟩
end Go.Proofs.Ytmaeeidaegigcaa.Wl
