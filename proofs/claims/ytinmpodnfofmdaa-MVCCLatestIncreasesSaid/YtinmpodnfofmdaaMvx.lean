/- MVCCLatestIncreases: the walk. -/
import Derived.Test.YtinmpodnfofmdaaMvt
namespace Go.Proofs.Ytinmpodnfofmdaa.Mv
open Go Go.RowKit Hp So
set_option linter.unusedVariables false

/-- The last round whose key is the one asked for. -/
def lastI (zs : List Int) (key : Int) : Nat → Nat
  | 0 => 0
  | k + 1 => if keyB (wrap64 ((zs.getD k 0).tdiv 4)) = keyB key then k + 1 else lastI zs key k
theorem lastI_le (zs : List Int) (key : Int) (k : Nat) : lastI zs key k ≤ k := by
  induction k with
  | zero => exact Nat.le_refl _
  | succ k ih => unfold lastI; split <;> omega
theorem last_snoc (l : List PV) (v : PV) : lastTs (l ++ [v]) = v.ts := by unfold lastTs; simp
theorem hist_succ (zs : List Int) (k : Nat) : histL zs (k + 1) = hstep (histL zs k) (zs.getD k 0) ((k : Int) + 1) := rfl
theorem last_hist (zs : List Int) (key : Int) (k : Nat) (hk : k ≤ 200) : lastTs (look (histL zs k) (keyB key)) = (lastI zs key k : Nat) := by
  induction k with
  | zero => rfl
  | succ k ih =>
    have h0 := hist_ok zs k (by omega)
    have h1 := hist_ok zs (k + 1) hk
    have ihk := ih (by omega)
    rw [hist_succ] at h1 ⊢
    unfold hstep at h1 ⊢
    unfold lastI
    by_cases hq : modV (zs.getD k 0) 4 = 0
    · rw [if_pos hq] at h1 ⊢
      rw [look_ad (hz := 0) h0.ok.srt _ _ h1.ok.srt]
      by_cases hk2 : keyB (wrap64 ((zs.getD k 0).tdiv 4)) = keyB key
      · rw [if_pos hk2.symm, if_pos hk2, last_snoc]; show (k : Int) + 1 = _; omega
      · rw [if_neg (fun e => hk2 e.symm), if_neg hk2]; exact ihk
    · rw [if_neg hq] at h1 ⊢
      rw [look_ad (hz := 0) h0.ok.srt _ _ h1.ok.srt]
      by_cases hk2 : keyB (wrap64 ((zs.getD k 0).tdiv 4)) = keyB key
      · rw [if_pos hk2.symm, if_pos hk2, last_snoc]; show (k : Int) + 1 = _; omega
      · rw [if_neg (fun e => hk2 e.symm), if_neg hk2]; exact ihk
theorem addL_ord {l : List PC} {hz : Int} {k : ByteArray} {v : PV} (hk : k.size ≤ 24) (hr : v.row.length ≤ 6) (h1 : 1 ≤ v.ts) (h2 : v.ts ≤ 1099511627776) (hh : hz < v.ts) (hl : v.ts ≤ lastTs (look l k)) : addL l hz k v = (l, 6) := by
  have hs : has l k = true := by
    by_cases e : has l k = true
    · exact e
    · unfold look at hl; rw [if_neg e] at hl
      have : lastTs [] = 0 := rfl
      omega
  unfold look at hl
  rw [if_pos hs] at hl
  unfold addL
  rw [if_neg (by omega), if_neg (by omega), if_neg (by omega), if_pos ⟨hs, hl⟩]
set_option maxRecDepth 100000 in
set_option maxHeartbeats 4000000 in
theorem walk26 (a : Option Addr) (len cap : Nat) (zs : List Int) (key tim : Int) (w : World) (hE : Elems w a len zs) (hl : len ≤ cap) (hm : cap ≤ 9223372036854775807) :
    Calls Try.prog 3 #[.slice a len cap, .int .i64 key, .int .i64 tim] w fun e w' => e = .returned (.bool true) ∧ Up w w' := by
  have HE := Lib.hid hE
  obtain ⟨m, hmin', hm1, hm2⟩ := min_len 100 len
  have hmin : (if (100 : Int) < (len : Int) then (100 : Int) else (len : Int)) = (m : Int) := hmin'
  have hmm : min len 100 = m := by
    by_cases h60 : (100 : Int) < (len : Int)
    · rw [if_pos h60] at hmin; omega
    · rw [if_neg h60] at hmin; omega
  have hmc : (m : Int) ≤ (cap : Int) := by omega
  have HIST := Lib.hid (fun W (hu : Up w W) => history_any a len cap zs W (elems_up HE.out hu) hl hm)
  rw [hmm] at HIST
  have HK := Lib.hid (hist_ok zs m (by omega))
  have HLA := Lib.hid (last_hist zs key m (by omega))
  obtain ⟨l, hll⟩ : ∃ l, l = histL zs m := ⟨_, rfl⟩
  rw [← hll] at HK HIST HLA
  have hlm := lastI_le zs key m
  have HLT : Hid (latL l (keyB key) = (lastI zs key m : Nat)) := by unfold Hid; rw [latL_look]; exact HLA.out
  clear hE hmm hll hmin'
  go_enter Try.func3, Try.ntmps3
  go_wp2_with (first
    | (go_at_call 17; refine (HIST.out _ H1.out).mono ?_; rintro e w2 ⟨p, F, rfl, h2⟩; have H2 : Hid (StR w2 p l 0 F ∧ (∀ k, F k → w.heap.size ≤ k) ∧ Up w1 w2) := ⟨h2.1, fun k hk => Nat.le_trans H1.out.size (h2.2.1 k hk), h2.2.2⟩; clear h2)
    | (go_at_call 16; refine (works_any _).mono ?_; rintro e w1 ⟨rfl, h1⟩; have H1 := Lib.hid h1; clear h1)
    | fail)
  clear hmin
  go_loopw [10, 29] (fun lv iv wr => ∃ k : Nat, k ≤ m ∧ iv = .int .i64 k ∧ lv = .int .i64 (lastI zs key k : Nat) ∧ Hid (Up w2 wr)) (fun _ iv _ => m - (intOf iv).toNat)
  case atStart => exact ⟨0, by omega, rfl, rfl, Up.refl _⟩
  case round =>
    obtain ⟨k, hk, rfl, rfl, HU⟩ := hrel
    by_cases hlt : k < m
    · obtain ⟨b, off, rfl, hb, hx⟩ := elems_up HE.out ((H1.out.trans H2.out.2.2).trans HU.out) k (by omega)
      obtain ⟨op, hop⟩ : ∃ op, op = zs.getD k 0 := ⟨_, rfl⟩
      rw [← hop] at hx
      have HST : Hid (lastI zs key (k + 1) = if keyB (wrap64 (op.tdiv 4)) = keyB key then k + 1 else lastI zs key k) := by unfold Hid; rw [hop]; rfl
      have hle := lastI_le zs key k
      clear hop
      by_cases hq : keyB (wrap64 (op.tdiv 4)) = keyB key
      · rw [if_pos hq] at HST
        generalize lastI zs key k = lk at *
        have hq2 : ((keyB (wrap64 (op.tdiv 4))).toList == (keyB key).toList) = true := by rw [hq]; exact beq_self_eq_true _
        clear hq
        go_wp2_with (first
          | (go_at_call 18; refine (key_any (wrap64 (op.tdiv 4)) _).mono ?_; rintro e w4 ⟨rfl, h2⟩; have K2 := Lib.hid h2; clear h2)
          | (go_at_call 18; refine (key_any key _).mono ?_; rintro e w5 ⟨rfl, h2⟩; have K3 := Lib.hid (K2.out.trans h2); clear h2)
          | fail)
        go_roundw
        case rel => exact ⟨k + 1, by omega, by go_num, by rw [HST.out]; go_num, HU.out.trans K3.out⟩
        case measure => simp [intOf]; omega
      · rw [if_neg hq] at HST
        generalize lastI zs key k = lk at *
        have hq2 : ((keyB (wrap64 (op.tdiv 4))).toList == (keyB key).toList) = false := beq_eq_false_iff_ne.2 fun e => hq (ba_inj (by rw [tl, tl] at e; exact e))
        clear hq
        go_wp2_with (first
          | (go_at_call 18; refine (key_any (wrap64 (op.tdiv 4)) _).mono ?_; rintro e w4 ⟨rfl, h2⟩; have K2 := Lib.hid h2; clear h2)
          | (go_at_call 18; refine (key_any key _).mono ?_; rintro e w5 ⟨rfl, h2⟩; have K3 := Lib.hid (K2.out.trans h2); clear h2)
          | fail)
        go_roundw
        case rel => exact ⟨k + 1, by omega, by go_num, by rw [HST.out], HU.out.trans K3.out⟩
        case measure => simp [intOf]; omega
    · obtain rfl : k = m := by omega
      have RL : Hid ((rowV 1).length ≤ 6) := by unfold Hid; simp [rowV]
      have HS := Lib.hid (H2.out.1.up HU.out)
      have huw : Hid (Up w wr) := (H1.out.trans H2.out.2.2).trans HU.out
      have LT := Lib.hid (fun (W : World) (hu : Up wr W) => by have := latest_any _ _ _ _ (keyB key) W (HS.out.up hu); rwa [HLT.out] at this)
      obtain ⟨j, hj⟩ : ∃ j, j = lastI zs key k := ⟨_, rfl⟩
      rw [← hj] at LT HLA hlm HLT ⊢
      clear hj
      rcases Nat.eq_zero_or_pos j with h0 | h0
      · subst h0
        obtain ⟨A1, A2⟩ := HK.out.add (by omega) key ⟨(k : Int) + 1, false, rowV 1⟩ (by simp [rowV]) rfl
        have HA := Lib.hid A2
        have HL2 : Hid (latL (adL l (keyB key) ⟨(k : Int) + 1, false, rowV 1⟩) (keyB key) = (k : Int) + 1) := by
          unfold Hid
          rw [latL_look, look_ad (hz := 0) HK.out.ok.srt _ _ A1.ok.srt, if_pos rfl, last_snoc]
        clear A1 A2
        go_wp2_with (first
          | (go_at_call 19; refine (latest_any _ _ _ _ _ _ (K6.out.1.up K7.out)).mono ?_; rw [HL2.out]; rintro e w9 ⟨rfl, h2⟩; have K8 := Lib.hid (K7.out.trans h2); clear h2)
          | (go_at_call 18; have tok := K6; refine (key_any key _).mono ?_; rintro e w8 ⟨rfl, h2⟩; have K7 := Lib.hid h2; clear h2 tok)
          | (go_at_call 20; refine (put_any _ _ _ _ _ _ _ (rowV 1) _ (HS.out.up K5.out) (own_src K4.out) (by have := RL.out; omega)).mono ?_; rw [HA.out]; rintro e w7 ⟨rfl, h3⟩; have K6 := Lib.hid (seq_kept H2.out.2.1 (huw.out.trans K5.out) ⟨h3.1, h3.2⟩); clear h3)
          | (go_at_call 21; refine (row_any 1 _).mono ?_; rintro e w6 ⟨rfl, h4, h5⟩; have K4 := Lib.hid h4; have K5 := Lib.hid (K3.out.trans h5); clear h4 h5)
          | (go_at_call 18; have tok := K2; refine (key_any key _).mono ?_; rintro e w5 ⟨rfl, h2⟩; have K3 := Lib.hid (K2.out.trans h2); clear h2 tok)
          | (go_at_call 19; refine (LT.out _ K1.out).mono ?_; rintro e w4 ⟨rfl, h2⟩; have K2 := Lib.hid (K1.out.trans h2); clear h2)
          | (go_at_call 18; refine (key_any key _).mono ?_; rintro e w3 ⟨rfl, h2⟩; have K1 := Lib.hid h2; clear h2)
          | fail)
        go_ret
        exact ⟨rfl, K6.out.2.2.trans K8.out⟩
      · have hj0 : ((j : Int) == 0) = false := beq_eq_false_iff_ne.2 (by omega)
        have hj1 : ¬ (j : Int) = 0 := by omega
        have s1 := modV_nonneg tim (j : Int) (by omega)
        have s2 := modV_lt tim (j : Int) (by omega)
        have HMT : Hid (∀ W, Calls Try.prog 22 #[.int .i64 tim, .int .i64 (j : Int)] W fun e w' => e = .returned (.int .i64 (modV tim (j : Int))) ∧ W = w') := fun W => mod_any tim (j : Int) W (by omega) (by omega)
        generalize modV tim (j : Int) = s at *
        have HA := Lib.hid (addL_ord (l := l) (hz := 0) (k := keyB key) (v := ⟨1 + s, false, rowV 1⟩) (by rw [keyB_size]; omega) (by simp [rowV]) (by show 1 ≤ 1 + s; omega) (by show 1 + s ≤ _; omega) (by show 0 < 1 + s; omega) (by rw [HLA.out]; show 1 + s ≤ _; omega))
        go_wp2_with (first
          | (go_at_call 19; refine (latest_any _ _ _ _ _ _ (K6.out.1.up K7.out)).mono ?_; rw [HLT.out]; rintro e w9 ⟨rfl, h2⟩; have K8 := Lib.hid (K7.out.trans h2); clear h2)
          | (go_at_call 18; have tok := K6; refine (key_any key _).mono ?_; rintro e w8 ⟨rfl, h2⟩; have K7 := Lib.hid h2; clear h2 tok)
          | (go_at_call 20; refine (put_any _ _ _ _ _ _ _ (rowV 1) _ (HS.out.up K5.out) (own_src K4.out) (by have := RL.out; omega)).mono ?_; rw [HA.out]; rintro e w7 ⟨rfl, h3⟩; have K6 := Lib.hid (seq_kept H2.out.2.1 (huw.out.trans K5.out) ⟨h3.1, h3.2⟩); clear h3)
          | (go_at_call 21; refine (row_any 1 _).mono ?_; rintro e w6 ⟨rfl, h4, h5⟩; have K4 := Lib.hid h4; have K5 := Lib.hid (K3.out.trans h5); clear h4 h5)
          | (go_at_call 22; refine (HMT.out _).mono ?_; rintro e w' ⟨rfl, rfl⟩)
          | (go_at_call 18; have tok := K2; refine (key_any key _).mono ?_; rintro e w5 ⟨rfl, h2⟩; have K3 := Lib.hid (K2.out.trans h2); clear h2 tok)
          | (go_at_call 19; refine (LT.out _ K1.out).mono ?_; rintro e w4 ⟨rfl, h2⟩; have K2 := Lib.hid (K1.out.trans h2); clear h2)
          | (go_at_call 18; refine (key_any key _).mono ?_; rintro e w3 ⟨rfl, h2⟩; have K1 := Lib.hid h2; clear h2)
          | fail)
        go_ret
        exact ⟨rfl, K6.out.2.2.trans K8.out⟩
end Go.Proofs.Ytinmpodnfofmdaa.Mv
