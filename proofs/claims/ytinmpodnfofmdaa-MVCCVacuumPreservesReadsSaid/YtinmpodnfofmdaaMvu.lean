/- MVCCVacuumPreservesReads, MVCCReadsAreRepeatable: the walks. -/
import Derived.Test.YtinmpodnfofmdaaMvt
namespace Go.Proofs.Ytinmpodnfofmdaa.Mv
open Go Go.RowKit Hp So
set_option linter.unusedVariables false

theorem vacL_ok {l : List PC} {n : Nat} (h : HOk l n) (t : Int) (h0 : 0 ≤ t) (hn : t ≤ n) (hn2 : n ≤ 400) : ∃ l2, vacuumL l 0 t = (l2, t, 0) ∧ (∀ ts, t ≤ ts → scanL l2 ts = scanL l ts) ∧ cnt l2 ≤ cnt l ∧ SOk l2 t := by
  unfold vacuumL
  rw [if_neg (by omega)]
  by_cases h1 : t ≤ 0
  · obtain rfl : t = 0 := by omega
    exact ⟨l, by rw [if_pos h1], fun ts _ => rfl, Nat.le_refl _, h.ok⟩
  · exact ⟨vacL l t, by rw [if_neg h1], fun ts ht => scan_vac h.ok ht, cnt_vac l t, h.ok.vac t⟩
set_option maxRecDepth 100000 in
set_option maxHeartbeats 4000000 in
theorem walk36 (a : Option Addr) (len cap : Nat) (zs : List Int) (hor tim : Int) (w : World) (hE : Elems w a len zs) (hl : len ≤ cap) (hm : cap ≤ 9223372036854775807) :
    Calls Try.prog 8 #[.slice a len cap, .int .i64 hor, .int .i64 tim] w fun e w' => e = .returned (.bool true) ∧ Up w w' := by
  have HE := Lib.hid hE
  obtain ⟨m, hmm, hm1⟩ : ∃ m, min len 100 = m ∧ m ≤ 100 := ⟨_, rfl, Nat.min_le_right _ _⟩
  have HIST := Lib.hid (fun W (hu : Up w W) => history_any a len cap zs W (elems_up HE.out hu) hl hm)
  rw [hmm] at HIST
  have HK := hist_ok zs m (by omega)
  generalize histL zs m = l at *
  have t1 := modV_nonneg hor ((m : Int) + 1) (by omega)
  have t2 := modV_lt hor ((m : Int) + 1) (by omega)
  obtain ⟨t, ht⟩ : ∃ t, t = modV hor ((m : Int) + 1) := ⟨_, rfl⟩
  rw [← ht] at t1 t2
  have s1 := modV_nonneg tim ((m : Int) + 2 - t) (by omega)
  have s2 := modV_lt tim ((m : Int) + 2 - t) (by omega)
  obtain ⟨s, hs⟩ : ∃ s, s = modV tim ((m : Int) + 2 - t) := ⟨_, rfl⟩
  rw [← hs] at s1 s2
  have HMT : Hid (∀ W, Calls Try.prog 22 #[.int .i64 hor, .int .i64 ((m : Int) + 1)] W fun e w' => e = .returned (.int .i64 t) ∧ W = w') := fun W => by have := mod_any hor ((m : Int) + 1) W (by omega) (by omega); rwa [← ht] at this
  have HMS : Hid (∀ W, Calls Try.prog 22 #[.int .i64 tim, .int .i64 ((m : Int) + 2 - t)] W fun e w' => e = .returned (.int .i64 s) ∧ W = w') := fun W => by have := mod_any tim ((m : Int) + 2 - t) W (by omega) (by omega); rwa [← hs] at this
  obtain ⟨l2, hv, hsc, hcn, hok2⟩ := vacL_ok HK t t1 (by omega) (by omega)
  have HV := Lib.hid hv
  have HSC : Hid (scanL l2 (t + s) = scanL l (t + s)) := hsc _ (by omega)
  have HR : Hid ((scanL l (t + s)).length ≤ 1000 ∧ ∀ r ∈ scanL l (t + s), r.2.length ≤ 1000) := ⟨by have := scan_len l (t + s); have := HK.ok.len; omega, fun r hr => by have := scan_row HK.ok _ r hr; omega⟩
  have hcb : cnt l ≤ 400 := HK.ok.cnt
  have c1 : decide ((cnt l2 : Int) ≤ (cnt l : Int)) = true := decide_eq_true (by omega)
  clear hE hmm hs ht hv hsc HK hok2
  go_enter Try.func8, Try.ntmps8
  go_wp2_with (first
    | (go_at_call 30; refine (len_any _ _ _ _ _ (H6.out.1.up H10.out)).mono ?_; rintro e w9 ⟨rfl, h4⟩; have H11 := Lib.hid (H10.out.trans h4); clear h4)
    | (go_at_call 28; refine (eqrecs_any _ _ _ _ (H7.out.up (Up.trans H8.out H9.out)) (H7b.out.up H9.out) HR.out.1).mono ?_; rintro e w8 ⟨rfl, h4⟩; have H10 := Lib.hid ((H8.out.trans H9.out).trans h4); clear h4)
    | (go_at_call 26; refine (scan_gone _ _ _ _ _ _ (H6.out.1.up H8.out) (by omega)).mono ?_; rintro e w7 ⟨rfl, h4⟩; have H9 := Lib.hid h4; clear h4)
    | (go_at_call 26; refine (scan_any _ _ _ _ _ _ H6.out.1 (by omega)).mono ?_; rw [HSC.out]; rintro e w6 ⟨v2, rfl, h5, h6⟩; obtain ⟨rs2, q1, q2, _, _⟩ := id h5; obtain ⟨ra2, rc2, rfl, _, _, _⟩ := own_form q2; have H7b := Lib.hid (h5.src HR.out.2); have H8 := Lib.hid h6; clear h6 q1 q2 h5)
    | (go_at_call 29; refine (vacuum_any _ _ _ _ _ _ (H2.out.1.up H5.out)).mono ?_; rw [HV.out]; rintro e w5 ⟨rfl, h4⟩; have H6 := Lib.hid (seq_kept H2.out.2.1 ((H1.out.trans H2.out.2.2).trans H5.out) ⟨h4.1, h4.2⟩); have H7 := Lib.hid (RecsR.src (RecsR.chg (H3.out.up H5b.out) h4.2 fun k hk e => by have := H2.out.1.lt k e; omega) HR.out.2); clear h4)
    | (go_at_call 30; refine (len_any _ _ _ _ _ (H2.out.1.up H4.out)).mono ?_; rintro e w4 ⟨rfl, h4⟩; have H5 := Lib.hid (H4.out.trans h4); have H5b := Lib.hid h4; clear h4)
    | (go_at_call 26; refine (scan_any _ _ _ _ _ _ H2.out.1 (by omega)).mono ?_; rintro e w3 ⟨v, rfl, h5, h6⟩; obtain ⟨rs, q1, q2, _, _⟩ := id h5; obtain ⟨ra, rc, rfl, _, _, _⟩ := own_form q2; have H3 := Lib.hid h5; have H4 := Lib.hid h6; clear h6 q1 q2 h5)
    | (go_at_call_of 22 (Value.int IntKind.i64 hor); refine (HMT.out _).mono ?_; rintro e w' ⟨rfl, rfl⟩)
    | (go_at_call_of 22 (Value.int IntKind.i64 tim); refine (HMS.out _).mono ?_; rintro e w' ⟨rfl, rfl⟩)
    | (go_at_call 17; refine (HIST.out _ H1.out).mono ?_; rintro e w2 ⟨p, F, rfl, h2⟩; have H2 : Hid (StR w2 p l 0 F ∧ (∀ k, F k → w.heap.size ≤ k) ∧ Up w1 w2) := ⟨h2.1, fun k hk => Nat.le_trans H1.out.size (h2.2.1 k hk), h2.2.2⟩; clear h2)
    | (go_at_call 16; refine (works_any _).mono ?_; rintro e w1 ⟨rfl, h1⟩; have H1 := Lib.hid h1; clear h1)
    | fail)
  go_ret
  exact ⟨rfl, H6.out.2.2.trans H11.out⟩
end Go.Proofs.Ytinmpodnfofmdaa.Mv
