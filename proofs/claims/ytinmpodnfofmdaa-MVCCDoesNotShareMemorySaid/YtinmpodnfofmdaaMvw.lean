/- MVCCScanMatchesGet: the walk. -/
import Derived.Test.YtinmpodnfofmdaaMvt
namespace Go.Proofs.Ytinmpodnfofmdaa.Mv
open Go Go.RowKit Hp So
set_option linter.unusedVariables false

theorem keyB_mod (j : Int) : keyB j = keyB (modV j 6) := by
  unfold keyB
  have : modV (modV j 6) 6 = modV j 6 := by
    have h1 := modV_nonneg j 6 (by omega)
    have h2 := modV_lt j 6 (by omega)
    unfold modV at *
    omega
  rw [this]
theorem key_six {l : List PC} {n : Nat} (h : HOk l n) {c : PC} (hc : c ∈ l) : ∃ i : Nat, i < 6 ∧ c.1 = keyB (i : Int) := by
  obtain ⟨j, hj⟩ := h.key c hc
  have h1 := modV_nonneg j 6 (by omega)
  have h2 := modV_lt j 6 (by omega)
  refine ⟨(modV j 6).toNat, by omega, ?_⟩
  rw [hj, keyB_mod, show (((modV j 6).toNat : Nat) : Int) = modV j 6 by omega]
/-- What the loop collects. -/
def gotL (l : List PC) (t : Int) (k : Nat) : List (ByteArray × List Val) := (List.range k).filterMap fun i : Nat => (vis1 (look l (keyB (i : Int))) t).map fun r => (keyB (i : Int), r)
theorem got_succ (l : List PC) (t : Int) (k : Nat) : gotL l t (k + 1) = gotL l t k ++ (match vis1 (look l (keyB (k : Int))) t with | some r => [(keyB (k : Int), r)] | none => []) := by
  unfold gotL
  rw [List.range_succ, List.filterMap_append]
  cases hv : vis1 (look l (keyB (k : Int))) t <;> simp [hv]
theorem got_len (l : List PC) (t : Int) (k : Nat) : (gotL l t k).length ≤ k := by
  have := List.length_filterMap_le (fun i : Nat => (vis1 (look l (keyB (i : Int))) t).map fun r => (keyB (i : Int), r)) (List.range k)
  rwa [List.length_range] at this
theorem six_srt : (List.range 6).Pairwise fun i j : Nat => slt (keyB (i : Int)) (keyB (j : Int)) := by
  have : ∀ i < 6, ∀ j < 6, i < j → slt (keyB ((i : Nat) : Int)) (keyB ((j : Nat) : Int)) := by decide
  rw [List.pairwise_iff_getElem]
  intro a b ha hb hab
  simp only [List.length_range] at ha hb
  rw [List.getElem_range, List.getElem_range]
  exact this a ha b hb hab
theorem got_all {l : List PC} {n : Nat} (h : HOk l n) (t : Int) : gotL l t 6 = scanL l t := by
  refine srt_ext ?_ (scan_srt h.ok.srt t) fun x => ?_
  · unfold Srt gotL
    rw [List.pairwise_filterMap]
    refine six_srt.imp fun {a b} hab c hc d hd => ?_
    obtain ⟨r, _, rfl⟩ := Option.map_eq_some_iff.1 hc
    obtain ⟨r', _, rfl⟩ := Option.map_eq_some_iff.1 hd
    exact hab
  · rw [mem_scan h.ok.srt]
    unfold gotL
    rw [List.mem_filterMap]
    constructor
    · rintro ⟨i, _, he⟩
      obtain ⟨r, hr, rfl⟩ := Option.map_eq_some_iff.1 he
      exact hr
    · intro hx
      have hh : has l x.1 = true := by
        by_cases e : has l x.1 = true
        · exact e
        · unfold look at hx; rw [if_neg e] at hx; cases hx
      obtain ⟨i, hi, he⟩ := key_six h (has_mem hh)
      have he' : x.1 = keyB (i : Int) := he
      exact ⟨i, List.mem_range.2 hi, by rw [← he', hx]; rfl⟩
theorem vis_row {l : List PC} {hz : Int} (h : SOk l hz) {k : ByteArray} {t : Int} {r : List Val} (hv : vis1 (look l k) t = some r) : r.length ≤ 6 := by
  have := (mem_scan h.srt t (k, r)).2 hv
  exact scan_row h t _ this
set_option maxRecDepth 100000 in
set_option maxHeartbeats 4000000 in
theorem walk32 (a : Option Addr) (len cap : Nat) (zs : List Int) (tim : Int) (w : World) (hE : Elems w a len zs) (hl : len ≤ cap) (hm : cap ≤ 9223372036854775807) :
    Calls Try.prog 6 #[.slice a len cap, .int .i64 tim] w fun e w' => e = .returned (.bool true) ∧ Up w w' := by
  obtain ⟨i0, hi0, hz0, hz1, hz2⟩ := info_parts Try.infoRec
  have HE := Lib.hid hE
  obtain ⟨m, hmm, hm1⟩ : ∃ m, min len 100 = m ∧ m ≤ 100 := ⟨_, rfl, Nat.min_le_right _ _⟩
  have HIST := Lib.hid (fun W (hu : Up w W) => history_any a len cap zs W (elems_up HE.out hu) hl hm)
  rw [hmm] at HIST
  have HK := Lib.hid (hist_ok zs m (by omega))
  obtain ⟨l, hll⟩ : ∃ l, l = histL zs m := ⟨_, rfl⟩
  rw [← hll] at HK HIST
  have t1 := modV_nonneg tim ((m : Int) + 2) (by omega)
  obtain ⟨t, ht⟩ : ∃ t, t = modV tim ((m : Int) + 2) := ⟨_, rfl⟩
  rw [← ht] at t1
  have HMT : Hid (∀ W, Calls Try.prog 22 #[.int .i64 tim, .int .i64 ((m : Int) + 2)] W fun e w' => e = .returned (.int .i64 t) ∧ W = w') := fun W => by have := mod_any tim ((m : Int) + 2) W (by omega) (by omega); rwa [← ht] at this
  have HR : Hid ((scanL l t).length ≤ 1000 ∧ ∀ r ∈ scanL l t, r.2.length ≤ 1000) := ⟨by have := scan_len l t; have := HK.out.ok.len; omega, fun r hr => by have := scan_row HK.out.ok _ r hr; omega⟩
  clear hE hmm ht hll
  go_enter Try.func6, Try.ntmps6
  go_wp2_with (first
    | (go_at_call 26; refine (scan_any _ _ _ _ _ _ H2.out.1 (by omega)).mono ?_; rintro e w3 ⟨v, rfl, h5, h6⟩; obtain ⟨rs, q1, q2, _, _⟩ := id h5; obtain ⟨ra, rc, rfl, _, _, _⟩ := own_form q2; have H3 := Lib.hid (h5.src HR.out.2); have H4 := Lib.hid h6; clear h6 q1 q2 h5)
    | (go_at_call 22; refine (HMT.out _).mono ?_; rintro e w' ⟨rfl, rfl⟩)
    | (go_at_call 17; refine (HIST.out _ H1.out).mono ?_; rintro e w2 ⟨p, F, rfl, h2⟩; have H2 : Hid (StR w2 p l 0 F ∧ (∀ k, F k → w.heap.size ≤ k) ∧ Up w1 w2) := ⟨h2.1, fun k hk => Nat.le_trans H1.out.size (h2.2.1 k hk), h2.2.2⟩; clear h2)
    | (go_at_call 16; refine (works_any _).mono ?_; rintro e w1 ⟨rfl, h1⟩; have H1 := Lib.hid h1; clear h1)
    | fail)
  go_loopw [10, 36] (fun gv iv wr => ∃ k : Nat, k ≤ 6 ∧ iv = .int .i64 k ∧ Hid (RecsR wr w3.heap.size gv (gotL l t k)) ∧ Hid (Up w3 wr)) (fun _ iv _ => 6 - (intOf iv).toNat)
  case atStart => exact ⟨0, by omega, rfl, RecsR.nil _ _, Up.refl _⟩
  case round =>
    obtain ⟨k, hk, rfl, HG, HU⟩ := hrel
    obtain ⟨gs, hr1, hr2, hr3, hr4⟩ := HG.out
    obtain ⟨av, cv', rfl, _, _, _⟩ := own_form hr2
    have hgl : gs.length ≤ 6 := by have h1 := congrArg List.length hr1; have h2 := got_len l t k; rw [List.length_map] at h1; omega
    have HR1 := Lib.hid hr1
    have HR2 := Lib.hid hr2
    have HR3 := Lib.hid hr3
    have HR4 := Lib.hid hr4
    clear hr1 hr2 hr3 hr4
    by_cases hlt : k < 6
    · have hS := Lib.hid (H2.out.1.up (H4.out.trans HU.out))
      have ST := got_succ l t k
      have GL := getL_look l 0 (keyB (k : Int)) t (by omega)
      have hzw := HU.out.size
      cases hv : vis1 (look l (keyB (k : Int))) t with
      | none =>
        rw [hv] at ST GL
        have HST := Lib.hid ST
        have HGL := Lib.hid GL
        clear ST GL hv
        go_wp2_with (first
          | (go_at_call 18; refine (key_any _ _).mono ?_; rintro e w4 ⟨rfl, h2⟩; have K2 := Lib.hid h2; clear h2)
          | (go_at_call 27; refine (get_any _ _ _ _ _ _ _ (hS.out.up K2.out)).mono ?_; rw [HGL.out]; rintro e w5 ⟨gv, rfl, h4, h5⟩; obtain ⟨ga, gc, rfl, _, _, _⟩ := own_form h4; have K4 := Lib.hid h4; have K5 := Lib.hid (K2.out.trans h5); clear h4 h5)
          | fail)
        go_roundw
        case rel => exact ⟨k + 1, by omega, by go_num, by unfold Hid; rw [HST.out]; simpa using HG.out.up K5.out, HU.out.trans K5.out⟩
        case measure => simp [intOf]; omega
      | some r =>
        rw [hv] at ST GL
        have hrl : r.length ≤ 6 := vis_row HK.out.ok hv
        have HST := Lib.hid ST
        have HGL := Lib.hid GL
        clear ST GL hv
        go_wp2_with (first
          | (go_at_call 27; refine (get_any _ _ _ _ _ _ _ (hS.out.up K2.out)).mono ?_; rw [HGL.out]; rintro e w5 ⟨gv, rfl, h4, h5⟩; obtain ⟨ga, gc, rfl, _, _, _⟩ := own_form h4; have K4 := Lib.hid h4; have K5 := Lib.hid h5; clear h4 h5)
          | (go_at_call 18; have tok := K5; refine (key_any _ _).mono ?_; rintro e w6 ⟨rfl, h2⟩; have K6 := Lib.hid h2; have K7 := Lib.hid (own_up HR2.out (((K2.out.trans K5.out).trans h2).alloc (.cells #[.string (keyB (k : Int)), .slice ga r.length gc] 45))); clear h2 tok)
          | (go_at_call 18; refine (key_any _ _).mono ?_; rintro e w4 ⟨rfl, h2⟩; have K2 := Lib.hid h2; clear h2)
          | (at_builtin; refine wpList_append_own _ rfl (.tmp 49) (.tmp 54) 41 rfl w3.heap.size 45 i0 (.agg #[.string ByteArray.empty, .slice none 0 0]) 2 40 Try.underlying41 hi0 hz0 hz1 hz2 rfl (by decide) (.slice av gs.length cv') gs.length (rmC gs) rfl K7.out ⟨w6.heap.size, 0, none⟩ 1 1 [.string (keyB (k : Int)), .slice ga r.length gc] rfl rfl (rcell w6 w6.heap.size rfl _ _ _) (by intro u hu; simp at hu; rcases hu with rfl | rfl <;> rfl) (by unfold maxLen; omega) (by omega) (by have := ((K2.out.trans K5.out).trans K6.out).size; simp; omega) ?_; intro v' w7 hown hgrow _; obtain ⟨an, cn, rfl, _, _, _⟩ := own_form hown; have K8 := Lib.hid hown; have K9 : Hid (Chg (fun j => (Value.slice av gs.length cv').ownBlock = some j) w6 w7) := ((Chg.refl _ w6).alloc _).grown hgrow (fun k hk => .inl hk); clear hown hgrow)
          | fail)
        go_roundw
        case rel =>
          refine ⟨k + 1, by omega, by go_num, ?_, ?_⟩
          · unfold Hid
            rw [HST.out, ← HR1.out]
            exact RecsR.snoc HR2.out HR3.out HR4.out hzw K2.out (own_up K4.out K6.out) (K5.out.trans K6.out) K8.out K9.out
          · exact ((((HU.out.trans K2.out).trans K5.out).trans K6.out).chg fun _ => False).trans K9.out (fun j hj e => by have := ((own_ty HR2.out) j e).2; omega) |>.up fun _ _ e => e
        case measure => simp [intOf]; omega
    · obtain rfl : k = 6 := by omega
      have GA : Hid (gotL l t 6 = scanL l t) := got_all HK.out t
      rw [GA.out] at HG
      have HGS := Lib.hid (HG.out.src HR.out.2)
      go_wp2_with (first
        | (go_at_call 28; refine (eqrecs_any _ _ _ _ (H3.out.up HU.out) HGS.out HR.out.1).mono ?_; rintro e w8 ⟨rfl, h4⟩; have K9 := Lib.hid (HU.out.trans h4); clear h4)
        | fail)
      go_ret
      exact ⟨rfl, ((H1.out.trans H2.out.2.2).trans H4.out).trans K9.out⟩
end Go.Proofs.Ytinmpodnfofmdaa.Mv
