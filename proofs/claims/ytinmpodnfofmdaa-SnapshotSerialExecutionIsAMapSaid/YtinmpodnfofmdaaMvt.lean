/- The multi-version store: Vacuum's plain laws; the walks of the two laws on it. -/
import Derived.Test.YtinmpodnfofmdaaMvs
namespace Go.Proofs.Ytinmpodnfofmdaa.Mv
open Go Go.RowKit Hp So
set_option linter.unusedVariables false

theorem visL_app (a b : List PV) (ts : Int) : visL (a ++ b) ts = (visL b ts).or (visL a ts) := by
  unfold visL
  rw [List.reverse_append, List.find?_append]
theorem findIdx_le {l : List PV} {hz : Int} {j : Nat} (h : j < l.findIdx fun v => decide (hz < v.ts)) (hj : j < l.length) : l[j].ts ≤ hz := by
  have := List.not_of_lt_findIdx h
  simp at this
  omega
theorem visL_last {l : List PV} {ts : Int} {x : PV} (h : x.ts ≤ ts) : visL (l ++ [x]) ts = some x := by
  unfold visL
  rw [List.reverse_append, List.reverse_singleton, List.singleton_append, List.find?_cons]
  simp [h]
theorem visL_some {l : List PV} {ts : Int} {x : PV} (hx : x ∈ l) (h : x.ts ≤ ts) : visL l ts ≠ none := by
  unfold visL
  rw [Ne, List.find?_eq_none]
  intro e
  have := e x (List.mem_reverse.2 hx)
  simp [h] at this
theorem vis_vac (l : List PV) {hz ts : Int} (h : hz ≤ ts) : vis1 (l.drop (vdrop l hz)) ts = vis1 l ts := by
  have e : visL l ts = (visL (l.drop (vdrop l hz)) ts).or (visL (l.take (vdrop l hz)) ts) := by
    rw [← visL_app, List.take_append_drop]
  unfold vis1
  rw [e]
  cases hv : visL (l.drop (vdrop l hz)) ts with
  | some v => rfl
  | none =>
    simp only [Option.none_or]
    have hcl : (l.findIdx fun v => decide (hz < v.ts)) ≤ l.length := List.findIdx_le_length
    unfold vdrop at hv ⊢
    split at hv
    · rename_i hc
      rw [if_pos hc]
      obtain ⟨c, hcc⟩ : ∃ c, (l.findIdx fun v => decide (hz < v.ts)) = c + 1 := ⟨_, (Nat.sub_add_cancel hc.1).symm⟩
      have hle := findIdx_le (l := l) (hz := hz) (j := c) (by omega) (by omega)
      rw [hcc] at hc ⊢
      have gd : l.getD (c + 1 - 1) ⟨0, false, []⟩ = l[c] := by simp [List.getD, show c < l.length by omega]
      rw [gd] at hc
      rw [List.take_succ_eq_append_getElem (by omega), visL_last (by omega)]
      simp [hc.2]
    · rename_i hc
      rw [if_neg hc]
      rcases Nat.eq_zero_or_pos ((l.findIdx fun v => decide (hz < v.ts)) - 1) with h0 | h0
      · rw [h0]; rfl
      · exfalso
        have hle := findIdx_le (l := l) (hz := hz) (j := (l.findIdx fun v => decide (hz < v.ts)) - 1) (by omega) (by omega)
        refine visL_some (x := l[(l.findIdx fun v => decide (hz < v.ts)) - 1]'(by omega)) ?_ (by omega) hv
        rw [List.drop_eq_getElem_cons (by omega)]
        exact List.mem_cons_self ..
theorem look_vac {l : List PC} {hz ts : Int} (h : SOk l hz) (k : ByteArray) : look (vacL l ts) k = (look l k).drop (vdrop (look l k) ts) := by
  have hs2 := (h.vac ts).srt
  by_cases hh : has l k = true
  · have hm := has_mem hh
    by_cases hd : vdrop (look l k) ts < (look l k).length
    · refine (mem_has hs2 (List.mem_filterMap.2 ⟨_, hm, ?_⟩)).2
      unfold vac1
      rw [if_pos hd]
    · rw [List.drop_eq_nil_of_le (by omega)]
      refine look_none hs2 fun vs hv => ?_
      obtain ⟨c0, h0, h1, h2, h3⟩ := vac_mem hv
      have e := (mem_has h.srt (k := k) (vs := c0.2) (by rw [show k = c0.1 from h1]; exact h0)).2
      rw [e] at hd
      exact h3 (h2.trans (List.drop_eq_nil_of_le (by omega)))
  · have e : look l k = [] := by unfold look; rw [if_neg hh]
    rw [e]
    refine (look_none hs2 fun vs hv => ?_).trans (by simp)
    obtain ⟨c0, h0, h1, _⟩ := vac_mem hv
    exact hh (mem_has h.srt (k := k) (vs := c0.2) (by rw [show k = c0.1 from h1]; exact h0)).1
theorem scan_vac {l : List PC} {hz t ts : Int} (h : SOk l hz) (ht : t ≤ ts) : scanL (vacL l t) ts = scanL l ts :=
  scan_ext (h.vac t).srt h.srt ts fun k => by rw [look_vac h, vis_vac _ ht]
theorem vac_one {l : List PC} {hz t : Int} (hl : ∀ c ∈ l, ∀ v ∈ c.2, v.ts ≤ t) (h : SOk l hz) : ∀ c ∈ vacL l t, c.2.length = 1 ∧ ∃ r, vis1 c.2 t = some r := fun c hc => by
  obtain ⟨c0, h0, h1, h2, h3⟩ := vac_mem hc
  have hlen : 0 < c0.2.length := List.length_pos_iff.2 (h.ne c0 h0)
  have hi : (c0.2.findIdx fun v => decide (t < v.ts)) = c0.2.length := by
    rw [List.findIdx_eq_length]
    intro v hv
    have := hl c0 h0 v hv
    simp; omega
  have hd : vdrop c0.2 t = c0.2.length - 1 ∧ c0.2[c0.2.length - 1].tomb = false := by
    have gd : c0.2.getD (c0.2.length - 1) ⟨0, false, []⟩ = c0.2[c0.2.length - 1] := by simp [List.getD, show c0.2.length - 1 < c0.2.length by omega]
    by_cases ht : c0.2[c0.2.length - 1].tomb = true
    · exfalso
      have : vdrop c0.2 t = c0.2.length := by
        unfold vdrop
        rw [hi, gd, if_pos ⟨hlen, ht⟩]
      rw [this, List.drop_length] at h2
      exact h3 h2
    · refine ⟨?_, by simpa using ht⟩
      unfold vdrop
      rw [hi, gd, if_neg (fun e => ht e.2)]
  have e : c.2 = [c0.2[c0.2.length - 1]] := by
    rw [h2, hd.1, List.drop_eq_getElem_cons (by omega), List.drop_eq_nil_of_le (by omega)]
  have hle := hl c0 h0 _ (List.getElem_mem (show c0.2.length - 1 < c0.2.length by omega))
  refine ⟨by rw [e]; rfl, c0.2[c0.2.length - 1].row, ?_⟩
  rw [e]
  unfold vis1 visL
  simp [hle, hd.2]
theorem cnt_ones {l : List PC} (h : ∀ c ∈ l, c.2.length = 1) : cnt l = l.length := by
  unfold cnt
  induction l with
  | nil => rfl
  | cons a l ih =>
    rw [List.map_cons, List.sum_cons, ih fun c hc => h c (List.mem_cons_of_mem _ hc), h a (List.mem_cons_self ..), List.length_cons]; omega
theorem scan_all {l : List PC} {ts : Int} (h : ∀ c ∈ l, ∃ r, vis1 c.2 ts = some r) : (scanL l ts).length = l.length := by
  unfold scanL
  induction l with
  | nil => rfl
  | cons a l ih =>
    obtain ⟨r, hr⟩ := h a (List.mem_cons_self ..)
    rw [List.filterMap_cons, hr]
    simp [ih fun c hc => h c (List.mem_cons_of_mem _ hc)]
theorem vac_complete {l : List PC} {n : Nat} (h : HOk l n) : cnt (vacuumL l 0 (n : Int)).1 = (scanL (vacuumL l 0 (n : Int)).1 (n : Int)).length ∧ (vacuumL l 0 (n : Int)).2 = ((n : Int), 0) ∨ n > 400 := by
  by_cases hn : n > 400
  · exact .inr hn
  left
  unfold vacuumL
  rw [if_neg (by omega)]
  by_cases h0 : (n : Int) ≤ 0
  · rw [if_pos h0]
    obtain rfl : n = 0 := by omega
    have : l = [] := by
      cases l with
      | nil => rfl
      | cons a l =>
        have h1 := h.cnt
        have h2 := len_le_cnt h.ok.ne
        rw [h1] at h2
        simp at h2
    subst this
    simp [cnt, scanL]
  · rw [if_neg h0]
    have ho := vac_one (t := (n : Int)) h.le h.ok
    exact ⟨by rw [cnt_ones fun c hc => (ho c hc).1, scan_all fun c hc => (ho c hc).2], rfl⟩
/-- Vacuum, whole. -/
theorem vacuum_any (p : Nat) (l : List PC) (hz : Int) (F : Nat → Prop) (ts : Int) (w : World) (h : StR w p l hz F) : Calls Try.prog 29 #[.pointer (some ⟨p, 0, none⟩), .int .i64 ts] w (VacPost p (vacuumL l hz ts).1 (vacuumL l hz ts).2.1 (vacuumL l hz ts).2.2 F w) := by
  by_cases h0 : ts < 0
  · exact vac_arg p l hz F ts w h (.inl h0)
  by_cases h1 : 1099511627776 < ts
  · exact vac_arg p l hz F ts w h (.inr h1)
  by_cases h2 : ts ≤ hz
  · exact vac_same p l hz F ts w h h0 h1 h2
  · exact vac_main p l hz F ts w h h0 h1 h2

/-- What a step keeps, seen from the law's start. -/
theorem seq_kept {w w1 w2 : World} {p : Nat} {l : List PC} {hz : Int} {F : Nat → Prop} (hF : ∀ k, F k → w.heap.size ≤ k) (hu : Up w w1) (h : StR w2 p l hz (Fx F w1 w2) ∧ Chg F w1 w2) :
    StR w2 p l hz (Fx F w1 w2) ∧ (∀ k, Fx F w1 w2 k → w.heap.size ≤ k) ∧ Up w w2 := by
  refine ⟨h.1, fun k hk => ?_, ((hu.chg fun _ => False).trans h.2 fun j hj e => absurd (hF j e) (by omega)).up fun _ _ e => e⟩
  rcases hk with hk | hk
  · exact hF k hk
  · have := hu.size; omega
set_option maxRecDepth 100000 in
set_option maxHeartbeats 2000000 in
theorem walk33 (a : Option Addr) (len cap : Nat) (zs : List Int) (w : World) (hE : Elems w a len zs) (hl : len ≤ cap) (hm : cap ≤ 9223372036854775807) :
    Calls Try.prog 7 #[.slice a len cap] w fun e w' => e = .returned (.bool true) ∧ Up w w' := by
  have HE := Lib.hid hE
  obtain ⟨m, hmm, hm1⟩ : ∃ m, min len 100 = m ∧ m ≤ 100 := ⟨_, rfl, Nat.min_le_right _ _⟩
  have HIST := Lib.hid (fun W (hu : Up w W) => history_any a len cap zs W (elems_up HE.out hu) hl hm)
  rw [hmm] at HIST
  have HK := hist_ok zs m (by omega)
  obtain ⟨hv1, hv2⟩ := (vac_complete HK).resolve_right (by omega)
  generalize histL zs m = l at *
  obtain ⟨l2, h2, r2, hvv⟩ : ∃ l2 h2 r2, vacuumL l 0 (m : Int) = (l2, h2, r2) := ⟨_, _, _, rfl⟩
  rw [hvv] at hv1 hv2
  simp only [Prod.mk.injEq] at hv1 hv2
  obtain ⟨rfl, rfl⟩ := hv2
  have HVV := Lib.hid hvv
  have HV1 := Lib.hid hv1
  clear hE hmm HK hvv hv1
  go_enter Try.func7, Try.ntmps7
  go_wp2_with (first
    | (go_at_call 30; refine (len_any _ _ _ _ _ (H3.out.1.up H6.out)).mono ?_; rw [HV1.out]; rintro e w5 ⟨rfl, h4⟩; have H7 := Lib.hid (H6.out.trans h4); clear h4)
    | (go_at_call 26; refine (scan_any _ _ _ _ _ _ H3.out.1 (by omega)).mono ?_; rintro e w4 ⟨v, rfl, h5, h6⟩; obtain ⟨rs, q1, q2, _, _⟩ := h5; obtain ⟨ra, rc, rfl, _, _, _⟩ := own_form q2; have hq := congrArg List.length q1; rw [List.length_map] at hq; rw [hq]; have H6 := Lib.hid h6; clear h6 q1 q2 hq)
    | (go_at_call 29; refine (vacuum_any _ _ _ _ _ _ H2.out.1).mono ?_; rw [HVV.out]; rintro e w3 ⟨rfl, h4⟩; have H3 := Lib.hid (seq_kept H2.out.2.1 (H1.out.trans H2.out.2.2) ⟨h4.1, h4.2⟩); clear h4)
    | (go_at_call 17; refine (HIST.out _ H1.out).mono ?_; rintro e w2 ⟨p, F, rfl, h2⟩; have H2 : Hid (StR w2 p l 0 F ∧ (∀ k, F k → w.heap.size ≤ k) ∧ Up w1 w2) := ⟨h2.1, fun k hk => Nat.le_trans H1.out.size (h2.2.1 k hk), h2.2.2⟩; clear h2)
    | (go_at_call 16; refine (works_any _).mono ?_; rintro e w1 ⟨rfl, h1⟩; have H1 := Lib.hid h1; clear h1))
  go_ret
  exact ⟨rfl, H3.out.2.2.trans H7.out⟩
end Go.Proofs.Ytinmpodnfofmdaa.Mv
