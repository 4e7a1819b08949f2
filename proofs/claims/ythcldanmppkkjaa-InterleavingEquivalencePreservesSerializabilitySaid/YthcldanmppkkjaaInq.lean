/- Interleavings: equivalent schedules have the same conflict graph. Printed by gen5/in8.py. -/
import Derived.Test.YthcldanmppkkjaaIno
import Derived.Test.YthcldanmppkkjaaInm
import Derived.StillTailTactics
namespace Go.Proofs.Ythcldanmppkkjaa.In
open Go Go.RowKit Hp
set_option linter.unusedVariables false

theorem hvalid_of {l : List Hop} (hl : l.length ≤ 200) (h : ∀ x ∈ l, (x.kind = 1 ∨ x.kind = 2) ∧ x.tx < 20 ∧ x.key.size ≤ 24) : HValid l := by
  have key : ∀ i, i < l.length → l.getD i h0 ∈ l := fun i hi => by simp [List.getD, hi]
  exact ⟨hl, fun i hi => (h _ (key i hi)).1, fun i hi => (h _ (key i hi)).2.1, fun i hi => (h _ (key i hi)).2.2⟩
theorem hvalid_sub {A B : List Hop} (h : HValid A) (hl : B.length = A.length) (hs : ∀ x ∈ B, x ∈ A) : HValid B := by
  refine hvalid_of (by rw [hl]; exact h.len) fun x hx => ?_
  obtain ⟨i, hi, rfl⟩ := List.getElem_of_mem (hs x hx)
  have e : A.getD i h0 = A[i] := by simp [List.getD, hi]
  have h1 := h.kind i hi
  have h2 := h.tx i hi
  have h3 := h.key i hi
  rw [e] at h1 h2 h3
  exact ⟨h1, h2, h3⟩
theorem pcells_at : ∀ (l : List (Int × Int)) (i : Nat) (h : i < l.length), (pcells l)[i * 2]? = some (.int .i64 l[i].1) ∧ (pcells l)[i * 2 + 1]? = some (.int .i64 l[i].2)
  | a :: l, 0, _ => by simp [pcells]
  | a :: l, i + 1, h => by
    have := pcells_at l i (by simpa using h)
    simp only [pcells, List.flatMap_cons, List.getElem_cons_succ] at this ⊢
    rw [List.getElem?_append_right (by simp; omega), List.getElem?_append_right (by simp; omega)]
    simpa [show (i + 1) * 2 - 2 = i * 2 by omega, show (i + 1) * 2 + 1 - 2 = i * 2 + 1 by omega] using this
theorem pairs_own {w : World} {base : Nat} {v : Value} {l : List (Int × Int)} (h : w.ownsRow base 49 2 v l.length (pcells l)) : Arr PairR 2 w v l :=
  own_arr h fun g hg hc i hi => ⟨hg, hc _ _ (pcells_at l i hi).1, hc _ _ (pcells_at l i hi).2⟩
def swp (l : List Hop) (i : Nat) : List Hop := (l.set i (l.getD (i + 1) h0)).set (i + 1) (l.getD i h0)
theorem swp_len (l : List Hop) (i : Nat) : (swp l i).length = l.length := by simp [swp]
theorem swp_mem {l : List Hop} {i : Nat} (hi : i + 1 < l.length) : ∀ x ∈ swp l i, x ∈ l := fun x hx => by
  have key : ∀ j, j < l.length → l.getD j h0 ∈ l := fun j hj => by simp [List.getD, hj]
  unfold swp at hx
  rcases List.mem_or_eq_of_mem_set hx with e | e
  · rcases List.mem_or_eq_of_mem_set e with e | e
    · exact e
    · rw [e]; exact key _ hi
  · rw [e]; exact key _ (by omega)
/-- A whole operation stored. -/
theorem hpC_put : ∀ (l : List Hop) (i : Nat) (x : Hop), (((hpC l).set (i * 3) (.int .i64 (x.tx : Int))).set (i * 3 + 1) (.int .i64 x.kind)).set (i * 3 + 2) (.string x.key) = hpC (l.set i x)
  | [], i, x => by simp [hpC]
  | a :: l, 0, x => by simp [hpC, hp1]
  | a :: l, i + 1, x => by
    have ih := hpC_put l i x
    unfold hpC at ih ⊢
    rw [List.set_cons_succ, List.flatMap_cons, List.flatMap_cons, ← ih]
    have e : ∀ (L : List Value) (k : Nat) (v : Value), (hp1 a ++ L).set ((i + 1) * 3 + k) v = hp1 a ++ L.set (i * 3 + k) v := fun L k v => by
      rw [List.set_append_right _ _ (by simp [hp1]; omega)]
      congr 2
      simp [hp1]; omega
    have e0 : ∀ (L : List Value) (v : Value), (hp1 a ++ L).set ((i + 1) * 3) v = hp1 a ++ L.set (i * 3) v := fun L v => e L 0 v
    rw [e0, e, e]
theorem own_store {w : World} {base g c : Nat} {l : List Hop} {n : Nat} (hn : l.length = n) (h : OpsO w base (.slice (some ⟨g, 0, none⟩) n c) l) {i : Nat} (hi : i < l.length) (x : Hop) :
    OpsO (((w.setCell ⟨g, i * 3, none⟩ (.int .i64 (x.tx : Int))).setCell ⟨g, i * 3 + 1, none⟩ (.int .i64 x.kind)).setCell ⟨g, i * 3 + 2, none⟩ (.string x.key)) base (.slice (some ⟨g, 0, none⟩) n c) (l.set i x) := by
  subst hn
  have hl := hpC_len l
  have h1 := own_set (own_set (own_set h (i * 3) (by omega) (.int .i64 (x.tx : Int))) (i * 3 + 1) (by simp; omega) (.int .i64 x.kind)) (i * 3 + 2) (by simp; omega) (.string x.key)
  unfold OpsO
  rw [List.length_set, ← hpC_put]
  exact h1
set_option maxRecDepth 100000 in
set_option maxHeartbeats 4000000 in
theorem walk29 (a2 : Option Addr) (len2 cap2 : Nat) (z2 : List Int) (a3 : Option Addr) (len3 cap3 : Nat) (z3 : List Int) (w : World) (hE : Elems w a2 len2 z2) (hl : len2 ≤ cap2) (hm : cap2 ≤ 9223372036854775807)
    (hE3 : Elems w a3 len3 z3) (hl3 : len3 ≤ cap3) (hm3 : cap3 ≤ 9223372036854775807) :
    Calls Try.prog 6 #[.slice a2 len2 cap2, .slice a3 len3 cap3] w fun e w' => e = .returned (.bool true) ∧ Up w w' := by
  have HE := Lib.hid hE
  have HE3 := Lib.hid hE3
  clear hE hE3
  obtain ⟨m, hmin, hm1, hm2⟩ : ∃ m : Nat, min (len3 : Int) 40 = (m : Int) ∧ m ≤ len3 ∧ m ≤ 40 := ⟨min len3 40, by omega, by omega, by omega⟩
  have hmin2 : (if (40 : Int) < (len3 : Int) then (40 : Int) else (len3 : Int)) = (m : Int) := by rw [← hmin]; split <;> omega
  have hcap : (m : Int) ≤ (cap3 : Int) := by omega
  go_enter Try.func6, Try.ntmps6
  go_wp2_with (first
    | (go_at_call 15; with_reducible refine (cloneO _ A.length (hpC A) _ (own_src O3.out) (hpC_one A) (by omega)).mono ?_; rintro e w4 ⟨v4, rfl, h1, h2⟩; have O4 := Lib.hid h1; have U4 := Lib.hid h2; obtain ⟨ba, bc, rfl, hb1, hb2, hb3⟩ := own_form h1; clear h1 h2 hb1 hb2 hb3)
    | (go_at_call 13; with_reducible refine (concat_any _ L0 _ (T0.out.txR.base (Nat.zero_le _)) (by have := P0.out.len; omega) (by have := P0.out.tot; omega)).mono ?_; rintro e w3 ⟨v3, rfl, h1, h2⟩; obtain ⟨A, hA⟩ : ∃ A, A = L0.flatten := ⟨_, rfl⟩
       have VA : Hid (HValid A) := by
         rw [hA]
         exact merge_valid (P0.out.valid (Nat.le_refl _)) (mrg_flat L0 (P0.out.valid (Nat.le_refl _)).own')
       rw [← hA] at h1
       have hA12 : A.length ≤ 12 := by rw [hA]; exact P0.out.tot
       have O3 := Lib.hid h1
       have U3 := Lib.hid h2
       obtain ⟨aa, ac, rfl, hb1, hb2, hb3⟩ := own_form h1
       clear h1 h2 hb1 hb2 hb3 hA)
    | (go_at_call 8; refine (programs_any 12 (by decide) a2 len2 cap2 z2 _ (elems_up HE.out U1.out) hl hm).mono ?_; rintro e w2 ⟨g, us, L0, rfl, h1, h2, h3⟩; have T0 := Lib.hid h1; have P0 := Lib.hid h2; have U2 := Lib.hid h3; clear h1 h2 h3)
    | (go_at_call 7; refine (works_any _).mono ?_; rintro e w1 ⟨rfl, h1⟩; have U1 := Lib.hid h1; clear h1)
    | fail)
  clear hmin hmin2
  go_loopw [29] (fun iv wr => ∃ (k : Nat) (B : List Hop), k ≤ m ∧ iv = .int .i64 k ∧ Hid (OpsO wr w3.heap.size (.slice ba A.length bc) B) ∧ Hid (B.length = A.length ∧ ∀ x ∈ B, x ∈ A) ∧ Hid (Up w3 wr)) (fun iv _ => m - (intOf iv).toNat)
  case atStart => exact ⟨0, A, by omega, rfl, O4.out, ⟨rfl, fun _ h => h⟩, U4.out⟩
  case round =>
    obtain ⟨k, B, hk, rfl, HO, HB, HU⟩ := hrel
    have HW : Hid (Up w wr) := (((U1.out.trans U2.out).trans U3.out).trans HU.out)
    have HVB : Hid (HValid B) := hvalid_sub VA.out HB.out.1 HB.out.2
    have HOA : Hid (OpsO wr w2.heap.size (.slice aa A.length ac) A) := own_up O3.out HU.out
    have HLB := Lib.hid HB.out.1
    by_cases hlt : k < m
    · have hlti : (k : Int) < (m : Int) := by omega
      obtain ⟨b, off, rfl, hbl, hc⟩ := (elems_up HE3.out (HW.out)) k (by omega)
      generalize z3.getD k 0 = x at *
      by_cases hn2 : A.length < 2
      · have hni : (A.length : Int) < 2 := by omega
        by_cases heq : nfH A = nfH B
        · have HGR : Hid (cfN B B.length = cfN A A.length) := (graph_nf VA.out HVB.out heq).symm
          have HD : Hid (decide (nfH A = nfH B) = true) := decide_eq_true heq
          clear heq
          go_wp2_with (first
            | (go_at_call 17; with_reducible refine (equalP_any _ _ _ _ _ (Q7.out.grow pairR_grows V8.out) Q8.out).mono ?_; rw [decide_eq_true rfl]; rintro e w9 ⟨rfl, h1⟩; have V9 := Lib.hid h1; clear h1)
            | (go_at_call 16; with_reducible refine (graph_any _ B _ (hops_own (own_up HO.out (V6.out.trans V7.out))) HVB.out).mono ?_; rintro e w8 ⟨v8, rfl, h1, h2⟩; rw [HGR.out] at h1; have Q8 := Lib.hid (pairs_own h1); have V8 := Lib.hid h2; clear h1 h2)
            | (go_at_call 16; with_reducible refine (graph_any _ A _ (hops_own (own_up HOA.out V6.out)) VA.out).mono ?_; rintro e w7 ⟨v7, rfl, h1, h2⟩; have Q7 := Lib.hid (pairs_own h1); have V7 := Lib.hid h2; clear h1 h2)
            | (go_at_call 14; with_reducible refine (equiv_any _ _ A B _ _ _ HOA.out HO.out VA.out HVB.out).mono ?_; rw [HD.out]; rintro e w6 ⟨rfl, h1⟩; have V6 := Lib.hid h1; clear h1)
            | fail)
          go_ret
          exact ⟨rfl, (((HW.out.trans V6.out).trans V7.out).trans V8.out).trans V9.out⟩
        · have HD : Hid (decide (nfH A = nfH B) = false) := decide_eq_false heq
          clear heq
          go_wp2_with (first
            | (go_at_call 16; with_reducible refine (graph_any _ B _ (hops_own (own_up HO.out (V6.out.trans V7.out))) HVB.out).mono ?_; rintro e w8 ⟨v8, rfl, h1, h2⟩; have V8 := Lib.hid h2; clear h1 h2)
            | (go_at_call 16; with_reducible refine (graph_any _ A _ (hops_own (own_up HOA.out V6.out)) VA.out).mono ?_; rintro e w7 ⟨v7, rfl, h1, h2⟩; have V7 := Lib.hid h2; clear h1 h2)
            | (go_at_call 14; with_reducible refine (equiv_any _ _ A B _ _ _ HOA.out HO.out VA.out HVB.out).mono ?_; rw [HD.out]; rintro e w6 ⟨rfl, h1⟩; have V6 := Lib.hid h1; clear h1)
            | fail)
          go_ret
          exact ⟨rfl, ((HW.out.trans V6.out).trans V7.out).trans V8.out⟩
      · have hni : ¬ (A.length : Int) < 2 := by omega
        go_upto_region 10 with (first
          | (go_at_call 10; refine (modn_any _ _ _ (by omega) (by omega)).mono ?_; rintro e w' ⟨q, rfl, hq, rfl⟩)
          | fail)
        have hqA : q + 1 < A.length := by omega
        have hrow : wr.ownsRow w3.heap.size 33 3 (.slice ba A.length bc) A.length (hpC B) := by
          have := HO.out
          unfold OpsO at this
          rw [HLB.out] at this
          exact this
        obtain ⟨g9, c9, hs9, hb9, hb8, hl9, hc9, hf9⟩ := own_some hrow (by omega)
        simp only [Value.slice.injEq] at hs9
        obtain ⟨rfl, hs8, rfl⟩ := hs9
        have hqB : q + 1 < B.length := by rw [HLB.out]; exact hqA
        obtain ⟨⟨t1, k1, s1⟩, hx1⟩ : ∃ x1 : Hop, x1 = B[q] := ⟨_, rfl⟩
        obtain ⟨⟨t2, k2, s2⟩, hx2⟩ : ∃ x2 : Hop, x2 = B[q + 1] := ⟨_, rfl⟩
        obtain ⟨p1, p2, p3⟩ := hpC_get B q (by omega)
        obtain ⟨r1, r2, r3⟩ := hpC_get B (q + 1) hqB
        rw [← hx1] at p1 p2 p3
        rw [← hx2] at r1 r2 r3
        replace p1 := hc9 _ _ p1
        replace p2 := hc9 _ _ p2
        replace p3 := hc9 _ _ p3
        replace r1 := hc9 _ _ r1
        replace r2 := hc9 _ _ r2
        replace r3 := hc9 _ _ r3
        dsimp only at p1 p2 p3 r1 r2 r3
        have fa1 := hf9 (q * 3)
        have fa2 := hf9 (q * 3 + 1)
        have fa3 := hf9 (q * 3 + 2)
        have fb1 := hf9 ((q + 1) * 3)
        have fb2 := hf9 ((q + 1) * 3 + 1)
        have fb3 := hf9 ((q + 1) * 3 + 2)
        have HX : Hid (B.getD q h0 = ⟨t1, k1, s1⟩ ∧ B.getD (q + 1) h0 = ⟨t2, k2, s2⟩) := ⟨by rw [hx1]; exact (List.getElem_eq_getD h0).symm, by rw [hx2]; exact (List.getElem_eq_getD h0).symm⟩
        have HQB := Lib.hid hqB
        have hw1 : IntKind.i64.wrap ((q : Int) + 1) = (q : Int) + 1 := by rw [IntKind.wrap_i64]; omega
        have hq1 : ((q : Int) + 1).toNat = q + 1 := by omega
        have hq2 : (q : Int) + 1 < (A.length : Int) := by omega
        have hq0 : (q : Int) < (A.length : Int) := by omega
        have hq3 : ¬ (q : Int) + 1 < 0 := by omega
        have hq4 : (0 : Int) ≤ (q : Int) + 1 := by omega
        clear hrow hs8 hb9 hb8 hc9 hf9 hx1 hx2 hqB
        go_quiet (fail)
        by_cases htx : t1 = t2
        · subst htx
          have HU4 := Lib.hid (Up.drewN (Up.refl wr) nq)
          go_wp2
          go_roundw
          case rel => exact ⟨k + 1, B, by omega, by go_num, own_up HO.out HU4.out, HB.out, HU.out.trans HU4.out⟩
          case measure => simp [intOf]; omega
        · have htx' : ¬ (t1 : Int) = (t2 : Int) := by omega
          go_upto_region 11 with (fail)
          go_region_law (fail)
          all_goals
            have HB9 := ((own_ty HO.out) g9 rfl).2
            have S1 := own_store HLB.out (own_up HO.out (Up.drewN (Up.refl wr) (nq + 1))) (i := q) (Nat.lt_of_succ_lt HQB.out) ⟨t2, k2, s2⟩
            have S2 := own_store (by rw [List.length_set]; exact HLB.out) S1 (i := q + 1) (by rw [List.length_set]; exact HQB.out) ⟨t1, k1, s1⟩
            have HSW : (B.set q ⟨t2, k2, s2⟩).set (q + 1) ⟨t1, k1, s1⟩ = swp B q := by
              unfold swp
              rw [HX.out.1, HX.out.2]
            rw [HSW] at S2
            have S3 := Lib.hid S2
            have S4 := Lib.hid ((((((((HU.out.drewN (nq + 1)).set HB9 (q * 3) none (.int .i64 (t2 : Int))).set HB9 (q * 3 + 1) none (.int .i64 k2)).set HB9 (q * 3 + 2) none (.string s2)).set HB9 ((q + 1) * 3) none (.int .i64 (t1 : Int))).set HB9 ((q + 1) * 3 + 1) none (.int .i64 k1)).set HB9 ((q + 1) * 3 + 2) none (.string s1)))
            clear S1 S2 HSW HB9
            go_wp2
            go_roundw
            case rel => exact ⟨k + 1, swp B q, by omega, by go_num, S3.out, ⟨by rw [swp_len]; exact HB.out.1, fun x hx => HB.out.2 x (swp_mem HQB.out x hx)⟩, S4.out⟩
            case measure => simp [intOf]; omega
    · obtain rfl : k = m := by omega
      by_cases heq : nfH A = nfH B
      · have HGR : Hid (cfN B B.length = cfN A A.length) := (graph_nf VA.out HVB.out heq).symm
        have HD : Hid (decide (nfH A = nfH B) = true) := decide_eq_true heq
        clear heq
        go_wp2_with (first
          | (go_at_call 17; with_reducible refine (equalP_any _ _ _ _ _ (Q7.out.grow pairR_grows V8.out) Q8.out).mono ?_; rw [decide_eq_true rfl]; rintro e w9 ⟨rfl, h1⟩; have V9 := Lib.hid h1; clear h1)
          | (go_at_call 16; with_reducible refine (graph_any _ B _ (hops_own (own_up HO.out (V6.out.trans V7.out))) HVB.out).mono ?_; rintro e w8 ⟨v8, rfl, h1, h2⟩; rw [HGR.out] at h1; have Q8 := Lib.hid (pairs_own h1); have V8 := Lib.hid h2; clear h1 h2)
          | (go_at_call 16; with_reducible refine (graph_any _ A _ (hops_own (own_up HOA.out V6.out)) VA.out).mono ?_; rintro e w7 ⟨v7, rfl, h1, h2⟩; have Q7 := Lib.hid (pairs_own h1); have V7 := Lib.hid h2; clear h1 h2)
          | (go_at_call 14; with_reducible refine (equiv_any _ _ A B _ _ _ HOA.out HO.out VA.out HVB.out).mono ?_; rw [HD.out]; rintro e w6 ⟨rfl, h1⟩; have V6 := Lib.hid h1; clear h1)
          | fail)
        go_ret
        exact ⟨rfl, (((HW.out.trans V6.out).trans V7.out).trans V8.out).trans V9.out⟩
      · have HD : Hid (decide (nfH A = nfH B) = false) := decide_eq_false heq
        clear heq
        go_wp2_with (first
          | (go_at_call 16; with_reducible refine (graph_any _ B _ (hops_own (own_up HO.out (V6.out.trans V7.out))) HVB.out).mono ?_; rintro e w8 ⟨v8, rfl, h1, h2⟩; have V8 := Lib.hid h2; clear h1 h2)
          | (go_at_call 16; with_reducible refine (graph_any _ A _ (hops_own (own_up HOA.out V6.out)) VA.out).mono ?_; rintro e w7 ⟨v7, rfl, h1, h2⟩; have V7 := Lib.hid h2; clear h1 h2)
          | (go_at_call 14; with_reducible refine (equiv_any _ _ A B _ _ _ HOA.out HO.out VA.out HVB.out).mono ?_; rw [HD.out]; rintro e w6 ⟨rfl, h1⟩; have V6 := Lib.hid h1; clear h1)
          | fail)
        go_ret
        exact ⟨rfl, ((HW.out.trans V6.out).trans V7.out).trans V8.out⟩
end Go.Proofs.Ythcldanmppkkjaa.In
