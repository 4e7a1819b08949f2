/- Locks: shared locks coexist; the queue is fair. -/
import Derived.Test.YtbimkciejfbodaaLkx
import Derived.Test.YtbimkciejfbodaaLea
namespace Go.Proofs.Ytbimkciejfbodaa.Lk
open Go Go.RowKit Hp
set_option linter.unusedVariables false

/-- The manager, and a row of ints of the law's own. -/
structure Keep (w wr : World) (p : Nat) (M : Mg) (K : Nat → Prop) (v : Value) (L : List Int) : Prop where
  own : OwnM w wr p M K
  row : wr.ownsRow w.heap.size 3 1 v L.length (icI L)
  far : ∀ j, v.ownBlock = some j → ¬ K j
theorem Keep.up {w wr w' : World} {p : Nat} {M : Mg} {K : Nat → Prop} {v : Value} {L : List Int} (h : Keep w wr p M K v L) (hu : Up wr w') : Keep w w' p M K v L := ⟨h.own.up hu, own_up h.row hu, h.far⟩
theorem Keep.nil {w wr : World} {p : Nat} {M : Mg} {K : Nat → Prop} (h : OwnM w wr p M K) : Keep w wr p M K (.slice none 0 0) [] := ⟨h, World.ownsRow_nil _ _ _ _, fun j e => by cases e⟩
theorem Keep.land {w wr w' : World} {p : Nat} {M M' : Mg} {K : Nat → Prop} {v : Value} {L : List Int} (h : Keep w wr p M K v L) (hl : Lands w wr w' p K M') : ∃ K', Keep w w' p M' K' v L := by
  obtain ⟨K', h1, h2, h3⟩ := hl
  exact ⟨K', h1, own_chg h.row h2 h.far, fun j hj e => by
    rcases h3 j e with e | e
    · exact h.far j hj e
    · have := own_lt h.row j hj; omega⟩
theorem Keep.snoc {w wr W w' : World} {p g c H : Nat} {M : Mg} {K : Nat → Prop} {v : Value} {L : List Int} {x : Int} (h : Keep w wr p M K v L) (hu : Up wr W) (hown : w'.ownsRow w.heap.size 3 1 (.slice (some ⟨g, 0, none⟩) (L.length + 1) c) (L.length + 1) (icI L ++ [.int .i64 x]))
    (hg : W.grownBy w' v.ownBlock) (hat : v.ownBlock = some g ∨ g = H) (hH : wr.heap.size ≤ H) : Keep w w' p M K (.slice (some ⟨g, 0, none⟩) (L.length + 1) c) (L ++ [x]) := by
  have C : Chg (fun k => v.ownBlock = some k) wr w' := (Below.chg _ hu).grown hg fun k hk => .inl hk
  refine ⟨⟨h.own.man.chg C fun k hk e => h.far k e hk, h.own.base, ((h.own.upw.chg _).trans C fun _ _ e => e).up fun k hk e => ?_⟩, ?_, fun j hj e => ?_⟩
  · have := ((own_ty h.row) k e).2; omega
  · rw [List.length_append, List.length_singleton, show icI (L ++ [x]) = icI L ++ [.int .i64 x] by simp [icI]]
    exact hown
  · obtain rfl : g = j := by simpa [Value.ownBlock] using hj
    rcases hat with k | k
    · exact h.far g k e
    · have := h.own.man.lt g e; omega
def sh (t m : Int) : Lk := ⟨t, tT, ByteArray.empty, m⟩
theorem sh_valid {t m : Int} (h0 : 0 ≤ t) (h1 : t < 20) (h2 : 1 ≤ m) (h3 : m ≤ 4) : Valid (sh t m) := tT_valid h0 h1 h2 h3
theorem sh_same {a b m n : Int} : sameL (sh a m) (sh b n) = decide (a = b) := by
  unfold sameL sameR sh
  simp
theorem sh_confl {a b m n : Int} : confl (sh a m) (sh b n) = (decide (a ≠ b) && !compat m n) := by
  unfold confl sameR sh
  simp
/-- The shared locks of the first k. -/
def shs (k : Nat) : List Lk := (List.range k).map fun i : Nat => sh (i : Int) 1
theorem mem_shs {k : Nat} {x : Lk} : x ∈ shs k ↔ ∃ i : Nat, i < k ∧ x = sh (i : Int) 1 := by
  unfold shs
  rw [List.mem_map]
  constructor
  · rintro ⟨i, h, rfl⟩; exact ⟨i, List.mem_range.1 h, rfl⟩
  · rintro ⟨i, h, rfl⟩; exact ⟨i, List.mem_range.2 h, rfl⟩
theorem shs_succ (k : Nat) : shs (k + 1) = shs k ++ [sh (k : Int) 1] := by
  unfold shs
  rw [List.range_succ, List.map_append]
  rfl
theorem shs_len (k : Nat) : (shs k).length = k := by unfold shs; simp
/-- The others. -/
def oths (k : Nat) : List Int := (List.range (k - 1)).map fun i : Nat => (i : Int) + 1
theorem oths_succ (k : Nat) (h : 0 < k) : oths (k + 1) = oths k ++ [(k : Int)] := by
  unfold oths
  rw [show k + 1 - 1 = (k - 1) + 1 by omega, List.range_succ, List.map_append]
  simp only [List.map_cons, List.map_nil]
  congr 2
  omega
theorem oths_len (k : Nat) : (oths k).length = k - 1 := by unfold oths; simp
theorem acq50 {k : Nat} (hk : k < 21) : acqL ⟨shs k, []⟩ (sh (k : Int) 1) = (0, ⟨shs (k + 1), []⟩) := by
  rw [shs_succ]
  refine (acq_new (l := sh (k : Int) 1) (fun ⟨q, h, _⟩ => by cases h) rfl (fun x hx => ?_) (by rw [shs_len]; simp; omega)).1 fun x hx => ?_
  · obtain ⟨i, hi, rfl⟩ := mem_shs.1 hx
    rw [sh_same]
    exact decide_eq_false (by omega)
  · rw [List.append_nil] at hx
    obtain ⟨i, hi, rfl⟩ := mem_shs.1 hx
    rw [sh_confl]
    simp [compat]
theorem good50 : ∀ k, k < 21 → Good ⟨shs k, []⟩ k
  | 0, _ => Good.nil
  | k + 1, h => by
    have := (good50 k (by omega)).acq (l := sh (k : Int) 1) (sh_valid (by omega) (by omega) (by omega) (by omega))
    rw [acq50 (by omega)] at this
    exact this
theorem up50 {N : Nat} (h : 2 ≤ N) : acqL ⟨shs N, []⟩ (sh 0 2) = (16, ⟨shs N, [sh 0 2]⟩) := by
  have hg : Dist (shs N) := by
    unfold Dist shs
    refine List.pairwise_map.2 (List.pairwise_lt_range.imp fun {i j} hij => ?_)
    rw [sh_same]
    exact decide_eq_false (by omega)
  refine (acq_more hg (x := sh 0 1) (mem_shs.2 ⟨0, by omega, rfl⟩) (by rw [sh_same]; rfl) (by decide) (by decide) (by decide) (fun ⟨q, h, _⟩ => by cases h) rfl).2.2 ⟨sh 1 1, List.mem_append_left _ (mem_shs.2 ⟨1, by omega, rfl⟩), by rw [sh_confl]; decide⟩ fun hr => ?_
  obtain ⟨x, h1, h2, h3⟩ := mem_col.1 (rch_noq hr)
  exact (confl_iff.1 h2).1 h3
theorem col50 : ∀ k, colL (shs k) (sh 0 2) = oths k
  | 0 => rfl
  | k + 1 => by
    have ih := col50 k
    unfold colL at *
    rw [shs_succ, List.foldl_append, ih, List.foldl_cons, List.foldl_nil]
    rcases Nat.eq_zero_or_pos k with e | e
    · subst e; rfl
    · rw [oths_succ k e]
      refine colStep_hit ?_ ?_
      · rw [sh_confl, decide_eq_true (show (k : Int) ≠ 0 by omega)]; rfl
      · rw [List.any_eq_false]
        intro y hy
        unfold oths at hy
        obtain ⟨i, hi, rfl⟩ := List.mem_map.1 hy
        have := List.mem_range.1 hi
        show ¬ decide ((i : Int) + 1 = (k : Int)) = true
        rw [decide_eq_true_eq]
        omega
theorem blk50 (N : Nat) : blkL (shs N) (sh 0 2) = oths N := by
  unfold blkL srtI
  rw [col50]
  refine List.mergeSort_of_pairwise ?_
  unfold oths
  refine List.pairwise_map.2 (List.pairwise_lt_range.imp fun {i j} hij => ?_)
  exact decide_eq_true (by omega)
theorem waits50 {N : Nat} {w w' : World} {e : Ending} (h : WaitPost ⟨shs N, [sh 0 2]⟩ 0 w e w') : ∃ v, e = .returned (.tuple #[v, .int .i64 0]) ∧ w'.ownsRow w.heap.size 3 1 v (oths N).length (icI (oths N)) ∧ Up w w' := by
  rcases h with ⟨h1, _⟩ | ⟨i, hi, h1, h2, v, h3, h4, h5⟩
  · exact absurd rfl (h1 0 (by simp))
  · obtain rfl : i = 0 := by simp at hi; exact hi
    refine ⟨v, h3, ?_, h5⟩
    simp only [List.take_zero, List.append_nil, List.getElem_cons_zero] at h4
    rw [blk50] at h4
    exact h4
theorem cyc50 {N : Nat} (h : 2 ≤ N) (hN : N < 21) : acqL ⟨shs N, [sh 0 2]⟩ (sh 1 2) = (14, ⟨shs N, [sh 0 2]⟩) := by
  have hg := (good50 N hN).inv.hd
  refine (acq_more hg (x := sh 1 1) (mem_shs.2 ⟨1, by omega, rfl⟩) (by rw [sh_same]; rfl) (by decide) (by decide) (by decide) (fun ⟨q, h, e⟩ => by rw [List.mem_singleton.1 h] at e; cases e) rfl).2.1 ⟨sh 0 1, List.mem_append_left _ (mem_shs.2 ⟨0, by omega, rfl⟩), by rw [sh_confl]; decide⟩ ?_
  refine .step (t := 0) (.base (mem_col.2 ⟨sh 0 1, List.mem_append_left _ (mem_shs.2 ⟨0, by omega, rfl⟩), by rw [sh_confl]; decide, rfl⟩)) ⟨0, by simp, rfl, mem_col.2 ⟨sh 1 1, List.mem_append_left _ (mem_shs.2 ⟨1, by omega, rfl⟩), by simp only [List.getElem_cons_zero]; rw [sh_confl]; decide, rfl⟩⟩
set_option maxRecDepth 100000 in
set_option maxHeartbeats 2000000 in
theorem walk50 (z : Int) (w : World) : Calls Try.prog 4 #[.int .i64 z] w fun e w' => e = .returned (.bool true) ∧ Up w w' := by
  obtain ⟨i1, hi1, hz3, hz4, hz5⟩ := info_parts Try.infoI
  obtain ⟨r, hr, hr2⟩ : ∃ r : Nat, modV z 19 = (r : Int) ∧ r < 19 := ⟨(modV z 19).toNat, by have := modV_nonneg z 19 (by omega); omega, by have := modV_nonneg z 19 (by omega); have := modV_lt z 19 (by omega); omega⟩
  have HR := Lib.hid hr
  clear hr
  go_enter Try.func4, Try.ntmps4
  go_wp2_with (first
    | (go_at_call 22; refine (mod_any _ _ _ (by omega) (by omega)).mono ?_; rw [HR.out]; rintro e w' ⟨rfl, rfl⟩)
    | (go_at_call 10; refine (new_any _).mono ?_; rintro e w2 ⟨rfl, h2⟩; have O2 := Lib.hid (h2.behind U1.out); clear h2)
    | (go_at_call 21; refine (works_any _).mono ?_; rintro e w1 ⟨rfl, h1⟩; have U1 := Lib.hid h1; clear h1)
    | fail)
  go_loopw [4, 15] (fun v kv wr => ∃ (k : Nat) (K : Nat → Prop), k ≤ r + 2 ∧ kv = .int .i64 k ∧ Hid (Keep w wr w1.heap.size ⟨shs k, []⟩ K v (oths k))) (fun _ kv _ => r + 2 - (intOf kv).toNat)
  case atStart => exact ⟨0, _, by omega, rfl, Keep.nil O2.out⟩
  case round =>
    obtain ⟨k, K, hk, rfl, HK⟩ := hrel
    obtain ⟨wo, hwo⟩ : ∃ wo : World, wo = wr := ⟨_, rfl⟩
    rw [← hwo] at HK ⊢
    clear hwo
    have hrow := HK.out.row
    obtain ⟨va, vc, rfl, _, _, _⟩ := own_form hrow
    clear hrow
    by_cases hlt : k < r + 2
    · have hki : (k : Int) < 2 + (r : Int) := by omega
      have HA := acqO HK.out.own (good50 k (by omega)) (by omega) (sh_valid (t := (k : Int)) (m := 1) (by omega) (by omega) (by omega) (by omega))
      rw [acq50 (by omega)] at HA
      unfold lkV sh tT at HA
      have HA := Lib.hid HA
      rcases Nat.eq_zero_or_pos k with h0 | h0
      · subst h0
        go_wp2_with (first
          | (go_at_call 14; refine HA.out.mono ?_; rintro e w5 ⟨rfl, h5⟩; obtain ⟨K5, hk5⟩ := HK.out.land h5; have HK5 := Lib.hid hk5; clear h5 hk5)
          | fail)
        go_roundw
        case rel => exact ⟨1, K5, by omega, rfl, HK5.out⟩
        case measure => simp [intOf]
      · have hki0 : (0 : Int) < (k : Int) := by omega
        have HOS := Lib.hid (oths_succ k h0)
        have HOL := Lib.hid (oths_len k)
        have hol : (oths k).length ≤ 100 := by rw [HOL.out]; omega
        generalize oths k = L at *
        go_wp2_with (first
          | (go_at_call 14; refine HA.out.mono ?_; rintro e w5 ⟨rfl, h5⟩; obtain ⟨K5, hk5⟩ := HK.out.land h5; have HK5 := Lib.hid hk5; clear h5 hk5)
          | (at_builtin; refine wpList_append_lies _ rfl (.tmp 25) (.tmp 27) 23 rfl w.heap.size 3 i1 (.int .i64 0) 1 8 Try.underlying23 hi1 hz3 hz4 hz5 rfl (by decide) (.slice va L.length vc) L.length (icI L) rfl (own_up HK5.out.row ((Up.refl _).alloc _)) ⟨w5.heap.size, 0, none⟩ 1 1 [.int .i64 k] rfl rfl (cell_int _ _ _ _ rfl) (by intro u hu; rw [List.mem_singleton.1 hu]; rfl) (by decide) (by unfold maxLen; omega) (by omega) (Nat.le_trans HK5.out.own.upw.size ((Up.refl _).alloc _).size) _ rfl ?_
             intro g9 c9 w9 hown9 hgrow9 hat9 hlt9
             have HK9 := Lib.hid (HK5.out.snoc ((Up.refl w5).alloc _) hown9 hgrow9 hat9 ((Up.refl w5).alloc _).size)
             clear hown9 hgrow9 hat9)
          | fail)
        go_roundw
        case rel => exact ⟨k + 1, K5, by omega, by go_num, by rw [HOS.out]; exact HK9.out⟩
        case measure => simp [intOf]; omega
    · obtain rfl : k = r + 2 := by omega
      have G := good50 (r + 2) (by omega)
      have G2 := G.acq (l := sh 0 2) (sh_valid (by omega) (by omega) (by omega) (by omega))
      rw [up50 (by omega)] at G2
      have HA := acqO HK.out.own G (by omega) (sh_valid (t := 0) (m := 2) (by omega) (by omega) (by omega) (by omega))
      rw [up50 (by omega)] at HA
      unfold lkV sh tT at HA
      have HA := Lib.hid HA
      have HA2 := Lib.hid (fun W K h => acqO (w := w) (wr := W) (p := w1.heap.size) (K := K) h G2 (by omega) (sh_valid (t := 1) (m := 2) (by omega) (by omega) (by omega) (by omega)))
      rw [cyc50 (by omega) (by omega)] at HA2
      unfold lkV at HA2
      have e1 : sh 1 2 = ⟨1, tT, ByteArray.empty, 2⟩ := rfl
      rw [e1] at HA2
      unfold tT at HA2
      clear e1
      have HG2 := Lib.hid G2
      have hol : (oths (r + 2)).length ≤ 100 := by rw [oths_len]; omega
      have hki : ¬ ((r : Int) + 2 < 2 + (r : Int)) := by omega
      have HW50 := Lib.hid (fun W W' e => @waits50 (r + 2) W W' e)
      clear G G2
      generalize oths (r + 2) = L at *
      go_wp2_with (first
        | (have tok := U8; go_at_call 14; refine (HA2.out _ _ (HK5.out.own.up U8.out)).mono ?_; rintro e w9 ⟨rfl, K9, h9, _⟩; have O9 := Lib.hid h9.upw; clear h9)
        | (go_at_call 20; refine (equal_ints _ _ L _ (own_src R6.out) (own_src (own_up HK5.out.row U6.out)) (by omega)).mono ?_; rintro e w8 ⟨rfl, h8⟩; have U8 := Lib.hid (U6.out.trans h8); clear h8)
        | (go_at_call 12; refine (waitsO HK5.out.own HG2.out (by omega) 0).mono ?_; rintro e w6 h6; obtain ⟨v, rfl, h61, h62⟩ := HW50.out _ _ _ h6; obtain ⟨xa, xc, rfl, _, _, _⟩ := own_form h61; have R6 := Lib.hid h61; have U6 := Lib.hid h62; clear h6 h61 h62)
        | (go_at_call 14; refine HA.out.mono ?_; rintro e w5 ⟨rfl, h5⟩; obtain ⟨K5, hk5⟩ := HK.out.land h5; have HK5 := Lib.hid hk5; clear h5 hk5)
        | fail)
      go_ret
      exact ⟨rfl, O9.out⟩
end Go.Proofs.Ytbimkciejfbodaa.Lk
