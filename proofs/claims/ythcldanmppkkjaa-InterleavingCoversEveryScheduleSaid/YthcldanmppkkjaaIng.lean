/- Interleavings: lists of lists in memory; slices.Grow, slices.Concat at operations. Printed by gen5/in4.py. -/
import Derived.Test.YthcldanmppkkjaaInf
import Derived.Lib.AppendZeros
import Derived.Laws.OwnMore
namespace Go.Proofs.Ythcldanmppkkjaa.In
open Go Go.RowKit Hp
set_option linter.unusedVariables false

/-- A slice of slices of operations. -/
def TxR (w : World) (base : Nat) (v : Value) (L : List (List Hop)) : Prop := ∃ vs, w.ownsRow base 30 1 v L.length vs ∧ ∀ i (h : i < L.length), ∃ u, vs[i]? = some u ∧ OpsO w base u L[i]
theorem TxR.up {w w' : World} {base : Nat} {v : Value} {L : List (List Hop)} (h : TxR w base v L) (hu : Up w w') : TxR w' base v L := by
  obtain ⟨vs, h1, h2⟩ := h
  exact ⟨vs, own_up h1 hu, fun i hi => by obtain ⟨u, a, b⟩ := h2 i hi; exact ⟨u, a, own_up b hu⟩⟩
theorem TxR.chg {S : Nat → Prop} {w w' : World} {base : Nat} {v : Value} {L : List (List Hop)} (h : TxR w base v L) (hc : Chg S w w') (ho : ∀ k, v.ownBlock = some k → ¬ S k) (hi : ∀ k, S k → ¬ Ty w k 33) : TxR w' base v L := by
  obtain ⟨vs, h1, h2⟩ := h
  exact ⟨vs, own_chg h1 hc ho, fun i hl => by obtain ⟨u, a, b⟩ := h2 i hl; exact ⟨u, a, own_chg b hc fun k hk e => hi k e ((own_ty b) k hk).1⟩⟩
theorem TxR.base {w : World} {base base' : Nat} {v : Value} {L : List (List Hop)} (h : TxR w base v L) (hb : base' ≤ base) : TxR w base' v L := by
  obtain ⟨vs, h1, h2⟩ := h
  exact ⟨vs, own_base h1 hb, fun i hl => by obtain ⟨u, a, b⟩ := h2 i hl; exact ⟨u, a, own_base b hb⟩⟩
theorem TxR.form {w : World} {base : Nat} {v : Value} {L : List (List Hop)} (h : TxR w base v L) : ∃ a cap, v = .slice a L.length cap ∧ L.length ≤ cap ∧ cap ≤ 9223372036854775807 ∧ (a = none → cap = 0) := by
  obtain ⟨vs, h1, h2⟩ := h
  exact own_form h1
theorem TxR.row {w : World} {base : Nat} {a : Option Addr} {c n : Nat} {L : List (List Hop)} (h : TxR w base (.slice a n c) L) {i : Nat} (hi : i < L.length) : ∃ g u uc, a = some ⟨g, 0, none⟩ ∧ g < w.heap.size ∧ w.cell? ⟨g, i, none⟩ = some (.slice u L[i].length uc) ∧ OpsO w base (.slice u L[i].length uc) L[i] ∧ base ≤ g := by
  obtain ⟨vs, h1, h2⟩ := h
  obtain ⟨u, h3, h4⟩ := h2 i hi
  obtain ⟨x, y, rfl, _, _, _⟩ := own_form h4
  have hpos : 0 < L.length := by omega
  obtain ⟨g, cap, e, _, _, hg, hc, _⟩ := own_some h1 hpos
  simp only [Value.slice.injEq] at e
  obtain ⟨rfl, rfl, rfl⟩ := e
  exact ⟨g, x, y, rfl, hg, hc _ _ h3, h4, ((own_ty h1) g rfl).2⟩
set_option maxRecDepth 100000 in
set_option maxHeartbeats 2000000 in
/-- slices.Grow(nil, n). -/
theorem grow_any (n : Nat) (w : World) (hn : n ≤ 100000) :
    Calls Try.prog 21 #[.slice none 0 0, .int .i64 n] w fun e w' => ∃ v, e = .returned v ∧ w'.ownsRow w.heap.size 33 3 v 0 [] ∧ Up w w' := by
  obtain ⟨i0, hi0, hz0, hz1, hz2⟩ := info_parts Try.infoO
  rcases Nat.eq_zero_or_pos n with h0 | h0
  · subst h0
    go_enter Try.func21, Try.ntmps21
    go_wp2
    go_ret
    exact ⟨_, rfl, World.ownsRow_nil _ _ _ _, Up.refl _⟩
  · have h1 : ¬ (n : Int) < 0 := by omega
    have h2 : (0 : Int) < (n : Int) := by omega
    have R := Lib.run_append_nil_zeros (P := Try.prog) w 30 3 30 33 i0 (.agg #[.int .i64 0, .int .i64 0, .string ByteArray.empty]) .i64 .i64 Try.underlying30 Try.underlying3 hi0 hz0 n h0 (by rw [hz1]; omega) (by omega) (by rw [hz2]; omega)
    have hC1 := grownCap_ge w n 0 33
    have hC2 := grownCap_le_maxLen w n 0 33 (by unfold maxLen; omega)
    have hs : Hid ((Builtin.zeroCells (Value.agg #[.int .i64 0, .int .i64 0, .string ByteArray.empty]).cells n ++ Builtin.zeroCells (Value.agg #[.int .i64 0, .int .i64 0, .string ByteArray.empty]).cells (grownCap w n 0 33 - n)).size = grownCap w n 0 33 * 3) := by
      unfold Hid
      simp only [Array.size_append, zeroCells_size]
      rw [show ((.agg #[.int .i64 0, .int .i64 0, .string ByteArray.empty] : Value).cells).size = 3 from rfl]
      omega
    obtain ⟨C, hC⟩ : ∃ C, C = grownCap w n 0 33 := ⟨_, rfl⟩
    obtain ⟨Z, hZ⟩ : ∃ Z, Z = (Builtin.zeroCells (Value.agg #[.int .i64 0, .int .i64 0, .string ByteArray.empty]).cells n ++ Builtin.zeroCells (Value.agg #[.int .i64 0, .int .i64 0, .string ByteArray.empty]).cells (grownCap w n 0 33 - n)) := ⟨_, rfl⟩
    rw [← hZ] at R hs
    rw [← hC] at R hs hC1 hC2
    have hCi : (0 : Int) ≤ (C : Int) := by omega
    clear hC hZ
    go_enter Try.func21, Try.ntmps21
    go_wp2_with (first
      | (at_builtin; refine Lib.wpList_append_run _ rfl (.tmp 20) (.tmp 21) 30 3 rfl _ _ rfl rfl _ _ R ?_)
      | fail)
    go_ret
    refine ⟨_, rfl, ⟨by simp, .inr ⟨w.heap.size, C, Z, rfl, Nat.le_refl _, heap_alloc_new _ _, by omega, hC2, hs.out, by simp⟩⟩, (Up.refl w).drew.alloc _⟩

/-- What has been put together. -/
def cat (L : List (List Hop)) (q : Nat) : List Hop := (L.take q).flatten
theorem cat_next (L : List (List Hop)) {q : Nat} (h : q < L.length) : cat L (q + 1) = cat L q ++ L[q] := by
  unfold cat
  rw [List.take_add_one, List.getElem?_eq_getElem h, Option.toList_some, List.flatten_append]
  simp
theorem cat_le (L : List (List Hop)) (q : Nat) : (cat L q).length ≤ L.flatten.length := by
  have := (List.take_append_drop q L)
  have h2 : L.flatten = cat L q ++ (L.drop q).flatten := by
    unfold cat
    rw [← List.flatten_append, this]
  rw [h2, List.length_append]; omega
set_option maxRecDepth 100000 in
set_option maxHeartbeats 4000000 in
/-- slices.Concat. -/
theorem concat_any (v : Value) (L : List (List Hop)) (w : World) (h : TxR w 0 v L) (hm : L.length ≤ 1000) (hl : L.flatten.length ≤ 100000) :
    Calls Try.prog 13 #[v] w fun e w' => ∃ v', e = .returned v' ∧ OpsO w' w.heap.size v' L.flatten ∧ Up w w' := by
  obtain ⟨i0, hi0, hz0, hz1, hz2⟩ := info_parts Try.infoO
  obtain ⟨ta, tc, rfl, _, _, _⟩ := h.form
  have HT := Lib.hid h
  have CL := Lib.hid (cat_le L)
  have HE : Hid (cat L L.length = L.flatten) := by unfold Hid cat; rw [List.take_length]
  clear h
  go_enter Try.func13, Try.ntmps13
  go_wp2
  go_loopw [3, 11] (fun sv iv wr => ∃ q : Nat, q ≤ L.length ∧ iv = .int .i64 q ∧ sv = .int .i64 ((cat L q).length : Nat) ∧ wr = w) (fun _ iv _ => L.length - (intOf iv).toNat)
  case atStart => exact ⟨0, by omega, rfl, rfl, (by first | rfl | trivial)⟩
  case round =>
    obtain ⟨q, hq, rfl, rfl, hww⟩ := hrel
    replace hww := hww.symm
    subst hww
    have hcl := CL.out q
    obtain ⟨n, hn⟩ : ∃ n, (cat L q).length = n := ⟨_, rfl⟩
    have HN := Lib.hid hn
    rw [hn] at hcl ⊢
    clear hn
    by_cases hq2 : q < L.length
    · obtain ⟨g, u, uc, rfl, gl, b0, h4, _⟩ := HT.out.row hq2
      have hln : L[q].length ≤ 100000 := by
        have h1 := CL.out (q + 1)
        rw [cat_next L hq2, List.length_append] at h1
        omega
      have h5 : ¬ (n : Int) + (L[q].length : Int) < 0 := by omega
      have hqi : (q : Int) < (L.length : Int) := by omega
      have HX : Hid ((cat L (q + 1)).length = n + L[q].length) := by unfold Hid; rw [cat_next L hq2, List.length_append, HN.out]
      generalize L[q].length = y at *
      clear h4
      go_wp2
      go_roundw
      case rel => exact ⟨q + 1, by omega, by go_num, by rw [HX.out]; go_num, (by first | rfl | trivial)⟩
      case measure => simp [intOf]; omega
    · obtain rfl : q = L.length := by omega
      go_wp2_with (first
        | (go_at_call 21; refine (grow_any n w (by omega)).mono ?_; rintro e w2 ⟨v, rfl, h2, h3⟩; obtain ⟨va, vc, rfl, _, _, _⟩ := own_form h2; have H2 := Lib.hid h2; have H3 := Lib.hid h3; clear h2 h3)
        | fail)
      go_loopw [6, 27] (fun v iv wr => ∃ q : Nat, q ≤ L.length ∧ iv = .int .i64 q ∧ Hid (OpsO wr w.heap.size v (cat L q) ∧ Up w wr)) (fun _ iv _ => L.length - (intOf iv).toNat)
      case atStart => exact ⟨0, by omega, rfl, H2.out, H3.out⟩
      case round =>
        obtain ⟨q, hq', rfl, HQ⟩ := hrel
        obtain ⟨wo, hwo⟩ : ∃ wo : World, wo = wr := ⟨_, rfl⟩
        rw [← hwo] at HQ ⊢
        clear hwo
        have hcl2 := CL.out q
        obtain ⟨va, vc, rfl, _, _, _⟩ := own_form HQ.out.1
        by_cases hq3 : q < L.length
        · obtain ⟨g, x, c, rfl, gl, b0, h4, _⟩ := (HT.out.up HQ.out.2).row hq3
          have hln : (cat L q).length + L[q].length ≤ 100000 := by
            have h1 := CL.out (q + 1)
            rw [cat_next L hq3, List.length_append] at h1
            omega
          have hp := src_parts (own_src h4)
          have hqi : (q : Int) < (L.length : Int) := by omega
          have HX := Lib.hid (cat_next L hq3)
          have HPP := Lib.hid hp
          generalize L[q] = l at *
          clear h4 hp
          go_wp2_with (first
            | (at_builtin; refine wl_append_any rfl (.tmp 31) (.tmp 32) 30 rfl w.heap.size 33 i0 (.agg #[.int .i64 0, .int .i64 0, .string ByteArray.empty]) 3 32 Try.underlying30 hi0 hz0 hz1 hz2 rfl (by decide) _ (cat L q).length (hpC (cat L q)) rfl HQ.out.1 x l.length c (hpC l) rfl HPP.out.1 (by rw [hpC_len]) HPP.out.2 (hpC_one l) (by unfold maxLen; omega) (by omega) HQ.out.2.size ?_; intro v5 w5 h5 h6 h7; have N5 : Hid (OpsO w5 w.heap.size v5 (cat L (q + 1)) ∧ Up w w5) := ⟨by rw [HX.out]; unfold OpsO; rw [List.length_append, hpC_app]; exact h5, Below.grown HQ.out.2 h6 HQ.out.2.size fun k hk => ((own_ty HQ.out.1) k hk).2⟩; clear h5 h6 h7)
            | fail)
          go_roundw
          case rel => exact ⟨q + 1, by omega, by go_num, N5.out⟩
          case measure => simp [intOf]; omega
        · obtain rfl : q = L.length := by omega
          go_wp2
          go_ret
          rw [← HE.out]
          exact ⟨_, rfl, HQ.out.1, HQ.out.2⟩
end Go.Proofs.Ythcldanmppkkjaa.In
