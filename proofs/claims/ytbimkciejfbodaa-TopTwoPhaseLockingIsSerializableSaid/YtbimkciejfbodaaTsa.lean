/- Interleavings: slices.Delete at operations and ints, slices.Clone at operations, ints, bools. Printed by gen5/in1.py. -/
import Derived.Test.YtbimkciejfbodaaSl
import Derived.Test.YtbimkciejfbodaaSo
import Derived.Test.YtbimkciejfbodaaRows
namespace Go.Proofs.Ytbimkciejfbodaa.In
open Go Go.RowKit Hp
set_option linter.unusedVariables false
theorem Try.infoO : (Try.prog.info? 37).map (fun i => (i.zero, i.size, i.bytes)) = some (some (.agg #[.int .i64 0, .int .i64 0, .string ByteArray.empty]), 3, 32) := by kernel_rfl
theorem Try.infoI : (Try.prog.info? 3).map (fun i => (i.zero, i.size, i.bytes)) = some (some (.int .i64 0), 1, 8) := by kernel_rfl
theorem Try.infoB : (Try.prog.info? 4).map (fun i => (i.zero, i.size, i.bytes)) = some (some (.bool false), 1, 1) := by kernel_rfl
theorem own_cell {w : World} {B : Nat} {E : TypeId} {size n c g : Nat} {xs : List Value} (h : w.ownsRow B E size (.slice (some ⟨g, 0, none⟩) n c) n xs) {j : Nat} {u : Value} (hj : xs[j]? = some u) : w.cell? ⟨g, j, none⟩ = some u := by
  rcases h.2 with ⟨e, _⟩ | ⟨g', cap, cur, e, hb, hg, hn', hc, hs, ht⟩
  · cases e
  · simp only [Value.slice.injEq, Option.some.injEq, Addr.mk.injEq, and_true, true_and] at e
    obtain ⟨rfl, rfl⟩ := e
    unfold World.cell?
    simp only [hg]
    rw [← ht, List.getElem?_take] at hj
    split at hj
    · simpa using hj
    · cases hj
theorem own_free {w : World} {B : Nat} {E : TypeId} {size n c g : Nat} {xs : List Value} (h : w.ownsRow B E size (.slice (some ⟨g, 0, none⟩) n c) n xs) (j : Nat) : w.frozen? ⟨g, j, none⟩ = false := by
  rcases h.2 with ⟨e, _⟩ | ⟨g', cap, cur, e, hb, hg, hn', hc, hs, ht⟩
  · cases e
  · simp only [Value.slice.injEq, Option.some.injEq, Addr.mk.injEq, and_true, true_and] at e
    obtain ⟨rfl, rfl⟩ := e
    simp [World.frozen?, hg]
theorem own_glt {w : World} {B : Nat} {E : TypeId} {size n c g : Nat} {xs : List Value} (h : w.ownsRow B E size (.slice (some ⟨g, 0, none⟩) n c) n xs) : g < w.heap.size := own_lt h g rfl
theorem src_rn {w : World} {v : Value} {n : Nat} {xs : List Value} {size : Nat} (h : Src w size v n xs) : ∃ a c, v = .slice a n c := by
  rcases h.2 with ⟨rfl, rfl⟩ | ⟨b, off, cap, rfl, _⟩
  · exact ⟨_, _, rfl⟩
  · exact ⟨_, _, rfl⟩
theorem src_at {w : World} {a : Option Addr} {n cap size : Nat} {xs : List Value} (h : Src w size (.slice a n cap) n xs) (hn : 0 < n) : ∃ b off, a = some ⟨b, off, none⟩ ∧ ∀ j u, xs[j]? = some u → At w b (off + j) u := by
  obtain ⟨hx, ⟨h1, rfl⟩ | ⟨b, off, cap', hv, h1, h2, h3⟩⟩ := h
  · omega
  · simp only [Value.slice.injEq, true_and] at hv
    exact ⟨b, off, hv.1, h3⟩
theorem src_parts {w : World} {a : Option Addr} {n c size : Nat} {xs : List Value} (h : Src w size (.slice a n c) n xs) : (a = none → n = 0 ∧ c = 0) ∧ ∀ y, a = some y → ∀ j u, xs[j]? = some u → w.cell? (y.add j) = some u := by
  obtain ⟨hx, ⟨h1, h2⟩ | ⟨b, off, cap', hv, h1, h2, h3⟩⟩ := h
  · simp only [Value.slice.injEq] at h1
    exact ⟨fun _ => ⟨h2, h1.2.2⟩, fun y e => by rw [h1.1] at e; cases e⟩
  · simp only [Value.slice.injEq, true_and] at hv
    refine ⟨fun e => (by rw [hv.1] at e; cases e), fun y e j u hj => ?_⟩
    rw [hv.1] at e
    cases e
    rw [Addr.add_lit]
    exact (h3 j u hj).2

set_option maxRecDepth 100000 in
set_option maxHeartbeats 4000000 in
theorem delI_any (v : Value) (n i : Nat) (xs : List Value) (w : World) (hown : w.ownsRow 0 3 1 v n xs) (hi : i < n) (hn : n ≤ 1000000) (h1x : ∀ u ∈ xs, u.oneCell' = true) :
    Calls Try.prog 48 #[v, .int .i64 i, .int .i64 ((i : Int) + 1)] w fun e w' => ∃ v', e = .returned v' ∧ w'.ownsRow 0 3 1 v' (n - 1) (xs.take (i * 1) ++ xs.drop ((i + 1) * 1)) ∧
      w.grownBy w' v.ownBlock ∧ v'.ownBlock = v.ownBlock := by
  obtain ⟨i0, hi0, hz0, hz1, hz2⟩ := info_parts Try.infoI
  have HX := Lib.hid hown.1
  have X1 := Lib.hid h1x
  obtain ⟨a, c, rfl, hc1, hc2, hc3⟩ := own_form hown
  clear h1x hc3
  obtain ⟨hx, h⟩ := hown
  rcases h with ⟨_, h0⟩ | ⟨g, cap, cur, hv, hbase, hg, hnc, hcm, hcs, htk⟩
  · omega
  · simp only [Value.slice.injEq] at hv
    obtain ⟨rfl, _, rfl⟩ := hv
    have HG := Lib.hid hg
    have HCS := Lib.hid hcs
    have HTK := Lib.hid htk
    clear hx hg hcs htk hbase hcm
    have XD : Hid ((xs.drop ((i + 1) * 1)).length = (n - (i + 1)) * 1) := by unfold Hid; rw [List.length_drop, HX.out]; omega
    have XD1 : Hid (∀ u ∈ xs.drop ((i + 1) * 1), u.oneCell' = true) := fun u hu => X1.out u (List.mem_of_mem_drop hu)
    have CG : Hid (∀ j u, xs[j]? = some u → w.cell? ⟨g, j, none⟩ = some u) := fun j u hj => by
      rw [← HTK.out, List.getElem?_take] at hj
      unfold World.cell?
      simp only [HG.out]
      split at hj
      · simpa using hj
      · cases hj
    obtain ⟨W1, hW1⟩ : ∃ W1, W1 = w.drew.setRow g (cur.toList.take (i * 1) ++ xs.drop ((i + 1) * 1) ++ cur.toList.drop (i * 1 + (xs.drop ((i + 1) * 1)).length)).toArray := ⟨_, rfl⟩
    have hap : ∀ ty ad m cc, m = n - (i + 1) → (0 < m → ad = ⟨g, (i + 1) * 1, none⟩) → (Builtin.append_ #[23, 23] ty #[.slice (some ⟨g, 0, none⟩) i c, .slice (some ad) m cc]).run Try.prog w.drew = .ok (.slice (some ⟨g, 0, none⟩) (n - 1) c) W1 := fun ty ad m cc hm had => by
      have h := run_append_room (P := Try.prog) w.drew 23 ty 3 i0 Try.underlying23 hi0 g i c cur HG.out ad m cc (xs.drop ((i + 1) * 1)) (by rw [XD.out, hz1, hm]) (fun j u hj => by
          by_cases h0 : 0 < m
          · rw [had h0, Addr.add_lit]; rw [List.getElem?_drop] at hj; exact CG.out _ u hj
          · have hl := XD.out
            rw [← hm, show m = 0 by omega, Nat.zero_mul] at hl
            have hnl : xs.drop ((i + 1) * 1) = [] := List.eq_nil_of_length_eq_zero hl
            rw [List.getElem?_drop] at hj
            have hj2 : (xs.drop ((i + 1) * 1))[j]? = some u := by rw [List.getElem?_drop]; exact hj
            rw [hnl] at hj2
            simp at hj2) XD1.out (by omega) (by rw [XD.out, hz1, HCS.out]; omega)
      rw [hz1] at h
      rw [h, hW1, show i + m = n - 1 by omega]
    have B1 : W1.heap[g]? = some (.cells (cur.toList.take (i * 1) ++ xs.drop ((i + 1) * 1) ++ cur.toList.drop (i * 1 + (xs.drop ((i + 1) * 1)).length)).toArray 3 (0, 0)) := by rw [hW1]; exact setRow_at w.drew g cur _ _ HG.out
    obtain ⟨W2, hW2⟩ : ∃ W2, W2 = W1.setRow g ((cur.toList.take (i * 1) ++ xs.drop ((i + 1) * 1) ++ cur.toList.drop (i * 1 + (xs.drop ((i + 1) * 1)).length)).take ((n - 1) * 1) ++ (Builtin.zeroCells (.int .i64 0 : Value).cells 1).toList ++ (cur.toList.take (i * 1) ++ xs.drop ((i + 1) * 1) ++ cur.toList.drop (i * 1 + (xs.drop ((i + 1) * 1)).length)).drop ((n - 1) * 1 + 1 * 1)).toArray := ⟨_, rfl⟩
    have hcl : ∀ ty cc, (Builtin.clear_ #[23] ty #[.slice (some ⟨g, (n - 1) * 1, none⟩) 1 cc]).run Try.prog W1 = .ok (.tuple #[]) W2 := fun ty cc => by
      rw [hW2]
      exact run_clear_k (P := Try.prog) W1 23 3 ty (.int .i64 0) 1 g ((n - 1) * 1) 1 cc _ 3 Try.underlying23 Try.zeroValue3 rfl (by decide) B1
        (by simp only [List.size_toArray, List.length_append, List.length_take, List.length_drop, Array.length_toList, HCS.out, HX.out]; omega) (zeroCells_one _ _ (by intro u hu; simp [Value.cells] at hu; rcases hu with rfl <;> rfl))
    have FIN : Hid (W2.ownsRow 0 3 1 (.slice (some ⟨g, 0, none⟩) (n - 1) c) (n - 1) (xs.take (i * 1) ++ xs.drop ((i + 1) * 1)) ∧ w.grownBy W2 (some g)) := by
      have e1 : cur.toList.take (i * 1) = xs.take (i * 1) := by rw [← HTK.out, List.take_take]; congr 1; omega
      have hl : (xs.take (i * 1) ++ xs.drop ((i + 1) * 1)).length = (n - 1) * 1 := by simp only [List.length_append, List.length_take, List.length_drop, HX.out]; omega
      have B2 := setRow_at W1 g _ ((cur.toList.take (i * 1) ++ xs.drop ((i + 1) * 1) ++ cur.toList.drop (i * 1 + (xs.drop ((i + 1) * 1)).length)).take ((n - 1) * 1) ++ (Builtin.zeroCells (.int .i64 0 : Value).cells 1).toList ++ (cur.toList.take (i * 1) ++ xs.drop ((i + 1) * 1) ++ cur.toList.drop (i * 1 + (xs.drop ((i + 1) * 1)).length)).drop ((n - 1) * 1 + 1 * 1)).toArray 3 B1
      rw [← hW2] at B2
      refine ⟨⟨hl, .inr ⟨g, c, _, rfl, Nat.zero_le _, B2, by omega, by unfold maxLen; exact hc2, ?_, ?_⟩⟩, ?_⟩
      · simp only [List.size_toArray, List.length_append, List.length_take, List.length_drop, Array.length_toList, HX.out, HCS.out, zeroCells_size]
        rw [show (.int .i64 0 : Value).cells.size = 1 from rfl]
        omega
      · simp only [List.append_assoc]
        rw [List.take_append_of_le_length (by simp only [List.length_append, List.length_take, List.length_drop, Array.length_toList, HX.out, HCS.out]; omega), List.take_take, Nat.min_self, e1, ← List.append_assoc]
        exact List.take_left' hl
      · rw [hW2]
        refine setRow_grown _ _ _ _ ?_ (.inl rfl)
        rw [hW1]
        exact setRow_grown _ _ _ _ ⟨rfl, rfl, rfl, Nat.le_refl _, fun _ _ _ => rfl⟩ (.inl rfl)
    have hcl2 : ∀ ty cc, (Builtin.clear_ #[23] ty #[.slice (some ⟨g, (n - 1) * 1, none⟩) (n - (n - 1)) cc]).run Try.prog W1 = .ok (.tuple #[]) W2 := fun ty cc => by rw [show n - (n - 1) = 1 by omega]; exact hcl ty cc
    have hcl3 : ∀ ty cc, (Builtin.clear_ #[23] ty #[.slice (some ⟨g, n - 1, none⟩) 1 cc]).run Try.prog W1 = .ok (.tuple #[]) W2 := fun ty cc => by have h := hcl ty cc; rwa [Nat.mul_one] at h
    have hcl4 : ∀ ty cc, (Builtin.clear_ #[23] ty #[.slice (some ⟨g, n - 1, none⟩) (n - (n - 1)) cc]).run Try.prog W1 = .ok (.tuple #[]) W2 := fun ty cc => by have h := hcl2 ty cc; rwa [Nat.mul_one] at h
    have q1 : ((i : Int) == (i : Int) + 1) = false := beq_eq_false_iff_ne.2 (by omega)
    clear hW1 hW2 B1
    have HAP := Lib.hid hap
    clear hap
    have hb1 : (0 : Int) ≤ (i : Int) + 1 := by omega
    have hb2 : (i : Int) ≤ (n : Int) := by omega
    have hb3 : (i : Int) + 1 ≤ (n : Int) := by omega
    have hb4 : (i : Int) ≤ (c : Int) := by omega
    have htn : ((i : Int) + 1).toNat = i + 1 := by omega
    have hn1 : ¬ c = n - 1 := by omega
    have HTN := Lib.hid htn
    clear htn
    by_cases hcj : c = i + 1
    · have hni : n = i + 1 := by omega
      subst hcj
      subst hni
      have hb5 : (i : Int) ≤ (i : Int) + 1 := by omega
      have hcl5 : ∀ ty cc, (Builtin.clear_ #[23] ty #[.slice (some ⟨g, i, none⟩) 1 cc]).run Try.prog W1 = .ok (.tuple #[]) W2 := fun ty cc => by have h := hcl3 ty cc; rwa [show i + 1 - 1 = i by omega] at h
      have hb6 : ((i + 1 : Nat) : Int) = (i : Int) + 1 := by omega
      have hap := fun ty => HAP.out ty ⟨g, 0, none⟩ 0 0 (by omega) (fun h => by omega)
      go_enter Try.func48, Try.ntmps48
      go_wp2
      have htn := HTN.out
      go_region_law (refine step_append_run rfl (.tmp 22) (.tmp 25) 23 23 rfl _ _ (by simp [Act.eval, Act.put]) (by simp [Act.eval, Act.put]) (hap _) ?_)
      all_goals
        clear htn
        go_wp2_with (first | (with_reducible refine wl_clear_run _ rfl (.tmp 31) 23 rfl _ rfl (hcl _ _) ?_) | (with_reducible refine wl_clear_run _ rfl (.tmp 31) 23 rfl _ rfl (hcl3 _ _) ?_) | (with_reducible refine wl_clear_run _ rfl (.tmp 31) 23 rfl _ rfl (hcl4 _ _) ?_) | (with_reducible refine wl_clear_run _ rfl (.tmp 31) 23 rfl _ rfl (hcl5 _ _) ?_) | (with_reducible refine wl_clear_run _ rfl (.tmp 31) 23 rfl _ rfl (hcl2 _ _) ?_))
        go_wp2
        go_ret
        exact ⟨_, rfl, FIN.out.1, FIN.out.2, rfl⟩
    · have hap := fun ty => HAP.out ty ⟨g, (i + 1) * 1, none⟩ (n - (i + 1)) (c - (i + 1)) rfl (fun _ => rfl)
      go_enter Try.func48, Try.ntmps48
      go_wp2
      have htn := HTN.out
      go_region_law (refine step_append_run rfl (.tmp 22) (.tmp 25) 23 23 rfl _ _ (by simp [Act.eval, Act.put]) (by simp [Act.eval, Act.put]) (hap _) ?_)
      all_goals
        clear htn
        go_wp2_with (first | (with_reducible refine wl_clear_run _ rfl (.tmp 31) 23 rfl _ rfl (hcl _ _) ?_) | (with_reducible refine wl_clear_run _ rfl (.tmp 31) 23 rfl _ rfl (hcl3 _ _) ?_) | (with_reducible refine wl_clear_run _ rfl (.tmp 31) 23 rfl _ rfl (hcl4 _ _) ?_) | (with_reducible refine wl_clear_run _ rfl (.tmp 31) 23 rfl _ rfl (hcl2 _ _) ?_))
        go_wp2
        go_ret
        exact ⟨_, rfl, FIN.out.1, FIN.out.2, rfl⟩


end Go.Proofs.Ytbimkciejfbodaa.In
