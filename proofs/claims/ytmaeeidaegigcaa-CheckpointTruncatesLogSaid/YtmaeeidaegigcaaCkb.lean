/- slices.Delete at entries. -/
import Derived.Test.YtmaeeidaegigcaaCka
namespace Go.Proofs.Ytmaeeidaegigcaa.Ck
open Go Go.RowKit Hp
set_option linter.unusedVariables false

set_option maxRecDepth 100000 in
set_option maxHeartbeats 4000000 in
theorem del_any (v : Value) (n i : Nat) (xs : List Value) (w : World) (hown : w.ownsRow 0 62 2 v n xs) (hi : i < n) (hn : n ≤ 1000000) (h1x : ∀ u ∈ xs, u.oneCell' = true) :
    Calls Try.prog 59 #[v, .int .i64 i, .int .i64 ((i : Int) + 1)] w fun e w' => ∃ v', e = .returned v' ∧ w'.ownsRow 0 62 2 v' (n - 1) (xs.take (i * 2) ++ xs.drop ((i + 1) * 2)) ∧
      w.grownBy w' v.ownBlock ∧ v'.ownBlock = v.ownBlock := by
  obtain ⟨i0, hi0, hz0, hz1, hz2⟩ := info_parts Try.infoEntry
  have HX := Lib.hid hown.1
  have X1 := Lib.hid h1x
  obtain ⟨a, c, rfl, hc1, hc2, hc3⟩ := own_form hown
  clear h1x hc3
  obtain ⟨hx, h⟩ := hown
  rcases h with ⟨_, h0⟩ | ⟨g, cap, cur, hv, hbase, hg, hnc, hcm, hcs, htk⟩
  · omega
  · simp only [Value.slice.injEq] at hv
    obtain ⟨rfl, _, rfl⟩ := hv
    have HG := Lib.hid hg
    have HCS := Lib.hid hcs
    have HTK := Lib.hid htk
    clear hx hg hcs htk hbase hcm
    have XD : Hid ((xs.drop ((i + 1) * 2)).length = (n - (i + 1)) * 2) := by unfold Hid; rw [List.length_drop, HX.out]; omega
    have XD1 : Hid (∀ u ∈ xs.drop ((i + 1) * 2), u.oneCell' = true) := fun u hu => X1.out u (List.mem_of_mem_drop hu)
    have CG : Hid (∀ j u, xs[j]? = some u → w.cell? ⟨g, j, none⟩ = some u) := fun j u hj => by
      rw [← HTK.out, List.getElem?_take] at hj
      unfold World.cell?
      simp only [HG.out]
      split at hj
      · simpa using hj
      · cases hj
    obtain ⟨W1, hW1⟩ : ∃ W1, W1 = w.drew.setRow g (cur.toList.take (i * 2) ++ xs.drop ((i + 1) * 2) ++ cur.toList.drop (i * 2 + (xs.drop ((i + 1) * 2)).length)).toArray := ⟨_, rfl⟩
    have hap : ∀ ty ad m cc, m = n - (i + 1) → (0 < m → ad = ⟨g, (i + 1) * 2, none⟩) → (Builtin.append_ #[67, 67] ty #[.slice (some ⟨g, 0, none⟩) i c, .slice (some ad) m cc]).run Try.prog w.drew = .ok (.slice (some ⟨g, 0, none⟩) (n - 1) c) W1 := fun ty ad m cc hm had => by
      have h := run_append_room (P := Try.prog) w.drew 67 ty 62 i0 Try.underlying67 hi0 g i c cur HG.out ad m cc (xs.drop ((i + 1) * 2)) (by rw [XD.out, hz1, hm]) (fun j u hj => by
          by_cases h0 : 0 < m
          · rw [had h0, Addr.add_lit]; rw [List.getElem?_drop] at hj; exact CG.out _ u hj
          · have hl := XD.out
            rw [← hm, show m = 0 by omega, Nat.zero_mul] at hl
            have hnl : xs.drop ((i + 1) * 2) = [] := List.eq_nil_of_length_eq_zero hl
            rw [List.getElem?_drop] at hj
            have hj2 : (xs.drop ((i + 1) * 2))[j]? = some u := by rw [List.getElem?_drop]; exact hj
            rw [hnl] at hj2
            simp at hj2) XD1.out (by omega) (by rw [XD.out, hz1, HCS.out]; omega)
      rw [hz1] at h
      rw [h, hW1, show i + m = n - 1 by omega]
    have B1 : W1.heap[g]? = some (.cells (cur.toList.take (i * 2) ++ xs.drop ((i + 1) * 2) ++ cur.toList.drop (i * 2 + (xs.drop ((i + 1) * 2)).length)).toArray 62 (0, 0)) := by rw [hW1]; exact setRow_at w.drew g cur _ _ HG.out
    obtain ⟨W2, hW2⟩ : ∃ W2, W2 = W1.setRow g ((cur.toList.take (i * 2) ++ xs.drop ((i + 1) * 2) ++ cur.toList.drop (i * 2 + (xs.drop ((i + 1) * 2)).length)).take ((n - 1) * 2) ++ (Builtin.zeroCells (.agg #[.string ByteArray.empty, .string ByteArray.empty] : Value).cells 1).toList ++ (cur.toList.take (i * 2) ++ xs.drop ((i + 1) * 2) ++ cur.toList.drop (i * 2 + (xs.drop ((i + 1) * 2)).length)).drop ((n - 1) * 2 + 1 * 2)).toArray := ⟨_, rfl⟩
    have hcl : ∀ ty cc, (Builtin.clear_ #[67] ty #[.slice (some ⟨g, (n - 1) * 2, none⟩) 1 cc]).run Try.prog W1 = .ok (.tuple #[]) W2 := fun ty cc => by
      rw [hW2]
      exact run_clear_k (P := Try.prog) W1 67 62 ty (.agg #[.string ByteArray.empty, .string ByteArray.empty]) 2 g ((n - 1) * 2) 1 cc _ 62 Try.underlying67 Try.zeroValue62 rfl (by decide) B1
        (by simp only [List.size_toArray, List.length_append, List.length_take, List.length_drop, Array.length_toList, HCS.out, HX.out]; omega) (zeroCells_one _ _ (by intro u hu; simp [Value.cells] at hu; rcases hu with rfl | rfl <;> rfl))
    have FIN : Hid (W2.ownsRow 0 62 2 (.slice (some ⟨g, 0, none⟩) (n - 1) c) (n - 1) (xs.take (i * 2) ++ xs.drop ((i + 1) * 2)) ∧ w.grownBy W2 (some g)) := by
      have e1 : cur.toList.take (i * 2) = xs.take (i * 2) := by rw [← HTK.out, List.take_take]; congr 1; omega
      have hl : (xs.take (i * 2) ++ xs.drop ((i + 1) * 2)).length = (n - 1) * 2 := by simp only [List.length_append, List.length_take, List.length_drop, HX.out]; omega
      have B2 := setRow_at W1 g _ ((cur.toList.take (i * 2) ++ xs.drop ((i + 1) * 2) ++ cur.toList.drop (i * 2 + (xs.drop ((i + 1) * 2)).length)).take ((n - 1) * 2) ++ (Builtin.zeroCells (.agg #[.string ByteArray.empty, .string ByteArray.empty] : Value).cells 1).toList ++ (cur.toList.take (i * 2) ++ xs.drop ((i + 1) * 2) ++ cur.toList.drop (i * 2 + (xs.drop ((i + 1) * 2)).length)).drop ((n - 1) * 2 + 1 * 2)).toArray 62 B1
      rw [← hW2] at B2
      refine ⟨⟨hl, .inr ⟨g, c, _, rfl, Nat.zero_le _, B2, by omega, by unfold maxLen; exact hc2, ?_, ?_⟩⟩, ?_⟩
      · simp only [List.size_toArray, List.length_append, List.length_take, List.length_drop, Array.length_toList, HX.out, HCS.out, zeroCells_size]
        rw [show (.agg #[.string ByteArray.empty, .string ByteArray.empty] : Value).cells.size = 2 from rfl]
        omega
      · simp only [List.append_assoc]
        rw [List.take_append_of_le_length (by simp only [List.length_append, List.length_take, List.length_drop, Array.length_toList, HX.out, HCS.out]; omega), List.take_take, Nat.min_self, e1, ← List.append_assoc]
        exact List.take_left' hl
      · rw [hW2]
        refine setRow_grown _ _ _ _ ?_ (.inl rfl)
        rw [hW1]
        exact setRow_grown _ _ _ _ ⟨rfl, rfl, rfl, Nat.le_refl _, fun _ _ _ => rfl⟩ (.inl rfl)
    have hcl2 : ∀ ty cc, (Builtin.clear_ #[67] ty #[.slice (some ⟨g, (n - 1) * 2, none⟩) (n - (n - 1)) cc]).run Try.prog W1 = .ok (.tuple #[]) W2 := fun ty cc => by rw [show n - (n - 1) = 1 by omega]; exact hcl ty cc
    have q1 : ((i : Int) == (i : Int) + 1) = false := beq_eq_false_iff_ne.2 (by omega)
    clear hW1 hW2 B1
    have HAP := Lib.hid hap
    clear hap
    have hb1 : (0 : Int) ≤ (i : Int) + 1 := by omega
    have hb2 : (i : Int) ≤ (n : Int) := by omega
    have hb3 : (i : Int) + 1 ≤ (n : Int) := by omega
    have hb4 : (i : Int) ≤ (c : Int) := by omega
    have htn : ((i : Int) + 1).toNat = i + 1 := by omega
    have hn1 : ¬ c = n - 1 := by omega
    have HTN := Lib.hid htn
    clear htn
    by_cases hcj : c = i + 1
    · have hni : n = i + 1 := by omega
      subst hcj
      subst hni
      have hb5 : (i : Int) ≤ (i : Int) + 1 := by omega
      have hb6 : ((i + 1 : Nat) : Int) = (i : Int) + 1 := by omega
      have hap := fun ty => HAP.out ty ⟨g, 0, none⟩ 0 0 (by omega) (fun h => by omega)
      go_enter Try.func59, Try.ntmps59
      go_wp2
      have htn := HTN.out
      go_region_law (refine step_append_run rfl (.tmp 22) (.tmp 25) 67 67 rfl _ _ (by simp [Act.eval, Act.put]) (by simp [Act.eval, Act.put]) (hap _) ?_)
      all_goals
        clear htn
        go_wp2_with (first | (with_reducible refine wl_clear_run _ rfl (.tmp 31) 67 rfl _ rfl (hcl _ _) ?_) | (with_reducible refine wl_clear_run _ rfl (.tmp 31) 67 rfl _ rfl (hcl2 _ _) ?_))
        go_wp2
        go_ret
        exact ⟨_, rfl, FIN.out.1, FIN.out.2, rfl⟩
    · have hap := fun ty => HAP.out ty ⟨g, (i + 1) * 2, none⟩ (n - (i + 1)) (c - (i + 1)) rfl (fun _ => rfl)
      go_enter Try.func59, Try.ntmps59
      go_wp2
      have htn := HTN.out
      go_region_law (refine step_append_run rfl (.tmp 22) (.tmp 25) 67 67 rfl _ _ (by simp [Act.eval, Act.put]) (by simp [Act.eval, Act.put]) (hap _) ?_)
      all_goals
        clear htn
        go_wp2_with (first | (with_reducible refine wl_clear_run _ rfl (.tmp 31) 67 rfl _ rfl (hcl _ _) ?_) | (with_reducible refine wl_clear_run _ rfl (.tmp 31) 67 rfl _ rfl (hcl2 _ _) ?_))
        go_wp2
        go_ret
        exact ⟨_, rfl, FIN.out.1, FIN.out.2, rfl⟩

end Go.Proofs.Ytmaeeidaegigcaa.Ck
