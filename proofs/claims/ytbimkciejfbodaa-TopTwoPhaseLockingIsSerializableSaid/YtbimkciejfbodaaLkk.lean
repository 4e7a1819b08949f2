/- Locks: slices.Delete at locks; slices.Clone at locks and at ints. Printed by gen2/lk2.py. -/
import Derived.Test.YtbimkciejfbodaaLkj
namespace Go.Proofs.Ytbimkciejfbodaa.Lk
open Go Go.RowKit Hp
set_option linter.unusedVariables false

set_option maxRecDepth 100000 in
set_option maxHeartbeats 4000000 in
theorem del_any (v : Value) (n i : Nat) (xs : List Value) (w : World) (hown : w.ownsRow 0 33 4 v n xs) (hi : i < n) (hn : n ≤ 1000000) (h1x : ∀ u ∈ xs, u.oneCell' = true) :
    Calls Try.prog 32 #[v, .int .i64 i, .int .i64 ((i : Int) + 1)] w fun e w' => ∃ v', e = .returned v' ∧ w'.ownsRow 0 33 4 v' (n - 1) (xs.take (i * 4) ++ xs.drop ((i + 1) * 4)) ∧
      w.grownBy w' v.ownBlock ∧ v'.ownBlock = v.ownBlock := by
  obtain ⟨i0, hi0, hz0, hz1, hz2⟩ := info_parts Try.infoL
  have HX := Lib.hid hown.1
  have X1 := Lib.hid h1x
  obtain ⟨a, c, rfl, hc1, hc2, hc3⟩ := own_form hown
  clear h1x hc3
  obtain ⟨hx, h⟩ := hown
  rcases h with ⟨_, h0⟩ | ⟨g, cap, cur, hv, hbase, hg, hnc, hcm, hcs, htk⟩
  · omega
  · simp only [Value.slice.injEq] at hv
    obtain ⟨rfl, _, rfl⟩ := hv
    have HG := Lib.hid hg
    have HCS := Lib.hid hcs
    have HTK := Lib.hid htk
    clear hx hg hcs htk hbase hcm
    have XD : Hid ((xs.drop ((i + 1) * 4)).length = (n - (i + 1)) * 4) := by unfold Hid; rw [List.length_drop, HX.out]; omega
    have XD1 : Hid (∀ u ∈ xs.drop ((i + 1) * 4), u.oneCell' = true) := fun u hu => X1.out u (List.mem_of_mem_drop hu)
    have CG : Hid (∀ j u, xs[j]? = some u → w.cell? ⟨g, j, none⟩ = some u) := fun j u hj => by
      rw [← HTK.out, List.getElem?_take] at hj
      unfold World.cell?
      simp only [HG.out]
      split at hj
      · simpa using hj
      · cases hj
    obtain ⟨W1, hW1⟩ : ∃ W1, W1 = w.drew.setRow g (cur.toList.take (i * 4) ++ xs.drop ((i + 1) * 4) ++ cur.toList.drop (i * 4 + (xs.drop ((i + 1) * 4)).length)).toArray := ⟨_, rfl⟩
    have hap : ∀ ty ad m cc, m = n - (i + 1) → (0 < m → ad = ⟨g, (i + 1) * 4, none⟩) → (Builtin.append_ #[52, 52] ty #[.slice (some ⟨g, 0, none⟩) i c, .slice (some ad) m cc]).run Try.prog w.drew = .ok (.slice (some ⟨g, 0, none⟩) (n - 1) c) W1 := fun ty ad m cc hm had => by
      have h := run_append_room (P := Try.prog) w.drew 52 ty 33 i0 Try.underlying52 hi0 g i c cur HG.out ad m cc (xs.drop ((i + 1) * 4)) (by rw [XD.out, hz1, hm]) (fun j u hj => by
          by_cases h0 : 0 < m
          · rw [had h0, Addr.add_lit]; rw [List.getElem?_drop] at hj; exact CG.out _ u hj
          · have hl := XD.out
            rw [← hm, show m = 0 by omega, Nat.zero_mul] at hl
            have hnl : xs.drop ((i + 1) * 4) = [] := List.eq_nil_of_length_eq_zero hl
            rw [List.getElem?_drop] at hj
            have hj2 : (xs.drop ((i + 1) * 4))[j]? = some u := by rw [List.getElem?_drop]; exact hj
            rw [hnl] at hj2
            simp at hj2) XD1.out (by omega) (by rw [XD.out, hz1, HCS.out]; omega)
      rw [hz1] at h
      rw [h, hW1, show i + m = n - 1 by omega]
    have B1 : W1.heap[g]? = some (.cells (cur.toList.take (i * 4) ++ xs.drop ((i + 1) * 4) ++ cur.toList.drop (i * 4 + (xs.drop ((i + 1) * 4)).length)).toArray 33 (0, 0)) := by rw [hW1]; exact setRow_at w.drew g cur _ _ HG.out
    obtain ⟨W2, hW2⟩ : ∃ W2, W2 = W1.setRow g ((cur.toList.take (i * 4) ++ xs.drop ((i + 1) * 4) ++ cur.toList.drop (i * 4 + (xs.drop ((i + 1) * 4)).length)).take ((n - 1) * 4) ++ (Builtin.zeroCells (.agg #[.int .i64 0, .string ByteArray.empty, .string ByteArray.empty, .int .i64 0] : Value).cells 1).toList ++ (cur.toList.take (i * 4) ++ xs.drop ((i + 1) * 4) ++ cur.toList.drop (i * 4 + (xs.drop ((i + 1) * 4)).length)).drop ((n - 1) * 4 + 1 * 4)).toArray := ⟨_, rfl⟩
    have hcl : ∀ ty cc, (Builtin.clear_ #[52] ty #[.slice (some ⟨g, (n - 1) * 4, none⟩) 1 cc]).run Try.prog W1 = .ok (.tuple #[]) W2 := fun ty cc => by
      rw [hW2]
      exact run_clear_k (P := Try.prog) W1 52 33 ty (.agg #[.int .i64 0, .string ByteArray.empty, .string ByteArray.empty, .int .i64 0]) 4 g ((n - 1) * 4) 1 cc _ 33 Try.underlying52 Try.zeroValue33 rfl (by decide) B1
        (by simp only [List.size_toArray, List.length_append, List.length_take, List.length_drop, Array.length_toList, HCS.out, HX.out]; omega) (zeroCells_one _ _ (by intro u hu; simp [Value.cells] at hu; rcases hu with rfl | rfl | rfl | rfl <;> rfl))
    have FIN : Hid (W2.ownsRow 0 33 4 (.slice (some ⟨g, 0, none⟩) (n - 1) c) (n - 1) (xs.take (i * 4) ++ xs.drop ((i + 1) * 4)) ∧ w.grownBy W2 (some g)) := by
      have e1 : cur.toList.take (i * 4) = xs.take (i * 4) := by rw [← HTK.out, List.take_take]; congr 1; omega
      have hl : (xs.take (i * 4) ++ xs.drop ((i + 1) * 4)).length = (n - 1) * 4 := by simp only [List.length_append, List.length_take, List.length_drop, HX.out]; omega
      have B2 := setRow_at W1 g _ ((cur.toList.take (i * 4) ++ xs.drop ((i + 1) * 4) ++ cur.toList.drop (i * 4 + (xs.drop ((i + 1) * 4)).length)).take ((n - 1) * 4) ++ (Builtin.zeroCells (.agg #[.int .i64 0, .string ByteArray.empty, .string ByteArray.empty, .int .i64 0] : Value).cells 1).toList ++ (cur.toList.take (i * 4) ++ xs.drop ((i + 1) * 4) ++ cur.toList.drop (i * 4 + (xs.drop ((i + 1) * 4)).length)).drop ((n - 1) * 4 + 1 * 4)).toArray 33 B1
      rw [← hW2] at B2
      refine ⟨⟨hl, .inr ⟨g, c, _, rfl, Nat.zero_le _, B2, by omega, by unfold maxLen; exact hc2, ?_, ?_⟩⟩, ?_⟩
      · simp only [List.size_toArray, List.length_append, List.length_take, List.length_drop, Array.length_toList, HX.out, HCS.out, zeroCells_size]
        rw [show (.agg #[.int .i64 0, .string ByteArray.empty, .string ByteArray.empty, .int .i64 0] : Value).cells.size = 4 from rfl]
        omega
      · simp only [List.append_assoc]
        rw [List.take_append_of_le_length (by simp only [List.length_append, List.length_take, List.length_drop, Array.length_toList, HX.out, HCS.out]; omega), List.take_take, Nat.min_self, e1, ← List.append_assoc]
        exact List.take_left' hl
      · rw [hW2]
        refine setRow_grown _ _ _ _ ?_ (.inl rfl)
        rw [hW1]
        exact setRow_grown _ _ _ _ ⟨rfl, rfl, rfl, Nat.le_refl _, fun _ _ _ => rfl⟩ (.inl rfl)
    have hcl2 : ∀ ty cc, (Builtin.clear_ #[52] ty #[.slice (some ⟨g, (n - 1) * 4, none⟩) (n - (n - 1)) cc]).run Try.prog W1 = .ok (.tuple #[]) W2 := fun ty cc => by rw [show n - (n - 1) = 1 by omega]; exact hcl ty cc
    have q1 : ((i : Int) == (i : Int) + 1) = false := beq_eq_false_iff_ne.2 (by omega)
    clear hW1 hW2 B1
    have HAP := Lib.hid hap
    clear hap
    have hb1 : (0 : Int) ≤ (i : Int) + 1 := by omega
    have hb2 : (i : Int) ≤ (n : Int) := by omega
    have hb3 : (i : Int) + 1 ≤ (n : Int) := by omega
    have hb4 : (i : Int) ≤ (c : Int) := by omega
    have htn : ((i : Int) + 1).toNat = i + 1 := by omega
    have hn1 : ¬ c = n - 1 := by omega
    have HTN := Lib.hid htn
    clear htn
    by_cases hcj : c = i + 1
    · have hni : n = i + 1 := by omega
      subst hcj
      subst hni
      have hb5 : (i : Int) ≤ (i : Int) + 1 := by omega
      have hb6 : ((i + 1 : Nat) : Int) = (i : Int) + 1 := by omega
      have hap := fun ty => HAP.out ty ⟨g, 0, none⟩ 0 0 (by omega) (fun h => by omega)
      go_enter Try.func32, Try.ntmps32
      go_wp2
      have htn := HTN.out
      go_region_law (refine step_append_run rfl (.tmp 22) (.tmp 25) 52 52 rfl _ _ (by simp [Act.eval, Act.put]) (by simp [Act.eval, Act.put]) (hap _) ?_)
      all_goals
        clear htn
        go_wp2_with (first | (with_reducible refine wl_clear_run _ rfl (.tmp 31) 52 rfl _ rfl (hcl _ _) ?_) | (with_reducible refine wl_clear_run _ rfl (.tmp 31) 52 rfl _ rfl (hcl2 _ _) ?_))
        go_wp2
        go_ret
        exact ⟨_, rfl, FIN.out.1, FIN.out.2, rfl⟩
    · have hap := fun ty => HAP.out ty ⟨g, (i + 1) * 4, none⟩ (n - (i + 1)) (c - (i + 1)) rfl (fun _ => rfl)
      go_enter Try.func32, Try.ntmps32
      go_wp2
      have htn := HTN.out
      go_region_law (refine step_append_run rfl (.tmp 22) (.tmp 25) 52 52 rfl _ _ (by simp [Act.eval, Act.put]) (by simp [Act.eval, Act.put]) (hap _) ?_)
      all_goals
        clear htn
        go_wp2_with (first | (with_reducible refine wl_clear_run _ rfl (.tmp 31) 52 rfl _ rfl (hcl _ _) ?_) | (with_reducible refine wl_clear_run _ rfl (.tmp 31) 52 rfl _ rfl (hcl2 _ _) ?_))
        go_wp2
        go_ret
        exact ⟨_, rfl, FIN.out.1, FIN.out.2, rfl⟩

theorem Try.info_cloneL : (Try.prog.info? 33).map (fun i => (i.zero, i.size, i.bytes)) = some (some (.agg #[.int .i64 0, .string ByteArray.empty, .string ByteArray.empty, .int .i64 0]), 4, 48) := by kernel_rfl
set_option maxRecDepth 100000 in
set_option maxHeartbeats 1000000 in
theorem cloneL (v : Value) (n : Nat) (xs : List Value) (w : World) (h : Src w 4 v n xs) (h1 : ∀ u ∈ xs, u.oneCell' = true) (hn : n * 48 ≤ 140737488355328) :
    Calls Try.prog 50 #[v] w fun e w' => ∃ v', e = .returned v' ∧ w'.ownsRow w.heap.size 33 4 v' n xs ∧ Up w w' := by
  obtain ⟨i0, hi, hz0, hz1, hz2⟩ := info_parts Try.info_cloneL
  obtain ⟨hx, h⟩ := h
  have hq := fun (a : Option Addr) (n c n' c' : Nat) (w : World) => Lib.run_eql_slice_nil (P := Try.prog) w 52 33 a n c n' c' Try.underlying52
  rcases h with ⟨rfl, rfl⟩ | ⟨b, off, cap, rfl, hc1, hc2, hc3⟩
  · obtain rfl : xs = [] := List.eq_nil_of_length_eq_zero (by simpa using hx)
    go_enter Try.func50, Try.ntmps50
    go_wp2
    go_ret
    exact ⟨_, rfl, World.ownsRow_nil _ _ _ _, Up.refl _⟩
  · have HX := Lib.hid hx
    have H1 := Lib.hid h1
    have H3 : Hid (∀ j u, xs[j]? = some u → (w.alloc (.cells #[] 33)).cell? ((⟨b, off, none⟩ : Addr).add j) = some u) := fun j u hj => by
      rw [Addr.add_lit]; exact ((hc3 j u hj).grow ((Up.refl w).alloc _)).2
    clear hx hc3 h1
    go_enter Try.func50, Try.ntmps50
    go_wp2_with (at_builtin; refine wpList_append_own _ rfl (.tmp 5) (.tmp 6) 52 rfl w.heap.size 33 i0 (.agg #[.int .i64 0, .string ByteArray.empty, .string ByteArray.empty, .int .i64 0]) 4 48 Try.underlying52 hi hz0 hz1 hz2 rfl (by decide) _ _ _ rfl (own_empty w 33 4) ⟨b, off, none⟩ n cap xs rfl HX.out H3.out H1.out (by unfold maxLen; omega) (by omega) (by simp) ?_)
    intro v' w2 hown hg hnil
    have hnil := Lib.hid hnil
    have hu : Up w w2 := Below.grown ((Up.refl w).alloc (.cells #[] 33)) hg (by simp) fun j hj => by simp [Value.ownBlock] at hj; omega
    clear hg
    go_wp2
    go_ret
    exact ⟨_, rfl, by simpa using hown, hu⟩

theorem Try.info_cloneI : (Try.prog.info? 3).map (fun i => (i.zero, i.size, i.bytes)) = some (some (.int .i64 0), 1, 8) := by kernel_rfl
set_option maxRecDepth 100000 in
set_option maxHeartbeats 1000000 in
theorem cloneI (v : Value) (n : Nat) (xs : List Value) (w : World) (h : Src w 1 v n xs) (h1 : ∀ u ∈ xs, u.oneCell' = true) (hn : n * 8 ≤ 140737488355328) :
    Calls Try.prog 61 #[v] w fun e w' => ∃ v', e = .returned v' ∧ w'.ownsRow w.heap.size 3 1 v' n xs ∧ Up w w' := by
  obtain ⟨i0, hi, hz0, hz1, hz2⟩ := info_parts Try.info_cloneI
  obtain ⟨hx, h⟩ := h
  have hq := fun (a : Option Addr) (n c n' c' : Nat) (w : World) => Lib.run_eql_slice_nil (P := Try.prog) w 23 3 a n c n' c' Try.underlying23
  rcases h with ⟨rfl, rfl⟩ | ⟨b, off, cap, rfl, hc1, hc2, hc3⟩
  · obtain rfl : xs = [] := List.eq_nil_of_length_eq_zero (by simpa using hx)
    go_enter Try.func61, Try.ntmps61
    go_wp2
    go_ret
    exact ⟨_, rfl, World.ownsRow_nil _ _ _ _, Up.refl _⟩
  · have HX := Lib.hid hx
    have H1 := Lib.hid h1
    have H3 : Hid (∀ j u, xs[j]? = some u → (w.alloc (.cells #[] 3)).cell? ((⟨b, off, none⟩ : Addr).add j) = some u) := fun j u hj => by
      rw [Addr.add_lit]; exact ((hc3 j u hj).grow ((Up.refl w).alloc _)).2
    clear hx hc3 h1
    go_enter Try.func61, Try.ntmps61
    go_wp2_with (at_builtin; refine wpList_append_own _ rfl (.tmp 5) (.tmp 6) 23 rfl w.heap.size 3 i0 (.int .i64 0) 1 8 Try.underlying23 hi hz0 hz1 hz2 rfl (by decide) _ _ _ rfl (own_empty w 3 1) ⟨b, off, none⟩ n cap xs rfl HX.out H3.out H1.out (by unfold maxLen; omega) (by omega) (by simp) ?_)
    intro v' w2 hown hg hnil
    have hnil := Lib.hid hnil
    have hu : Up w w2 := Below.grown ((Up.refl w).alloc (.cells #[] 3)) hg (by simp) fun j hj => by simp [Value.ownBlock] at hj; omega
    clear hg
    go_wp2
    go_ret
    exact ⟨_, rfl, by simpa using hown, hu⟩

end Go.Proofs.Ytbimkciejfbodaa.Lk
