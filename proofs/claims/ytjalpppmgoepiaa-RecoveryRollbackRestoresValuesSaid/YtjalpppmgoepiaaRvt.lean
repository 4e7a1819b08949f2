/- Recovery: slices.Delete at ints; the law's maps in memory. Printed by gen2/rvt.py. -/
import Derived.Test.YtjalpppmgoepiaaRvs
import Derived.Maps.RangeWalk
namespace Go.Proofs.Ytjalpppmgoepiaa.Rv
open Go Go.RowKit Hp
set_option linter.unusedVariables false


set_option maxRecDepth 100000 in
set_option maxHeartbeats 4000000 in
theorem del_any (v : Value) (n i : Nat) (xs : List Value) (w : World) (hown : w.ownsRow 0 3 1 v n xs) (hi : i < n) (hn : n ≤ 1000000) (h1x : ∀ u ∈ xs, u.oneCell' = true) :
    Calls Try.prog 19 #[v, .int .i64 i, .int .i64 ((i : Int) + 1)] w fun e w' => ∃ v', e = .returned v' ∧ w'.ownsRow 0 3 1 v' (n - 1) (xs.take (i * 1) ++ xs.drop ((i + 1) * 1)) ∧
      w.grownBy w' v.ownBlock ∧ v'.ownBlock = v.ownBlock := by
  obtain ⟨i0, hi0, hz0, hz1, hz2⟩ := info_parts Try.infoI
  have HX := Lib.hid hown.1
  have X1 := Lib.hid h1x
  obtain ⟨a, c, rfl, hc1, hc2, hc3⟩ := own_form hown
  clear h1x hc3
  obtain ⟨hx, h⟩ := hown
  rcases h with ⟨_, h0⟩ | ⟨g, cap, cur, hv, hbase, hg, hnc, hcm, hcs, htk⟩
  · omega
  · simp only [Value.slice.injEq] at hv
    obtain ⟨rfl, _, rfl⟩ := hv
    have HG := Lib.hid hg
    have HCS := Lib.hid hcs
    have HTK := Lib.hid htk
    clear hx hg hcs htk hbase hcm
    have XD : Hid ((xs.drop ((i + 1) * 1)).length = (n - (i + 1)) * 1) := by unfold Hid; rw [List.length_drop, HX.out]; omega
    have XD1 : Hid (∀ u ∈ xs.drop ((i + 1) * 1), u.oneCell' = true) := fun u hu => X1.out u (List.mem_of_mem_drop hu)
    have CG : Hid (∀ j u, xs[j]? = some u → w.cell? ⟨g, j, none⟩ = some u) := fun j u hj => by
      rw [← HTK.out, List.getElem?_take] at hj
      unfold World.cell?
      simp only [HG.out]
      split at hj
      · simpa using hj
      · cases hj
    obtain ⟨W1, hW1⟩ : ∃ W1, W1 = w.drew.setRow g (cur.toList.take (i * 1) ++ xs.drop ((i + 1) * 1) ++ cur.toList.drop (i * 1 + (xs.drop ((i + 1) * 1)).length)).toArray := ⟨_, rfl⟩
    have hap : ∀ ty ad m cc, m = n - (i + 1) → (0 < m → ad = ⟨g, (i + 1) * 1, none⟩) → (Builtin.append_ #[22, 22] ty #[.slice (some ⟨g, 0, none⟩) i c, .slice (some ad) m cc]).run Try.prog w.drew = .ok (.slice (some ⟨g, 0, none⟩) (n - 1) c) W1 := fun ty ad m cc hm had => by
      have h := run_append_room (P := Try.prog) w.drew 22 ty 3 i0 Try.underlying22 hi0 g i c cur HG.out ad m cc (xs.drop ((i + 1) * 1)) (by rw [XD.out, hz1, hm]) (fun j u hj => by
          by_cases h0 : 0 < m
          · rw [had h0, Addr.add_lit]; rw [List.getElem?_drop] at hj; exact CG.out _ u hj
          · have hl := XD.out
            rw [← hm, show m = 0 by omega, Nat.zero_mul] at hl
            have hnl : xs.drop ((i + 1) * 1) = [] := List.eq_nil_of_length_eq_zero hl
            rw [List.getElem?_drop] at hj
            have hj2 : (xs.drop ((i + 1) * 1))[j]? = some u := by rw [List.getElem?_drop]; exact hj
            rw [hnl] at hj2
            simp at hj2) XD1.out (by omega) (by rw [XD.out, hz1, HCS.out]; omega)
      rw [hz1] at h
      rw [h, hW1, show i + m = n - 1 by omega]
    have B1 : W1.heap[g]? = some (.cells (cur.toList.take (i * 1) ++ xs.drop ((i + 1) * 1) ++ cur.toList.drop (i * 1 + (xs.drop ((i + 1) * 1)).length)).toArray 3 (0, 0)) := by rw [hW1]; exact setRow_at w.drew g cur _ _ HG.out
    obtain ⟨W2, hW2⟩ : ∃ W2, W2 = W1.setRow g ((cur.toList.take (i * 1) ++ xs.drop ((i + 1) * 1) ++ cur.toList.drop (i * 1 + (xs.drop ((i + 1) * 1)).length)).take ((n - 1) * 1) ++ (Builtin.zeroCells (.int .i64 0 : Value).cells 1).toList ++ (cur.toList.take (i * 1) ++ xs.drop ((i + 1) * 1) ++ cur.toList.drop (i * 1 + (xs.drop ((i + 1) * 1)).length)).drop ((n - 1) * 1 + 1 * 1)).toArray := ⟨_, rfl⟩
    have hcl : ∀ ty cc, (Builtin.clear_ #[22] ty #[.slice (some ⟨g, (n - 1) * 1, none⟩) 1 cc]).run Try.prog W1 = .ok (.tuple #[]) W2 := fun ty cc => by
      rw [hW2]
      exact run_clear_k (P := Try.prog) W1 22 3 ty (.int .i64 0) 1 g ((n - 1) * 1) 1 cc _ 3 Try.underlying22 Try.zeroValue3 rfl (by decide) B1
        (by simp only [List.size_toArray, List.length_append, List.length_take, List.length_drop, Array.length_toList, HCS.out, HX.out]; omega) (zeroCells_one _ _ (by intro u hu; simp [Value.cells] at hu; rcases hu with rfl <;> rfl))
    have FIN : Hid (W2.ownsRow 0 3 1 (.slice (some ⟨g, 0, none⟩) (n - 1) c) (n - 1) (xs.take (i * 1) ++ xs.drop ((i + 1) * 1)) ∧ w.grownBy W2 (some g)) := by
      have e1 : cur.toList.take (i * 1) = xs.take (i * 1) := by rw [← HTK.out, List.take_take]; congr 1; omega
      have hl : (xs.take (i * 1) ++ xs.drop ((i + 1) * 1)).length = (n - 1) * 1 := by simp only [List.length_append, List.length_take, List.length_drop, HX.out]; omega
      have B2 := setRow_at W1 g _ ((cur.toList.take (i * 1) ++ xs.drop ((i + 1) * 1) ++ cur.toList.drop (i * 1 + (xs.drop ((i + 1) * 1)).length)).take ((n - 1) * 1) ++ (Builtin.zeroCells (.int .i64 0 : Value).cells 1).toList ++ (cur.toList.take (i * 1) ++ xs.drop ((i + 1) * 1) ++ cur.toList.drop (i * 1 + (xs.drop ((i + 1) * 1)).length)).drop ((n - 1) * 1 + 1 * 1)).toArray 3 B1
      rw [← hW2] at B2
      refine ⟨⟨hl, .inr ⟨g, c, _, rfl, Nat.zero_le _, B2, by omega, by unfold maxLen; exact hc2, ?_, ?_⟩⟩, ?_⟩
      · simp only [List.size_toArray, List.length_append, List.length_take, List.length_drop, Array.length_toList, HX.out, HCS.out, zeroCells_size]
        rw [show (.int .i64 0 : Value).cells.size = 1 from rfl]
        omega
      · simp only [List.append_assoc]
        rw [List.take_append_of_le_length (by simp only [List.length_append, List.length_take, List.length_drop, Array.length_toList, HX.out, HCS.out]; omega), List.take_take, Nat.min_self, e1, ← List.append_assoc]
        exact List.take_left' hl
      · rw [hW2]
        refine setRow_grown _ _ _ _ ?_ (.inl rfl)
        rw [hW1]
        exact setRow_grown _ _ _ _ ⟨rfl, rfl, rfl, Nat.le_refl _, fun _ _ _ => rfl⟩ (.inl rfl)
    have hcl2 : ∀ ty cc, (Builtin.clear_ #[22] ty #[.slice (some ⟨g, (n - 1) * 1, none⟩) (n - (n - 1)) cc]).run Try.prog W1 = .ok (.tuple #[]) W2 := fun ty cc => by rw [show n - (n - 1) = 1 by omega]; exact hcl ty cc
    have hcl3 : ∀ ty cc, (Builtin.clear_ #[22] ty #[.slice (some ⟨g, n - 1, none⟩) 1 cc]).run Try.prog W1 = .ok (.tuple #[]) W2 := fun ty cc => by have h := hcl ty cc; rwa [Nat.mul_one] at h
    have hcl4 : ∀ ty cc, (Builtin.clear_ #[22] ty #[.slice (some ⟨g, n - 1, none⟩) (n - (n - 1)) cc]).run Try.prog W1 = .ok (.tuple #[]) W2 := fun ty cc => by have h := hcl2 ty cc; rwa [Nat.mul_one] at h
    have q1 : ((i : Int) == (i : Int) + 1) = false := beq_eq_false_iff_ne.2 (by omega)
    clear hW1 hW2 B1
    have HAP := Lib.hid hap
    clear hap
    have hb1 : (0 : Int) ≤ (i : Int) + 1 := by omega
    have hb2 : (i : Int) ≤ (n : Int) := by omega
    have hb3 : (i : Int) + 1 ≤ (n : Int) := by omega
    have hb4 : (i : Int) ≤ (c : Int) := by omega
    have htn : ((i : Int) + 1).toNat = i + 1 := by omega
    have hn1 : ¬ c = n - 1 := by omega
    have HTN := Lib.hid htn
    clear htn
    by_cases hcj : c = i + 1
    · have hni : n = i + 1 := by omega
      subst hcj
      subst hni
      have hb5 : (i : Int) ≤ (i : Int) + 1 := by omega
      have hcl5 : ∀ ty cc, (Builtin.clear_ #[22] ty #[.slice (some ⟨g, i, none⟩) 1 cc]).run Try.prog W1 = .ok (.tuple #[]) W2 := fun ty cc => by have h := hcl3 ty cc; rwa [show i + 1 - 1 = i by omega] at h
      have hb6 : ((i + 1 : Nat) : Int) = (i : Int) + 1 := by omega
      have hap := fun ty => HAP.out ty ⟨g, 0, none⟩ 0 0 (by omega) (fun h => by omega)
      go_enter Try.func19, Try.ntmps19
      go_wp2
      have htn := HTN.out
      go_region_law (refine step_append_run rfl (.tmp 22) (.tmp 25) 22 22 rfl _ _ (by simp [Act.eval, Act.put]) (by simp [Act.eval, Act.put]) (hap _) ?_)
      all_goals
        clear htn
        go_wp2_with (first | (with_reducible refine wl_clear_run _ rfl (.tmp 31) 22 rfl _ rfl (hcl _ _) ?_) | (with_reducible refine wl_clear_run _ rfl (.tmp 31) 22 rfl _ rfl (hcl3 _ _) ?_) | (with_reducible refine wl_clear_run _ rfl (.tmp 31) 22 rfl _ rfl (hcl4 _ _) ?_) | (with_reducible refine wl_clear_run _ rfl (.tmp 31) 22 rfl _ rfl (hcl5 _ _) ?_) | (with_reducible refine wl_clear_run _ rfl (.tmp 31) 22 rfl _ rfl (hcl2 _ _) ?_))
        go_wp2
        go_ret
        exact ⟨_, rfl, FIN.out.1, FIN.out.2, rfl⟩
    · have hap := fun ty => HAP.out ty ⟨g, (i + 1) * 1, none⟩ (n - (i + 1)) (c - (i + 1)) rfl (fun _ => rfl)
      go_enter Try.func19, Try.ntmps19
      go_wp2
      have htn := HTN.out
      go_region_law (refine step_append_run rfl (.tmp 22) (.tmp 25) 22 22 rfl _ _ (by simp [Act.eval, Act.put]) (by simp [Act.eval, Act.put]) (hap _) ?_)
      all_goals
        clear htn
        go_wp2_with (first | (with_reducible refine wl_clear_run _ rfl (.tmp 31) 22 rfl _ rfl (hcl _ _) ?_) | (with_reducible refine wl_clear_run _ rfl (.tmp 31) 22 rfl _ rfl (hcl3 _ _) ?_) | (with_reducible refine wl_clear_run _ rfl (.tmp 31) 22 rfl _ rfl (hcl4 _ _) ?_) | (with_reducible refine wl_clear_run _ rfl (.tmp 31) 22 rfl _ rfl (hcl2 _ _) ?_))
        go_wp2
        go_ret
        exact ⟨_, rfl, FIN.out.1, FIN.out.2, rfl⟩

/-! ### The inner maps: pages to values -/
def MI (w : World) (b n : Nat) (g : Nat → Option Int) : Prop := ∃ D, w.ownsMap (H := Value) Try.prog 3 (plainElem Try.prog 3) b n D ∧ (∀ x : Nat, x < 6 → Maps.has D (.int .i64 (x : Int)) = (g x).isSome) ∧ (∀ x : Nat, x < 6 → ∀ v, g x = some v → ∀ zd, D.atKey (.int .i64 (x : Int)) zd = .lit (.int .i64 v)) ∧ ∀ kl, Maps.has D kl = true → ∃ x : Nat, x < 6 ∧ kl = .int .i64 (x : Int)
theorem MI.new (w : World) : MI (w.alloc (.map #[] 0)) w.heap.size 0 (fun _ => none) := ⟨_, World.ownsMap_made _ _ _ _, fun x _ => rfl, fun x _ v h => (by cases h), fun kl h => (by cases h)⟩
theorem MI.lt {w : World} {b n : Nat} {g : Nat → Option Int} (h : MI w b n g) : b < w.heap.size := by obtain ⟨D, h, _⟩ := h; exact h.lt
theorem MI.chg {S : Nat → Prop} {w w' : World} {b n : Nat} {g : Nat → Option Int} (h : MI w b n g) (hc : Chg S w w') (hn : ¬ S b) : MI w' b n g := by
  obtain ⟨D, h, h2, h3, h4⟩ := h
  have hlt := h.lt
  obtain ⟨es, clock, hb, F, hs, hD⟩ := h
  exact ⟨D, ⟨es, clock, (hc.block b hlt hn).trans hb, F, hs, hD⟩, h2, h3, h4⟩
theorem MI.put {w : World} {b n : Nat} {g : Nat → Option Int} (h : MI w b n g) (hn : n < 1000000) {x : Nat} (hx : x < 6) {v : Int} (hv : (Lit.int .i64 v).wf = true) : ∃ w', Sem.run Try.prog (Instr.mapUpdate 46 (.map (some b)) (.int .i64 (x : Int)) (.int .i64 v)) w = .ok () w' ∧ MI w' b (n + 1) (upd g x (some v)) ∧ w.grownBy w' (some b) := by
  obtain ⟨D, h, h2, h3, h4⟩ := h
  have T := h.tidy (Maps.int_keyed Try.underlying3)
  obtain ⟨w', r1, r2, r3⟩ := h.update (Maps.int_keyed Try.underlying3) Try.underlying46 (by unfold maxLen; omega) (keyI (x := x) (by omega)) (val := .int .i64 v) (d := .lit (.int .i64 v)) (ps := []) (plainElem_int Try.underlying3 hv)
  have ne : ∀ y : Nat, y ≠ x → Lit.int .i64 (y : Int) ≠ .int .i64 (x : Int) := fun y hy e => hy (by have : (y : Int) = (x : Int) := (by cases e; rfl); omega)
  refine ⟨w', r1, ⟨_, r2, fun y hy => ?_, fun y hy u hu zd => ?_, fun kl hk => ?_⟩, r3⟩
  · by_cases e : y = x
    · rw [e, Maps.has_put_same (k := .int .i64 (x : Int)) T.isMap trivial, upd_same]
      rfl
    · rw [Maps.has_put_other (ne y e), upd_other _ _ _ e]
      exact h2 y hy
  · by_cases e : y = x
    · rw [e, upd_same] at hu
      rw [e, Maps.atKey_put_same (k := .int .i64 (x : Int)) T.isMap trivial]
      rw [Option.some.inj hu]
    · rw [upd_other _ _ _ e] at hu
      rw [Maps.atKey_put_other (ne y e)]
      exact h3 y hy u hu zd
  · by_cases e : kl = .int .i64 (x : Int)
    · exact ⟨x, hx, e⟩
    · rw [Maps.has_put_other e] at hk
      exact h4 kl hk
/-! ### The outer map: transactions to inner maps -/
def MO (w : World) (b n : Nat) (f : Nat → Nat) (A : List Nat) : Prop := ∃ D, w.ownsMap Try.prog 3 RB b n D ∧ ∀ t ∈ A, D.atKey (.int .i64 (t : Int)) (.held (.map none)) = .held (.map (some (f t)))
theorem MO.new (w : World) (f : Nat → Nat) : MO (w.alloc (.map #[] 0)) w.heap.size 0 f [] := ⟨_, World.ownsMap_made _ _ _ _, fun x h => (by cases h)⟩
theorem MO.lt {w : World} {b n : Nat} {f : Nat → Nat} {A : List Nat} (h : MO w b n f A) : b < w.heap.size := by obtain ⟨D, h, _⟩ := h; exact h.lt
theorem MO.chg {S : Nat → Prop} {w w' : World} {b n : Nat} {f : Nat → Nat} {A : List Nat} (h : MO w b n f A) (hc : Chg S w w') (hn : ¬ S b) : MO w' b n f A := by
  obtain ⟨D, h, h2⟩ := h
  have hlt := h.lt
  obtain ⟨es, clock, hb, F, hs, hD⟩ := h
  exact ⟨D, ⟨es, clock, (hc.block b hlt hn).trans hb, F, hs, hD⟩, h2⟩
theorem MO.sub {w : World} {b n : Nat} {f : Nat → Nat} {A B : List Nat} (h : MO w b n f A) (hs : ∀ t ∈ B, t ∈ A) : MO w b n f B := by
  obtain ⟨D, h, h2⟩ := h
  exact ⟨D, h, fun t ht => h2 t (hs t ht)⟩
theorem zeroMI (w : World) : (zeroValue 46).run Try.prog w = .ok (.map none) w := by kernel_rfl
theorem MO.look {w : World} {b n : Nat} {f : Nat → Nat} {A : List Nat} (h : MO w b n f A) {t : Nat} (ht : t ∈ A) (h1 : t < 10000000) : Sem.run Try.prog (Instr.lookup 45 (.map (some b)) (.int .i64 (t : Int)) false) w = .ok (.map (some (f t))) w := by
  obtain ⟨D, h, hv⟩ := h
  obtain ⟨v', ps, hr, hR⟩ := h.lookup (Maps.int_keyed Try.underlying3) Try.underlying45 (zeroMI w) (zd := .held (.map none)) (zp := []) rfl (keyI h1)
  rw [hv t ht] at hR
  unfold RB at hR
  simp only [Option.some.injEq, Prod.mk.injEq, DataW.held.injEq] at hR
  rw [hr, hR.1]
theorem MO.put {w : World} {b n : Nat} {f : Nat → Nat} {A : List Nat} (h : MO w b n f A) (hn : n < 1000000) {t m : Nat} (h1 : t < 10000000) (hA : t ∉ A) : ∃ w', Sem.run Try.prog (Instr.mapUpdate 45 (.map (some b)) (.int .i64 (t : Int)) (.map (some m))) w = .ok () w' ∧ MO w' b (n + 1) (upd f t m) (A ++ [t]) ∧ w.grownBy w' (some b) := by
  obtain ⟨D, h, hv⟩ := h
  have T := h.tidy (Maps.int_keyed Try.underlying3)
  obtain ⟨w', r1, r2, r3⟩ := h.update (Maps.int_keyed Try.underlying3) Try.underlying45 (by unfold maxLen; omega) (keyI h1) (val := .map (some m)) (d := .held (.map (some m))) (ps := []) rfl
  refine ⟨w', r1, ⟨_, r2, fun y hy => ?_⟩, r3⟩
  rcases List.mem_append.1 hy with e | e
  · have hne : y ≠ t := fun e2 => hA (by rw [← e2]; exact e)
    rw [Maps.atKey_put_other (k := .int .i64 (t : Int)) (k' := .int .i64 (y : Int)) (fun e2 => hne (by have e3 : (y : Int) = (t : Int) := (by cases e2; rfl); omega)), hv y e, upd_other _ _ _ hne]
  · rw [List.mem_singleton.1 e, Maps.atKey_put_same (k := .int .i64 (t : Int)) T.isMap trivial, upd_same]
end Go.Proofs.Ytjalpppmgoepiaa.Rv
