/- joined: Oda, Odb -/
import Derived.Test.YtnbhdpmhgamjfaaAdf
import Derived.Test.YtnbhdpmhgamjfaaSl
import Derived.Test.YtnbhdpmhgamjfaaSo
import Derived.Test.YtnbhdpmhgamjfaaRows
/- slices.Delete at ints. Printed by gen7/order.py. -/
namespace Go.Proofs.Ytnbhdpmhgamjfaa.C
open Go Go.RowKit Hp
set_option linter.unusedVariables false

theorem Try.infoI : (Try.prog.info? 3).map (fun i => (i.zero, i.size, i.bytes)) = some (some (.int .i64 0), 1, 8) := by kernel_rfl
theorem own_cell {w : World} {B : Nat} {E : TypeId} {size n c g : Nat} {xs : List Value} (h : w.ownsRow B E size (.slice (some ⟨g, 0, none⟩) n c) n xs) {j : Nat} {u : Value} (hj : xs[j]? = some u) : w.cell? ⟨g, j, none⟩ = some u := by
  rcases h.2 with ⟨e, _⟩ | ⟨g', cap, cur, e, hb, hg, hn', hc, hs, ht⟩
  · cases e
  · simp only [Value.slice.injEq, Option.some.injEq, Addr.mk.injEq, and_true, true_and] at e
    obtain ⟨rfl, rfl⟩ := e
    unfold World.cell?
    simp only [hg]
    rw [← ht, List.getElem?_take] at hj
    split at hj
    · simpa using hj
    · cases hj
theorem own_free {w : World} {B : Nat} {E : TypeId} {size n c g : Nat} {xs : List Value} (h : w.ownsRow B E size (.slice (some ⟨g, 0, none⟩) n c) n xs) (j : Nat) : w.frozen? ⟨g, j, none⟩ = false := by
  rcases h.2 with ⟨e, _⟩ | ⟨g', cap, cur, e, hb, hg, hn', hc, hs, ht⟩
  · cases e
  · simp only [Value.slice.injEq, Option.some.injEq, Addr.mk.injEq, and_true, true_and] at e
    obtain ⟨rfl, rfl⟩ := e
    simp [World.frozen?, hg]
theorem own_glt {w : World} {B : Nat} {E : TypeId} {size n c g : Nat} {xs : List Value} (h : w.ownsRow B E size (.slice (some ⟨g, 0, none⟩) n c) n xs) : g < w.heap.size := own_lt h g rfl
theorem src_rn {w : World} {v : Value} {n : Nat} {xs : List Value} {size : Nat} (h : Src w size v n xs) : ∃ a c, v = .slice a n c := by
  rcases h.2 with ⟨rfl, rfl⟩ | ⟨b, off, cap, rfl, _⟩
  · exact ⟨_, _, rfl⟩
  · exact ⟨_, _, rfl⟩
theorem src_at {w : World} {a : Option Addr} {n cap size : Nat} {xs : List Value} (h : Src w size (.slice a n cap) n xs) (hn : 0 < n) : ∃ b off, a = some ⟨b, off, none⟩ ∧ ∀ j u, xs[j]? = some u → At w b (off + j) u := by
  obtain ⟨hx, ⟨h1, rfl⟩ | ⟨b, off, cap', hv, h1, h2, h3⟩⟩ := h
  · omega
  · simp only [Value.slice.injEq, true_and] at hv
    exact ⟨b, off, hv.1, h3⟩
theorem src_parts {w : World} {a : Option Addr} {n c size : Nat} {xs : List Value} (h : Src w size (.slice a n c) n xs) : (a = none → n = 0 ∧ c = 0) ∧ ∀ y, a = some y → ∀ j u, xs[j]? = some u → w.cell? (y.add j) = some u := by
  obtain ⟨hx, ⟨h1, h2⟩ | ⟨b, off, cap', hv, h1, h2, h3⟩⟩ := h
  · simp only [Value.slice.injEq] at h1
    exact ⟨fun _ => ⟨h2, h1.2.2⟩, fun y e => by rw [h1.1] at e; cases e⟩
  · simp only [Value.slice.injEq, true_and] at hv
    refine ⟨fun e => (by rw [hv.1] at e; cases e), fun y e j u hj => ?_⟩
    rw [hv.1] at e
    cases e
    rw [Addr.add_lit]
    exact (h3 j u hj).2

set_option maxRecDepth 100000 in
set_option maxHeartbeats 4000000 in
theorem delI_any (v : Value) (n i : Nat) (xs : List Value) (w : World) (hown : w.ownsRow 0 3 1 v n xs) (hi : i < n) (hn : n ≤ 1000000) (h1x : ∀ u ∈ xs, u.oneCell' = true) :
    Calls Try.prog 48 #[v, .int .i64 i, .int .i64 ((i : Int) + 1)] w fun e w' => ∃ v', e = .returned v' ∧ w'.ownsRow 0 3 1 v' (n - 1) (xs.take (i * 1) ++ xs.drop ((i + 1) * 1)) ∧
      w.grownBy w' v.ownBlock ∧ v'.ownBlock = v.ownBlock := by
  obtain ⟨i0, hi0, hz0, hz1, hz2⟩ := info_parts Try.infoI
  have HX := Lib.hid hown.1
  have X1 := Lib.hid h1x
  obtain ⟨a, c, rfl, hc1, hc2, hc3⟩ := own_form hown
  clear h1x hc3
  obtain ⟨hx, h⟩ := hown
  rcases h with ⟨_, h0⟩ | ⟨g, cap, cur, hv, hbase, hg, hnc, hcm, hcs, htk⟩
  · omega
  · simp only [Value.slice.injEq] at hv
    obtain ⟨rfl, _, rfl⟩ := hv
    have HG := Lib.hid hg
    have HCS := Lib.hid hcs
    have HTK := Lib.hid htk
    clear hx hg hcs htk hbase hcm
    have XD : Hid ((xs.drop ((i + 1) * 1)).length = (n - (i + 1)) * 1) := by unfold Hid; rw [List.length_drop, HX.out]; omega
    have XD1 : Hid (∀ u ∈ xs.drop ((i + 1) * 1), u.oneCell' = true) := fun u hu => X1.out u (List.mem_of_mem_drop hu)
    have CG : Hid (∀ j u, xs[j]? = some u → w.cell? ⟨g, j, none⟩ = some u) := fun j u hj => by
      rw [← HTK.out, List.getElem?_take] at hj
      unfold World.cell?
      simp only [HG.out]
      split at hj
      · simpa using hj
      · cases hj
    obtain ⟨W1, hW1⟩ : ∃ W1, W1 = w.drew.setRow g (cur.toList.take (i * 1) ++ xs.drop ((i + 1) * 1) ++ cur.toList.drop (i * 1 + (xs.drop ((i + 1) * 1)).length)).toArray := ⟨_, rfl⟩
    have hap : ∀ ty ad m cc, m = n - (i + 1) → (0 < m → ad = ⟨g, (i + 1) * 1, none⟩) → (Builtin.append_ #[22, 22] ty #[.slice (some ⟨g, 0, none⟩) i c, .slice (some ad) m cc]).run Try.prog w.drew = .ok (.slice (some ⟨g, 0, none⟩) (n - 1) c) W1 := fun ty ad m cc hm had => by
      have h := run_append_room (P := Try.prog) w.drew 22 ty 3 i0 Try.underlying22 hi0 g i c cur HG.out ad m cc (xs.drop ((i + 1) * 1)) (by rw [XD.out, hz1, hm]) (fun j u hj => by
          by_cases h0 : 0 < m
          · rw [had h0, Addr.add_lit]; rw [List.getElem?_drop] at hj; exact CG.out _ u hj
          · have hl := XD.out
            rw [← hm, show m = 0 by omega, Nat.zero_mul] at hl
            have hnl : xs.drop ((i + 1) * 1) = [] := List.eq_nil_of_length_eq_zero hl
            rw [List.getElem?_drop] at hj
            have hj2 : (xs.drop ((i + 1) * 1))[j]? = some u := by rw [List.getElem?_drop]; exact hj
            rw [hnl] at hj2
            simp at hj2) XD1.out (by omega) (by rw [XD.out, hz1, HCS.out]; omega)
      rw [hz1] at h
      rw [h, hW1, show i + m = n - 1 by omega]
    have B1 : W1.heap[g]? = some (.cells (cur.toList.take (i * 1) ++ xs.drop ((i + 1) * 1) ++ cur.toList.drop (i * 1 + (xs.drop ((i + 1) * 1)).length)).toArray 3 (0, 0)) := by rw [hW1]; exact setRow_at w.drew g cur _ _ HG.out
    obtain ⟨W2, hW2⟩ : ∃ W2, W2 = W1.setRow g ((cur.toList.take (i * 1) ++ xs.drop ((i + 1) * 1) ++ cur.toList.drop (i * 1 + (xs.drop ((i + 1) * 1)).length)).take ((n - 1) * 1) ++ (Builtin.zeroCells (.int .i64 0 : Value).cells 1).toList ++ (cur.toList.take (i * 1) ++ xs.drop ((i + 1) * 1) ++ cur.toList.drop (i * 1 + (xs.drop ((i + 1) * 1)).length)).drop ((n - 1) * 1 + 1 * 1)).toArray := ⟨_, rfl⟩
    have hcl : ∀ ty cc, (Builtin.clear_ #[22] ty #[.slice (some ⟨g, (n - 1) * 1, none⟩) 1 cc]).run Try.prog W1 = .ok (.tuple #[]) W2 := fun ty cc => by
      rw [hW2]
      exact run_clear_k (P := Try.prog) W1 22 3 ty (.int .i64 0) 1 g ((n - 1) * 1) 1 cc _ 3 Try.underlying22 Try.zeroValue3 rfl (by decide) B1
        (by simp only [List.size_toArray, List.length_append, List.length_take, List.length_drop, Array.length_toList, HCS.out, HX.out]; omega) (zeroCells_one _ _ (by intro u hu; simp [Value.cells] at hu; rcases hu with rfl <;> rfl))
    have FIN : Hid (W2.ownsRow 0 3 1 (.slice (some ⟨g, 0, none⟩) (n - 1) c) (n - 1) (xs.take (i * 1) ++ xs.drop ((i + 1) * 1)) ∧ w.grownBy W2 (some g)) := by
      have e1 : cur.toList.take (i * 1) = xs.take (i * 1) := by rw [← HTK.out, List.take_take]; congr 1; omega
      have hl : (xs.take (i * 1) ++ xs.drop ((i + 1) * 1)).length = (n - 1) * 1 := by simp only [List.length_append, List.length_take, List.length_drop, HX.out]; omega
      have B2 := setRow_at W1 g _ ((cur.toList.take (i * 1) ++ xs.drop ((i + 1) * 1) ++ cur.toList.drop (i * 1 + (xs.drop ((i + 1) * 1)).length)).take ((n - 1) * 1) ++ (Builtin.zeroCells (.int .i64 0 : Value).cells 1).toList ++ (cur.toList.take (i * 1) ++ xs.drop ((i + 1) * 1) ++ cur.toList.drop (i * 1 + (xs.drop ((i + 1) * 1)).length)).drop ((n - 1) * 1 + 1 * 1)).toArray 3 B1
      rw [← hW2] at B2
      refine ⟨⟨hl, .inr ⟨g, c, _, rfl, Nat.zero_le _, B2, by omega, by unfold maxLen; exact hc2, ?_, ?_⟩⟩, ?_⟩
      · simp only [List.size_toArray, List.length_append, List.length_take, List.length_drop, Array.length_toList, HX.out, HCS.out, zeroCells_size]
        rw [show (.int .i64 0 : Value).cells.size = 1 from rfl]
        omega
      · simp only [List.append_assoc]
        rw [List.take_append_of_le_length (by simp only [List.length_append, List.length_take, List.length_drop, Array.length_toList, HX.out, HCS.out]; omega), List.take_take, Nat.min_self, e1, ← List.append_assoc]
        exact List.take_left' hl
      · rw [hW2]
        refine setRow_grown _ _ _ _ ?_ (.inl rfl)
        rw [hW1]
        exact setRow_grown _ _ _ _ ⟨rfl, rfl, rfl, Nat.le_refl _, fun _ _ _ => rfl⟩ (.inl rfl)
    have hcl2 : ∀ ty cc, (Builtin.clear_ #[22] ty #[.slice (some ⟨g, (n - 1) * 1, none⟩) (n - (n - 1)) cc]).run Try.prog W1 = .ok (.tuple #[]) W2 := fun ty cc => by rw [show n - (n - 1) = 1 by omega]; exact hcl ty cc
    have hcl3 : ∀ ty cc, (Builtin.clear_ #[22] ty #[.slice (some ⟨g, n - 1, none⟩) 1 cc]).run Try.prog W1 = .ok (.tuple #[]) W2 := fun ty cc => by have h := hcl ty cc; rwa [Nat.mul_one] at h
    have hcl4 : ∀ ty cc, (Builtin.clear_ #[22] ty #[.slice (some ⟨g, n - 1, none⟩) (n - (n - 1)) cc]).run Try.prog W1 = .ok (.tuple #[]) W2 := fun ty cc => by have h := hcl2 ty cc; rwa [Nat.mul_one] at h
    have q1 : ((i : Int) == (i : Int) + 1) = false := beq_eq_false_iff_ne.2 (by omega)
    clear hW1 hW2 B1
    have HAP := Lib.hid hap
    clear hap
    have hb1 : (0 : Int) ≤ (i : Int) + 1 := by omega
    have hb2 : (i : Int) ≤ (n : Int) := by omega
    have hb3 : (i : Int) + 1 ≤ (n : Int) := by omega
    have hb4 : (i : Int) ≤ (c : Int) := by omega
    have htn : ((i : Int) + 1).toNat = i + 1 := by omega
    have hn1 : ¬ c = n - 1 := by omega
    have HTN := Lib.hid htn
    clear htn
    by_cases hcj : c = i + 1
    · have hni : n = i + 1 := by omega
      subst hcj
      subst hni
      have hb5 : (i : Int) ≤ (i : Int) + 1 := by omega
      have hcl5 : ∀ ty cc, (Builtin.clear_ #[22] ty #[.slice (some ⟨g, i, none⟩) 1 cc]).run Try.prog W1 = .ok (.tuple #[]) W2 := fun ty cc => by have h := hcl3 ty cc; rwa [show i + 1 - 1 = i by omega] at h
      have hb6 : ((i + 1 : Nat) : Int) = (i : Int) + 1 := by omega
      have hap := fun ty => HAP.out ty ⟨g, 0, none⟩ 0 0 (by omega) (fun h => by omega)
      go_enter Try.func48, Try.ntmps48
      go_wp2
      have htn := HTN.out
      go_region_law (refine step_append_run rfl (.tmp 22) (.tmp 25) 22 22 rfl _ _ (by simp [Act.eval, Act.put]) (by simp [Act.eval, Act.put]) (hap _) ?_)
      all_goals
        clear htn
        go_wp2_with (first | (with_reducible refine wl_clear_run _ rfl (.tmp 31) 22 rfl _ rfl (hcl _ _) ?_) | (with_reducible refine wl_clear_run _ rfl (.tmp 31) 22 rfl _ rfl (hcl3 _ _) ?_) | (with_reducible refine wl_clear_run _ rfl (.tmp 31) 22 rfl _ rfl (hcl4 _ _) ?_) | (with_reducible refine wl_clear_run _ rfl (.tmp 31) 22 rfl _ rfl (hcl5 _ _) ?_) | (with_reducible refine wl_clear_run _ rfl (.tmp 31) 22 rfl _ rfl (hcl2 _ _) ?_))
        go_wp2
        go_ret
        exact ⟨_, rfl, FIN.out.1, FIN.out.2, rfl⟩
    · have hap := fun ty => HAP.out ty ⟨g, (i + 1) * 1, none⟩ (n - (i + 1)) (c - (i + 1)) rfl (fun _ => rfl)
      go_enter Try.func48, Try.ntmps48
      go_wp2
      have htn := HTN.out
      go_region_law (refine step_append_run rfl (.tmp 22) (.tmp 25) 22 22 rfl _ _ (by simp [Act.eval, Act.put]) (by simp [Act.eval, Act.put]) (hap _) ?_)
      all_goals
        clear htn
        go_wp2_with (first | (with_reducible refine wl_clear_run _ rfl (.tmp 31) 22 rfl _ rfl (hcl _ _) ?_) | (with_reducible refine wl_clear_run _ rfl (.tmp 31) 22 rfl _ rfl (hcl3 _ _) ?_) | (with_reducible refine wl_clear_run _ rfl (.tmp 31) 22 rfl _ rfl (hcl4 _ _) ?_) | (with_reducible refine wl_clear_run _ rfl (.tmp 31) 22 rfl _ rfl (hcl2 _ _) ?_))
        go_wp2
        go_ret
        exact ⟨_, rfl, FIN.out.1, FIN.out.2, rfl⟩


end Go.Proofs.Ytnbhdpmhgamjfaa.C

/- indices, the free function Printed by gen7/order.py. -/
namespace Go.Proofs.Ytnbhdpmhgamjfaa.C
open Go Go.RowKit Hp
set_option linter.unusedVariables false

theorem own_shape {w : World} {base : Nat} {E : TypeId} {size : Nat} {v : Value} {n : Nat} {xs : List Value} (h : w.ownsRow base E size v n xs) (hn : 0 < n) : ∃ g cap, v = .slice (some ⟨g, 0, none⟩) n cap ∧ base ≤ g ∧ Ty w g E := by
  rcases h.2 with ⟨_, h0⟩ | ⟨g, cap, cur, rfl, hb, hg, _⟩
  · omega
  · exact ⟨g, cap, rfl, hb, cur, (0, 0), hg⟩
theorem own_len {w : World} {base : Nat} {E : TypeId} {size : Nat} {v : Value} {n : Nat} {xs : List Value} (h : w.ownsRow base E size v n xs) : ∃ a cap, v = .slice a n cap := by
  rcases h.2 with ⟨rfl, h0⟩ | ⟨g, cap, cur, rfl, hb, hg, _⟩
  · exact ⟨none, 0, by rw [h0]⟩
  · exact ⟨_, cap, rfl⟩
/-! The past alone decides. -/
theorem getD_take {α : Type} (l : List α) (d : α) {n i : Nat} (h : i < n) : (l.take n).getD i d = l.getD i d := by
  simp [List.getD, h]
theorem any_congr {f g : Nat → Bool} {n : Nat} (h : ∀ i, i < n → f i = g i) : (List.range n).any f = (List.range n).any g := by
  induction n with
  | zero => rfl
  | succ n ih => rw [any_succ, any_succ, ih (fun i hi => h i (by omega)), h n (by omega)]
theorem wcAt_take (l : List Tx) (adm : List Bool) {n i k : Nat} (hi : i < n) (hk : k < i) : wcAt (l.take n) (adm.take n) i k = wcAt l adm i k := by
  unfold wcAt; rw [getD_take _ _ (by omega), getD_take _ _ (by omega), getD_take _ _ hi]
theorem inK_take (l : List Tx) (adm : List Bool) {n p m : Nat} (hp : p < n) (hm : m ≤ n) : inK (l.take n) (adm.take n) p m = inK l adm p m := by
  unfold inK; refine any_congr fun i hi => ?_
  unfold okk; rw [getD_take _ _ (by omega), getD_take _ _ (by omega), getD_take _ _ (by omega), getD_take _ _ (by omega)]
theorem outK_take (l : List Tx) (adm : List Bool) {n p m : Nat} (hp : p < n) (hm : m ≤ n) : outK (l.take n) (adm.take n) p m = outK l adm p m := by
  unfold outK; refine any_congr fun i hi => ?_
  unfold okk; rw [getD_take _ _ (by omega), getD_take _ _ (by omega), getD_take _ _ (by omega), getD_take _ _ (by omega)]
theorem admStep_take (l : List Tx) (adm : List Bool) {n i : Nat} (hi : i < n) : admStep (l.take n) (adm.take n) i = (admStep l adm i).take n := by
  unfold admStep
  rw [← List.take_set, any_congr (f := wcAt (l.take n) ((adm.set i true).take n) i) (g := wcAt l (adm.set i true) i) (fun k hk => wcAt_take l _ hi hk),
    any_congr (f := fun p => inK (l.take n) ((adm.set i true).take n) p (i + 1) && outK (l.take n) ((adm.set i true).take n) p (i + 1)) (g := fun p => inK l (adm.set i true) p (i + 1) && outK l (adm.set i true) p (i + 1))
      (fun p hp => by rw [inK_take l _ (by omega) (by omega), outK_take l _ (by omega) (by omega)]), ← List.take_set]
theorem admN_take (l : List Tx) {n : Nat} (hn : n ≤ l.length) : ∀ k, k ≤ n → admN (l.take n) k = (admN l k).take n := by
  intro k
  induction k with
  | zero => intro _; simp [admN, List.take_replicate]
  | succ k ih => intro hk; rw [admN_succ, admN_succ, ih (by omega), admStep_take l _ (by omega)]
theorem admN_past (l : List Tx) {n : Nat} : ∀ d, (admN l (n + d)).take n = (admN l n).take n := by
  intro d
  induction d with
  | zero => rfl
  | succ d ih =>
    rw [show n + (d + 1) = (n + d) + 1 by omega, admN_succ, ← ih]
    unfold admStep
    rw [List.take_set_of_le (by omega), List.take_set_of_le (by omega)]
theorem admit_take (l : List Tx) {n : Nat} (hn : n ≤ l.length) : admV (l.take n) = (admV l).take n := by
  unfold admV
  rw [List.length_take, Nat.min_eq_left hn, admN_take l hn n (Nat.le_refl _), show l.length = n + (l.length - n) by omega, admN_past]
theorem valid_take {l : List Tx} (h : Valid l) (n : Nat) : Valid (l.take n) := by
  have hle : (l.take n).length ≤ l.length := List.length_take_le' ..
  have hb : ∀ i, i < (l.take n).length → i < n := fun i hi => by simp at hi; omega
  refine ⟨by have := h.len; omega, ?_, ?_, ?_, ?_, ?_, ?_⟩ <;> intro i hi <;> have hn := hb _ hi <;> (try rw [getD_take _ _ (by omega)])
  · exact h.start i (by omega)
  · exact h.live i (by omega)
  · exact h.last i (by omega)
  · exact h.rd i (by omega)
  · exact h.wr i (by omega)
  · rw [getD_take _ _ (by omega)]; exact h.asc i (by omega)
theorem indexI_any (v : Value) (l : List Int) (s : Int) (w : World) (h : Ints w v l) :
    Calls Try.prog 64 #[v, .int .i64 s] w fun e w' => e = .returned (.int .i64 (idx (s == ·) l)) ∧ w = w' := by
  obtain ⟨a, cap, rfl, h1, h2, _, h3⟩ := h
  have H3 := Lib.hid h3
  clear h3
  go_enter Try.func64, Try.ntmps64
  go_wp2
  go_loop [8] (fun iv => ∃ k : Nat, k ≤ l.length ∧ iv = .int .i64 k ∧ ∀ j (h : j < l.length), j < k → (s == l[j]) = false) (fun iv => l.length - (intOf iv).toNat)
  case atStart => exact ⟨0, by omega, rfl, fun j _ hj => by omega⟩
  case round =>
    obtain ⟨k, hk, rfl, hb⟩ := hrel
    have HB := Lib.hid hb
    clear hb
    by_cases hlt : k < l.length
    · obtain ⟨b, off, rfl, _, hc⟩ := H3.out k hlt
      rw [Nat.mul_one] at hc
      obtain ⟨x, hx⟩ : ∃ x, x = l[k] := ⟨_, rfl⟩
      rw [← hx] at hc
      have HX := Lib.hid hx
      clear hx
      by_cases hq : (s == x) = true
      · have E := Lib.hid (idx_hit (p := (s == ·)) hlt (by rw [← HX.out]; exact hq) HB.out)
        go_wp2
        go_ret
        exact ⟨ret_int E.out.symm, rfl⟩
      · have hq' : (s == x) = false := by simpa using hq
        have EN : Hid ((s == l[k]) = false) := by unfold Hid; rw [← HX.out]; exact hq'
        clear hq
        go_wp2
        go_round
        case rel => exact ⟨k + 1, by omega, by go_num, fun j hj hjk => by
          by_cases e : j = k
          · subst e; exact EN.out
          · exact HB.out j hj (by omega)⟩
        case measure => simp [intOf]; omega
    · have E := Lib.hid (idx_miss (p := (s == ·)) (l := l) fun j hj => HB.out j hj (by omega))
      go_wp2
      go_ret
      exact ⟨ret_int E.out.symm, rfl⟩
theorem containsI_any (v : Value) (l : List Int) (s : Int) (w : World) (h : Ints w v l) :
    Calls Try.prog 47 #[v, .int .i64 s] w fun e w' => e = .returned (.bool (l.any (s == ·))) ∧ w = w' := by
  have H := Lib.hid h
  clear h
  have E := Lib.hid (idx_any (s == ·) l)
  go_enter Try.func47, Try.ntmps47
  go_wp2_with (go_at_call 64; refine (indexI_any _ _ _ _ H.out).mono ?_; rintro e w' ⟨rfl, rfl⟩)
  go_ret
  exact ⟨ret_bool E.out, rfl⟩
/-- Two numbers in a row of pairs (type 48). -/
def PairR (w : World) (b o : Nat) (p : Int × Int) : Prop := Ty w b 104 ∧ At w b o (.int .i64 p.1) ∧ At w b (o + 1) (.int .i64 p.2)
theorem pairR_grows : Grows PairR := fun _ _ _ _ _ h hu => ⟨h.1.up hu, h.2.1.grow hu, h.2.2.grow hu⟩
/-- Does an edge lead to t out of one that is left? -/
def into (t : Int) (rem : List Int) (x : Int × Int) : Bool := x.2 == t && rem.any (x.1 == ·)
theorem c50_any (x : Int × Int) (t : Int) (bt br : Nat) (vr : Value) (rem : List Int) (w : World) (ht : At w bt 0 (.int .i64 t)) (hr : At w br 0 vr) (hv : Ints w vr rem) :
    Calls Try.prog 46 #[.agg #[.int .i64 x.1, .int .i64 x.2], .pointer (some ⟨bt, 0, none⟩), .pointer (some ⟨br, 0, none⟩)] w fun e w' => e = .returned (.bool (into t rem x)) ∧ Up w w' := by
  have HV := Lib.hid (hv.grow intR_grows ((Up.refl w).alloc (.cells #[.int .i64 x.1, .int .i64 x.2] 104)))
  obtain ⟨a, cap, rfl, _, _⟩ := hv
  obtain ⟨hbt, ct⟩ := ht
  obtain ⟨hbr, cr⟩ := hr
  obtain ⟨x1, x2⟩ := x
  by_cases hq : x2 = t
  · subst hq
    have E : Hid (into x2 rem (x1, x2) = rem.any (x1 == ·)) := by simp [Hid, into]
    go_enter Try.func46, Try.ntmps46
    go_wp2_with (go_at_call 47; refine (containsI_any _ _ _ _ HV.out).mono ?_; rintro e w1 ⟨rfl, rfl⟩)
    go_ret
    exact ⟨ret_bool E.out.symm, (Up.refl _).alloc _⟩
  · have E : Hid (into t rem (x1, x2) = false) := by simp [Hid, into, hq]
    have hq1 : (x2 == t) = false := by simpa using hq
    go_enter Try.func46, Try.ntmps46
    go_wp2
    go_ret
    exact ⟨ret_bool E.out.symm, (Up.refl _).alloc _⟩
theorem if60_any (t : Int) (bt br : Nat) (vr : Value) (rem : List Int) (l : List (Int × Int)) (v : Value) (w : World) (h : Arr PairR 2 w v l) (hbt : At w bt 0 (.int .i64 t)) (hbr : At w br 0 vr) (hvr : Ints w vr rem) :
    Calls Try.prog 63 #[v, .func (.func 46) #[] #[.pointer (some ⟨bt, 0, none⟩), .pointer (some ⟨br, 0, none⟩)]] w fun e w' => e = .returned (.int .i64 (idx (fun x => into t rem x) l)) ∧ Up w w' := by
  obtain ⟨a, cap, rfl, h1, h2, _, h3⟩ := h
  have H3 := Lib.hid h3
  clear h3
  go_enter Try.func63, Try.ntmps63
  go_wp2
  go_loopw [8] (fun iv wr => ∃ k : Nat, k ≤ l.length ∧ iv = .int .i64 k ∧ (∀ j (h : j < l.length), j < k → (fun x => into t rem x) l[j] = false) ∧ Up w wr) (fun iv _ => l.length - (intOf iv).toNat)
  case atStart => exact ⟨0, by omega, rfl, fun j _ hj => by omega, Up.refl _⟩
  case round =>
    obtain ⟨k, hk, rfl, hbb, hu⟩ := hrel
    have HB := Lib.hid hbb
    clear hbb
    by_cases hlt : k < l.length
    · obtain ⟨b, off, rfl, hr⟩ := H3.out k hlt
      have HX : Hid (∀ x, x = l[k] → (∀ y, (fun x => into t rem x) x = y → (fun x => into t rem x) l[k] = y)) := fun x hx y hy => by rw [← hx]; exact hy
      obtain ⟨x, hx⟩ : ∃ x, x = l[k] := ⟨_, rfl⟩
      rw [← hx] at hr
      have HY := Lib.hid (HX.out x hx)
      clear hx HX
      obtain ⟨y, hy⟩ : ∃ y, y = into t rem x := ⟨_, rfl⟩
      have Y := Lib.hid hy.symm
      clear hy
      have hbt := hbt.grow hu
      have hbr := hbr.grow hu
      have hvr := hvr.grow intR_grows hu
      obtain ⟨_, ⟨hbb, c0⟩, _, c1⟩ := pairR_grows _ _ _ _ _ hr hu
      obtain ⟨x1, x2⟩ := x
      dsimp only at c0 c1
      cases y with
      | true =>
        have E := Lib.hid (idx_hit (p := fun x => into t rem x) hlt (HY.out _ Y.out) HB.out)
        go_wp2_with (go_at_call 46; refine (c50_any (x1, x2) t bt br vr rem _ hbt hbr hvr).mono ?_; rintro e w2 ⟨rfl, hu2⟩; rw [Y.out])
        go_ret
        exact ⟨ret_int E.out.symm, Up.trans hu (by assumption)⟩
      | false =>
        go_wp2_with (go_at_call 46; refine (c50_any (x1, x2) t bt br vr rem _ hbt hbr hvr).mono ?_; rintro e w2 ⟨rfl, hu2⟩; rw [Y.out])
        go_roundw
        case rel => exact ⟨k + 1, by omega, by go_num, fun j hj hjk => by
          by_cases e : j = k
          · subst e; exact HY.out _ Y.out
          · exact HB.out j hj (by omega), Up.trans hu (by assumption)⟩
        case measure => simp [intOf]; omega
    · have E := Lib.hid (idx_miss (p := fun x => into t rem x) (l := l) fun j hj => HB.out j hj (by omega))
      go_wp2
      go_ret
      exact ⟨ret_int E.out.symm, hu⟩
theorem cf49_any (t : Int) (bt br : Nat) (vr : Value) (rem : List Int) (l : List (Int × Int)) (v : Value) (w : World) (h : Arr PairR 2 w v l) (hbt : At w bt 0 (.int .i64 t)) (hbr : At w br 0 vr) (hvr : Ints w vr rem) :
    Calls Try.prog 45 #[v, .func (.func 46) #[] #[.pointer (some ⟨bt, 0, none⟩), .pointer (some ⟨br, 0, none⟩)]] w fun e w' => e = .returned (.bool (l.any fun x => into t rem x)) ∧ Up w w' := by
  have E := Lib.hid (idx_any (fun x => into t rem x) l)
  go_enter Try.func45, Try.ntmps45
  go_wp2_with (go_at_call 63; refine (if60_any t bt br vr rem l v _ h hbt hbr hvr).mono ?_; rintro e w1 ⟨rfl, hu1⟩)
  go_ret
  exact ⟨ret_bool E.out, by assumption⟩
/-- Nothing that is left leads to t. -/
def free (edges : List (Int × Int)) (rem : List Int) (t : Int) : Bool := !(edges.any fun x => into t rem x)
theorem c48_any (t : Int) (be br : Nat) (ve vr : Value) (edges : List (Int × Int)) (rem : List Int) (w : World) (he : At w be 0 ve) (hr : At w br 0 vr) (hve : Arr PairR 2 w ve edges) (hvr : Ints w vr rem) :
    Calls Try.prog 44 #[.int .i64 t, .pointer (some ⟨be, 0, none⟩), .pointer (some ⟨br, 0, none⟩)] w fun e w' => e = .returned (.bool (free edges rem t)) ∧ Up w w' := by
  have U := (Up.refl w).alloc (.cells #[.int .i64 t] 3)
  have HE := Lib.hid (hve.grow pairR_grows U)
  have HV := Lib.hid (hvr.grow intR_grows U)
  have HR := Lib.hid (hr.grow U)
  obtain ⟨a, cap, rfl, _, _⟩ := hve
  obtain ⟨hbe, ce⟩ := he
  clear hvr
  go_enter Try.func44, Try.ntmps44
  go_wp2_with (go_at_call 45; refine (cf49_any t w.heap.size br vr rem edges _ _ HE.out (At.new _ _ _ _ _ rfl) HR.out HV.out).mono ?_; rintro e w1 ⟨rfl, hu1⟩)
  go_ret
  exact ⟨rfl, Up.trans U (by assumption)⟩
theorem if43s_any (be br : Nat) (ve vr : Value) (edges : List (Int × Int)) (rem : List Int) (l : List Int) (v : Value) (w : World) (h : Arr IntR 1 w v l) (hbe : At w be 0 ve) (hbr : At w br 0 vr) (hve : Arr PairR 2 w ve edges) (hvr : Ints w vr rem) :
    Calls Try.prog 43 #[v, .func (.func 44) #[] #[.pointer (some ⟨be, 0, none⟩), .pointer (some ⟨br, 0, none⟩)]] w fun e w' => e = .returned (.int .i64 (idx (fun x => free edges rem x) l)) ∧ Up w w' := by
  obtain ⟨a, cap, rfl, h1, h2, _, h3⟩ := h
  have H3 := Lib.hid h3
  clear h3
  go_enter Try.func43, Try.ntmps43
  go_wp2
  go_loopw [8] (fun iv wr => ∃ k : Nat, k ≤ l.length ∧ iv = .int .i64 k ∧ (∀ j (h : j < l.length), j < k → (fun x => free edges rem x) l[j] = false) ∧ Up w wr) (fun iv _ => l.length - (intOf iv).toNat)
  case atStart => exact ⟨0, by omega, rfl, fun j _ hj => by omega, Up.refl _⟩
  case round =>
    obtain ⟨k, hk, rfl, hbb, hu⟩ := hrel
    have HB := Lib.hid hbb
    clear hbb
    by_cases hlt : k < l.length
    · obtain ⟨b, off, rfl, hr⟩ := H3.out k hlt
      have HX : Hid (∀ x, x = l[k] → (∀ y, (fun x => free edges rem x) x = y → (fun x => free edges rem x) l[k] = y)) := fun x hx y hy => by rw [← hx]; exact hy
      obtain ⟨x, hx⟩ : ∃ x, x = l[k] := ⟨_, rfl⟩
      rw [← hx] at hr
      have HY := Lib.hid (HX.out x hx)
      clear hx HX
      obtain ⟨y, hy⟩ : ∃ y, y = free edges rem x := ⟨_, rfl⟩
      have Y := Lib.hid hy.symm
      clear hy
      have hbe := hbe.grow hu
      have hbr := hbr.grow hu
      have hve := hve.grow pairR_grows hu
      have hvr := hvr.grow intR_grows hu
      obtain ⟨hbb, c0⟩ := intR_grows _ _ _ _ _ hr hu
      rw [Nat.mul_one] at c0
      cases y with
      | true =>
        have E := Lib.hid (idx_hit (p := fun x => free edges rem x) hlt (HY.out _ Y.out) HB.out)
        go_wp2_with (go_at_call 44; refine (c48_any x be br ve vr edges rem _ hbe hbr hve hvr).mono ?_; rintro e w2 ⟨rfl, hu2⟩; rw [Y.out])
        go_ret
        exact ⟨ret_int E.out.symm, Up.trans hu (by assumption)⟩
      | false =>
        go_wp2_with (go_at_call 44; refine (c48_any x be br ve vr edges rem _ hbe hbr hve hvr).mono ?_; rintro e w2 ⟨rfl, hu2⟩; rw [Y.out])
        go_roundw
        case rel => exact ⟨k + 1, by omega, by go_num, fun j hj hjk => by
          by_cases e : j = k
          · subst e; exact HY.out _ Y.out
          · exact HB.out j hj (by omega), Up.trans hu (by assumption)⟩
        case measure => simp [intOf]; omega
    · have E := Lib.hid (idx_miss (p := fun x => free edges rem x) (l := l) fun j hj => HB.out j hj (by omega))
      go_wp2
      go_ret
      exact ⟨ret_int E.out.symm, hu⟩
end Go.Proofs.Ytnbhdpmhgamjfaa.C
