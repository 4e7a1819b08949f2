/- joined: Mva, Mvb, Mvc -/
import Derived.Test.YtnbhdpmhgamjfaaEl
import Derived.Test.YtnbhdpmhgamjfaaSc
/- slices.Insert at chains. -/
namespace Go.Proofs.Ytnbhdpmhgamjfaa.Mv
open Go Go.RowKit Hp
set_option linter.unusedVariables false
theorem Try.infoChain : (Try.prog.info? 97).map (fun i => (i.zero, i.size, i.bytes)) = some (some (.agg #[.string ByteArray.empty, .slice none 0 0]), 2, 40) := by kernel_rfl

set_option maxRecDepth 100000 in
set_option maxHeartbeats 4000000 in
theorem ins_any (v : Value) (n i : Nat) (xs news : List Value) (vb : Nat) (w : World) (hown : w.ownsRow 0 97 2 v n xs) (hi : i ≤ n) (hn : n ≤ 1000000) (hb : Blk w vb news 97) (hnl : news.length = 2) (hne : v.ownBlock ≠ some vb)
    (h1x : ∀ u ∈ xs, u.oneCell' = true) (h1n : ∀ u ∈ news, u.oneCell' = true) :
    Calls Try.prog 61 #[v, .int .i64 i, .slice (some ⟨vb, 0, none⟩) 1 1] w fun e w' => ∃ v', e = .returned v' ∧ w'.ownsRow 0 97 2 v' (n + 1) (xs.take (i * 2) ++ news ++ xs.drop (i * 2)) ∧
      w.grownBy w' v.ownBlock ∧ (v'.ownBlock = v.ownBlock ∨ ∃ g, v'.ownBlock = some g ∧ w.heap.size ≤ g) := by
  obtain ⟨i0, hi0, hz0, hz1, hz2⟩ := info_parts Try.infoChain
  have NEWS : Hid (∀ j u, news[j]? = some u → w.cell? ((⟨vb, 0, none⟩ : Addr).add j) = some u) := fun j u hj => by rw [Addr.add_lit, Nat.zero_add]; exact (hb.at hj).2
  have HX := Lib.hid hown.1
  have HB := Lib.hid hb
  have HNL := Lib.hid hnl
  have X1 := Lib.hid h1x
  have N1 := Lib.hid h1n
  have HNE := Lib.hid hne
  obtain ⟨a, c, rfl, hc1, hc2, hc3⟩ := own_form hown
  have HC3 := Lib.hid hc3
  clear hnl h1x h1n hne hc3 hb
  by_cases hin : i = n
  · have NL : Hid (news.length = 1 * 2) := by unfold Hid; rw [HNL.out]
    have q1 : ((n : Int) == (n : Int)) = true := by simp
    have TK : Hid (xs.take (n * 2) ++ news ++ xs.drop (n * 2) = xs ++ news) := by unfold Hid; rw [← HX.out, List.take_length, List.drop_length, List.append_nil]
    subst hin
    have HO := Lib.hid hown
    clear hown
    by_cases hci : c = i
    · subst hci
      go_enter Try.func61, Try.ntmps61
      go_wp2_with (at_builtin; refine wpList_append_own_at _ rfl (.tmp 23) (.tmp 24) 81 rfl 0 97 i0 (.agg #[.string ByteArray.empty, .slice none 0 0]) 2 40 Try.underlying81 hi0 hz0 hz1 hz2 rfl (by decide) _ _ _ rfl HO.out ⟨vb, 0, none⟩ 1 1 news rfl NL.out NEWS.out N1.out (by unfold maxLen; omega) (by omega) (by omega) ?_)
      intro v' w1 hown' hg _ hat
      have HO' := Lib.hid hown'
      have HG := Lib.hid hg
      have HAT := Lib.hid hat
      clear hown' hg hat
      go_wp2
      go_ret
      refine ⟨_, rfl, by rw [TK.out]; exact HO'.out, HG.out, ?_⟩
      rcases HAT.out with h | h
      · exact .inl h
      · exact .inr ⟨_, h, Nat.le_refl _⟩
    · have hci2 : i < c := by omega
      go_enter Try.func61, Try.ntmps61
      go_wp2_with (at_builtin; refine wpList_append_own_at _ rfl (.tmp 23) (.tmp 24) 81 rfl 0 97 i0 (.agg #[.string ByteArray.empty, .slice none 0 0]) 2 40 Try.underlying81 hi0 hz0 hz1 hz2 rfl (by decide) _ _ _ rfl HO.out ⟨vb, 0, none⟩ 1 1 news rfl NL.out NEWS.out N1.out (by unfold maxLen; omega) (by omega) (by omega) ?_)
      intro v' w1 hown' hg _ hat
      have HO' := Lib.hid hown'
      have HG := Lib.hid hg
      have HAT := Lib.hid hat
      clear hown' hg hat
      go_wp2
      go_ret
      refine ⟨_, rfl, by rw [TK.out]; exact HO'.out, HG.out, ?_⟩
      rcases HAT.out with h | h
      · exact .inl h
      · exact .inr ⟨_, h, Nat.le_refl _⟩
  · have hlt : i < n := by omega
    have q1 : ((i : Int) == (n : Int)) = false := beq_eq_false_iff_ne.2 (by omega)
    obtain ⟨hx, h⟩ := hown
    rcases h with ⟨_, h0⟩ | ⟨g, cap, cur, hv, hbase, hg, hnc, hcm, hcs, htk⟩
    · omega
    · simp only [Value.slice.injEq] at hv
      obtain ⟨rfl, _, rfl⟩ := hv
      have HG := Lib.hid hg
      have HCS := Lib.hid hcs
      have HTK := Lib.hid htk
      clear hx hg hcs htk hbase hcm
      have hic : ¬ c = i := by omega
      have hsz : (Try.prog.info? 97).map (·.size) = some 2 := by rw [hi0]; simp [hz1]
      have HSZ := Lib.hid hsz
      have XD : Hid ((xs.drop (i * 2)).length = (n - i) * 2) := by unfold Hid; rw [List.length_drop, HX.out]; omega
      have XD1 : Hid (∀ u ∈ xs.drop (i * 2), u.oneCell' = true) := fun u hu => X1.out u (List.mem_of_mem_drop hu)
      have cellg : ∀ {W : World} {cr : Array Value}, W.heap[g]? = some (.cells cr 97 (0, 0)) → cr.toList.take (n * 2) = xs → ∀ j u, xs[j]? = some u → W.cell? ⟨g, j, none⟩ = some u := fun hW ht j u hj => by
        rw [← ht, List.getElem?_take] at hj
        unfold World.cell?
        simp only [hW]
        split at hj
        · simpa using hj
        · cases hj
      have CG := Lib.hid (fun j u hj => cellg HG.out HTK.out j u hj)
      have hgl : g < w.heap.size := Ty.lt ⟨cur, (0, 0), HG.out⟩
      have hvg : vb ≠ g := fun e => HNE.out (by rw [e]; rfl)
      have hvl := HB.out.lt
      clear hsz cellg
      by_cases hroom : n + 1 ≤ c
      · have hr1 : decide ((c : Int) < (n : Int) + 1) = false := decide_eq_false (by omega)
        have hic1 : ¬ c = i + 1 := by omega
        -- v and s lie apart
        have hov : ∀ W : World, W.heap[g]? = w.heap[g]? → W.heap[vb]? = w.heap[vb]? → ∀ lb cb, (callFunc 70 #[.slice (some ⟨vb, 0, none⟩) 1 1, .slice (some ⟨g, (i + 1) * 2, none⟩) lb cb]).run Try.prog W = .ok (.value (.bool false)) W := fun W e1 e2 lb cb => by
          rw [run_callFunc_extern Try.func70 (by kernel_rfl) (by kernel_rfl) (by kernel_rfl) (e := Extern.SlicesOverlaps.overlaps #[81, 81] #[4]) (by kernel_rfl),
            Lib.run_overlaps_apart W 81 4 97 Try.underlying81 2 Try.sizeOf97 ⟨vb, 0, none⟩ ⟨g, (i + 1) * 2, none⟩ 1 1 lb cb hvg 97 97 news.toArray.size cur.size
              (by unfold World.shape?; rw [e2, show w.heap[vb]? = _ from HB.out]) (by unfold World.shape?; rw [e1, HG.out]) (by rw [HCS.out]; omega) (by unfold World.frozen?; simp only [e2, show w.heap[vb]? = _ from HB.out]; simp) (by unfold World.frozen?; simp only [e2, show w.heap[vb]? = _ from HB.out]; simp)]
          rfl
        -- the two copies
        obtain ⟨W1, hW1⟩ : ∃ W1, W1 = w.drew.setRow g (cur.toList.take ((i + 1) * 2) ++ xs.drop (i * 2) ++ cur.toList.drop ((i + 1) * 2 + (xs.drop (i * 2)).length)).toArray := ⟨_, rfl⟩
        have hcp1 : ∀ ty dc sc, (Builtin.copy_ #[81, 81] ty #[.slice (some ⟨g, (i + 1) * 2, none⟩) (n - i) dc, .slice (some ⟨g, i * 2, none⟩) (n + 1 - i) sc]).run Try.prog w.drew = .ok (goInt (n - i : Nat)) W1 := fun ty dc sc => by
          rw [hW1]
          exact run_copy_k w.drew 81 81 ty 97 2 g ((i + 1) * 2) (n - i) dc ⟨g, i * 2, none⟩ (n + 1 - i) sc (n - i) cur 97 (xs.drop (i * 2)) Try.underlying81 HSZ.out (by show min _ _ = _; omega) XD.out
            (fun j u hj => by rw [Addr.add_lit]; rw [List.getElem?_drop] at hj; exact CG.out _ u hj) HG.out (by rw [XD.out, HCS.out]; omega) XD1.out
        have B1 : W1.heap[g]? = some (.cells (cur.toList.take ((i + 1) * 2) ++ xs.drop (i * 2) ++ cur.toList.drop ((i + 1) * 2 + (xs.drop (i * 2)).length)).toArray 97 (0, 0)) := by rw [hW1]; exact setRow_at w.drew g cur _ _ HG.out
        have BV : W1.heap[vb]? = w.heap[vb]? := by rw [hW1]; exact setRow_other w.drew g vb _ hvg
        have CL1 : (cur.toList.take ((i + 1) * 2) ++ xs.drop (i * 2) ++ cur.toList.drop ((i + 1) * 2 + (xs.drop (i * 2)).length)).length = c * 2 := by simp only [List.length_append, List.length_take, List.length_drop, Array.length_toList, HCS.out, HX.out]; omega
        obtain ⟨cur1, hcur1⟩ : ∃ cur1, cur1 = cur.toList.take ((i + 1) * 2) ++ xs.drop (i * 2) ++ cur.toList.drop ((i + 1) * 2 + (xs.drop (i * 2)).length) := ⟨_, rfl⟩
        rw [← hcur1] at B1 CL1 hW1
        obtain ⟨W2, hW2⟩ : ∃ W2, W2 = W1.setRow g (cur1.take (i * 2) ++ news ++ cur1.drop (i * 2 + news.length)).toArray := ⟨_, rfl⟩
        have hcp2 : ∀ ty dc, (Builtin.copy_ #[81, 81] ty #[.slice (some ⟨g, i * 2, none⟩) (n + 1 - i) dc, .slice (some ⟨vb, 0, none⟩) 1 1]).run Try.prog W1 = .ok (goInt (1 : Nat)) W2 := fun ty dc => by
          rw [hW2]
          have h := run_copy_k (P := Try.prog) W1 81 81 ty 97 2 g (i * 2) (n + 1 - i) dc ⟨vb, 0, none⟩ 1 1 1 cur1.toArray 97 news Try.underlying81 HSZ.out (by show min _ _ = _; omega) (by rw [HNL.out])
            (fun j u hj => by rw [World.cell?_of_block (w := w) (a := (⟨vb, 0, none⟩ : Addr).add j) (by rw [Addr.add_lit]; exact BV)]; exact NEWS.out j u hj) B1 (by rw [HNL.out]; simp only [List.size_toArray, CL1]; omega) N1.out
          simpa using h
        have FIN : Hid (W2.ownsRow 0 97 2 (.slice (some ⟨g, 0, none⟩) (n + 1) c) (n + 1) (xs.take (i * 2) ++ news ++ xs.drop (i * 2)) ∧ w.grownBy W2 (some g)) := by
          have e1 : cur1.take (i * 2) = xs.take (i * 2) := by
            rw [hcur1, List.append_assoc, List.take_append_of_le_length (by simp only [List.length_take, Array.length_toList, HCS.out]; omega), List.take_take, ← HTK.out, List.take_take]
            congr 1; omega
          have e2 : cur1.drop (i * 2 + news.length) = xs.drop (i * 2) ++ cur.toList.drop ((i + 1) * 2 + (xs.drop (i * 2)).length) := by
            rw [hcur1, List.append_assoc, HNL.out, show i * 2 + 2 = (cur.toList.take ((i + 1) * 2)).length by simp only [List.length_take, Array.length_toList, HCS.out]; omega, List.drop_left]
          have B2 : W2.heap[g]? = some (.cells (xs.take (i * 2) ++ news ++ (xs.drop (i * 2) ++ cur.toList.drop ((i + 1) * 2 + (xs.drop (i * 2)).length))).toArray 97 (0, 0)) := by
            rw [hW2, e1, e2]; exact setRow_at W1 g _ _ _ B1
          have hl : (xs.take (i * 2) ++ news ++ xs.drop (i * 2)).length = (n + 1) * 2 := by simp only [List.length_append, List.length_take, List.length_drop, HX.out, HNL.out]; omega
          refine ⟨⟨hl, .inr ⟨g, c, _, rfl, Nat.zero_le _, B2, hroom, by unfold maxLen; exact hc2, ?_, ?_⟩⟩, ?_⟩
          · simp only [List.size_toArray, List.length_append, List.length_take, List.length_drop, Array.length_toList, HX.out, HNL.out, HCS.out]; omega
          · rw [← List.append_assoc, ← hl]
            simp only [List.append_assoc]
            rw [← List.append_assoc, ← List.append_assoc, ← List.append_assoc]
            exact List.take_left' (by simp only [List.append_assoc])
          · rw [hW2]
            refine setRow_grown _ _ _ _ ?_ (.inl rfl)
            rw [hW1]
            exact setRow_grown _ _ _ _ ⟨rfl, rfl, rfl, Nat.le_refl _, fun _ _ _ => rfl⟩ (.inl rfl)
        have HOV := Lib.hid hov
        have HW := Lib.hid hW1
        clear hov hW1 hW2 hcur1 B1 BV CL1
        go_enter Try.func61, Try.ntmps61
        go_wp2_with (simp only [HOV.out w rfl rfl])
        have hb1 : (0 : Int) ≤ (i : Int) + 1 := by omega
        have hb3 : (i : Int) ≤ (n : Int) + 1 := by omega
        have hb5 : (i : Int) + 1 ≤ (n : Int) + 1 := by omega
        have hb6 : i ≤ n + 1 := by omega
        have hw1 : IntKind.i64.wrap ((i : Int) + 1) = (i : Int) + 1 := IntWalk.i64_in _ (by omega)
        have htn : ((i : Int) + 1).toNat = i + 1 := by omega
        go_region_law (refine step_copy_run rfl (.tmp 73) (.tmp 76) 81 81 rfl _ _ (by simp [Act.eval, Act.put]) (by simp [Act.eval, Act.put]) (hcp1 _ _ _) ?_)
        all_goals
          clear hw1 htn
          go_wp2_with (at_builtin; refine wl_copy_run _ rfl (.tmp 80) (.tmp 81) 81 81 rfl _ _ rfl rfl (hcp2 _ _) ?_)
          go_ret
          exact ⟨_, rfl, FIN.out.1, FIN.out.2, .inl rfl⟩
      · have hr1 : decide ((c : Int) < (n : Int) + 1) = true := decide_eq_true (by omega)
        obtain rfl : c = n := by omega
        have e0 : ((c : Int) + 1 - (i : Int)) = ((c + 1 - i : Nat) : Int) := by omega
        have OL : (xs.take (i * 2)).length = i * 2 := by rw [List.length_take, HX.out]; omega
        have R1 := run_append_grow_zeros (P := Try.prog) w 81 3 81 97 i0 (.agg #[.string ByteArray.empty, .slice none 0 0]) .i64 .i64 Try.underlying81 Try.underlying3 hi0 hz0 ⟨g, 0, none⟩ i c (xs.take (i * 2)) (by rw [OL, hz1])
          (fun j u hj => by rw [Addr.add_lit, Nat.zero_add]; exact CG.out j u (by rw [List.getElem?_take] at hj; split at hj; exact hj; cases hj)) (c + 1 - i) (by omega) (by rw [hz1]; decide) (by omega) (by omega) (growslice_fits (by omega) (by rw [hz2]; omega)) (by rw [hz2]; omega)
        have e2 : i + (c + 1 - i) = c + 1 := by omega
        rw [e2, ← e0] at R1
        have hC1 := grownCap_ge w (c + 1) c 97
        have hC2 := grownCap_le_maxLen w (c + 1) c 97 (by unfold maxLen; omega)
        generalize grownCap w (c + 1) c 97 = C at *
        obtain ⟨Z, hZ⟩ : ∃ Z : List Value, Z = (Builtin.zeroCells (.agg #[.string ByteArray.empty, .slice none 0 0] : Value).cells (c + 1 - i)).toList ++ (Builtin.zeroCells (.agg #[.string ByteArray.empty, .slice none 0 0] : Value).cells (C - (c + 1))).toList := ⟨_, rfl⟩
        have ZL : Z.length = (C - i) * 2 := by
          rw [hZ, List.length_append, zeroCells_len, zeroCells_len]
          show (c + 1 - i) * 2 + (C - (c + 1)) * 2 = _
          omega
        have eA : (xs.take (i * 2)).toArray ++ Builtin.zeroCells (.agg #[.string ByteArray.empty, .slice none 0 0] : Value).cells (c + 1 - i) ++ Builtin.zeroCells (.agg #[.string ByteArray.empty, .slice none 0 0] : Value).cells (C - (c + 1)) = (xs.take (i * 2) ++ Z).toArray := by
          apply Array.toList_inj.1
          rw [hZ]; simp
        rw [eA] at R1
        clear hZ eA
        obtain ⟨W1, hW1⟩ : ∃ W1, W1 = w.drew.alloc (.cells (xs.take (i * 2) ++ Z).toArray 97) := ⟨_, rfl⟩
        rw [← hW1] at R1
        have B1 : W1.heap[w.heap.size]? = some (.cells (xs.take (i * 2) ++ Z).toArray 97 (0, 0)) := by rw [hW1]; exact heap_alloc_new w.drew _
        have BO : ∀ b, b < w.heap.size → W1.heap[b]? = w.heap[b]? := fun b hb => by rw [hW1]; exact Below.heap_alloc w.drew _ b hb
        obtain ⟨W2, hW2⟩ : ∃ W2, W2 = W1.setRow w.heap.size (xs.take (i * 2) ++ news ++ Z.drop 2).toArray := ⟨_, rfl⟩
        have hcp1 : ∀ ty dc, (Builtin.copy_ #[81, 81] ty #[.slice (some ⟨w.heap.size, i * 2, none⟩) (c + 1 - i) dc, .slice (some ⟨vb, 0, none⟩) 1 1]).run Try.prog W1 = .ok (goInt (1 : Nat)) W2 := fun ty dc => by
          rw [hW2]
          have h := run_copy_k (P := Try.prog) W1 81 81 ty 97 2 w.heap.size (i * 2) (c + 1 - i) dc ⟨vb, 0, none⟩ 1 1 1 (xs.take (i * 2) ++ Z).toArray 97 news Try.underlying81 HSZ.out (by show min _ _ = _; omega) (by rw [HNL.out])
            (fun j u hj => by rw [World.cell?_of_block (w := w) (a := (⟨vb, 0, none⟩ : Addr).add j) (by rw [Addr.add_lit]; exact BO vb hvl)]; exact NEWS.out j u hj) B1 (by rw [HNL.out]; simp only [List.size_toArray, List.length_append, OL, ZL]; omega) N1.out
          have q1 : (xs.take (i * 2) ++ Z).take (i * 2) = xs.take (i * 2) := List.take_left' OL
          have q2 : (xs.take (i * 2) ++ Z).drop (i * 2 + news.length) = Z.drop 2 := by
            rw [HNL.out, List.drop_append, OL, List.drop_eq_nil_of_le (by rw [OL]; omega), List.nil_append]; congr 1; omega
          simp only [q1, q2] at h
          exact h
        have B2 : W2.heap[w.heap.size]? = some (.cells (xs.take (i * 2) ++ news ++ Z.drop 2).toArray 97 (0, 0)) := by rw [hW2]; exact setRow_at W1 _ _ _ _ B1
        have BO2 : ∀ b, b < w.heap.size → W2.drew.heap[b]? = w.heap[b]? := fun b hb => by rw [hW2]; exact (setRow_other W1 _ b _ (by omega)).trans (BO b hb)
        have WG2 : w.grownBy W2 none := by
          rw [hW2]
          refine setRow_grown _ _ _ _ ?_ (.inr (Nat.le_refl _))
          rw [hW1]
          exact ⟨rfl, rfl, rfl, by simp, fun b hb _ => Below.heap_alloc w.drew _ b hb⟩
        obtain ⟨W3, hW3⟩ : ∃ W3, W3 = W2.drew.setRow w.heap.size (xs.take (i * 2) ++ news ++ xs.drop (i * 2) ++ Z.drop (2 + (xs.drop (i * 2)).length)).toArray := ⟨_, rfl⟩
        have hcp2 : ∀ ty dc sc, (Builtin.copy_ #[81, 81] ty #[.slice (some ⟨w.heap.size, (i + 1) * 2, none⟩) (c - i) dc, .slice (some ⟨g, i * 2, none⟩) (c - i) sc]).run Try.prog W2.drew = .ok (goInt (c - i : Nat)) W3 := fun ty dc sc => by
          rw [hW3]
          have h := run_copy_k (P := Try.prog) W2.drew 81 81 ty 97 2 w.heap.size ((i + 1) * 2) (c - i) dc ⟨g, i * 2, none⟩ (c - i) sc (c - i) (xs.take (i * 2) ++ news ++ Z.drop 2).toArray 97 (xs.drop (i * 2)) Try.underlying81 HSZ.out (by show min _ _ = _; omega) XD.out
            (fun j u hj => by rw [World.cell?_of_block (w := w) (a := (⟨g, i * 2, none⟩ : Addr).add j) (by rw [Addr.add_lit]; exact BO2 g hgl)]; rw [Addr.add_lit]; rw [List.getElem?_drop] at hj; exact CG.out _ u hj) B2
            (by rw [XD.out]; simp only [List.size_toArray, List.length_append, List.length_drop, OL, ZL, HNL.out]; omega) XD1.out
          have q0 : (xs.take (i * 2) ++ news).length = (i + 1) * 2 := by rw [List.length_append, OL, HNL.out]; omega
          have q1 : (xs.take (i * 2) ++ news ++ Z.drop 2).take ((i + 1) * 2) = xs.take (i * 2) ++ news := List.take_left' q0
          have q2 : (xs.take (i * 2) ++ news ++ Z.drop 2).drop ((i + 1) * 2 + (xs.drop (i * 2)).length) = Z.drop (2 + (xs.drop (i * 2)).length) := by
            rw [List.drop_append, q0, List.drop_eq_nil_of_le (by rw [q0]; omega), List.nil_append, List.drop_drop]; congr 1; omega
          simp only [q1, q2] at h
          exact h
        have FIN : Hid (W3.ownsRow 0 97 2 (.slice (some ⟨w.heap.size, 0, none⟩) (c + 1) C) (c + 1) (xs.take (i * 2) ++ news ++ xs.drop (i * 2)) ∧ w.grownBy W3 (some g)) := by
          have B3 : W3.heap[w.heap.size]? = some (.cells (xs.take (i * 2) ++ news ++ xs.drop (i * 2) ++ Z.drop (2 + (xs.drop (i * 2)).length)).toArray 97 (0, 0)) := by rw [hW3]; exact setRow_at W2.drew _ _ _ _ B2
          have hl : (xs.take (i * 2) ++ news ++ xs.drop (i * 2)).length = (c + 1) * 2 := by simp only [List.length_append, List.length_take, List.length_drop, HX.out, HNL.out]; omega
          refine ⟨⟨hl, .inr ⟨w.heap.size, C, _, rfl, Nat.zero_le _, B3, hC1, hC2, ?_, ?_⟩⟩, ?_⟩
          · have := hl
            simp only [List.size_toArray, List.length_append (bs := Z.drop _), hl, List.length_drop, ZL, XD.out]
            omega
          · exact List.take_left' hl
          · have := setRow_grown W2.drew w w.heap.size (xs.take (i * 2) ++ news ++ xs.drop (i * 2) ++ Z.drop (2 + (xs.drop (i * 2)).length)).toArray (row := none) ⟨WG2.os, WG2.tape, WG2.output, WG2.size, WG2.block⟩ (.inr (Nat.le_refl _))
            rw [hW3]
            exact ⟨this.os, this.tape, this.output, this.size, fun b hb _ => this.block b hb (by simp)⟩
        have R1' := Lib.hid R1
        have hC3 : c + 1 ≤ C := hC1
        have hC4 : C ≤ 9223372036854775807 := by unfold maxLen at hC2; exact hC2
        have nC1 : ¬ C = i := by omega
        have nC2 : ¬ C = i + 1 := by omega
        clear hW1 hW2 hW3 B1 B2 BO BO2 WG2 R1 e2 e0 ZL OL hC1 hC2
        go_enter Try.func61, Try.ntmps61
        go_wp2_with (at_builtin; refine Lib.wpList_append_run _ rfl (.tmp 34) (.tmp 39) 81 3 rfl _ _ rfl rfl _ _ R1'.out ?_)
        have hb1 : (0 : Int) ≤ (i : Int) + 1 := by omega
        have hb3 : (i : Int) ≤ (c : Int) := by omega
        have hb5 : (i : Int) + 1 ≤ (c : Int) + 1 := by omega
        have hb6 : (i : Int) + 1 ≤ (C : Int) := by omega
        have hw1 : IntKind.i64.wrap ((i : Int) + 1) = (i : Int) + 1 := IntWalk.i64_in _ (by omega)
        have htn : ((i : Int) + 1).toNat = i + 1 := by omega
        go_region_law (refine step_copy_run rfl (.tmp 50) (.tmp 53) 81 81 rfl _ _ (by simp [Act.eval, Act.put]) (by simp [Act.eval, Act.put]) (hcp2 _ _ _) ?_)
        all_goals
          clear hw1 htn
          go_wp2
          go_ret
          exact ⟨_, rfl, FIN.out.1, FIN.out.2, .inr ⟨w.heap.size, rfl, Nat.le_refl _⟩⟩

end Go.Proofs.Ytnbhdpmhgamjfaa.Mv

/- slices.BinarySearchFunc at chains. -/
namespace Go.Proofs.Ytnbhdpmhgamjfaa.Mv
open Go Go.RowKit Hp
set_option linter.unusedVariables false

set_option maxRecDepth 100000 in
set_option maxHeartbeats 1000000 in
theorem bs_cmp (key t : ByteArray) (v1 : Value) (w : World) : Calls Try.prog 60 #[.agg #[.string key, v1], .string t] w fun e w' => e = .returned (.int .i64 (So.scmp key t)) ∧ w' = w.alloc (.cells #[.string key, v1] 97) := by
  go_enter Try.func60, Try.ntmps60
  go_wp2_with (go_at_call 51; refine (So.cmp_any _ _ _).mono ?_; rintro e w' ⟨rfl, rfl⟩)
  go_ret
  exact ⟨rfl, rfl⟩

set_option maxRecDepth 100000 in
set_option maxHeartbeats 4000000 in
theorem bs_any (v : Value) (n : Nat) (xs : List Value) (key : Nat → ByteArray) (c1 : Nat → Value) (t : ByteArray) (w : World) (hown : w.ownsRow 0 97 2 v n xs) (hn : n ≤ 1000000)
    (hx : ∀ i, i < n → xs[i * 2]? = some (.string (key i)) ∧ xs[i * 2 + 1]? = some (c1 i)) (hmono : ∀ a b, a ≤ b → b < n → So.scmp (key b) t < 0 → So.scmp (key a) t < 0) :
    Calls Try.prog 59 #[v, .string t, .func (.func 60) #[] #[]] w fun e w' => ∃ i : Nat, i ≤ n ∧ (∀ j, j < i → So.scmp (key j) t < 0) ∧ (∀ j, i ≤ j → j < n → 0 ≤ So.scmp (key j) t) ∧
      e = .returned (.tuple #[.int .i64 i, .bool (decide (i < n) && decide (So.scmp (key i) t = 0))]) ∧ Up w w' := by
  have HX := Lib.hid hx
  have HM := Lib.hid hmono
  have HO := Lib.hid hown
  obtain ⟨a, c, rfl, hc1, hc2, hc3⟩ := own_form hown
  clear hx hmono hown hc3
  go_enter Try.func59, Try.ntmps59
  go_wp2
  go_loopw [9, 10] (fun s9 s10 wr => ∃ lo hi : Nat, s9 = .int .i64 lo ∧ s10 = .int .i64 hi ∧ lo ≤ hi ∧ hi ≤ n ∧ Hid (Up w wr) ∧ Hid ((∀ j, j < lo → So.scmp (key j) t < 0) ∧ (∀ j, hi ≤ j → j < n → 0 ≤ So.scmp (key j) t))) (fun s9 s10 _ => (intOf s10).toNat - (intOf s9).toNat)
  case atStart => exact ⟨0, n, rfl, rfl, Nat.zero_le _, Nat.le_refl _, Up.refl w, fun j hj => absurd hj (Nat.not_lt_zero _), fun j h1 h2 => by omega⟩
  case round =>
    obtain ⟨lo, hi, rfl, rfl, hlh, hin, HU, HI⟩ := hrel
    by_cases hlt : lo < hi
    · obtain ⟨x0, x1⟩ := HX.out ((lo + hi) / 2) (by omega)
      obtain ⟨g, cap, hv, _, _, hgl, hcell, _⟩ := own_some (own_up HO.out HU.out) (by omega)
      simp only [Value.slice.injEq] at hv
      obtain ⟨rfl, _, rfl⟩ := hv
      have e0 := hcell _ _ x0
      have e1 := hcell _ _ x1
      obtain ⟨s, hs⟩ : ∃ s, s = key ((lo + hi) / 2) := ⟨_, rfl⟩
      rw [← hs] at e0
      have HS := Lib.hid hs
      generalize c1 _ = u1 at e1
      have b1 : (0 : Int) ≤ ((lo : Int) + hi) / 2 := by omega
      have b2 : ((lo : Int) + hi) / 2 < (n : Int) := by omega
      have b3 : (((lo : Int) + hi) / 2).toNat = (lo + hi) / 2 := by omega
      have hc := bs_cmp s t
      clear hcell hs x0 x1 hgl
      by_cases hyx : So.scmp s t < 0
      · go_wp2_with (go_at_call 60; refine (hc _ _).mono ?_; rintro e w' ⟨rfl, rfl⟩)
        go_roundw
        case rel => exact ⟨(lo + hi) / 2 + 1, hi, by rw [show ((lo : Int) + (hi : Int)) / 2 + 1 = (((lo + hi) / 2 + 1 : Nat) : Int) by omega], rfl, by omega, hin, by first | exact HU.out.alloc _ | exact HU.out.drew.alloc _ | exact (HU.out.alloc _).drew, fun j hj => HM.out j ((lo + hi) / 2) (by omega) (by omega) (by rw [← HS.out]; exact hyx), HI.out.2⟩
        case measure => simp [intOf]; omega
      · go_wp2_with (go_at_call 60; refine (hc _ _).mono ?_; rintro e w' ⟨rfl, rfl⟩)
        go_roundw
        case rel => exact ⟨lo, (lo + hi) / 2, rfl, by rw [show ((lo : Int) + (hi : Int)) / 2 = (((lo + hi) / 2 : Nat) : Int) by omega], by omega, by omega, by first | exact HU.out.alloc _ | exact HU.out.drew.alloc _ | exact (HU.out.alloc _).drew, HI.out.1, fun j h1 h2 => Int.not_lt.1 fun h3 => by have := HM.out ((lo + hi) / 2) j h1 h2 h3; rw [← HS.out] at this; omega⟩
        case measure => simp [intOf]; omega
    · obtain rfl : hi = lo := by omega
      by_cases hlt2 : hi < n
      · obtain ⟨x0, x1⟩ := HX.out hi hlt2
        obtain ⟨g, cap, hv, _, _, hgl, hcell, _⟩ := own_some (own_up HO.out HU.out) (by omega)
        simp only [Value.slice.injEq] at hv
        obtain ⟨rfl, _, rfl⟩ := hv
        have e0 := hcell _ _ x0
        have e1 := hcell _ _ x1
        obtain ⟨s, hs⟩ : ∃ s, s = key hi := ⟨_, rfl⟩
        rw [← hs] at e0
        have HS := Lib.hid hs
        generalize c1 _ = u1 at e1
        have b2 : (hi : Int) < (n : Int) := by omega
        have hc := bs_cmp s t
        clear hcell hs x0 x1 hgl
        by_cases hyx : So.scmp s t = 0
        all_goals
          go_wp2_with (go_at_call 60; refine (hc _ _).mono ?_; rintro e w' ⟨rfl, rfl⟩)
          go_ret2
          exact ⟨hi, hin, HI.out.1, HI.out.2, by rw [← HS.out]; simp [hlt2, hyx], by first | exact HU.out.alloc _ | exact HU.out.drew.alloc _ | exact (HU.out.alloc _).drew⟩
      · go_wp2
        go_ret2
        exact ⟨hi, hin, HI.out.1, HI.out.2, by simp [hlt2], by first | exact HU.out | exact HU.out.drew⟩

end Go.Proofs.Ytnbhdpmhgamjfaa.Mv

/- slices.Clone at rows and at versions. -/
namespace Go.Proofs.Ytnbhdpmhgamjfaa.Mv
open Go Go.RowKit Hp
set_option linter.unusedVariables false

theorem Try.info_cloneR : (Try.prog.info? 47).map (fun i => (i.zero, i.size, i.bytes)) = some (some (.agg #[.int .i64 0, .int .i64 0, .string ByteArray.empty]), 3, 32) := by kernel_rfl
set_option maxRecDepth 100000 in
set_option maxHeartbeats 1000000 in
theorem cloneR (v : Value) (n : Nat) (xs : List Value) (w : World) (h : Src w 3 v n xs) (h1 : ∀ u ∈ xs, u.oneCell' = true) (hn : n * 32 ≤ 140737488355328) :
    Calls Try.prog 24 #[v] w fun e w' => ∃ v', e = .returned v' ∧ w'.ownsRow w.heap.size 47 3 v' n xs ∧ Up w w' := by
  obtain ⟨i0, hi, hz0, hz1, hz2⟩ := info_parts Try.info_cloneR
  obtain ⟨hx, h⟩ := h
  have hq := fun (a : Option Addr) (n c n' c' : Nat) (w : World) => Lib.run_eql_slice_nil (P := Try.prog) w 51 47 a n c n' c' Try.underlying51
  rcases h with ⟨rfl, rfl⟩ | ⟨b, off, cap, rfl, hc1, hc2, hc3⟩
  · obtain rfl : xs = [] := List.eq_nil_of_length_eq_zero (by simpa using hx)
    go_enter Try.func24, Try.ntmps24
    go_wp2
    go_ret
    exact ⟨_, rfl, World.ownsRow_nil _ _ _ _, Up.refl _⟩
  · have HX := Lib.hid hx
    have H1 := Lib.hid h1
    have H3 : Hid (∀ j u, xs[j]? = some u → (w.alloc (.cells #[] 47)).cell? ((⟨b, off, none⟩ : Addr).add j) = some u) := fun j u hj => by
      rw [Addr.add_lit]; exact ((hc3 j u hj).grow ((Up.refl w).alloc _)).2
    clear hx hc3 h1
    go_enter Try.func24, Try.ntmps24
    go_wp2_with (at_builtin; refine wpList_append_own _ rfl (.tmp 5) (.tmp 6) 51 rfl w.heap.size 47 i0 (.agg #[.int .i64 0, .int .i64 0, .string ByteArray.empty]) 3 32 Try.underlying51 hi hz0 hz1 hz2 rfl (by decide) _ _ _ rfl (own_empty w 47 3) ⟨b, off, none⟩ n cap xs rfl HX.out H3.out H1.out (by unfold maxLen; omega) (by omega) (by simp) ?_)
    intro v' w2 hown hg hnil
    have hnil := Lib.hid hnil
    have hu : Up w w2 := Below.grown ((Up.refl w).alloc (.cells #[] 47)) hg (by simp) fun j hj => by simp [Value.ownBlock] at hj; omega
    clear hg
    go_wp2
    go_ret
    exact ⟨_, rfl, by simpa using hown, hu⟩

theorem Try.info_cloneV : (Try.prog.info? 94).map (fun i => (i.zero, i.size, i.bytes)) = some (some (.agg #[.int .i64 0, .bool false, .slice none 0 0]), 3, 40) := by kernel_rfl
set_option maxRecDepth 100000 in
set_option maxHeartbeats 1000000 in
theorem cloneV (v : Value) (n : Nat) (xs : List Value) (w : World) (h : Src w 3 v n xs) (h1 : ∀ u ∈ xs, u.oneCell' = true) (hn : n * 40 ≤ 140737488355328) :
    Calls Try.prog 56 #[v] w fun e w' => ∃ v', e = .returned v' ∧ w'.ownsRow w.heap.size 94 3 v' n xs ∧ Up w w' := by
  obtain ⟨i0, hi, hz0, hz1, hz2⟩ := info_parts Try.info_cloneV
  obtain ⟨hx, h⟩ := h
  have hq := fun (a : Option Addr) (n c n' c' : Nat) (w : World) => Lib.run_eql_slice_nil (P := Try.prog) w 95 94 a n c n' c' Try.underlying95
  rcases h with ⟨rfl, rfl⟩ | ⟨b, off, cap, rfl, hc1, hc2, hc3⟩
  · obtain rfl : xs = [] := List.eq_nil_of_length_eq_zero (by simpa using hx)
    go_enter Try.func56, Try.ntmps56
    go_wp2
    go_ret
    exact ⟨_, rfl, World.ownsRow_nil _ _ _ _, Up.refl _⟩
  · have HX := Lib.hid hx
    have H1 := Lib.hid h1
    have H3 : Hid (∀ j u, xs[j]? = some u → (w.alloc (.cells #[] 94)).cell? ((⟨b, off, none⟩ : Addr).add j) = some u) := fun j u hj => by
      rw [Addr.add_lit]; exact ((hc3 j u hj).grow ((Up.refl w).alloc _)).2
    clear hx hc3 h1
    go_enter Try.func56, Try.ntmps56
    go_wp2_with (at_builtin; refine wpList_append_own _ rfl (.tmp 5) (.tmp 6) 95 rfl w.heap.size 94 i0 (.agg #[.int .i64 0, .bool false, .slice none 0 0]) 3 40 Try.underlying95 hi hz0 hz1 hz2 rfl (by decide) _ _ _ rfl (own_empty w 94 3) ⟨b, off, none⟩ n cap xs rfl HX.out H3.out H1.out (by unfold maxLen; omega) (by omega) (by simp) ?_)
    intro v' w2 hown hg hnil
    have hnil := Lib.hid hnil
    have hu : Up w w2 := Below.grown ((Up.refl w).alloc (.cells #[] 94)) hg (by simp) fun j hj => by simp [Value.ownBlock] at hj; omega
    clear hg
    go_wp2
    go_ret
    exact ⟨_, rfl, by simpa using hown, hu⟩

end Go.Proofs.Ytnbhdpmhgamjfaa.Mv
