/- slices.Insert at entries. -/
import Derived.Test.YtmaeeidaegigcaaSl
namespace Go.Proofs.Ytmaeeidaegigcaa.Ck
open Go Go.RowKit Hp
set_option linter.unusedVariables false
theorem Try.infoEntry : (Try.prog.info? 62).map (fun i => (i.zero, i.size, i.bytes)) = some (some (.agg #[.string ByteArray.empty, .string ByteArray.empty]), 2, 32) := by kernel_rfl

set_option maxRecDepth 100000 in
set_option maxHeartbeats 4000000 in
theorem ins_any (v : Value) (n i : Nat) (xs news : List Value) (vb : Nat) (w : World) (hown : w.ownsRow 0 62 2 v n xs) (hi : i ≤ n) (hn : n ≤ 1000000) (hb : Blk w vb news 62) (hnl : news.length = 2) (hne : v.ownBlock ≠ some vb)
    (h1x : ∀ u ∈ xs, u.oneCell' = true) (h1n : ∀ u ∈ news, u.oneCell' = true) :
    Calls Try.prog 60 #[v, .int .i64 i, .slice (some ⟨vb, 0, none⟩) 1 1] w fun e w' => ∃ v', e = .returned v' ∧ w'.ownsRow 0 62 2 v' (n + 1) (xs.take (i * 2) ++ news ++ xs.drop (i * 2)) ∧
      w.grownBy w' v.ownBlock ∧ (v'.ownBlock = v.ownBlock ∨ ∃ g, v'.ownBlock = some g ∧ w.heap.size ≤ g) := by
  obtain ⟨i0, hi0, hz0, hz1, hz2⟩ := info_parts Try.infoEntry
  have NEWS : Hid (∀ j u, news[j]? = some u → w.cell? ((⟨vb, 0, none⟩ : Addr).add j) = some u) := fun j u hj => by rw [Addr.add_lit, Nat.zero_add]; exact (hb.at hj).2
  have HX := Lib.hid hown.1
  have HB := Lib.hid hb
  have HNL := Lib.hid hnl
  have X1 := Lib.hid h1x
  have N1 := Lib.hid h1n
  have HNE := Lib.hid hne
  obtain ⟨a, c, rfl, hc1, hc2, hc3⟩ := own_form hown
  have HC3 := Lib.hid hc3
  clear hnl h1x h1n hne hc3 hb
  by_cases hin : i = n
  · have NL : Hid (news.length = 1 * 2) := by unfold Hid; rw [HNL.out]
    have q1 : ((n : Int) == (n : Int)) = true := by simp
    have TK : Hid (xs.take (n * 2) ++ news ++ xs.drop (n * 2) = xs ++ news) := by unfold Hid; rw [← HX.out, List.take_length, List.drop_length, List.append_nil]
    subst hin
    have HO := Lib.hid hown
    clear hown
    by_cases hci : c = i
    · subst hci
      go_enter Try.func60, Try.ntmps60
      go_wp2_with (at_builtin; refine wpList_append_own_at _ rfl (.tmp 23) (.tmp 24) 67 rfl 0 62 i0 (.agg #[.string ByteArray.empty, .string ByteArray.empty]) 2 32 Try.underlying67 hi0 hz0 hz1 hz2 rfl (by decide) _ _ _ rfl HO.out ⟨vb, 0, none⟩ 1 1 news rfl NL.out NEWS.out N1.out (by unfold maxLen; omega) (by omega) (by omega) ?_)
      intro v' w1 hown' hg _ hat
      have HO' := Lib.hid hown'
      have HG := Lib.hid hg
      have HAT := Lib.hid hat
      clear hown' hg hat
      go_wp2
      go_ret
      refine ⟨_, rfl, by rw [TK.out]; exact HO'.out, HG.out, ?_⟩
      rcases HAT.out with h | h
      · exact .inl h
      · exact .inr ⟨_, h, Nat.le_refl _⟩
    · have hci2 : i < c := by omega
      go_enter Try.func60, Try.ntmps60
      go_wp2_with (at_builtin; refine wpList_append_own_at _ rfl (.tmp 23) (.tmp 24) 67 rfl 0 62 i0 (.agg #[.string ByteArray.empty, .string ByteArray.empty]) 2 32 Try.underlying67 hi0 hz0 hz1 hz2 rfl (by decide) _ _ _ rfl HO.out ⟨vb, 0, none⟩ 1 1 news rfl NL.out NEWS.out N1.out (by unfold maxLen; omega) (by omega) (by omega) ?_)
      intro v' w1 hown' hg _ hat
      have HO' := Lib.hid hown'
      have HG := Lib.hid hg
      have HAT := Lib.hid hat
      clear hown' hg hat
      go_wp2
      go_ret
      refine ⟨_, rfl, by rw [TK.out]; exact HO'.out, HG.out, ?_⟩
      rcases HAT.out with h | h
      · exact .inl h
      · exact .inr ⟨_, h, Nat.le_refl _⟩
  · have hlt : i < n := by omega
    have q1 : ((i : Int) == (n : Int)) = false := beq_eq_false_iff_ne.2 (by omega)
    obtain ⟨hx, h⟩ := hown
    rcases h with ⟨_, h0⟩ | ⟨g, cap, cur, hv, hbase, hg, hnc, hcm, hcs, htk⟩
    · omega
    · simp only [Value.slice.injEq] at hv
      obtain ⟨rfl, _, rfl⟩ := hv
      have HG := Lib.hid hg
      have HCS := Lib.hid hcs
      have HTK := Lib.hid htk
      clear hx hg hcs htk hbase hcm
      have hic : ¬ c = i := by omega
      have hsz : (Try.prog.info? 62).map (·.size) = some 2 := by rw [hi0]; simp [hz1]
      have HSZ := Lib.hid hsz
      have XD : Hid ((xs.drop (i * 2)).length = (n - i) * 2) := by unfold Hid; rw [List.length_drop, HX.out]; omega
      have XD1 : Hid (∀ u ∈ xs.drop (i * 2), u.oneCell' = true) := fun u hu => X1.out u (List.mem_of_mem_drop hu)
      have cellg : ∀ {W : World} {cr : Array Value}, W.heap[g]? = some (.cells cr 62 (0, 0)) → cr.toList.take (n * 2) = xs → ∀ j u, xs[j]? = some u → W.cell? ⟨g, j, none⟩ = some u := fun hW ht j u hj => by
        rw [← ht, List.getElem?_take] at hj
        unfold World.cell?
        simp only [hW]
        split at hj
        · simpa using hj
        · cases hj
      have CG := Lib.hid (fun j u hj => cellg HG.out HTK.out j u hj)
      have hgl : g < w.heap.size := Ty.lt ⟨cur, (0, 0), HG.out⟩
      have hvg : vb ≠ g := fun e => HNE.out (by rw [e]; rfl)
      have hvl := HB.out.lt
      clear hsz cellg
      by_cases hroom : n + 1 ≤ c
      · have hr1 : decide ((c : Int) < (n : Int) + 1) = false := decide_eq_false (by omega)
        have hic1 : ¬ c = i + 1 := by omega
        -- v and s lie apart
        have hov : ∀ W : World, W.heap[g]? = w.heap[g]? → W.heap[vb]? = w.heap[vb]? → ∀ lb cb, (callFunc 71 #[.slice (some ⟨vb, 0, none⟩) 1 1, .slice (some ⟨g, (i + 1) * 2, none⟩) lb cb]).run Try.prog W = .ok (.value (.bool false)) W := fun W e1 e2 lb cb => by
          rw [run_callFunc_extern Try.func71 (by kernel_rfl) (by kernel_rfl) (by kernel_rfl) (e := Extern.SlicesOverlaps.overlaps #[67, 67] #[4]) (by kernel_rfl),
            Lib.run_overlaps_apart W 67 4 62 Try.underlying67 2 Try.sizeOf62 ⟨vb, 0, none⟩ ⟨g, (i + 1) * 2, none⟩ 1 1 lb cb hvg 62 62 news.toArray.size cur.size
              (by unfold World.shape?; rw [e2, show w.heap[vb]? = _ from HB.out]) (by unfold World.shape?; rw [e1, HG.out]) (by rw [HCS.out]; omega) (by unfold World.frozen?; simp only [e2, show w.heap[vb]? = _ from HB.out]; simp) (by unfold World.frozen?; simp only [e2, show w.heap[vb]? = _ from HB.out]; simp)]
          rfl
        -- the two copies
        obtain ⟨W1, hW1⟩ : ∃ W1, W1 = w.drew.setRow g (cur.toList.take ((i + 1) * 2) ++ xs.drop (i * 2) ++ cur.toList.drop ((i + 1) * 2 + (xs.drop (i * 2)).length)).toArray := ⟨_, rfl⟩
        have hcp1 : ∀ ty dc sc, (Builtin.copy_ #[67, 67] ty #[.slice (some ⟨g, (i + 1) * 2, none⟩) (n - i) dc, .slice (some ⟨g, i * 2, none⟩) (n + 1 - i) sc]).run Try.prog w.drew = .ok (goInt (n - i : Nat)) W1 := fun ty dc sc => by
          rw [hW1]
          exact run_copy_k w.drew 67 67 ty 62 2 g ((i + 1) * 2) (n - i) dc ⟨g, i * 2, none⟩ (n + 1 - i) sc (n - i) cur 62 (xs.drop (i * 2)) Try.underlying67 HSZ.out (by show min _ _ = _; omega) XD.out
            (fun j u hj => by rw [Addr.add_lit]; rw [List.getElem?_drop] at hj; exact CG.out _ u hj) HG.out (by rw [XD.out, HCS.out]; omega) XD1.out
        have B1 : W1.heap[g]? = some (.cells (cur.toList.take ((i + 1) * 2) ++ xs.drop (i * 2) ++ cur.toList.drop ((i + 1) * 2 + (xs.drop (i * 2)).length)).toArray 62 (0, 0)) := by rw [hW1]; exact setRow_at w.drew g cur _ _ HG.out
        have BV : W1.heap[vb]? = w.heap[vb]? := by rw [hW1]; exact setRow_other w.drew g vb _ hvg
        have CL1 : (cur.toList.take ((i + 1) * 2) ++ xs.drop (i * 2) ++ cur.toList.drop ((i + 1) * 2 + (xs.drop (i * 2)).length)).length = c * 2 := by simp only [List.length_append, List.length_take, List.length_drop, Array.length_toList, HCS.out, HX.out]; omega
        obtain ⟨cur1, hcur1⟩ : ∃ cur1, cur1 = cur.toList.take ((i + 1) * 2) ++ xs.drop (i * 2) ++ cur.toList.drop ((i + 1) * 2 + (xs.drop (i * 2)).length) := ⟨_, rfl⟩
        rw [← hcur1] at B1 CL1 hW1
        obtain ⟨W2, hW2⟩ : ∃ W2, W2 = W1.setRow g (cur1.take (i * 2) ++ news ++ cur1.drop (i * 2 + news.length)).toArray := ⟨_, rfl⟩
        have hcp2 : ∀ ty dc, (Builtin.copy_ #[67, 67] ty #[.slice (some ⟨g, i * 2, none⟩) (n + 1 - i) dc, .slice (some ⟨vb, 0, none⟩) 1 1]).run Try.prog W1 = .ok (goInt (1 : Nat)) W2 := fun ty dc => by
          rw [hW2]
          have h := run_copy_k (P := Try.prog) W1 67 67 ty 62 2 g (i * 2) (n + 1 - i) dc ⟨vb, 0, none⟩ 1 1 1 cur1.toArray 62 news Try.underlying67 HSZ.out (by show min _ _ = _; omega) (by rw [HNL.out])
            (fun j u hj => by rw [World.cell?_of_block (w := w) (a := (⟨vb, 0, none⟩ : Addr).add j) (by rw [Addr.add_lit]; exact BV)]; exact NEWS.out j u hj) B1 (by rw [HNL.out]; simp only [List.size_toArray, CL1]; omega) N1.out
          simpa using h
        have FIN : Hid (W2.ownsRow 0 62 2 (.slice (some ⟨g, 0, none⟩) (n + 1) c) (n + 1) (xs.take (i * 2) ++ news ++ xs.drop (i * 2)) ∧ w.grownBy W2 (some g)) := by
          have e1 : cur1.take (i * 2) = xs.take (i * 2) := by
            rw [hcur1, List.append_assoc, List.take_append_of_le_length (by simp only [List.length_take, Array.length_toList, HCS.out]; omega), List.take_take, ← HTK.out, List.take_take]
            congr 1; omega
          have e2 : cur1.drop (i * 2 + news.length) = xs.drop (i * 2) ++ cur.toList.drop ((i + 1) * 2 + (xs.drop (i * 2)).length) := by
            rw [hcur1, List.append_assoc, HNL.out, show i * 2 + 2 = (cur.toList.take ((i + 1) * 2)).length by simp only [List.length_take, Array.length_toList, HCS.out]; omega, List.drop_left]
          have B2 : W2.heap[g]? = some (.cells (xs.take (i * 2) ++ news ++ (xs.drop (i * 2) ++ cur.toList.drop ((i + 1) * 2 + (xs.drop (i * 2)).length))).toArray 62 (0, 0)) := by
            rw [hW2, e1, e2]; exact setRow_at W1 g _ _ _ B1
          have hl : (xs.take (i * 2) ++ news ++ xs.drop (i * 2)).length = (n + 1) * 2 := by simp only [List.length_append, List.length_take, List.length_drop, HX.out, HNL.out]; omega
          refine ⟨⟨hl, .inr ⟨g, c, _, rfl, Nat.zero_le _, B2, hroom, by unfold maxLen; exact hc2, ?_, ?_⟩⟩, ?_⟩
          · simp only [List.size_toArray, List.length_append, List.length_take, List.length_drop, Array.length_toList, HX.out, HNL.out, HCS.out]; omega
          · rw [← List.append_assoc, ← hl]
            simp only [List.append_assoc]
            rw [← List.append_assoc, ← List.append_assoc, ← List.append_assoc]
            exact List.take_left' (by simp only [List.append_assoc])
          · rw [hW2]
            refine setRow_grown _ _ _ _ ?_ (.inl rfl)
            rw [hW1]
            exact setRow_grown _ _ _ _ ⟨rfl, rfl, rfl, Nat.le_refl _, fun _ _ _ => rfl⟩ (.inl rfl)
        have HOV := Lib.hid hov
        have HW := Lib.hid hW1
        clear hov hW1 hW2 hcur1 B1 BV CL1
        go_enter Try.func60, Try.ntmps60
        go_wp2_with (simp only [HOV.out w rfl rfl])
        have hb1 : (0 : Int) ≤ (i : Int) + 1 := by omega
        have hb3 : (i : Int) ≤ (n : Int) + 1 := by omega
        have hb5 : (i : Int) + 1 ≤ (n : Int) + 1 := by omega
        have hb6 : i ≤ n + 1 := by omega
        have hw1 : IntKind.i64.wrap ((i : Int) + 1) = (i : Int) + 1 := IntWalk.i64_in _ (by omega)
        have htn : ((i : Int) + 1).toNat = i + 1 := by omega
        go_region_law (refine step_copy_run rfl (.tmp 73) (.tmp 76) 67 67 rfl _ _ (by simp [Act.eval, Act.put]) (by simp [Act.eval, Act.put]) (hcp1 _ _ _) ?_)
        all_goals
          clear hw1 htn
          go_wp2_with (at_builtin; refine wl_copy_run _ rfl (.tmp 80) (.tmp 81) 67 67 rfl _ _ rfl rfl (hcp2 _ _) ?_)
          go_ret
          exact ⟨_, rfl, FIN.out.1, FIN.out.2, .inl rfl⟩
      · have hr1 : decide ((c : Int) < (n : Int) + 1) = true := decide_eq_true (by omega)
        obtain rfl : c = n := by omega
        have e0 : ((c : Int) + 1 - (i : Int)) = ((c + 1 - i : Nat) : Int) := by omega
        have OL : (xs.take (i * 2)).length = i * 2 := by rw [List.length_take, HX.out]; omega
        have R1 := run_append_grow_zeros (P := Try.prog) w 67 3 67 62 i0 (.agg #[.string ByteArray.empty, .string ByteArray.empty]) .i64 .i64 Try.underlying67 Try.underlying3 hi0 hz0 ⟨g, 0, none⟩ i c (xs.take (i * 2)) (by rw [OL, hz1])
          (fun j u hj => by rw [Addr.add_lit, Nat.zero_add]; exact CG.out j u (by rw [List.getElem?_take] at hj; split at hj; exact hj; cases hj)) (c + 1 - i) (by omega) (by rw [hz1]; decide) (by omega) (by omega) (growslice_fits (by omega) (by rw [hz2]; omega)) (by rw [hz2]; omega)
        have e2 : i + (c + 1 - i) = c + 1 := by omega
        rw [e2, ← e0] at R1
        have hC1 := grownCap_ge w (c + 1) c 62
        have hC2 := grownCap_le_maxLen w (c + 1) c 62 (by unfold maxLen; omega)
        generalize grownCap w (c + 1) c 62 = C at *
        obtain ⟨Z, hZ⟩ : ∃ Z : List Value, Z = (Builtin.zeroCells (.agg #[.string ByteArray.empty, .string ByteArray.empty] : Value).cells (c + 1 - i)).toList ++ (Builtin.zeroCells (.agg #[.string ByteArray.empty, .string ByteArray.empty] : Value).cells (C - (c + 1))).toList := ⟨_, rfl⟩
        have ZL : Z.length = (C - i) * 2 := by
          rw [hZ, List.length_append, zeroCells_len, zeroCells_len]
          show (c + 1 - i) * 2 + (C - (c + 1)) * 2 = _
          omega
        have eA : (xs.take (i * 2)).toArray ++ Builtin.zeroCells (.agg #[.string ByteArray.empty, .string ByteArray.empty] : Value).cells (c + 1 - i) ++ Builtin.zeroCells (.agg #[.string ByteArray.empty, .string ByteArray.empty] : Value).cells (C - (c + 1)) = (xs.take (i * 2) ++ Z).toArray := by
          apply Array.toList_inj.1
          rw [hZ]; simp
        rw [eA] at R1
        clear hZ eA
        obtain ⟨W1, hW1⟩ : ∃ W1, W1 = w.drew.alloc (.cells (xs.take (i * 2) ++ Z).toArray 62) := ⟨_, rfl⟩
        rw [← hW1] at R1
        have B1 : W1.heap[w.heap.size]? = some (.cells (xs.take (i * 2) ++ Z).toArray 62 (0, 0)) := by rw [hW1]; exact heap_alloc_new w.drew _
        have BO : ∀ b, b < w.heap.size → W1.heap[b]? = w.heap[b]? := fun b hb => by rw [hW1]; exact Below.heap_alloc w.drew _ b hb
        obtain ⟨W2, hW2⟩ : ∃ W2, W2 = W1.setRow w.heap.size (xs.take (i * 2) ++ news ++ Z.drop 2).toArray := ⟨_, rfl⟩
        have hcp1 : ∀ ty dc, (Builtin.copy_ #[67, 67] ty #[.slice (some ⟨w.heap.size, i * 2, none⟩) (c + 1 - i) dc, .slice (some ⟨vb, 0, none⟩) 1 1]).run Try.prog W1 = .ok (goInt (1 : Nat)) W2 := fun ty dc => by
          rw [hW2]
          have h := run_copy_k (P := Try.prog) W1 67 67 ty 62 2 w.heap.size (i * 2) (c + 1 - i) dc ⟨vb, 0, none⟩ 1 1 1 (xs.take (i * 2) ++ Z).toArray 62 news Try.underlying67 HSZ.out (by show min _ _ = _; omega) (by rw [HNL.out])
            (fun j u hj => by rw [World.cell?_of_block (w := w) (a := (⟨vb, 0, none⟩ : Addr).add j) (by rw [Addr.add_lit]; exact BO vb hvl)]; exact NEWS.out j u hj) B1 (by rw [HNL.out]; simp only [List.size_toArray, List.length_append, OL, ZL]; omega) N1.out
          have q1 : (xs.take (i * 2) ++ Z).take (i * 2) = xs.take (i * 2) := List.take_left' OL
          have q2 : (xs.take (i * 2) ++ Z).drop (i * 2 + news.length) = Z.drop 2 := by
            rw [HNL.out, List.drop_append, OL, List.drop_eq_nil_of_le (by rw [OL]; omega), List.nil_append]; congr 1; omega
          simp only [q1, q2] at h
          exact h
        have B2 : W2.heap[w.heap.size]? = some (.cells (xs.take (i * 2) ++ news ++ Z.drop 2).toArray 62 (0, 0)) := by rw [hW2]; exact setRow_at W1 _ _ _ _ B1
        have BO2 : ∀ b, b < w.heap.size → W2.drew.heap[b]? = w.heap[b]? := fun b hb => by rw [hW2]; exact (setRow_other W1 _ b _ (by omega)).trans (BO b hb)
        have WG2 : w.grownBy W2 none := by
          rw [hW2]
          refine setRow_grown _ _ _ _ ?_ (.inr (Nat.le_refl _))
          rw [hW1]
          exact ⟨rfl, rfl, rfl, by simp, fun b hb _ => Below.heap_alloc w.drew _ b hb⟩
        obtain ⟨W3, hW3⟩ : ∃ W3, W3 = W2.drew.setRow w.heap.size (xs.take (i * 2) ++ news ++ xs.drop (i * 2) ++ Z.drop (2 + (xs.drop (i * 2)).length)).toArray := ⟨_, rfl⟩
        have hcp2 : ∀ ty dc sc, (Builtin.copy_ #[67, 67] ty #[.slice (some ⟨w.heap.size, (i + 1) * 2, none⟩) (c - i) dc, .slice (some ⟨g, i * 2, none⟩) (c - i) sc]).run Try.prog W2.drew = .ok (goInt (c - i : Nat)) W3 := fun ty dc sc => by
          rw [hW3]
          have h := run_copy_k (P := Try.prog) W2.drew 67 67 ty 62 2 w.heap.size ((i + 1) * 2) (c - i) dc ⟨g, i * 2, none⟩ (c - i) sc (c - i) (xs.take (i * 2) ++ news ++ Z.drop 2).toArray 62 (xs.drop (i * 2)) Try.underlying67 HSZ.out (by show min _ _ = _; omega) XD.out
            (fun j u hj => by rw [World.cell?_of_block (w := w) (a := (⟨g, i * 2, none⟩ : Addr).add j) (by rw [Addr.add_lit]; exact BO2 g hgl)]; rw [Addr.add_lit]; rw [List.getElem?_drop] at hj; exact CG.out _ u hj) B2
            (by rw [XD.out]; simp only [List.size_toArray, List.length_append, List.length_drop, OL, ZL, HNL.out]; omega) XD1.out
          have q0 : (xs.take (i * 2) ++ news).length = (i + 1) * 2 := by rw [List.length_append, OL, HNL.out]; omega
          have q1 : (xs.take (i * 2) ++ news ++ Z.drop 2).take ((i + 1) * 2) = xs.take (i * 2) ++ news := List.take_left' q0
          have q2 : (xs.take (i * 2) ++ news ++ Z.drop 2).drop ((i + 1) * 2 + (xs.drop (i * 2)).length) = Z.drop (2 + (xs.drop (i * 2)).length) := by
            rw [List.drop_append, q0, List.drop_eq_nil_of_le (by rw [q0]; omega), List.nil_append, List.drop_drop]; congr 1; omega
          simp only [q1, q2] at h
          exact h
        have FIN : Hid (W3.ownsRow 0 62 2 (.slice (some ⟨w.heap.size, 0, none⟩) (c + 1) C) (c + 1) (xs.take (i * 2) ++ news ++ xs.drop (i * 2)) ∧ w.grownBy W3 (some g)) := by
          have B3 : W3.heap[w.heap.size]? = some (.cells (xs.take (i * 2) ++ news ++ xs.drop (i * 2) ++ Z.drop (2 + (xs.drop (i * 2)).length)).toArray 62 (0, 0)) := by rw [hW3]; exact setRow_at W2.drew _ _ _ _ B2
          have hl : (xs.take (i * 2) ++ news ++ xs.drop (i * 2)).length = (c + 1) * 2 := by simp only [List.length_append, List.length_take, List.length_drop, HX.out, HNL.out]; omega
          refine ⟨⟨hl, .inr ⟨w.heap.size, C, _, rfl, Nat.zero_le _, B3, hC1, hC2, ?_, ?_⟩⟩, ?_⟩
          · have := hl
            simp only [List.size_toArray, List.length_append (bs := Z.drop _), hl, List.length_drop, ZL, XD.out]
            omega
          · exact List.take_left' hl
          · have := setRow_grown W2.drew w w.heap.size (xs.take (i * 2) ++ news ++ xs.drop (i * 2) ++ Z.drop (2 + (xs.drop (i * 2)).length)).toArray (row := none) ⟨WG2.os, WG2.tape, WG2.output, WG2.size, WG2.block⟩ (.inr (Nat.le_refl _))
            rw [hW3]
            exact ⟨this.os, this.tape, this.output, this.size, fun b hb _ => this.block b hb (by simp)⟩
        have R1' := Lib.hid R1
        have hC3 : c + 1 ≤ C := hC1
        have hC4 : C ≤ 9223372036854775807 := by unfold maxLen at hC2; exact hC2
        have nC1 : ¬ C = i := by omega
        have nC2 : ¬ C = i + 1 := by omega
        clear hW1 hW2 hW3 B1 B2 BO BO2 WG2 R1 e2 e0 ZL OL hC1 hC2
        go_enter Try.func60, Try.ntmps60
        go_wp2_with (at_builtin; refine Lib.wpList_append_run _ rfl (.tmp 34) (.tmp 39) 67 3 rfl _ _ rfl rfl _ _ R1'.out ?_)
        have hb1 : (0 : Int) ≤ (i : Int) + 1 := by omega
        have hb3 : (i : Int) ≤ (c : Int) := by omega
        have hb5 : (i : Int) + 1 ≤ (c : Int) + 1 := by omega
        have hb6 : (i : Int) + 1 ≤ (C : Int) := by omega
        have hw1 : IntKind.i64.wrap ((i : Int) + 1) = (i : Int) + 1 := IntWalk.i64_in _ (by omega)
        have htn : ((i : Int) + 1).toNat = i + 1 := by omega
        go_region_law (refine step_copy_run rfl (.tmp 50) (.tmp 53) 67 67 rfl _ _ (by simp [Act.eval, Act.put]) (by simp [Act.eval, Act.put]) (hcp2 _ _ _) ?_)
        all_goals
          clear hw1 htn
          go_wp2
          go_ret
          exact ⟨_, rfl, FIN.out.1, FIN.out.2, .inr ⟨w.heap.size, rfl, Nat.le_refl _⟩⟩

end Go.Proofs.Ytmaeeidaegigcaa.Ck
