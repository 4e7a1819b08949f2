/- joined: Sna, Snb, Snc -/
import Derived.Test.YtnbhdpmhgamjfaaEl
import Derived.Test.YtnbhdpmhgamjfaaSc
/- slices.Insert at buffered writes. -/
namespace Go.Proofs.Ytnbhdpmhgamjfaa.Sn
open Go Go.RowKit Hp
set_option linter.unusedVariables false
theorem Try.infoWrite : (Try.prog.info? 73).map (fun i => (i.zero, i.size, i.bytes)) = some (some (.agg #[.string ByteArray.empty, .bool false, .slice none 0 0]), 3, 48) := by kernel_rfl

set_option maxRecDepth 100000 in
set_option maxHeartbeats 4000000 in
theorem ins_any (v : Value) (n i : Nat) (xs news : List Value) (vb : Nat) (w : World) (hown : w.ownsRow 0 73 3 v n xs) (hi : i ≤ n) (hn : n ≤ 1000000) (hb : Blk w vb news 73) (hnl : news.length = 3) (hne : v.ownBlock ≠ some vb)
    (h1x : ∀ u ∈ xs, u.oneCell' = true) (h1n : ∀ u ∈ news, u.oneCell' = true) :
    Calls Try.prog 39 #[v, .int .i64 i, .slice (some ⟨vb, 0, none⟩) 1 1] w fun e w' => ∃ v', e = .returned v' ∧ w'.ownsRow 0 73 3 v' (n + 1) (xs.take (i * 3) ++ news ++ xs.drop (i * 3)) ∧
      w.grownBy w' v.ownBlock ∧ (v'.ownBlock = v.ownBlock ∨ ∃ g, v'.ownBlock = some g ∧ w.heap.size ≤ g) := by
  obtain ⟨i0, hi0, hz0, hz1, hz2⟩ := info_parts Try.infoWrite
  have NEWS : Hid (∀ j u, news[j]? = some u → w.cell? ((⟨vb, 0, none⟩ : Addr).add j) = some u) := fun j u hj => by rw [Addr.add_lit, Nat.zero_add]; exact (hb.at hj).2
  have HX := Lib.hid hown.1
  have HB := Lib.hid hb
  have HNL := Lib.hid hnl
  have X1 := Lib.hid h1x
  have N1 := Lib.hid h1n
  have HNE := Lib.hid hne
  obtain ⟨a, c, rfl, hc1, hc2, hc3⟩ := own_form hown
  have HC3 := Lib.hid hc3
  clear hnl h1x h1n hne hc3 hb
  by_cases hin : i = n
  · have NL : Hid (news.length = 1 * 3) := by unfold Hid; rw [HNL.out]
    have q1 : ((n : Int) == (n : Int)) = true := by simp
    have TK : Hid (xs.take (n * 3) ++ news ++ xs.drop (n * 3) = xs ++ news) := by unfold Hid; rw [← HX.out, List.take_length, List.drop_length, List.append_nil]
    subst hin
    have HO := Lib.hid hown
    clear hown
    by_cases hci : c = i
    · subst hci
      go_enter Try.func39, Try.ntmps39
      go_wp2_with (at_builtin; refine wpList_append_own_at _ rfl (.tmp 23) (.tmp 24) 61 rfl 0 73 i0 (.agg #[.string ByteArray.empty, .bool false, .slice none 0 0]) 3 48 Try.underlying61 hi0 hz0 hz1 hz2 rfl (by decide) _ _ _ rfl HO.out ⟨vb, 0, none⟩ 1 1 news rfl NL.out NEWS.out N1.out (by unfold maxLen; omega) (by omega) (by omega) ?_)
      intro v' w1 hown' hg _ hat
      have HO' := Lib.hid hown'
      have HG := Lib.hid hg
      have HAT := Lib.hid hat
      clear hown' hg hat
      go_wp2
      go_ret
      refine ⟨_, rfl, by rw [TK.out]; exact HO'.out, HG.out, ?_⟩
      rcases HAT.out with h | h
      · exact .inl h
      · exact .inr ⟨_, h, Nat.le_refl _⟩
    · have hci2 : i < c := by omega
      go_enter Try.func39, Try.ntmps39
      go_wp2_with (at_builtin; refine wpList_append_own_at _ rfl (.tmp 23) (.tmp 24) 61 rfl 0 73 i0 (.agg #[.string ByteArray.empty, .bool false, .slice none 0 0]) 3 48 Try.underlying61 hi0 hz0 hz1 hz2 rfl (by decide) _ _ _ rfl HO.out ⟨vb, 0, none⟩ 1 1 news rfl NL.out NEWS.out N1.out (by unfold maxLen; omega) (by omega) (by omega) ?_)
      intro v' w1 hown' hg _ hat
      have HO' := Lib.hid hown'
      have HG := Lib.hid hg
      have HAT := Lib.hid hat
      clear hown' hg hat
      go_wp2
      go_ret
      refine ⟨_, rfl, by rw [TK.out]; exact HO'.out, HG.out, ?_⟩
      rcases HAT.out with h | h
      · exact .inl h
      · exact .inr ⟨_, h, Nat.le_refl _⟩
  · have hlt : i < n := by omega
    have q1 : ((i : Int) == (n : Int)) = false := beq_eq_false_iff_ne.2 (by omega)
    obtain ⟨hx, h⟩ := hown
    rcases h with ⟨_, h0⟩ | ⟨g, cap, cur, hv, hbase, hg, hnc, hcm, hcs, htk⟩
    · omega
    · simp only [Value.slice.injEq] at hv
      obtain ⟨rfl, _, rfl⟩ := hv
      have HG := Lib.hid hg
      have HCS := Lib.hid hcs
      have HTK := Lib.hid htk
      clear hx hg hcs htk hbase hcm
      have hic : ¬ c = i := by omega
      have hsz : (Try.prog.info? 73).map (·.size) = some 3 := by rw [hi0]; simp [hz1]
      have HSZ := Lib.hid hsz
      have XD : Hid ((xs.drop (i * 3)).length = (n - i) * 3) := by unfold Hid; rw [List.length_drop, HX.out]; omega
      have XD1 : Hid (∀ u ∈ xs.drop (i * 3), u.oneCell' = true) := fun u hu => X1.out u (List.mem_of_mem_drop hu)
      have cellg : ∀ {W : World} {cr : Array Value}, W.heap[g]? = some (.cells cr 73 (0, 0)) → cr.toList.take (n * 3) = xs → ∀ j u, xs[j]? = some u → W.cell? ⟨g, j, none⟩ = some u := fun hW ht j u hj => by
        rw [← ht, List.getElem?_take] at hj
        unfold World.cell?
        simp only [hW]
        split at hj
        · simpa using hj
        · cases hj
      have CG := Lib.hid (fun j u hj => cellg HG.out HTK.out j u hj)
      have hgl : g < w.heap.size := Ty.lt ⟨cur, (0, 0), HG.out⟩
      have hvg : vb ≠ g := fun e => HNE.out (by rw [e]; rfl)
      have hvl := HB.out.lt
      clear hsz cellg
      by_cases hroom : n + 1 ≤ c
      · have hr1 : decide ((c : Int) < (n : Int) + 1) = false := decide_eq_false (by omega)
        have hic1 : ¬ c = i + 1 := by omega
        -- v and s lie apart
        have hov : ∀ W : World, W.heap[g]? = w.heap[g]? → W.heap[vb]? = w.heap[vb]? → ∀ lb cb, (callFunc 57 #[.slice (some ⟨vb, 0, none⟩) 1 1, .slice (some ⟨g, (i + 1) * 3, none⟩) lb cb]).run Try.prog W = .ok (.value (.bool false)) W := fun W e1 e2 lb cb => by
          rw [run_callFunc_extern Try.func57 (by kernel_rfl) (by kernel_rfl) (by kernel_rfl) (e := Extern.SlicesOverlaps.overlaps #[61, 61] #[4]) (by kernel_rfl),
            Lib.run_overlaps_apart W 61 4 73 Try.underlying61 3 Try.sizeOf73 ⟨vb, 0, none⟩ ⟨g, (i + 1) * 3, none⟩ 1 1 lb cb hvg 73 73 news.toArray.size cur.size
              (by unfold World.shape?; rw [e2, show w.heap[vb]? = _ from HB.out]) (by unfold World.shape?; rw [e1, HG.out]) (by rw [HCS.out]; omega) (by unfold World.frozen?; simp only [e2, show w.heap[vb]? = _ from HB.out]; simp) (by unfold World.frozen?; simp only [e2, show w.heap[vb]? = _ from HB.out]; simp)]
          rfl
        -- the two copies
        obtain ⟨W1, hW1⟩ : ∃ W1, W1 = w.drew.setRow g (cur.toList.take ((i + 1) * 3) ++ xs.drop (i * 3) ++ cur.toList.drop ((i + 1) * 3 + (xs.drop (i * 3)).length)).toArray := ⟨_, rfl⟩
        have hcp1 : ∀ ty dc sc, (Builtin.copy_ #[61, 61] ty #[.slice (some ⟨g, (i + 1) * 3, none⟩) (n - i) dc, .slice (some ⟨g, i * 3, none⟩) (n + 1 - i) sc]).run Try.prog w.drew = .ok (goInt (n - i : Nat)) W1 := fun ty dc sc => by
          rw [hW1]
          exact run_copy_k w.drew 61 61 ty 73 3 g ((i + 1) * 3) (n - i) dc ⟨g, i * 3, none⟩ (n + 1 - i) sc (n - i) cur 73 (xs.drop (i * 3)) Try.underlying61 HSZ.out (by show min _ _ = _; omega) XD.out
            (fun j u hj => by rw [Addr.add_lit]; rw [List.getElem?_drop] at hj; exact CG.out _ u hj) HG.out (by rw [XD.out, HCS.out]; omega) XD1.out
        have B1 : W1.heap[g]? = some (.cells (cur.toList.take ((i + 1) * 3) ++ xs.drop (i * 3) ++ cur.toList.drop ((i + 1) * 3 + (xs.drop (i * 3)).length)).toArray 73 (0, 0)) := by rw [hW1]; exact setRow_at w.drew g cur _ _ HG.out
        have BV : W1.heap[vb]? = w.heap[vb]? := by rw [hW1]; exact setRow_other w.drew g vb _ hvg
        have CL1 : (cur.toList.take ((i + 1) * 3) ++ xs.drop (i * 3) ++ cur.toList.drop ((i + 1) * 3 + (xs.drop (i * 3)).length)).length = c * 3 := by simp only [List.length_append, List.length_take, List.length_drop, Array.length_toList, HCS.out, HX.out]; omega
        obtain ⟨cur1, hcur1⟩ : ∃ cur1, cur1 = cur.toList.take ((i + 1) * 3) ++ xs.drop (i * 3) ++ cur.toList.drop ((i + 1) * 3 + (xs.drop (i * 3)).length) := ⟨_, rfl⟩
        rw [← hcur1] at B1 CL1 hW1
        obtain ⟨W2, hW2⟩ : ∃ W2, W2 = W1.setRow g (cur1.take (i * 3) ++ news ++ cur1.drop (i * 3 + news.length)).toArray := ⟨_, rfl⟩
        have hcp2 : ∀ ty dc, (Builtin.copy_ #[61, 61] ty #[.slice (some ⟨g, i * 3, none⟩) (n + 1 - i) dc, .slice (some ⟨vb, 0, none⟩) 1 1]).run Try.prog W1 = .ok (goInt (1 : Nat)) W2 := fun ty dc => by
          rw [hW2]
          have h := run_copy_k (P := Try.prog) W1 61 61 ty 73 3 g (i * 3) (n + 1 - i) dc ⟨vb, 0, none⟩ 1 1 1 cur1.toArray 73 news Try.underlying61 HSZ.out (by show min _ _ = _; omega) (by rw [HNL.out])
            (fun j u hj => by rw [World.cell?_of_block (w := w) (a := (⟨vb, 0, none⟩ : Addr).add j) (by rw [Addr.add_lit]; exact BV)]; exact NEWS.out j u hj) B1 (by rw [HNL.out]; simp only [List.size_toArray, CL1]; omega) N1.out
          simpa using h
        have FIN : Hid (W2.ownsRow 0 73 3 (.slice (some ⟨g, 0, none⟩) (n + 1) c) (n + 1) (xs.take (i * 3) ++ news ++ xs.drop (i * 3)) ∧ w.grownBy W2 (some g)) := by
          have e1 : cur1.take (i * 3) = xs.take (i * 3) := by
            rw [hcur1, List.append_assoc, List.take_append_of_le_length (by simp only [List.length_take, Array.length_toList, HCS.out]; omega), List.take_take, ← HTK.out, List.take_take]
            congr 1; omega
          have e2 : cur1.drop (i * 3 + news.length) = xs.drop (i * 3) ++ cur.toList.drop ((i + 1) * 3 + (xs.drop (i * 3)).length) := by
            rw [hcur1, List.append_assoc, HNL.out, show i * 3 + 3 = (cur.toList.take ((i + 1) * 3)).length by simp only [List.length_take, Array.length_toList, HCS.out]; omega, List.drop_left]
          have B2 : W2.heap[g]? = some (.cells (xs.take (i * 3) ++ news ++ (xs.drop (i * 3) ++ cur.toList.drop ((i + 1) * 3 + (xs.drop (i * 3)).length))).toArray 73 (0, 0)) := by
            rw [hW2, e1, e2]; exact setRow_at W1 g _ _ _ B1
          have hl : (xs.take (i * 3) ++ news ++ xs.drop (i * 3)).length = (n + 1) * 3 := by simp only [List.length_append, List.length_take, List.length_drop, HX.out, HNL.out]; omega
          refine ⟨⟨hl, .inr ⟨g, c, _, rfl, Nat.zero_le _, B2, hroom, by unfold maxLen; exact hc2, ?_, ?_⟩⟩, ?_⟩
          · simp only [List.size_toArray, List.length_append, List.length_take, List.length_drop, Array.length_toList, HX.out, HNL.out, HCS.out]; omega
          · rw [← List.append_assoc, ← hl]
            simp only [List.append_assoc]
            rw [← List.append_assoc, ← List.append_assoc, ← List.append_assoc]
            exact List.take_left' (by simp only [List.append_assoc])
          · rw [hW2]
            refine setRow_grown _ _ _ _ ?_ (.inl rfl)
            rw [hW1]
            exact setRow_grown _ _ _ _ ⟨rfl, rfl, rfl, Nat.le_refl _, fun _ _ _ => rfl⟩ (.inl rfl)
        have HOV := Lib.hid hov
        have HW := Lib.hid hW1
        clear hov hW1 hW2 hcur1 B1 BV CL1
        go_enter Try.func39, Try.ntmps39
        go_wp2_with (simp only [HOV.out w rfl rfl])
        have hb1 : (0 : Int) ≤ (i : Int) + 1 := by omega
        have hb3 : (i : Int) ≤ (n : Int) + 1 := by omega
        have hb5 : (i : Int) + 1 ≤ (n : Int) + 1 := by omega
        have hb6 : i ≤ n + 1 := by omega
        have hw1 : IntKind.i64.wrap ((i : Int) + 1) = (i : Int) + 1 := IntWalk.i64_in _ (by omega)
        have htn : ((i : Int) + 1).toNat = i + 1 := by omega
        go_region_law (refine step_copy_run rfl (.tmp 73) (.tmp 76) 61 61 rfl _ _ (by simp [Act.eval, Act.put]) (by simp [Act.eval, Act.put]) (hcp1 _ _ _) ?_)
        all_goals
          clear hw1 htn
          go_wp2_with (at_builtin; refine wl_copy_run _ rfl (.tmp 80) (.tmp 81) 61 61 rfl _ _ rfl rfl (hcp2 _ _) ?_)
          go_ret
          exact ⟨_, rfl, FIN.out.1, FIN.out.2, .inl rfl⟩
      · have hr1 : decide ((c : Int) < (n : Int) + 1) = true := decide_eq_true (by omega)
        obtain rfl : c = n := by omega
        have e0 : ((c : Int) + 1 - (i : Int)) = ((c + 1 - i : Nat) : Int) := by omega
        have OL : (xs.take (i * 3)).length = i * 3 := by rw [List.length_take, HX.out]; omega
        have R1 := run_append_grow_zeros (P := Try.prog) w 61 3 61 73 i0 (.agg #[.string ByteArray.empty, .bool false, .slice none 0 0]) .i64 .i64 Try.underlying61 Try.underlying3 hi0 hz0 ⟨g, 0, none⟩ i c (xs.take (i * 3)) (by rw [OL, hz1])
          (fun j u hj => by rw [Addr.add_lit, Nat.zero_add]; exact CG.out j u (by rw [List.getElem?_take] at hj; split at hj; exact hj; cases hj)) (c + 1 - i) (by omega) (by rw [hz1]; decide) (by omega) (by omega) (growslice_fits (by omega) (by rw [hz2]; omega)) (by rw [hz2]; omega)
        have e2 : i + (c + 1 - i) = c + 1 := by omega
        rw [e2, ← e0] at R1
        have hC1 := grownCap_ge w (c + 1) c 73
        have hC2 := grownCap_le_maxLen w (c + 1) c 73 (by unfold maxLen; omega)
        generalize grownCap w (c + 1) c 73 = C at *
        obtain ⟨Z, hZ⟩ : ∃ Z : List Value, Z = (Builtin.zeroCells (.agg #[.string ByteArray.empty, .bool false, .slice none 0 0] : Value).cells (c + 1 - i)).toList ++ (Builtin.zeroCells (.agg #[.string ByteArray.empty, .bool false, .slice none 0 0] : Value).cells (C - (c + 1))).toList := ⟨_, rfl⟩
        have ZL : Z.length = (C - i) * 3 := by
          rw [hZ, List.length_append, zeroCells_len, zeroCells_len]
          show (c + 1 - i) * 3 + (C - (c + 1)) * 3 = _
          omega
        have eA : (xs.take (i * 3)).toArray ++ Builtin.zeroCells (.agg #[.string ByteArray.empty, .bool false, .slice none 0 0] : Value).cells (c + 1 - i) ++ Builtin.zeroCells (.agg #[.string ByteArray.empty, .bool false, .slice none 0 0] : Value).cells (C - (c + 1)) = (xs.take (i * 3) ++ Z).toArray := by
          apply Array.toList_inj.1
          rw [hZ]; simp
        rw [eA] at R1
        clear hZ eA
        obtain ⟨W1, hW1⟩ : ∃ W1, W1 = w.drew.alloc (.cells (xs.take (i * 3) ++ Z).toArray 73) := ⟨_, rfl⟩
        rw [← hW1] at R1
        have B1 : W1.heap[w.heap.size]? = some (.cells (xs.take (i * 3) ++ Z).toArray 73 (0, 0)) := by rw [hW1]; exact heap_alloc_new w.drew _
        have BO : ∀ b, b < w.heap.size → W1.heap[b]? = w.heap[b]? := fun b hb => by rw [hW1]; exact Below.heap_alloc w.drew _ b hb
        obtain ⟨W2, hW2⟩ : ∃ W2, W2 = W1.setRow w.heap.size (xs.take (i * 3) ++ news ++ Z.drop 3).toArray := ⟨_, rfl⟩
        have hcp1 : ∀ ty dc, (Builtin.copy_ #[61, 61] ty #[.slice (some ⟨w.heap.size, i * 3, none⟩) (c + 1 - i) dc, .slice (some ⟨vb, 0, none⟩) 1 1]).run Try.prog W1 = .ok (goInt (1 : Nat)) W2 := fun ty dc => by
          rw [hW2]
          have h := run_copy_k (P := Try.prog) W1 61 61 ty 73 3 w.heap.size (i * 3) (c + 1 - i) dc ⟨vb, 0, none⟩ 1 1 1 (xs.take (i * 3) ++ Z).toArray 73 news Try.underlying61 HSZ.out (by show min _ _ = _; omega) (by rw [HNL.out])
            (fun j u hj => by rw [World.cell?_of_block (w := w) (a := (⟨vb, 0, none⟩ : Addr).add j) (by rw [Addr.add_lit]; exact BO vb hvl)]; exact NEWS.out j u hj) B1 (by rw [HNL.out]; simp only [List.size_toArray, List.length_append, OL, ZL]; omega) N1.out
          have q1 : (xs.take (i * 3) ++ Z).take (i * 3) = xs.take (i * 3) := List.take_left' OL
          have q2 : (xs.take (i * 3) ++ Z).drop (i * 3 + news.length) = Z.drop 3 := by
            rw [HNL.out, List.drop_append, OL, List.drop_eq_nil_of_le (by rw [OL]; omega), List.nil_append]; congr 1; omega
          simp only [q1, q2] at h
          exact h
        have B2 : W2.heap[w.heap.size]? = some (.cells (xs.take (i * 3) ++ news ++ Z.drop 3).toArray 73 (0, 0)) := by rw [hW2]; exact setRow_at W1 _ _ _ _ B1
        have BO2 : ∀ b, b < w.heap.size → W2.drew.heap[b]? = w.heap[b]? := fun b hb => by rw [hW2]; exact (setRow_other W1 _ b _ (by omega)).trans (BO b hb)
        have WG2 : w.grownBy W2 none := by
          rw [hW2]
          refine setRow_grown _ _ _ _ ?_ (.inr (Nat.le_refl _))
          rw [hW1]
          exact ⟨rfl, rfl, rfl, by simp, fun b hb _ => Below.heap_alloc w.drew _ b hb⟩
        obtain ⟨W3, hW3⟩ : ∃ W3, W3 = W2.drew.setRow w.heap.size (xs.take (i * 3) ++ news ++ xs.drop (i * 3) ++ Z.drop (3 + (xs.drop (i * 3)).length)).toArray := ⟨_, rfl⟩
        have hcp2 : ∀ ty dc sc, (Builtin.copy_ #[61, 61] ty #[.slice (some ⟨w.heap.size, (i + 1) * 3, none⟩) (c - i) dc, .slice (some ⟨g, i * 3, none⟩) (c - i) sc]).run Try.prog W2.drew = .ok (goInt (c - i : Nat)) W3 := fun ty dc sc => by
          rw [hW3]
          have h := run_copy_k (P := Try.prog) W2.drew 61 61 ty 73 3 w.heap.size ((i + 1) * 3) (c - i) dc ⟨g, i * 3, none⟩ (c - i) sc (c - i) (xs.take (i * 3) ++ news ++ Z.drop 3).toArray 73 (xs.drop (i * 3)) Try.underlying61 HSZ.out (by show min _ _ = _; omega) XD.out
            (fun j u hj => by rw [World.cell?_of_block (w := w) (a := (⟨g, i * 3, none⟩ : Addr).add j) (by rw [Addr.add_lit]; exact BO2 g hgl)]; rw [Addr.add_lit]; rw [List.getElem?_drop] at hj; exact CG.out _ u hj) B2
            (by rw [XD.out]; simp only [List.size_toArray, List.length_append, List.length_drop, OL, ZL, HNL.out]; omega) XD1.out
          have q0 : (xs.take (i * 3) ++ news).length = (i + 1) * 3 := by rw [List.length_append, OL, HNL.out]; omega
          have q1 : (xs.take (i * 3) ++ news ++ Z.drop 3).take ((i + 1) * 3) = xs.take (i * 3) ++ news := List.take_left' q0
          have q2 : (xs.take (i * 3) ++ news ++ Z.drop 3).drop ((i + 1) * 3 + (xs.drop (i * 3)).length) = Z.drop (3 + (xs.drop (i * 3)).length) := by
            rw [List.drop_append, q0, List.drop_eq_nil_of_le (by rw [q0]; omega), List.nil_append, List.drop_drop]; congr 1; omega
          simp only [q1, q2] at h
          exact h
        have FIN : Hid (W3.ownsRow 0 73 3 (.slice (some ⟨w.heap.size, 0, none⟩) (c + 1) C) (c + 1) (xs.take (i * 3) ++ news ++ xs.drop (i * 3)) ∧ w.grownBy W3 (some g)) := by
          have B3 : W3.heap[w.heap.size]? = some (.cells (xs.take (i * 3) ++ news ++ xs.drop (i * 3) ++ Z.drop (3 + (xs.drop (i * 3)).length)).toArray 73 (0, 0)) := by rw [hW3]; exact setRow_at W2.drew _ _ _ _ B2
          have hl : (xs.take (i * 3) ++ news ++ xs.drop (i * 3)).length = (c + 1) * 3 := by simp only [List.length_append, List.length_take, List.length_drop, HX.out, HNL.out]; omega
          refine ⟨⟨hl, .inr ⟨w.heap.size, C, _, rfl, Nat.zero_le _, B3, hC1, hC2, ?_, ?_⟩⟩, ?_⟩
          · have := hl
            simp only [List.size_toArray, List.length_append (bs := Z.drop _), hl, List.length_drop, ZL, XD.out]
            omega
          · exact List.take_left' hl
          · have := setRow_grown W2.drew w w.heap.size (xs.take (i * 3) ++ news ++ xs.drop (i * 3) ++ Z.drop (3 + (xs.drop (i * 3)).length)).toArray (row := none) ⟨WG2.os, WG2.tape, WG2.output, WG2.size, WG2.block⟩ (.inr (Nat.le_refl _))
            rw [hW3]
            exact ⟨this.os, this.tape, this.output, this.size, fun b hb _ => this.block b hb (by simp)⟩
        have R1' := Lib.hid R1
        have hC3 : c + 1 ≤ C := hC1
        have hC4 : C ≤ 9223372036854775807 := by unfold maxLen at hC2; exact hC2
        have nC1 : ¬ C = i := by omega
        have nC2 : ¬ C = i + 1 := by omega
        clear hW1 hW2 hW3 B1 B2 BO BO2 WG2 R1 e2 e0 ZL OL hC1 hC2
        go_enter Try.func39, Try.ntmps39
        go_wp2_with (at_builtin; refine Lib.wpList_append_run _ rfl (.tmp 34) (.tmp 39) 61 3 rfl _ _ rfl rfl _ _ R1'.out ?_)
        have hb1 : (0 : Int) ≤ (i : Int) + 1 := by omega
        have hb3 : (i : Int) ≤ (c : Int) := by omega
        have hb5 : (i : Int) + 1 ≤ (c : Int) + 1 := by omega
        have hb6 : (i : Int) + 1 ≤ (C : Int) := by omega
        have hw1 : IntKind.i64.wrap ((i : Int) + 1) = (i : Int) + 1 := IntWalk.i64_in _ (by omega)
        have htn : ((i : Int) + 1).toNat = i + 1 := by omega
        go_region_law (refine step_copy_run rfl (.tmp 50) (.tmp 53) 61 61 rfl _ _ (by simp [Act.eval, Act.put]) (by simp [Act.eval, Act.put]) (hcp2 _ _ _) ?_)
        all_goals
          clear hw1 htn
          go_wp2
          go_ret
          exact ⟨_, rfl, FIN.out.1, FIN.out.2, .inr ⟨w.heap.size, rfl, Nat.le_refl _⟩⟩

end Go.Proofs.Ytnbhdpmhgamjfaa.Sn

/- slices.BinarySearchFunc at buffered writes. -/
namespace Go.Proofs.Ytnbhdpmhgamjfaa.Sn
open Go Go.RowKit Hp
set_option linter.unusedVariables false

set_option maxRecDepth 100000 in
set_option maxHeartbeats 1000000 in
theorem bs_cmp (key t : ByteArray) (v1 : Value) (v2 : Value) (w : World) : Calls Try.prog 50 #[.agg #[.string key, v1, v2], .string t] w fun e w' => e = .returned (.int .i64 (So.scmp key t)) ∧ w' = w.alloc (.cells #[.string key, v1, v2] 73) := by
  go_enter Try.func50, Try.ntmps50
  go_wp2_with (go_at_call 51; refine (So.cmp_any _ _ _).mono ?_; rintro e w' ⟨rfl, rfl⟩)
  go_ret
  exact ⟨rfl, rfl⟩

set_option maxRecDepth 100000 in
set_option maxHeartbeats 4000000 in
theorem bs_any (v : Value) (n : Nat) (xs : List Value) (key : Nat → ByteArray) (c1 : Nat → Value) (c2 : Nat → Value) (t : ByteArray) (w : World) (hown : w.ownsRow 0 73 3 v n xs) (hn : n ≤ 1000000)
    (hx : ∀ i, i < n → xs[i * 3]? = some (.string (key i)) ∧ xs[i * 3 + 1]? = some (c1 i) ∧ xs[i * 3 + 2]? = some (c2 i)) (hmono : ∀ a b, a ≤ b → b < n → So.scmp (key b) t < 0 → So.scmp (key a) t < 0) :
    Calls Try.prog 49 #[v, .string t, .func (.func 50) #[] #[]] w fun e w' => ∃ i : Nat, i ≤ n ∧ (∀ j, j < i → So.scmp (key j) t < 0) ∧ (∀ j, i ≤ j → j < n → 0 ≤ So.scmp (key j) t) ∧
      e = .returned (.tuple #[.int .i64 i, .bool (decide (i < n) && decide (So.scmp (key i) t = 0))]) ∧ Up w w' := by
  have HX := Lib.hid hx
  have HM := Lib.hid hmono
  have HO := Lib.hid hown
  obtain ⟨a, c, rfl, hc1, hc2, hc3⟩ := own_form hown
  clear hx hmono hown hc3
  go_enter Try.func49, Try.ntmps49
  go_wp2
  go_loopw [9, 10] (fun s9 s10 wr => ∃ lo hi : Nat, s9 = .int .i64 lo ∧ s10 = .int .i64 hi ∧ lo ≤ hi ∧ hi ≤ n ∧ Hid (Up w wr) ∧ Hid ((∀ j, j < lo → So.scmp (key j) t < 0) ∧ (∀ j, hi ≤ j → j < n → 0 ≤ So.scmp (key j) t))) (fun s9 s10 _ => (intOf s10).toNat - (intOf s9).toNat)
  case atStart => exact ⟨0, n, rfl, rfl, Nat.zero_le _, Nat.le_refl _, Up.refl w, fun j hj => absurd hj (Nat.not_lt_zero _), fun j h1 h2 => by omega⟩
  case round =>
    obtain ⟨lo, hi, rfl, rfl, hlh, hin, HU, HI⟩ := hrel
    by_cases hlt : lo < hi
    · obtain ⟨x0, x1, x2⟩ := HX.out ((lo + hi) / 2) (by omega)
      obtain ⟨g, cap, hv, _, _, hgl, hcell, _⟩ := own_some (own_up HO.out HU.out) (by omega)
      simp only [Value.slice.injEq] at hv
      obtain ⟨rfl, _, rfl⟩ := hv
      have e0 := hcell _ _ x0
      have e1 := hcell _ _ x1
      have e2 := hcell _ _ x2
      obtain ⟨s, hs⟩ : ∃ s, s = key ((lo + hi) / 2) := ⟨_, rfl⟩
      rw [← hs] at e0
      have HS := Lib.hid hs
      generalize c1 _ = u1 at e1
      generalize c2 _ = u2 at e2
      have b1 : (0 : Int) ≤ ((lo : Int) + hi) / 2 := by omega
      have b2 : ((lo : Int) + hi) / 2 < (n : Int) := by omega
      have b3 : (((lo : Int) + hi) / 2).toNat = (lo + hi) / 2 := by omega
      have hc := bs_cmp s t
      clear hcell hs x0 x1 x2 hgl
      by_cases hyx : So.scmp s t < 0
      · go_wp2_with (go_at_call 50; refine (hc _ _ _).mono ?_; rintro e w' ⟨rfl, rfl⟩)
        go_roundw
        case rel => exact ⟨(lo + hi) / 2 + 1, hi, by rw [show ((lo : Int) + (hi : Int)) / 2 + 1 = (((lo + hi) / 2 + 1 : Nat) : Int) by omega], rfl, by omega, hin, by first | exact HU.out.alloc _ | exact HU.out.drew.alloc _ | exact (HU.out.alloc _).drew, fun j hj => HM.out j ((lo + hi) / 2) (by omega) (by omega) (by rw [← HS.out]; exact hyx), HI.out.2⟩
        case measure => simp [intOf]; omega
      · go_wp2_with (go_at_call 50; refine (hc _ _ _).mono ?_; rintro e w' ⟨rfl, rfl⟩)
        go_roundw
        case rel => exact ⟨lo, (lo + hi) / 2, rfl, by rw [show ((lo : Int) + (hi : Int)) / 2 = (((lo + hi) / 2 : Nat) : Int) by omega], by omega, by omega, by first | exact HU.out.alloc _ | exact HU.out.drew.alloc _ | exact (HU.out.alloc _).drew, HI.out.1, fun j h1 h2 => Int.not_lt.1 fun h3 => by have := HM.out ((lo + hi) / 2) j h1 h2 h3; rw [← HS.out] at this; omega⟩
        case measure => simp [intOf]; omega
    · obtain rfl : hi = lo := by omega
      by_cases hlt2 : hi < n
      · obtain ⟨x0, x1, x2⟩ := HX.out hi hlt2
        obtain ⟨g, cap, hv, _, _, hgl, hcell, _⟩ := own_some (own_up HO.out HU.out) (by omega)
        simp only [Value.slice.injEq] at hv
        obtain ⟨rfl, _, rfl⟩ := hv
        have e0 := hcell _ _ x0
        have e1 := hcell _ _ x1
        have e2 := hcell _ _ x2
        obtain ⟨s, hs⟩ : ∃ s, s = key hi := ⟨_, rfl⟩
        rw [← hs] at e0
        have HS := Lib.hid hs
        generalize c1 _ = u1 at e1
        generalize c2 _ = u2 at e2
        have b2 : (hi : Int) < (n : Int) := by omega
        have hc := bs_cmp s t
        clear hcell hs x0 x1 x2 hgl
        by_cases hyx : So.scmp s t = 0
        all_goals
          go_wp2_with (go_at_call 50; refine (hc _ _ _).mono ?_; rintro e w' ⟨rfl, rfl⟩)
          go_ret2
          exact ⟨hi, hin, HI.out.1, HI.out.2, by rw [← HS.out]; simp [hlt2, hyx], by first | exact HU.out.alloc _ | exact HU.out.drew.alloc _ | exact (HU.out.alloc _).drew⟩
      · go_wp2
        go_ret2
        exact ⟨hi, hin, HI.out.1, HI.out.2, by simp [hlt2], by first | exact HU.out | exact HU.out.drew⟩

end Go.Proofs.Ytnbhdpmhgamjfaa.Sn

/- slices.Delete at active transactions. -/
namespace Go.Proofs.Ytnbhdpmhgamjfaa.Sn
open Go Go.RowKit Hp
set_option linter.unusedVariables false
theorem Try.infoTrans : (Try.prog.info? 63).map (fun i => (i.zero, i.size, i.bytes)) = some (some (.agg #[.int .i64 0, .int .i64 0, .slice none 0 0]), 3, 40) := by kernel_rfl

set_option maxRecDepth 100000 in
set_option maxHeartbeats 4000000 in
theorem del_any (v : Value) (n i : Nat) (xs : List Value) (w : World) (hown : w.ownsRow 0 63 3 v n xs) (hi : i < n) (hn : n ≤ 1000000) (h1x : ∀ u ∈ xs, u.oneCell' = true) :
    Calls Try.prog 37 #[v, .int .i64 i, .int .i64 ((i : Int) + 1)] w fun e w' => ∃ v', e = .returned v' ∧ w'.ownsRow 0 63 3 v' (n - 1) (xs.take (i * 3) ++ xs.drop ((i + 1) * 3)) ∧
      w.grownBy w' v.ownBlock ∧ v'.ownBlock = v.ownBlock := by
  obtain ⟨i0, hi0, hz0, hz1, hz2⟩ := info_parts Try.infoTrans
  have HX := Lib.hid hown.1
  have X1 := Lib.hid h1x
  obtain ⟨a, c, rfl, hc1, hc2, hc3⟩ := own_form hown
  clear h1x hc3
  obtain ⟨hx, h⟩ := hown
  rcases h with ⟨_, h0⟩ | ⟨g, cap, cur, hv, hbase, hg, hnc, hcm, hcs, htk⟩
  · omega
  · simp only [Value.slice.injEq] at hv
    obtain ⟨rfl, _, rfl⟩ := hv
    have HG := Lib.hid hg
    have HCS := Lib.hid hcs
    have HTK := Lib.hid htk
    clear hx hg hcs htk hbase hcm
    have XD : Hid ((xs.drop ((i + 1) * 3)).length = (n - (i + 1)) * 3) := by unfold Hid; rw [List.length_drop, HX.out]; omega
    have XD1 : Hid (∀ u ∈ xs.drop ((i + 1) * 3), u.oneCell' = true) := fun u hu => X1.out u (List.mem_of_mem_drop hu)
    have CG : Hid (∀ j u, xs[j]? = some u → w.cell? ⟨g, j, none⟩ = some u) := fun j u hj => by
      rw [← HTK.out, List.getElem?_take] at hj
      unfold World.cell?
      simp only [HG.out]
      split at hj
      · simpa using hj
      · cases hj
    obtain ⟨W1, hW1⟩ : ∃ W1, W1 = w.drew.setRow g (cur.toList.take (i * 3) ++ xs.drop ((i + 1) * 3) ++ cur.toList.drop (i * 3 + (xs.drop ((i + 1) * 3)).length)).toArray := ⟨_, rfl⟩
    have hap : ∀ ty ad m cc, m = n - (i + 1) → (0 < m → ad = ⟨g, (i + 1) * 3, none⟩) → (Builtin.append_ #[57, 57] ty #[.slice (some ⟨g, 0, none⟩) i c, .slice (some ad) m cc]).run Try.prog w.drew = .ok (.slice (some ⟨g, 0, none⟩) (n - 1) c) W1 := fun ty ad m cc hm had => by
      have h := run_append_room (P := Try.prog) w.drew 57 ty 63 i0 Try.underlying57 hi0 g i c cur HG.out ad m cc (xs.drop ((i + 1) * 3)) (by rw [XD.out, hz1, hm]) (fun j u hj => by
          by_cases h0 : 0 < m
          · rw [had h0, Addr.add_lit]; rw [List.getElem?_drop] at hj; exact CG.out _ u hj
          · have hl := XD.out
            rw [← hm, show m = 0 by omega, Nat.zero_mul] at hl
            have hnl : xs.drop ((i + 1) * 3) = [] := List.eq_nil_of_length_eq_zero hl
            rw [List.getElem?_drop] at hj
            have hj2 : (xs.drop ((i + 1) * 3))[j]? = some u := by rw [List.getElem?_drop]; exact hj
            rw [hnl] at hj2
            simp at hj2) XD1.out (by omega) (by rw [XD.out, hz1, HCS.out]; omega)
      rw [hz1] at h
      rw [h, hW1, show i + m = n - 1 by omega]
    have B1 : W1.heap[g]? = some (.cells (cur.toList.take (i * 3) ++ xs.drop ((i + 1) * 3) ++ cur.toList.drop (i * 3 + (xs.drop ((i + 1) * 3)).length)).toArray 63 (0, 0)) := by rw [hW1]; exact setRow_at w.drew g cur _ _ HG.out
    obtain ⟨W2, hW2⟩ : ∃ W2, W2 = W1.setRow g ((cur.toList.take (i * 3) ++ xs.drop ((i + 1) * 3) ++ cur.toList.drop (i * 3 + (xs.drop ((i + 1) * 3)).length)).take ((n - 1) * 3) ++ (Builtin.zeroCells (.agg #[.int .i64 0, .int .i64 0, .slice none 0 0] : Value).cells 1).toList ++ (cur.toList.take (i * 3) ++ xs.drop ((i + 1) * 3) ++ cur.toList.drop (i * 3 + (xs.drop ((i + 1) * 3)).length)).drop ((n - 1) * 3 + 1 * 3)).toArray := ⟨_, rfl⟩
    have hcl : ∀ ty cc, (Builtin.clear_ #[57] ty #[.slice (some ⟨g, (n - 1) * 3, none⟩) 1 cc]).run Try.prog W1 = .ok (.tuple #[]) W2 := fun ty cc => by
      rw [hW2]
      exact run_clear_k (P := Try.prog) W1 57 63 ty (.agg #[.int .i64 0, .int .i64 0, .slice none 0 0]) 3 g ((n - 1) * 3) 1 cc _ 63 Try.underlying57 Try.zeroValue63 rfl (by decide) B1
        (by simp only [List.size_toArray, List.length_append, List.length_take, List.length_drop, Array.length_toList, HCS.out, HX.out]; omega) (zeroCells_one _ _ (by intro u hu; simp [Value.cells] at hu; rcases hu with rfl | rfl | rfl <;> rfl))
    have FIN : Hid (W2.ownsRow 0 63 3 (.slice (some ⟨g, 0, none⟩) (n - 1) c) (n - 1) (xs.take (i * 3) ++ xs.drop ((i + 1) * 3)) ∧ w.grownBy W2 (some g)) := by
      have e1 : cur.toList.take (i * 3) = xs.take (i * 3) := by rw [← HTK.out, List.take_take]; congr 1; omega
      have hl : (xs.take (i * 3) ++ xs.drop ((i + 1) * 3)).length = (n - 1) * 3 := by simp only [List.length_append, List.length_take, List.length_drop, HX.out]; omega
      have B2 := setRow_at W1 g _ ((cur.toList.take (i * 3) ++ xs.drop ((i + 1) * 3) ++ cur.toList.drop (i * 3 + (xs.drop ((i + 1) * 3)).length)).take ((n - 1) * 3) ++ (Builtin.zeroCells (.agg #[.int .i64 0, .int .i64 0, .slice none 0 0] : Value).cells 1).toList ++ (cur.toList.take (i * 3) ++ xs.drop ((i + 1) * 3) ++ cur.toList.drop (i * 3 + (xs.drop ((i + 1) * 3)).length)).drop ((n - 1) * 3 + 1 * 3)).toArray 63 B1
      rw [← hW2] at B2
      refine ⟨⟨hl, .inr ⟨g, c, _, rfl, Nat.zero_le _, B2, by omega, by unfold maxLen; exact hc2, ?_, ?_⟩⟩, ?_⟩
      · simp only [List.size_toArray, List.length_append, List.length_take, List.length_drop, Array.length_toList, HX.out, HCS.out, zeroCells_size]
        rw [show (.agg #[.int .i64 0, .int .i64 0, .slice none 0 0] : Value).cells.size = 3 from rfl]
        omega
      · simp only [List.append_assoc]
        rw [List.take_append_of_le_length (by simp only [List.length_append, List.length_take, List.length_drop, Array.length_toList, HX.out, HCS.out]; omega), List.take_take, Nat.min_self, e1, ← List.append_assoc]
        exact List.take_left' hl
      · rw [hW2]
        refine setRow_grown _ _ _ _ ?_ (.inl rfl)
        rw [hW1]
        exact setRow_grown _ _ _ _ ⟨rfl, rfl, rfl, Nat.le_refl _, fun _ _ _ => rfl⟩ (.inl rfl)
    have hcl2 : ∀ ty cc, (Builtin.clear_ #[57] ty #[.slice (some ⟨g, (n - 1) * 3, none⟩) (n - (n - 1)) cc]).run Try.prog W1 = .ok (.tuple #[]) W2 := fun ty cc => by rw [show n - (n - 1) = 1 by omega]; exact hcl ty cc
    have q1 : ((i : Int) == (i : Int) + 1) = false := beq_eq_false_iff_ne.2 (by omega)
    clear hW1 hW2 B1
    have HAP := Lib.hid hap
    clear hap
    have hb1 : (0 : Int) ≤ (i : Int) + 1 := by omega
    have hb2 : (i : Int) ≤ (n : Int) := by omega
    have hb3 : (i : Int) + 1 ≤ (n : Int) := by omega
    have hb4 : (i : Int) ≤ (c : Int) := by omega
    have htn : ((i : Int) + 1).toNat = i + 1 := by omega
    have hn1 : ¬ c = n - 1 := by omega
    have HTN := Lib.hid htn
    clear htn
    by_cases hcj : c = i + 1
    · have hni : n = i + 1 := by omega
      subst hcj
      subst hni
      have hb5 : (i : Int) ≤ (i : Int) + 1 := by omega
      have hb6 : ((i + 1 : Nat) : Int) = (i : Int) + 1 := by omega
      have hap := fun ty => HAP.out ty ⟨g, 0, none⟩ 0 0 (by omega) (fun h => by omega)
      go_enter Try.func37, Try.ntmps37
      go_wp2
      have htn := HTN.out
      go_region_law (refine step_append_run rfl (.tmp 22) (.tmp 25) 57 57 rfl _ _ (by simp [Act.eval, Act.put]) (by simp [Act.eval, Act.put]) (hap _) ?_)
      all_goals
        clear htn
        go_wp2_with (first | (with_reducible refine wl_clear_run _ rfl (.tmp 31) 57 rfl _ rfl (hcl _ _) ?_) | (with_reducible refine wl_clear_run _ rfl (.tmp 31) 57 rfl _ rfl (hcl2 _ _) ?_))
        go_wp2
        go_ret
        exact ⟨_, rfl, FIN.out.1, FIN.out.2, rfl⟩
    · have hap := fun ty => HAP.out ty ⟨g, (i + 1) * 3, none⟩ (n - (i + 1)) (c - (i + 1)) rfl (fun _ => rfl)
      go_enter Try.func37, Try.ntmps37
      go_wp2
      have htn := HTN.out
      go_region_law (refine step_append_run rfl (.tmp 22) (.tmp 25) 57 57 rfl _ _ (by simp [Act.eval, Act.put]) (by simp [Act.eval, Act.put]) (hap _) ?_)
      all_goals
        clear htn
        go_wp2_with (first | (with_reducible refine wl_clear_run _ rfl (.tmp 31) 57 rfl _ rfl (hcl _ _) ?_) | (with_reducible refine wl_clear_run _ rfl (.tmp 31) 57 rfl _ rfl (hcl2 _ _) ?_))
        go_wp2
        go_ret
        exact ⟨_, rfl, FIN.out.1, FIN.out.2, rfl⟩

end Go.Proofs.Ytnbhdpmhgamjfaa.Sn
