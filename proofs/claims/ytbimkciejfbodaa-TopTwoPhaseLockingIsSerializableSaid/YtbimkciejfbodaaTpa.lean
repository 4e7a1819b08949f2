/- Strict two-phase locking in plain words: what a release keeps, what a request leaves. -/
import Derived.Test.YtbimkciejfbodaaLkx
namespace Go.Proofs.Ytbimkciejfbodaa.Lk
open Go Go.RowKit Hp
set_option linter.unusedVariables false

/-! ### What a release keeps -/
structure Keeps (gr Q gr' Q' : List Lk) : Prop where
  g : ∀ x ∈ gr, ∃ y ∈ gr', sameL y x = true ∧ cov y.mode x.mode = true
  q : ∀ x ∈ Q, x ∈ Q' ∨ ∃ y ∈ gr', sameL y x = true ∧ cov y.mode x.mode = true
theorem same_refl (a : Lk) : sameL a a = true := same_iff.2 ⟨rfl, rfl, rfl⟩
theorem same_trans {a b c : Lk} (h : sameL a b = true) (k : sameL b c = true) : sameL a c = true := by
  rw [same_iff] at *
  exact ⟨h.1.trans k.1, h.2.1.trans k.2.1, h.2.2.trans k.2.2⟩
theorem grant_keep {gr : List Lk} (hd : Dist gr) {l : Lk} (hu : ∀ g ∈ gr, sameL g l = true → cov l.mode g.mode = true) : ∀ x ∈ gr, ∃ y ∈ grantL gr l, sameL y x = true ∧ cov y.mode x.mode = true := fun x hx => by
  cases e : sameL x l with
  | true => exact ⟨l, (mem_grant hd).2 (.inl rfl), same_symm e, hu x hx e⟩
  | false => exact ⟨x, (mem_grant hd).2 (.inr ⟨hx, e⟩), same_refl x, cov_refl _⟩
theorem relGo_keep : ∀ (rest gr pre : List Lk) (res : List Int), Inv gr (pre ++ rest) → BlkS gr pre → Keeps gr (pre ++ rest) (relGo gr pre rest res).1 (relGo gr pre rest res).2.1
  | [], gr, pre, res, h, hb => by
    unfold relGo
    rw [List.append_nil] at *
    exact ⟨fun x hx => ⟨x, hx, same_refl x, cov_refl _⟩, fun x hx => .inl hx⟩
  | q :: rest, gr, pre, res, h, hb => by
    unfold relGo
    by_cases hn : (blkL (gr ++ pre) q).length = 0
    · rw [if_pos hn]
      obtain ⟨h1, h2, h3⟩ := h.take hb hn
      have ih := relGo_keep rest (grantL gr q) pre (res ++ [q.tx]) h1 h2
      have hu := fun g hg hs => h.up q (by simp) g hg hs
      refine ⟨fun x hx => ?_, fun x hx => ?_⟩
      · obtain ⟨y, hy, k1, k2⟩ := grant_keep h.hd hu x hx
        obtain ⟨z, hz, k3, k4⟩ := ih.g y hy
        exact ⟨z, hz, same_trans k3 k1, cov_trans k4 k2⟩
      · have : x = q ∨ x ∈ pre ++ rest := by
          rcases List.mem_append.1 hx with e | e
          · exact .inr (List.mem_append_left _ e)
          · rcases List.mem_cons.1 e with e | e
            · exact .inl e
            · exact .inr (List.mem_append_right _ e)
        rcases this with rfl | e
        · exact .inr (ih.g x ((mem_grant h.hd).2 (.inl rfl)))
        · exact ih.q x e
    · rw [if_neg hn]
      have e : pre ++ [q] ++ rest = pre ++ q :: rest := by simp
      have := relGo_keep rest gr (pre ++ [q]) res (by rw [e]; exact h) (hb.snoc hn)
      rw [e] at this
      exact this
/-- Behind a release the others have what they had, or more. -/
theorem rel_keep {M : Mg} (h : Inv M.gr M.qu) (t : Int) : (∀ x ∈ M.gr, x.tx ≠ t → ∃ y ∈ (relM M t).1, sameL y x = true ∧ cov y.mode x.mode = true) ∧ ∀ x ∈ M.qu, x.tx ≠ t → x ∈ (relM M t).2.1 ∨ ∃ y ∈ (relM M t).1, sameL y x = true ∧ cov y.mode x.mode = true := by
  obtain ⟨h1, h2⟩ := h.keep t
  have key := relGo_keep (keepC t M.qu) (keepC t M.gr) [] [] (by simpa using h1) (BlkS.nil _)
  exact ⟨fun x hx hne => key.g x (mem_keep.2 ⟨hx, hne⟩), fun x hx hne => key.q x (by simpa using mem_keep.2 ⟨hx, hne⟩)⟩

/-! ### What the two requests leave -/
/-- The manager's own shape under the law: one table; on it intentions alone; only keys are waited for. -/
structure Shp (M : Mg) : Prop where
  tab : ∀ x ∈ M.gr ++ M.qu, x.tab = tT
  gt : ∀ x ∈ M.gr, x.key.size = 0 → 3 ≤ x.mode
  qk : ∀ x ∈ M.qu, x.key.size ≠ 0
theorem key_nil {k : ByteArray} (h : k.size = 0) : k = ByteArray.empty := So.ba_inj (by
  have : k.data.size = 0 := h
  have h2 : k.data = #[] := Array.size_eq_zero_iff.1 this
  rw [h2]; rfl)
theorem Shp.rel {M : Mg} (hs : Shp M) (h : Inv M.gr M.qu) (t : Int) : Shp ⟨(relM M t).1, (relM M t).2.1⟩ := by
  have ok := (rel_ok h t).ok
  refine ⟨fun x hx => hs.tab x (ok.mem x hx), fun x hx hk => ?_, fun x hx => hs.qk x (ok.sub.subset hx)⟩
  rcases List.mem_append.1 (ok.mem x (List.mem_append_left _ hx)) with e | e
  · exact hs.gt x e hk
  · exact absurd hk (hs.qk x e)
/-- A request for the intention on the table is granted at once. -/
structure Int1 (M M1 : Mg) (t m : Int) : Prop where
  qu : M1.qu = M.qu
  keep : ∀ x ∈ M.gr, ∃ y ∈ M1.gr, sameL y x = true ∧ cov y.mode x.mode = true
  new : ∀ x ∈ M1.gr, x ∈ M.gr ∨ (x.tx = t ∧ x.tab = tT ∧ x.key = ByteArray.empty ∧ 3 ≤ x.mode)
  has : ∃ y ∈ M1.gr, y.tx = t ∧ y.tab = tT ∧ y.key = ByteArray.empty ∧ cov y.mode (m + 2) = true
theorem int_ok {M : Mg} {n : Nat} (hg : Good M n) (hn : n < 190) (hs : Shp M) {t m : Int} (hw : ¬ Waits M t) (ht0 : 0 ≤ t) (ht1 : t < 20) (hm0 : 1 ≤ m) (hm1 : m ≤ 2) :
    ∃ M1, acqL M ⟨t, tT, ByteArray.empty, m + 2⟩ = (0, M1) ∧ Int1 M M1 t m ∧ Good M1 (n + 1) ∧ Shp M1 := by
  have hV : Valid ⟨t, tT, ByteArray.empty, m + 2⟩ := tT_valid ht0 ht1 (by omega) (by omega)
  have hG := hg.acq hV
  have hq : ¬ ∃ q ∈ M.qu, q.tx = t := hw
  have hlen := hg.len
  suffices H : ∃ M1, acqL M ⟨t, tT, ByteArray.empty, m + 2⟩ = (0, M1) ∧ Int1 M M1 t m by
    obtain ⟨M1, e, h⟩ := H
    rw [e] at hG
    refine ⟨M1, e, h, hG, ⟨fun x hx => ?_, fun x hx hk => ?_, fun x hx => hs.qk x (by rw [← h.qu]; exact hx)⟩⟩
    · rcases List.mem_append.1 hx with k | k
      · rcases h.new x k with k | k
        · exact hs.tab x (List.mem_append_left _ k)
        · exact k.2.1
      · rw [h.qu] at k
        exact hs.tab x (List.mem_append_right _ k)
    · rcases h.new x hx with k | k
      · exact hs.gt x k hk
      · exact k.2.2.2
  obtain ⟨l, hl⟩ : ∃ l : Lk, l = ⟨t, tT, ByteArray.empty, m + 2⟩ := ⟨_, rfl⟩
  have lt : l.tx = t := by rw [hl]
  have lb : l.tab = tT := by rw [hl]
  have lk : l.key = ByteArray.empty := by rw [hl]
  have lm : l.mode = m + 2 := by rw [hl]
  have hz : l.key.size = 0 := by rw [lk]; rfl
  have hq' : ¬ ∃ q ∈ M.qu, q.tx = l.tx := by rw [lt]; exact hq
  rw [← hl]
  by_cases h3 : 0 < modeL M.gr l ∧ cov (modeL M.gr l) l.mode = true
  · refine ⟨M, ?_, rfl, fun x hx => ⟨x, hx, same_refl x, cov_refl _⟩, fun x hx => .inl hx, ?_⟩
    · unfold acqL
      rw [if_neg hq', if_neg (fun e => e.1 hz), if_pos h3]
    · obtain ⟨x, hx, hsx, e⟩ := modeL_some (gr := M.gr) (l := l) (by omega)
      obtain ⟨k1, k2, k3⟩ := same_iff.1 hsx
      exact ⟨x, hx, k1.trans lt, k2.trans lb, k3.trans lk, by rw [← e, ← lm]; exact h3.2⟩
  · obtain ⟨a1, _, _⟩ := acq_go (M := M) (l := l) hq' (fun e => e.1 hz) h3 (fun e => by omega)
    -- the mode that is asked for
    have hmode : (askL M.gr l).mode = 3 ∨ (askL M.gr l).mode = 4 := by
      have hm : m = 1 ∨ m = 2 := by omega
      unfold askL
      split
      · obtain ⟨x, hx, hsx, e⟩ := modeL_some (gr := M.gr) (l := l) (by omega)
        have hx3 := hs.gt x hx (by rw [(same_iff.1 hsx).2.2]; exact hz)
        have hx4 := (hg.inv.vl x (List.mem_append_left _ hx)).m1
        have hx' : x.mode = 3 ∨ x.mode = 4 := by omega
        show supM (modeL M.gr l) l.mode = 3 ∨ supM (modeL M.gr l) l.mode = 4
        rw [e, lm]
        rcases hm with rfl | rfl <;> rcases hx' with h | h <;> rw [h] <;> decide
      · show l.mode = 3 ∨ l.mode = 4
        rw [lm]; omega
    have htx : (askL M.gr l).tx = t := by unfold askL; exact lt
    have htb : (askL M.gr l).tab = tT := by unfold askL; exact lb
    have hky : (askL M.gr l).key = ByteArray.empty := by unfold askL; exact lk
    have hup := ask_up (l := l) hg.inv
    have hblk : (blkL (M.gr ++ M.qu) (askL M.gr l)).length = 0 := by
      rcases Nat.eq_zero_or_pos (blkL (M.gr ++ M.qu) (askL M.gr l)).length with e | e
      · exact e
      · obtain ⟨x, hx, hc⟩ := blk_ne.1 (Nat.pos_iff_ne_zero.1 e)
        obtain ⟨_, _, k3, k4⟩ := confl_iff.1 hc
        rw [hky] at k3
        have hxk : x.key.size = 0 := by rw [k3]; rfl
        rcases List.mem_append.1 hx with e | e
        · have hx3 := hs.gt x e hxk
          have hx4 := (hg.inv.vl x (List.mem_append_left _ e)).m1
          rw [compat_iff] at k4
          omega
        · exact absurd hxk (hs.qk x e)
    refine ⟨_, a1 hblk, rfl, grant_keep hg.inv.hd hup, fun x hx => ?_, ⟨askL M.gr l, (mem_grant hg.inv.hd).2 (.inl rfl), htx, htb, hky, ?_⟩⟩
    · rcases (mem_grant hg.inv.hd).1 hx with rfl | e
      · exact .inr ⟨htx, htb, hky, by omega⟩
      · exact .inl e.1
    · rw [← lm]
      unfold askL
      split
      · exact sup_cov2 _ _
      · exact cov_refl _
/-- A request for a key, behind the intention. -/
structure Key2 (M1 M2 : Mg) (t m : Int) (k : ByteArray) (r : Int) : Prop where
  keep : ∀ x ∈ M1.gr, ∃ y ∈ M2.gr, sameL y x = true ∧ cov y.mode x.mode = true
  qs : ∀ x ∈ M1.qu, x ∈ M2.qu
  new : ∀ x ∈ M2.gr ++ M2.qu, x ∈ M1.gr ++ M1.qu ∨ (x.tx = t ∧ x.tab = tT ∧ x.key = k)
  newG : ∀ x ∈ M2.gr, x ∈ M1.gr ∨ x.key = k
  newQ : ∀ x ∈ M2.qu, x ∈ M1.qu ∨ x.key = k
  ans : (r = 0 ∧ M2.qu = M1.qu ∧ ∃ y ∈ M2.gr, y.tx = t ∧ y.tab = tT ∧ y.key = k ∧ cov y.mode m = true) ∨ (r = 14 ∧ M2 = M1) ∨
    (r = 16 ∧ M2.gr = M1.gr ∧ (∃ q ∈ M2.qu, q.tx = t ∧ q.key = k ∧ cov q.mode m = true) ∧ ∀ y ∈ M1.gr, y.tx = t → y.tab = tT → y.key = k → cov y.mode m = false)
theorem key_ok {M1 : Mg} {n : Nat} (hg : Good M1 n) (hn : n < 190) (hs : Shp M1) {t m : Int} {k : ByteArray} (hw : ¬ Waits M1 t) (ht0 : 0 ≤ t) (ht1 : t < 20) (hm0 : 1 ≤ m) (hm1 : m ≤ 2) (hk : k.size = 1)
    (hi : ∃ y ∈ M1.gr, y.tx = t ∧ y.tab = tT ∧ y.key = ByteArray.empty ∧ cov y.mode (m + 2) = true) :
    ∃ r M2, acqL M1 ⟨t, tT, k, m⟩ = (r, M2) ∧ Key2 M1 M2 t m k r ∧ Good M2 (n + 1) ∧ Shp M2 := by
  have hV : Valid ⟨t, tT, k, m⟩ := ⟨ht0, ht1, hm0, by show m ≤ 4; omega, fun _ => hm1, show tT.size ≠ 0 by decide, show tT.size ≤ 24 by decide, by show k.size ≤ 24; omega⟩
  have hG := hg.acq hV
  have hlen := hg.len
  suffices H : ∃ r M2, acqL M1 ⟨t, tT, k, m⟩ = (r, M2) ∧ Key2 M1 M2 t m k r by
    obtain ⟨r, M2, e, h⟩ := H
    rw [e] at hG
    refine ⟨r, M2, e, h, hG, ⟨fun x hx => ?_, fun x hx hk0 => ?_, fun x hx => ?_⟩⟩
    · rcases h.new x hx with e | e
      · exact hs.tab x e
      · exact e.2.1
    · rcases h.newG x hx with e | e
      · exact hs.gt x e hk0
      · rw [e] at hk0; omega
    · rcases h.newQ x hx with e | e
      · exact hs.qk x e
      · rw [e]; omega
  obtain ⟨l, hl⟩ : ∃ l : Lk, l = ⟨t, tT, k, m⟩ := ⟨_, rfl⟩
  have lt : l.tx = t := by rw [hl]
  have lb : l.tab = tT := by rw [hl]
  have lk : l.key = k := by rw [hl]
  have lm : l.mode = m := by rw [hl]
  have hq' : ¬ ∃ q ∈ M1.qu, q.tx = l.tx := by rw [lt]; exact hw
  have h2 : ¬ (l.key.size ≠ 0 ∧ (modeL M1.gr (intL l) = 0 ∨ cov (modeL M1.gr (intL l)) (l.mode + 2) = false)) := by
    rintro ⟨_, h⟩
    obtain ⟨y, hy, y1, y2, y3, y4⟩ := hi
    have e := modeL_of hg.inv.hd hy (l := intL l) (same_iff.2 ⟨y1.trans lt.symm, y2.trans lb.symm, y3⟩)
    have := (hg.inv.vl y (List.mem_append_left _ hy)).m0
    rw [e, lm, y4] at h
    rcases h with h | h
    · omega
    · cases h
  rw [← hl]
  by_cases h3 : 0 < modeL M1.gr l ∧ cov (modeL M1.gr l) l.mode = true
  · refine ⟨0, M1, ?_, fun x hx => ⟨x, hx, same_refl x, cov_refl _⟩, fun x hx => hx, fun x hx => .inl hx, fun x hx => .inl hx, fun x hx => .inl hx, .inl ⟨rfl, rfl, ?_⟩⟩
    · unfold acqL
      rw [if_neg hq', if_neg h2, if_pos h3]
    · obtain ⟨x, hx, hsx, e⟩ := modeL_some (gr := M1.gr) (l := l) (by omega)
      obtain ⟨k1, k2, k3⟩ := same_iff.1 hsx
      exact ⟨x, hx, k1.trans lt, k2.trans lb, k3.trans lk, by rw [← e, ← lm]; exact h3.2⟩
  · obtain ⟨a1, a2, a3⟩ := acq_go (M := M1) (l := l) hq' h2 h3 (fun e => by omega)
    have htx : (askL M1.gr l).tx = t := by unfold askL; exact lt
    have htb : (askL M1.gr l).tab = tT := by unfold askL; exact lb
    have hky : (askL M1.gr l).key = k := by unfold askL; exact lk
    have hcv : cov (askL M1.gr l).mode m = true := by
      rw [← lm]
      unfold askL
      split
      · exact sup_cov2 _ _
      · exact cov_refl _
    have hup := ask_up (l := l) hg.inv
    by_cases hb : (blkL (M1.gr ++ M1.qu) (askL M1.gr l)).length = 0
    · refine ⟨0, _, a1 hb, grant_keep hg.inv.hd hup, fun x hx => hx, fun x hx => ?_, fun x hx => ?_, fun x hx => .inl hx, .inl ⟨rfl, rfl, askL M1.gr l, (mem_grant hg.inv.hd).2 (.inl rfl), htx, htb, hky, hcv⟩⟩
      · rcases List.mem_append.1 hx with e | e
        · rcases (mem_grant hg.inv.hd).1 e with rfl | e
          · exact .inr ⟨htx, htb, hky⟩
          · exact .inl (List.mem_append_left _ e.1)
        · exact .inl (List.mem_append_right _ e)
      · rcases (mem_grant hg.inv.hd).1 hx with rfl | e
        · exact .inr hky
        · exact .inl e.1
    · by_cases hr : Rch M1 (blkL (M1.gr ++ M1.qu) (askL M1.gr l)) l.tx
      · exact ⟨14, M1, a2 hb hr, fun x hx => ⟨x, hx, same_refl x, cov_refl _⟩, fun x hx => hx, fun x hx => .inl hx, fun x hx => .inl hx, fun x hx => .inl hx, .inr (.inl ⟨rfl, rfl⟩)⟩
      · refine ⟨16, _, a3 hb hr, fun x hx => ⟨x, hx, same_refl x, cov_refl _⟩, fun x hx => List.mem_append_left _ hx, fun x hx => ?_, fun x hx => .inl hx, fun x hx => ?_, .inr (.inr ⟨rfl, rfl, ⟨askL M1.gr l, by simp, htx, hky, hcv⟩, fun y hy y1 y2 y3 => ?_⟩)⟩
        · rcases List.mem_append.1 hx with e | e
          · exact .inl (List.mem_append_left _ e)
          · rcases List.mem_append.1 e with e | e
            · exact .inl (List.mem_append_right _ e)
            · rw [List.mem_singleton.1 e]; exact .inr ⟨htx, htb, hky⟩
        · rcases List.mem_append.1 hx with e | e
          · exact .inl e
          · rw [List.mem_singleton.1 e]; exact .inr hky
        · have e := modeL_of hg.inv.hd hy (l := l) (same_iff.2 ⟨y1.trans lt.symm, y2.trans lb.symm, y3.trans lk.symm⟩)
          have := (hg.inv.vl y (List.mem_append_left _ hy)).m0
          rw [e, lm] at h3
          cases hc : cov y.mode m with
          | false => rfl
          | true => exact absurd ⟨by omega, hc⟩ h3
end Go.Proofs.Ytbimkciejfbodaa.Lk
