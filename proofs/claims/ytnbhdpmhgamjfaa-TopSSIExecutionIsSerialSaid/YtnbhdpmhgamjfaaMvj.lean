/- The multi-version store: what add's two stores leave. -/
import Derived.Test.YtnbhdpmhgamjfaaMvi
namespace Go.Proofs.Ytnbhdpmhgamjfaa.Mv
open Go Go.RowKit Hp So
set_option linter.unusedVariables false

theorem mcC_set (cs : List MC) (i : Nat) (hi : i < cs.length) (v : Value) (vs : List MV) : (mcC cs).set (i * 2 + 1) v = mcC (cs.set i ⟨cs[i].key, v, vs⟩) :=
  fm_set (f := mcC1) (k := 2) (fun _ => rfl) cs i 1 hi (by omega) v _ rfl
theorem RowIn.fx {F : Nat → Prop} {w w' : World} {rv : Value} {row : List Val} (h : RowIn w F rv row) : RowIn w (Fx F w w') rv row := h.mono fun k hk => .inl hk
/-- Behind chains[i].versions = append(chains[i].versions, v). -/
theorem StP.addOld {w w2 : World} {p : Nat} {cs : List MC} {hz : Int} {F : Nat → Prop} {g cap i : Nat} {v' : Value} {mv : MV} (h : StP w p cs hz F (.slice (some ⟨g, 0, none⟩) cs.length cap)) (hi : i < cs.length)
    (hC : Chg (fun j => cs[i].vv.ownBlock = some j) w w2) (hown : w2.ownsRow 0 94 3 v' (cs[i].vs.length + 1) (mvC cs[i].vs ++ mvC1 mv)) (hat : ∀ k, v'.ownBlock = some k → cs[i].vv.ownBlock = some k ∨ w.heap.size ≤ k) (hrow : RowIn w F mv.rv mv.row) :
    StP (w2.setCell ⟨g, i * 2 + 1, none⟩ v') p (cs.set i ⟨cs[i].key, v', cs[i].vs ++ [mv]⟩) hz (Fx F w (w2.setCell ⟨g, i * 2 + 1, none⟩ v')) (.slice (some ⟨g, 0, none⟩) cs.length cap) ∧ Chg F w (w2.setCell ⟨g, i * 2 + 1, none⟩ v') := by
  have hz3 : (w2.setCell ⟨g, i * 2 + 1, none⟩ v').heap.size = w2.heap.size := by simp [World.setCell]
  have hgT := ((own_ty h.chn) g rfl).1
  have hvT := fun k (hk : cs[i].vv.ownBlock = some k) => ((own_ty (h.vrs _ (List.getElem_mem hi))) k hk).1
  have gn : ¬ cs[i].vv.ownBlock = some g := fun e => (hvT g e).ne (by decide) hgT
  have S1 := chg_set w2 g (i * 2 + 1) none v'
  have A : Chg (fun j => cs[i].vv.ownBlock = some j ∨ j = g) w (w2.setCell ⟨g, i * 2 + 1, none⟩ v') := hC.or S1
  have nS : ∀ k T, Ty w k T → T ≠ 94 → T ≠ 97 → ¬ (cs[i].vv.ownBlock = some k ∨ k = g) := fun k T ht h1 h2 e => by
    rcases e with e | e
    · exact ht.ne h1 (hvT k e)
    · subst e; exact ht.ne h2 hgT
  have hgT2 : Ty w2 g 97 := ty_chg hgT hC gn
  have vown : (w2.setCell ⟨g, i * 2 + 1, none⟩ v').ownsRow 0 94 3 v' (cs[i].vs ++ [mv]).length (mvC (cs[i].vs ++ [mv])) := by
    have e1 : mvC (cs[i].vs ++ [mv]) = mvC cs[i].vs ++ mvC1 mv := by simp [mvC, List.flatMap_append]
    rw [e1, List.length_append]
    exact own_chg hown S1 fun k hk e => by subst e; exact (((own_ty hown) _ hk).1).ne (by decide) hgT2
  refine ⟨⟨fx_lt h.lt A.size, .inl h.fp, h.blk.chg A (nS _ _ (blk_ty h.blk) (by decide) (by decide)), ?_, fun k hk => .inl (h.chF k hk), ?_, ?_, ?_, ?_⟩, A.mono fun j _ e => ?_⟩
  · rw [← mcC_set cs i hi, List.length_set]
    have := own_set (own_chg h.chn hC fun k hk e => by cases hk; exact gn e) (i * 2 + 1) (by rw [mcC_len]; omega) v'
    exact this
  · intro c hc
    obtain ⟨j, hj, rfl⟩ := List.getElem_of_mem hc
    rw [List.getElem_set]
    split
    · exact vown
    · rename_i hij
      have hj' : j < cs.length := by simpa using hj
      refine own_chg (h.vrs _ (List.getElem_mem hj')) A fun k hk e => ?_
      rcases e with e | e
      · rcases Nat.lt_or_ge i j with h1 | h1
        · exact List.pairwise_iff_getElem.1 h.vrd i j hi hj' h1 k e hk
        · exact List.pairwise_iff_getElem.1 h.vrd j i hj' hi (by omega) k hk e
      · subst e; exact (((own_ty (h.vrs _ (List.getElem_mem hj'))) _ hk).1).ne (by decide) hgT
  · intro c hc k hk
    obtain ⟨j, hj, rfl⟩ := List.getElem_of_mem hc
    rw [List.getElem_set] at hk
    split at hk
    · rcases hat k hk with e | e
      · exact .inl (h.vrF _ (List.getElem_mem hi) k e)
      · exact .inr ⟨e, by rw [hz3]; exact own_lt hown k hk⟩
    · have hj' : j < cs.length := by simpa using hj
      exact .inl (h.vrF _ (List.getElem_mem hj') k hk)
  · have far : ∀ j (hj : j < cs.length), j ≠ i → ∀ k, v'.ownBlock = some k → cs[j].vv.ownBlock ≠ some k := fun j hj hji k hk e => by
      rcases hat k hk with e1 | e1
      · rcases Nat.lt_or_ge i j with h1 | h1
        · exact List.pairwise_iff_getElem.1 h.vrd i j hi hj h1 k e1 e
        · exact List.pairwise_iff_getElem.1 h.vrd j i hj hi (by omega) k e e1
      · have := own_lt (h.vrs _ (List.getElem_mem hj)) k e; omega
    refine List.pairwise_iff_getElem.2 fun a b ha hb hab k hk => ?_
    have ha' : a < cs.length := by simpa using ha
    have hb' : b < cs.length := by simpa using hb
    rw [List.getElem_set] at hk ⊢
    split at hk <;> split
    · omega
    · rename_i h1 h2; exact far b hb' (by omega) k hk
    · rename_i h1 h2; exact fun e => far a ha' (by omega) k e hk
    · exact List.pairwise_iff_getElem.1 h.vrd a b ha' hb' hab k hk
  · have keep : ∀ {rv row}, RowIn w F rv row → RowIn (w2.setCell ⟨g, i * 2 + 1, none⟩ v') (Fx F w (w2.setCell ⟨g, i * 2 + 1, none⟩ v')) rv row := fun hr => hr.chg A fun k hk ht => ⟨nS k _ ht (by decide) (by decide), .inl hk⟩
    intro c hc v hv
    obtain ⟨j, hj, rfl⟩ := List.getElem_of_mem hc
    rw [List.getElem_set] at hv
    split at hv
    · rcases List.mem_append.1 hv with hv | hv
      · exact keep (h.rws _ (List.getElem_mem hi) v hv)
      · rw [List.mem_singleton.1 hv]; exact keep hrow
    · have hj' : j < cs.length := by simpa using hj
      exact keep (h.rws _ (List.getElem_mem hj') v hv)
  · rcases e with e | e
    · exact h.vrF _ (List.getElem_mem hi) j e
    · subst e; exact h.chF _ rfl
/-- Behind s.chains = slices.Insert(s.chains, i, chain{key: t}). -/
theorem StP.insChain {w w2 : World} {p : Nat} {cs : List MC} {hz : Int} {F : Nat → Prop} {cv cv' : Value} {i : Nat} {t : ByteArray} (h : StP w p cs hz F cv) (hi : i ≤ cs.length)
    (hC : Chg (fun j => cv.ownBlock = some j) w w2) (hown : w2.ownsRow 0 97 2 cv' (cs.length + 1) ((mcC cs).take (i * 2) ++ [.string t, .slice none 0 0] ++ (mcC cs).drop (i * 2))) (hat : ∀ k, cv'.ownBlock = some k → cv.ownBlock = some k ∨ w.heap.size ≤ k) :
    StP (w2.setCell ⟨p, 0, none⟩ cv') p (cs.take i ++ ⟨t, .slice none 0 0, []⟩ :: cs.drop i) hz (Fx F w (w2.setCell ⟨p, 0, none⟩ cv')) cv' ∧ Chg F w (w2.setCell ⟨p, 0, none⟩ cv') := by
  have hz3 : (w2.setCell ⟨p, 0, none⟩ cv').heap.size = w2.heap.size := by simp [World.setCell]
  have hcT := fun k (hk : cv.ownBlock = some k) => ((own_ty h.chn) k hk).1
  have pn : ¬ cv.ownBlock = some p := fun e => (hcT p e).ne (by decide) (blk_ty h.blk)
  have S1 := chg_set w2 p 0 none cv'
  have A : Chg (fun j => cv.ownBlock = some j ∨ j = p) w (w2.setCell ⟨p, 0, none⟩ cv') := hC.or S1
  have nS : ∀ k T, Ty w k T → T ≠ 97 → T ≠ 83 → ¬ (cv.ownBlock = some k ∨ k = p) := fun k T ht h1 h2 e => by
    rcases e with e | e
    · exact ht.ne h1 (hcT k e)
    · subst e; exact ht.ne h2 (blk_ty h.blk)
  have hpT2 : Ty w2 p 83 := ty_chg (blk_ty h.blk) hC pn
  have mem : ∀ c ∈ cs.take i ++ ⟨t, .slice none 0 0, []⟩ :: cs.drop i, c ∈ cs ∨ c = ⟨t, .slice none 0 0, []⟩ := fun c hc => by
    rcases List.mem_append.1 hc with hc | hc
    · exact .inl (List.mem_of_mem_take hc)
    · rcases List.mem_cons.1 hc with hc | hc
      · exact .inr hc
      · exact .inl (List.mem_of_mem_drop hc)
  refine ⟨⟨fx_lt h.lt A.size, .inl h.fp, (h.blk.chg hC pn).set 0 _, ?_, fun k hk => ?_, ?_, ?_, ?_, ?_⟩, A.mono fun j _ e => ?_⟩
  · have e0 : (cs.take i ++ (⟨t, .slice none 0 0, []⟩ : MC) :: cs.drop i).length = cs.length + 1 := by simp only [List.length_append, List.length_take, List.length_cons, List.length_drop]; show min _ _ + _ = _; omega
    have e1 : mcC (cs.take i ++ ⟨t, .slice none 0 0, []⟩ :: cs.drop i) = (mcC cs).take (i * 2) ++ [.string t, .slice none 0 0] ++ (mcC cs).drop (i * 2) := by
      unfold mcC
      rw [fm_take (f := mcC1) (k := 2) (fun _ => rfl), fm_drop (f := mcC1) (k := 2) (fun _ => rfl), List.flatMap_append, List.flatMap_cons, List.append_assoc]
      rfl
    rw [e0, e1]
    exact own_chg hown S1 fun k hk e => by subst e; exact (((own_ty hown) _ hk).1).ne (by decide) hpT2
  · rcases hat k hk with e | e
    · exact .inl (h.chF k e)
    · exact .inr ⟨e, by rw [hz3]; exact own_lt hown k hk⟩
  · intro c hc
    rcases mem c hc with hc | rfl
    · exact own_chg (h.vrs c hc) A fun k hk => nS k _ ((own_ty (h.vrs c hc)) k hk).1 (by decide) (by decide)
    · exact World.ownsRow_nil _ _ _ _
  · intro c hc k hk
    rcases mem c hc with hc | rfl
    · exact .inl (h.vrF c hc k hk)
    · cases hk
  · have hsub := h.vrd
    rw [← List.take_append_drop i cs] at hsub
    obtain ⟨s1, s2, s3⟩ := List.pairwise_append.1 hsub
    refine List.pairwise_append.2 ⟨s1, List.pairwise_cons.2 ⟨(fun c hc k hk => by cases hk), s2⟩, fun a ha b hb k hk => ?_⟩
    rcases List.mem_cons.1 hb with rfl | hb
    · exact fun e => by cases e
    · exact s3 a ha b hb k hk
  · intro c hc v hv
    rcases mem c hc with hc | rfl
    · exact (h.rws c hc v hv).chg A fun k hk ht => ⟨nS k _ ht (by decide) (by decide), .inl hk⟩
    · cases hv
  · rcases e with e | e
    · exact h.chF j e
    · subst e; exact h.fp
/-- Two steps, one behind the other. -/
theorem StP.two {w a b : World} {p : Nat} {cs : List MC} {hz : Int} {F : Nat → Prop} {cv : Value} (hl : ∀ k, F k → k < w.heap.size) (h1 : Chg F w a) (h : StP b p cs hz (Fx (Fx F w a) a b) cv ∧ Chg (Fx F w a) a b) : StP b p cs hz (Fx F w b) cv ∧ Chg F w b := by
  have hC : Chg F w b := h1.trans h.2 fun k hk e => by
    rcases e with e | e
    · exact e
    · omega
  refine ⟨h.1.mono (fun k hk => ?_) (fx_lt hl hC.size), hC⟩
  have := h1.size; have := h.2.size
  rcases hk with (hk | hk) | hk
  · exact .inl hk
  · exact .inr ⟨hk.1, by omega⟩
  · exact .inr ⟨by omega, hk.2⟩
theorem StP.up {w w' : World} {p : Nat} {cs : List MC} {hz : Int} {F : Nat → Prop} {cv : Value} (h : StP w p cs hz F cv) (hu : Up w w') : StP w' p cs hz F cv := h.chg (Below.chg (fun _ => False) hu) fun _ _ e => e

/-! ### Plain: add keeps the invariant -/
theorem cnt_app (a b : List PC) : cnt (a ++ b) = cnt a + cnt b := by unfold cnt; rw [List.map_append, List.sum_append]
theorem cnt_set {l : List PC} {i : Nat} (hi : i < l.length) (k : ByteArray) (v : PV) : cnt (l.set i (k, l[i].2 ++ [v])) = cnt l + 1 := by
  have e : l = l.take i ++ l[i] :: l.drop (i + 1) := by rw [← List.drop_eq_getElem_cons hi, List.take_append_drop]
  have e2 : l.set i (k, l[i].2 ++ [v]) = l.take i ++ (k, l[i].2 ++ [v]) :: l.drop (i + 1) := by rw [List.set_eq_take_append_cons_drop, if_pos hi]
  rw [e2]
  conv => rhs; rw [e]
  rw [cnt_app, cnt_app]
  unfold cnt
  simp only [List.map_cons, List.sum_cons, List.length_append, List.length_cons, List.length_nil]
  omega
theorem SOk.set {l : List PC} {hz : Int} (h : SOk l hz) {k : ByteArray} {v : PV} (hk : l.length ≠ 0 → True) {i : Nat} (hi : i < l.length) (he : l[i].1 = k) (hr : v.row.length ≤ 6) (ht : 1 ≤ v.ts ∧ v.ts ≤ 1099511627776) (hl : lastTs l[i].2 < v.ts) (hc : Mv.cnt l ≠ 400) : SOk (l.set i (k, l[i].2 ++ [v])) hz := by
  have hm := List.getElem_mem hi
  refine ⟨?_, fun c hc' => ?_, by rw [cnt_set hi]; have := h.cnt; omega, fun c hc' => ?_, fun c hc' u hu => ?_, fun c hc' u hu => ?_, fun c hc' => ?_⟩
  · have := h.srt.set i hi (l[i].2 ++ [v]); rwa [he] at this
  · rcases List.mem_or_eq_of_mem_set hc' with h1 | rfl
    · exact h.ne c h1
    · simp
  · rcases List.mem_or_eq_of_mem_set hc' with h1 | rfl
    · exact h.key c h1
    · show k.size ≤ 24; rw [← he]; exact h.key l[i] hm
  · rcases List.mem_or_eq_of_mem_set hc' with h1 | rfl
    · exact h.row c h1 u hu
    · rcases List.mem_append.1 hu with hu | hu
      · exact h.row _ hm u hu
      · rw [List.mem_singleton.1 hu]; exact hr
  · rcases List.mem_or_eq_of_mem_set hc' with h1 | rfl
    · exact h.ts c h1 u hu
    · rcases List.mem_append.1 hu with hu | hu
      · exact h.ts _ hm u hu
      · rw [List.mem_singleton.1 hu]; exact ht
  · rcases List.mem_or_eq_of_mem_set hc' with h1 | rfl
    · exact h.inc c h1
    · have hi1 := h.inc _ hm
      refine List.pairwise_append.2 ⟨hi1, List.pairwise_singleton _ _, fun a ha b hb => ?_⟩
      rw [List.mem_singleton.1 hb]
      obtain ⟨j, hj, rfl⟩ := List.getElem_of_mem ha
      refine Int.lt_of_le_of_lt ?_ hl
      unfold lastTs
      rw [List.getLastD_eq_getLast?, List.getLast?_eq_getElem?, List.getElem?_eq_getElem (by omega)]
      rcases Nat.lt_or_ge j (l[i].2.length - 1) with h1 | h1
      · exact Int.le_of_lt (List.pairwise_iff_getElem.1 hi1 j _ hj (by omega) h1)
      · obtain rfl : j = l[i].2.length - 1 := by omega
        exact Int.le_refl _
theorem SOk.ins {l : List PC} {hz : Int} (h : SOk l hz) {k : ByteArray} {v : PV} (hk : k.size ≤ 24) (hh : has l k = false) (hr : v.row.length ≤ 6) (ht : 1 ≤ v.ts ∧ v.ts ≤ 1099511627776) (hc : Mv.cnt l ≠ 400) : SOk (l.take (pos l k) ++ (k, [v]) :: l.drop (pos l k)) hz := by
  have mem : ∀ c ∈ l.take (pos l k) ++ (k, [v]) :: l.drop (pos l k), c ∈ l ∨ c = (k, [v]) := fun c hc => by
    rcases List.mem_append.1 hc with hc | hc
    · exact .inl (List.mem_of_mem_take hc)
    · rcases List.mem_cons.1 hc with hc | hc
      · exact .inr hc
      · exact .inl (List.mem_of_mem_drop hc)
  have hcn : Mv.cnt (l.take (pos l k) ++ (k, [v]) :: l.drop (pos l k)) = Mv.cnt l + 1 := by
    conv => rhs; rw [← List.take_append_drop (pos l k) l]
    rw [cnt_app, cnt_app]
    unfold Mv.cnt
    simp only [List.map_cons, List.sum_cons, List.length_cons, List.length_nil]
    omega
  refine ⟨h.srt.ins k _ hh, fun c hc' => ?_, by rw [hcn]; have := h.cnt; omega, fun c hc' => ?_, fun c hc' u hu => ?_, fun c hc' u hu => ?_, fun c hc' => ?_⟩
  · rcases mem c hc' with h1 | rfl
    · exact h.ne c h1
    · simp
  · rcases mem c hc' with h1 | rfl
    · exact h.key c h1
    · exact hk
  · rcases mem c hc' with h1 | rfl
    · exact h.row c h1 u hu
    · rw [List.mem_singleton.1 hu]; exact hr
  · rcases mem c hc' with h1 | rfl
    · exact h.ts c h1 u hu
    · rw [List.mem_singleton.1 hu]; exact ht
  · rcases mem c hc' with h1 | rfl
    · exact h.inc c h1
    · exact List.pairwise_singleton _ _
end Go.Proofs.Ytnbhdpmhgamjfaa.Mv
