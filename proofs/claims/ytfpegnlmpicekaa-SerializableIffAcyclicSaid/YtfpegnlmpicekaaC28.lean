/- SerialOrderIsEquivalent: the plain law. -/
import Derived.Test.YtfpegnlmpicekaaC27
namespace Go.Proofs.Ytfpegnlmpicekaa.C
open Go Go.RowKit Hp
set_option linter.unusedVariables false

theorem topo_nodup (fr : List Int → Int → Bool) : ∀ (n : Nat) (rem ord res : List Int), rem.length = n → rem.Nodup → ord.Nodup → (∀ x ∈ rem, x ∉ ord) → topo fr n rem ord = some res → res.Nodup
  | 0, rem, ord, res, hn, _, ho, _, h => by simp only [topo, Option.some.injEq] at h; rw [← h]; exact ho
  | n + 1, rem, ord, res, hn, hr, ho, hd, h => by
    rw [topo] at h
    cases hf : rem.findIdx? (fr rem) with
    | none => rw [hf] at h; cases h
    | some i =>
      rw [hf] at h
      have hil := (List.findIdx?_eq_some_iff_getElem.1 hf).1
      have hget : rem.getD i 0 = rem[i] := by simp [List.getD, hil]
      have hmem : rem.getD i 0 ∈ rem := by rw [hget]; exact List.getElem_mem hil
      refine topo_nodup fr n _ _ _ (by rw [List.length_eraseIdx_of_lt hil]; omega) (hr.sublist (List.eraseIdx_sublist ..)) ?_ ?_ h
      · rw [List.nodup_append]
        refine ⟨ho, by simp, fun a ha b hb => ?_⟩
        obtain rfl := List.mem_singleton.1 hb
        rintro rfl
        exact hd _ hmem ha
      · intro x hx hx2
        rcases List.mem_append.1 hx2 with h1 | h1
        · exact hd x (List.mem_of_mem_eraseIdx hx) h1
        · obtain rfl := List.mem_singleton.1 h1
          rw [hget, List.mem_eraseIdx_iff_getElem?] at hx
          obtain ⟨j, hj, he⟩ := hx
          obtain ⟨hjl, he⟩ := List.getElem?_eq_some_iff.1 he
          rcases Nat.lt_or_gt_of_ne hj with hlt | hlt
          · exact List.pairwise_iff_getElem.1 hr j i hjl hil hlt he
          · exact List.pairwise_iff_getElem.1 hr i j hil hjl hlt he.symm
theorem tids_nodup (l : List Hop) (m : Nat) : (tids l m).Nodup := by
  induction m with
  | zero => simp [tids]
  | succ m ih =>
    rw [tids_succ]
    split
    · rw [List.nodup_append]
      refine ⟨ih, by simp, fun a ha b hb => ?_⟩
      obtain rfl := List.mem_singleton.1 hb
      unfold tids at ha
      obtain ⟨n, hn, rfl⟩ := List.mem_map.1 ha
      have := List.mem_range.1 (List.mem_filter.1 hn).1
      omega
    · simpa using ih
theorem mem_tids {l : List Hop} {x : Hop} (hx : x ∈ l) (h20 : x.tx < 20) : (x.tx : Int) ∈ tids l 20 := by
  unfold tids
  refine List.mem_map.2 ⟨x.tx, List.mem_filter.2 ⟨List.mem_range.2 h20, List.any_eq_true.2 ⟨x, hx, by simp [has]⟩⟩, rfl⟩

/-- What a serial order of a history is. -/
structure SerialOf (l : List Hop) (ord : List Int) : Prop where
  nd : ord.Nodup
  mem : ∀ x ∈ l, (x.tx : Int) ∈ ord
  bef : ∀ l1 a l2 b l3, l = l1 ++ a :: (l2 ++ b :: l3) → confl a b = true → ∀ P Q, ord = P ++ (b.tx : Int) :: Q → (a.tx : Int) ∈ P
theorem conf_tx {a b : Hop} (h : confl a b = true) : a.tx ≠ b.tx := by
  unfold confl at h
  simp only [Bool.and_eq_true, Bool.not_eq_true', beq_eq_false_iff_ne] at h
  exact h.1
theorem order_serial (l : List Hop) (hv : ∀ x ∈ l, x.tx < 20) {res : List Int} (h : orderOf l = some res) : SerialOf l res := by
  unfold orderOf at h
  rw [topo_free _ _ _ _ (tids_range l)] at h
  have hnd := topo_nodup _ _ _ _ _ rfl (tids_nodup l 20) List.nodup_nil (fun x _ => by simp) h
  obtain ⟨tail, e, hm⟩ := topo_tail _ _ _ _ _ rfl h
  rw [List.nil_append] at e
  subst e
  refine ⟨hnd, fun x hx => (hm _).2 (mem_tids hx (hv x hx)), fun l1 a l2 b l3 hl hc P Q hPQ => ?_⟩
  have ma : a ∈ l := by rw [hl]; simp
  have mb : b ∈ l := by rw [hl]; simp
  have ha := hv a ma
  have hb := hv b mb
  have hne := conf_tx hc
  have he : ((a.tx : Int), (b.tx : Int)) ∈ cgr (cfN l l.length) 20 := by
    refine mem_cgr.2 ⟨a.tx, b.tx, rfl, rfl, ha, hb, (cfN_iff _ _ _).2 ⟨l1.length, l1.length + 1 + l2.length, by omega, ?_, ?_⟩⟩
    · rw [hl]; simp; omega
    · have e1 : l.getD l1.length h0 = a := by rw [hl]; simp [List.getD]
      have e2 : l.getD (l1.length + 1 + l2.length) h0 = b := by
        rw [hl]
        simp only [List.getD]
        rw [List.getElem?_append_right (by omega), show l1.length + 1 + l2.length - l1.length = l2.length + 1 by omega, List.getElem?_cons_succ, List.getElem?_append_right (by omega)]
        simp
      rw [e1, e2]; simp [hitc, hc]
  obtain ⟨q1, q2, hq, hu, hv1, hv2⟩ := topo_before _ _ _ _ _ rfl h _ _ he (mem_tids ma ha) (mem_tids mb hb) (by omega) (by simp)
  -- b's place is behind q1; so q1 lies within P
  have hq' : q1 ++ q2 = P ++ (b.tx : Int) :: Q := hq.symm.trans hPQ
  rcases List.append_eq_append_iff.1 hq' with ⟨c, h1, h2⟩ | ⟨c, h1, h2⟩
  · rw [h1]; exact List.mem_append.2 (.inl hu)
  · cases c with
    | nil => simp at h1; rw [← h1]; exact hu
    | cons d c =>
      simp only [List.cons_append, List.cons.injEq] at h2
      rw [h1, ← h2.1] at hv1
      exact absurd (by simp) hv1

/-! ### The last write of a key -/
def wrk (k : ByteArray) (x : Hop) : Bool := x.kind == 2 && x.key.toList == k.toList
def lastw (l : List Hop) (k : ByteArray) : Int := match (l.filter (wrk k)).getLast? with | some x => (x.tx : Int) | none => -1
theorem lastw_snoc (l : List Hop) (x : Hop) (k : ByteArray) : lastw (l ++ [x]) k = if wrk k x then (x.tx : Int) else lastw l k := by
  unfold lastw
  rw [List.filter_append]
  by_cases h : wrk k x = true <;> simp [h]
theorem lastw_nil {l : List Hop} {k : ByteArray} (h : l.filter (wrk k) = []) : lastw l k = -1 := by unfold lastw; rw [h]; rfl
/-- Either nothing is written, or there is a last write. -/
theorem lastw_cases (l : List Hop) (k : ByteArray) : (l.filter (wrk k) = []) ∨ ∃ l1 z l2, l = l1 ++ z :: l2 ∧ wrk k z = true ∧ l2.filter (wrk k) = [] := by
  induction l with
  | nil => exact .inl rfl
  | cons a l ih =>
    rcases ih with h | ⟨l1, z, l2, rfl, hz, h2⟩
    · by_cases ha : wrk k a = true
      · exact .inr ⟨[], a, l, rfl, ha, h⟩
      · exact .inl (by simp [ha, h])
    · exact .inr ⟨a :: l1, z, l2, rfl, hz, h2⟩
theorem lastw_split {l1 l2 : List Hop} {z : Hop} {k : ByteArray} (hz : wrk k z = true) (h : l2.filter (wrk k) = []) : lastw (l1 ++ z :: l2) k = (z.tx : Int) := by
  unfold lastw
  rw [List.filter_append, List.filter_cons, if_pos hz, h]
  simp
theorem lastw_append_nil (l1 : List Hop) {l2 : List Hop} {k : ByteArray} (h : l2.filter (wrk k) = []) : lastw (l1 ++ l2) k = lastw l1 k := by
  unfold lastw; rw [List.filter_append, h, List.append_nil]
/-- A block of one transaction that writes: it is the last writer. -/
theorem lastw_block (l1 : List Hop) {l2 : List Hop} {k : ByteArray} {u : Nat} (hu : ∀ x ∈ l2, x.tx = u) (hne : ∃ x ∈ l2, wrk k x = true) : lastw (l1 ++ l2) k = (u : Int) := by
  unfold lastw
  rw [List.filter_append]
  obtain ⟨x, hx, hw⟩ := hne
  have hmem : x ∈ l2.filter (wrk k) := List.mem_filter.2 ⟨hx, hw⟩
  cases h : (l2.filter (wrk k)).getLast? with
  | none => rw [List.getLast?_eq_none_iff] at h; rw [h] at hmem; cases hmem
  | some y =>
    have hy : y ∈ l2 := (List.mem_filter.1 (List.mem_of_getLast? h)).1
    rw [List.getLast?_append, h]
    simp [hu y hy]
theorem wr_conf {y x : Hop} {k : ByteArray} (hne : y.tx ≠ x.tx) (hy : wrk k y = true) (hx : x.key.toList = k.toList) : confl y x = true ∧ confl x y = true := by
  unfold wrk at hy
  simp only [Bool.and_eq_true, beq_iff_eq] at hy
  have e : confl y x = true := by
    unfold confl
    simp [hne, hy.1, hy.2, hx]
  exact ⟨e, by rw [confl_symm]; exact e⟩
theorem filter_nil {l : List Hop} {p : Hop → Bool} (h : ∀ y ∈ l, p y = true → False) : l.filter p = [] := by
  rw [List.filter_eq_nil_iff]
  exact fun y hy hp => h y hy hp

/-- The final writes. -/
theorem final_same {h : List Hop} {ord : List Int} (S : SerialOf h ord) (k : ByteArray) : lastw (serl h ord) k = lastw h k := by
  rcases lastw_cases h k with hn | ⟨l1, z, l2, hl, hz, h2⟩
  · rw [lastw_nil hn, lastw_nil]
    refine filter_nil fun y hy hw => ?_
    rw [List.filter_eq_nil_iff] at hn
    exact hn y (mem_serl.1 hy).1 hw
  · have mz : z ∈ h := by rw [hl]; simp
    obtain ⟨P, Q, hPQ⟩ := List.append_of_mem (S.mem z mz)
    have hnd := S.nd
    rw [hPQ, List.nodup_append] at hnd
    obtain ⟨_, hndq, _⟩ := hnd
    have hnd2 := List.nodup_cons.1 hndq
    have hk : z.key.toList = k.toList := by unfold wrk at hz; simp only [Bool.and_eq_true, beq_iff_eq] at hz; exact hz.2
    have e : serl h ord = (serl h P ++ h.filter (has (z.tx : Int))) ++ serl h Q := by rw [hPQ]; simp [serl]
    rw [e, lastw_append_nil, lastw_block (u := z.tx), hl, lastw_split hz h2]
    · intro x hx
      have := (List.mem_filter.1 hx).2
      simp only [has, beq_iff_eq] at this
      omega
    · exact ⟨z, List.mem_filter.2 ⟨mz, by simp [has]⟩, hz⟩
    · refine filter_nil fun y hy hw => ?_
      obtain ⟨hyh, hyq⟩ := mem_serl.1 hy
      have hne : y.tx ≠ z.tx := fun e => hnd2.1 (e ▸ hyq)
      rw [hl] at hyh
      rcases List.mem_append.1 hyh with h1 | h1
      · obtain ⟨a1, a2, ha⟩ := List.append_of_mem h1
        have hin := S.bef a1 y a2 z l2 (by rw [hl, ha]; simp) (wr_conf hne hw hk).1 P Q hPQ
        have := S.nd
        rw [hPQ, List.nodup_append] at this
        exact this.2.2 _ hin _ (List.mem_cons_of_mem _ hyq) rfl
      · rcases List.mem_cons.1 h1 with h1 | h1
        · exact hne (by rw [h1])
        · rw [List.filter_eq_nil_iff] at h2
          exact h2 y h1 hw
end Go.Proofs.Ytfpegnlmpicekaa.C
