/- Replication: a server's cells stored into; the entries received, step by step. -/
import Derived.Test.YthhkekmeginooaaRpm
namespace Go.Proofs.Ythhkekmeginooaa.Rp
open Go Go.RowKit Hp
set_option linter.unusedVariables false

section
variable {w W : World} {p : Nat} {C : Clu} {F : Nat → Prop} {sv lv nw : Value} {ss : List MS} {ms : List MM} {g c n : Nat}
theorem CluP.svn (h : CluP w p C F (.slice (some ⟨g, 0, none⟩) n c) lv nw ss ms) : n = ss.length := by
  obtain ⟨a, cap, e, _⟩ := own_form h.srv
  simp only [Value.slice.injEq] at e
  exact e.2.1
theorem CluP.cell1 (h : CluP w p C F (.slice (some ⟨g, 0, none⟩) n c) lv nw ss ms) (hU : Up w W) (i : Nat) (hi : i < ss.length) (j : Nat) (hj : j < 4) (u : Value) (s' : MS) (hs : msC1 s' = (msC1 ss[i]).set j u) (hlog : (W.setCell ⟨g, i * 4 + j, none⟩ u).ownsRow 0 44 2 s'.lv s'.log.length (enC s'.log)) (hlF : ∀ k, s'.lv.ownBlock = some k → ss[i].lv.ownBlock = some k ∨ w.heap.size ≤ k)
    (hm : s'.mv = ss[i].mv ∧ s'.mat = ss[i].mat) : CluP (W.setCell ⟨g, i * 4 + j, none⟩ u) p (C.put i (erS s')) (Fx F w (W.setCell ⟨g, i * 4 + j, none⟩ u)) (.slice (some ⟨g, 0, none⟩) n c) lv nw (ss.set i s') ms ∧ Chg F w (W.setCell ⟨g, i * 4 + j, none⟩ u) := by
  obtain rfl := h.svn
  have hc := chg_set W g (i * 4 + j) none u
  have hcc : Chg (· = g) w (W.setCell ⟨g, i * 4 + j, none⟩ u) := (Below.chg (· = g) hU).trans hc fun _ _ e => e
  have tg := ((own_ty h.srv) g rfl).1
  have hrow := own_set (own_up h.srv hU) (i * 4 + j) (by rw [msC_len]; omega) u
  rw [show (msC ss).set (i * 4 + j) u = msC (ss.set i s') from fm_set (k := 4) (f := msC1) (fun _ => rfl) ss i j hi hj u s' hs] at hrow
  refine h.serv i hi s' hcc (fun k _ e => .inl (by rw [e]; rfl)) hrow hlog hlF ?_ (fun k hk => .inl (by rw [← hm.1]; exact hk))
  rw [hm.1, hm.2]
  exact own_chg (h.mats _ (List.getElem_mem hi)) hcc fun k hk e => by
    subst e
    exact ((own_ty (h.mats _ (List.getElem_mem hi))) k hk).1.ne (E' := 53) (by decide) tg
theorem CluP.logKeep (h : CluP w p C F (.slice (some ⟨g, 0, none⟩) n c) lv nw ss ms) (hU : Up w W) (i : Nat) (hi : i < ss.length) (j : Nat) (u : Value) : (W.setCell ⟨g, i * 4 + j, none⟩ u).ownsRow 0 44 2 ss[i].lv ss[i].log.length (enC ss[i].log) :=
  own_chg (h.logs _ (List.getElem_mem hi)) ((Below.chg (· = g) hU).trans (chg_set W g (i * 4 + j) none u) fun _ _ e => e) fun k hk e => by
    subst e
    exact ((own_ty (h.logs _ (List.getElem_mem hi))) k hk).1.ne (E' := 53) (by decide) ((own_ty h.srv) k rfl).1
/-- What lies in a server's cells. -/
theorem CluP.at_ (h : CluP w p C F (.slice (some ⟨g, 0, none⟩) n c) lv nw ss ms) (i : Nat) (hi : i < C.srv.length) : ∃ la lc, w.cell? ⟨g, i * 4, none⟩ = some (Rp.nv (C.s i).term) ∧ w.cell? ⟨g, i * 4 + 1, none⟩ = some (Rp.nv (C.s i).com) ∧ w.cell? ⟨g, i * 4 + 2, none⟩ = some (.slice la (C.s i).log.length lc) ∧ w.ownsRow 0 44 2 (.slice la (C.s i).log.length lc) (C.s i).log.length (enC (C.s i).log) ∧ (∀ j, w.frozen? ⟨g, j, none⟩ = false) ∧ g < w.heap.size ∧ (C.s i).log.length ≤ lc ∧ lc ≤ 9223372036854775807 := by
  rw [← h.slen] at hi
  obtain ⟨g', c', hv, _, hgl, t0, t1, t2, t3, tf⟩ := h.cells i hi
  simp only [Value.slice.injEq, Option.some.injEq, Addr.mk.injEq, and_true] at hv
  obtain ⟨rfl, rfl, rfl⟩ := hv
  rw [h.s i hi]
  have hll := h.logs _ (List.getElem_mem hi)
  obtain ⟨la, lc, e, h1, h2, _⟩ := own_form hll
  rw [e] at t2 hll
  exact ⟨la, lc, t0, t1, t2, hll, tf, hgl, h1, h2⟩
theorem CluP.setT (h : CluP w p C F (.slice (some ⟨g, 0, none⟩) n c) lv nw ss ms) (hU : Up w W) (i : Nat) (hi : i < ss.length) (x : Nat) : CluP (W.setCell ⟨g, i * 4, none⟩ (nv x)) p (C.put i { C.s i with term := x }) (Fx F w (W.setCell ⟨g, i * 4, none⟩ (nv x))) (.slice (some ⟨g, 0, none⟩) n c) lv nw (ss.set i { ss[i] with term := x }) ms ∧ Chg F w (W.setCell ⟨g, i * 4, none⟩ (nv x)) := by
  have := h.cell1 hU i hi 0 (by decide) (nv x) { ss[i] with term := x } rfl (h.logKeep hU i hi 0 (nv x)) (fun k hk => .inl hk) ⟨rfl, rfl⟩
  rw [h.s i hi]
  exact this
theorem CluP.setC (h : CluP w p C F (.slice (some ⟨g, 0, none⟩) n c) lv nw ss ms) (hU : Up w W) (i : Nat) (hi : i < ss.length) (x : Nat) : CluP (W.setCell ⟨g, i * 4 + 1, none⟩ (nv x)) p (C.put i { C.s i with com := x }) (Fx F w (W.setCell ⟨g, i * 4 + 1, none⟩ (nv x))) (.slice (some ⟨g, 0, none⟩) n c) lv nw (ss.set i { ss[i] with com := x }) ms ∧ Chg F w (W.setCell ⟨g, i * 4 + 1, none⟩ (nv x)) := by
  have := h.cell1 hU i hi 1 (by decide) (nv x) { ss[i] with com := x } rfl (h.logKeep hU i hi 1 (nv x)) (fun k hk => .inl hk) ⟨rfl, rfl⟩
  rw [h.s i hi]
  exact this
theorem CluP.setL (h : CluP w p C F (.slice (some ⟨g, 0, none⟩) n c) lv nw ss ms) (hU : Up w W) (i : Nat) (hi : i < ss.length) (v : Value) (l : Lg) (ho : W.ownsRow w.heap.size 44 2 v l.length (enC l)) : CluP (W.setCell ⟨g, i * 4 + 2, none⟩ v) p (C.put i { C.s i with log := l }) (Fx F w (W.setCell ⟨g, i * 4 + 2, none⟩ v)) (.slice (some ⟨g, 0, none⟩) n c) lv nw (ss.set i { ss[i] with lv := v, log := l }) ms ∧ Chg F w (W.setCell ⟨g, i * 4 + 2, none⟩ v) := by
  have := h.cell1 hU i hi 2 (by decide) v { ss[i] with lv := v, log := l } rfl (own_base' (own_chg ho (chg_set W g (i * 4 + 2) none v) fun k hk e => by
    subst e
    exact ((own_ty ho) k hk).1.ne (E' := 53) (by decide) (((own_ty h.srv) k rfl).1.up hU)) fun _ _ => Nat.zero_le _) (fun k hk => .inr ((own_ty ho) k hk).2) ⟨rfl, rfl⟩
  rw [h.s i hi]
  exact this
theorem CluP.join {w1 w2 : World} {C2 : Clu} {ss2 : List MS} {ms2 : List MM} {sv2 lv2 nw2 : Value} (c1 : Chg F w w1) (h : CluP w2 p C2 (Fx (Fx F w w1) w1 w2) sv2 lv2 nw2 ss2 ms2 ∧ Chg (Fx F w w1) w1 w2) (hl : ∀ k, F k → k < w.heap.size) : CluP w2 p C2 (Fx F w w2) sv2 lv2 nw2 ss2 ms2 ∧ Chg F w w2 := by
  have z1 := c1.size
  have z2 := h.2.size
  refine ⟨h.1.mono (fun k hk => ?_) (fx_lt hl (Nat.le_trans z1 z2)), c1.trans h.2 fun k hk e => e.elim id fun e => by omega⟩
  rcases hk with (e | e) | e
  · exact .inl e
  · exact .inr ⟨e.1, by omega⟩
  · exact .inr ⟨by omega, e.2⟩
end
/-! ### Entries received -/
def stepL (l : Lg) (n : Nat) (e : Ent) : Lg := if l[n]?.map Ent.term = some e.term then l else l.take n ++ [e]
theorem recvL_snoc : ∀ (es : Lg) (l : Lg) (n : Nat) (e : Ent), recvL l n (es ++ [e]) = stepL (recvL l n es) (n + es.length) e
  | [], l, n, e => rfl
  | x :: es, l, n, e => by
    show recvL (stepL l n x) (n + 1) (es ++ [e]) = stepL (recvL (stepL l n x) (n + 1) es) (n + (es.length + 1)) e
    rw [recvL_snoc es, show n + 1 + es.length = n + (es.length + 1) by omega]
theorem stepL_len {l : Lg} {n : Nat} (h : n ≤ l.length) (e : Ent) : n + 1 ≤ (stepL l n e).length := by
  unfold stepL
  split
  · rename_i hh
    rcases Nat.lt_or_ge n l.length with h1 | h1
    · omega
    · rw [List.getElem?_eq_none h1] at hh; cases hh
  · rw [List.length_append, List.length_take, List.length_singleton]; omega
theorem stepL_le {l : Lg} {n : Nat} (e : Ent) {b : Nat} (h1 : l.length ≤ b) (h2 : n + 1 ≤ b) : (stepL l n e).length ≤ b := by
  unfold stepL
  split
  · exact h1
  · rw [List.length_append, List.length_take, List.length_singleton]; omega
theorem recvL_ge : ∀ (es : Lg) (l : Lg) (n : Nat), n ≤ l.length → n + es.length ≤ (recvL l n es).length
  | [], l, n, h => h
  | x :: es, l, n, h => by
    show n + (es.length + 1) ≤ (recvL (stepL l n x) (n + 1) es).length
    have := recvL_ge es (stepL l n x) (n + 1) (stepL_len h x)
    omega
theorem recvL_le : ∀ (es : Lg) (l : Lg) (n b : Nat), l.length ≤ b → n + es.length ≤ b → (recvL l n es).length ≤ b
  | [], l, n, b, h, _ => h
  | x :: es, l, n, b, h, h2 => recvL_le es (stepL l n x) (n + 1) b (stepL_le x h (by rw [List.length_cons] at h2; omega)) (by rw [List.length_cons] at h2; omega)
theorem src_preE {w : World} {a : Option Addr} {m c : Nat} {l : Lg} (h : Src w 2 (.slice a l.length c) l.length (enC l)) (hm : m ≤ l.length) : Src w 2 (.slice a m c) m (enC (l.take m)) := by
  obtain ⟨hx, h⟩ := h
  refine ⟨by rw [enC_len, List.length_take]; omega, ?_⟩
  rcases h with ⟨e, h0⟩ | ⟨b, off, cap, e, h1, h2, h3⟩
  · left
    simp only [Value.slice.injEq] at e
    obtain ⟨rfl, _, rfl⟩ := e
    have : m = 0 := by omega
    subst this
    exact ⟨rfl, rfl⟩
  · right
    simp only [Value.slice.injEq, true_and] at e
    obtain ⟨rfl, rfl⟩ := e
    refine ⟨b, off, _, rfl, by omega, h2, fun j u hj => h3 j u ?_⟩
    rw [← enC_take, List.getElem?_take] at hj
    split at hj
    · exact hj
    · cases hj
end Go.Proofs.Ythhkekmeginooaa.Rp
