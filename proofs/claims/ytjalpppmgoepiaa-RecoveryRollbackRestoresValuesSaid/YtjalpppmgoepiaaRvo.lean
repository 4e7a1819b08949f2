/- Recovery: the engine's invariant, plain. -/
import Derived.Test.YtjalpppmgoepiaaRvn
namespace Go.Proofs.Ytjalpppmgoepiaa.Rv
open Go Go.RowKit Hp
set_option linter.unusedVariables false

def rps (s : List (Int × Nat) × Nat) (r : Rec) : List (Int × Nat) × Nat := (if r.kind = 3 then s.1 else s.1.set r.page (r.after, s.2 + 1), s.2 + 1)
def rp (l : List Rec) : List (Int × Nat) := (l.foldl rps (pg0 6, 0)).1
theorem rps_cnt (l : List Rec) : (l.foldl rps (pg0 6, 0)).2 = l.length := by
  refine snoc_induct (P := fun l => (l.foldl rps (pg0 6, 0)).2 = l.length) rfl (fun l r ih => ?_) l
  rw [List.foldl_append, List.length_append]
  show (l.foldl rps (pg0 6, 0)).2 + 1 = _
  rw [ih]
  rfl
theorem rp_snoc (l : List Rec) (r : Rec) : rp (l ++ [r]) = if r.kind = 3 then rp l else (rp l).set r.page (r.after, l.length + 1) := by
  unfold rp
  rw [List.foldl_append]
  show (if r.kind = 3 then _ else _) = _
  rw [rps_cnt]
theorem rp_len (l : List Rec) : (rp l).length = 6 := by
  refine snoc_induct (P := fun l => (rp l).length = 6) rfl (fun l r ih => ?_) l
  rw [rp_snoc]
  split
  · exact ih
  · rw [List.length_set]; exact ih
def at_ (l : List (Int × Nat)) (p : Nat) : Int × Nat := l.getD p (0, 0)
theorem at_set (l : List (Int × Nat)) (q : Nat) (v : Int × Nat) (hq : q < l.length) (p : Nat) : at_ (l.set q v) p = if p = q then v else at_ l p := by
  unfold at_
  rw [List.getD_eq_getElem?_getD, List.getD_eq_getElem?_getD, List.getElem?_set]
  by_cases e : q = p
  · subst e; simp [hq]
  · rw [if_neg e, if_neg (fun h => e h.symm)]
theorem rp_at (l : List Rec) (r : Rec) (hr : r.page < 6) (p : Nat) : at_ (rp (l ++ [r])) p = if r.kind ≠ 3 ∧ p = r.page then (r.after, l.length + 1) else at_ (rp l) p := by
  rw [rp_snoc]
  by_cases e : r.kind = 3
  · rw [if_pos e, if_neg (fun h => h.1 e)]
  · rw [if_neg e, at_set _ _ _ (by rw [rp_len]; exact hr)]
    by_cases e2 : p = r.page
    · rw [if_pos e2, if_pos ⟨e, e2⟩]
    · rw [if_neg e2, if_neg (fun h => e2 h.2)]
theorem rp_vl (l : List Rec) : LegL l → ∀ p, p < 6 → (at_ (rp l) p).1 = (lsl l).vl p := by
  refine snoc_induct (P := fun l => LegL l → ∀ p, p < 6 → (at_ (rp l) p).1 = (lsl l).vl p) (fun _ p hp => ?_) (fun l r ih h p hp => ?_) l
  · show (at_ (pg0 6) p).1 = 0
    unfold at_ pg0
    rw [List.getD_eq_getElem?_getD, List.getElem?_replicate]
    split <;> rfl
  · have hr := h.last
    have ih := ih h.pre p hp
    have hv : (lst (lsl l) r).vl p = if r.kind ≠ 3 ∧ p = r.page then r.after else (lsl l).vl p := by
      unfold lst
      rcases hr.kd with e | e | e
      · rw [if_pos e]
        by_cases ep : p = r.page
        · rw [if_pos ⟨by omega, ep⟩]
          show upd (lsl l).vl r.page r.after p = _
          rw [ep, upd_same]
        · rw [if_neg (fun h => ep h.2)]
          exact upd_other _ _ _ ep
      · rw [if_neg (show ¬ r.kind = 1 by omega), if_pos e]
        by_cases ep : p = r.page
        · rw [if_pos ⟨by omega, ep⟩]
          show upd (lsl l).vl r.page r.after p = _
          rw [ep, upd_same]
        · rw [if_neg (fun h => ep h.2)]
          exact upd_other _ _ _ ep
      · rw [if_neg (show ¬ r.kind = 1 by omega), if_neg (show ¬ r.kind = 2 by omega), if_neg (fun h => h.1 e)]
    rw [rp_at l r hr.pg, lsl_snoc, hv]
    split
    · rfl
    · exact ih
theorem rp_lsn (l : List Rec) : LegL l → ∀ p, (at_ (rp l) p).2 ≤ l.length ∧ at_ (rp (l.take (at_ (rp l) p).2)) p = at_ (rp l) p := by
  refine snoc_induct (P := fun l => LegL l → ∀ p, (at_ (rp l) p).2 ≤ l.length ∧ at_ (rp (l.take (at_ (rp l) p).2)) p = at_ (rp l) p) (fun _ p => ?_) (fun l r ih h p => ?_) l
  · have : at_ (rp []) p = (0, 0) := by
      show at_ (pg0 6) p = _
      unfold at_ pg0
      rw [List.getD_eq_getElem?_getD, List.getElem?_replicate]
      split <;> rfl
    rw [this]
    exact ⟨Nat.le_refl _, this⟩
  · obtain ⟨i1, i2⟩ := ih h.pre p
    rw [rp_at l r h.last.pg]
    split
    · rename_i hc
      refine ⟨by simp, ?_⟩
      rw [show (l ++ [r]).take (l.length + 1) = l ++ [r] from List.take_of_length_le (by simp), rp_at l r h.last.pg, if_pos hc]
    · refine ⟨by rw [List.length_append]; omega, ?_⟩
      rw [List.take_append_of_le_length i1]
      exact i2
/-! ### Redo -/
theorem rg_take (l : List Rec) (i : Nat) (h : i < l.length) : l.take (i + 1) = l.take i ++ [⟨rgK l i, rgT l i, rgP l i, rgB l i, rgA l i⟩] := by rw [List.take_succ_eq_append_getElem h, rg_at l i h]
theorem redo_at (l : List Rec) (hl : LegL l) (d : List (Int × Nat)) (hd : d.length = 6) (p : Nat) (hp : p < 6) (m : Nat) (hm : (at_ d p).2 = m) (h1 : m ≤ l.length) (h2 : at_ d p = at_ (rp (l.take m)) p) : ∀ k, k ≤ l.length → at_ (redoK l d k) p = at_ (rp (l.take (max k m))) p
  | 0, _ => by rw [Nat.zero_max, ← h2]; rfl
  | k + 1, hk => by
    have ih := redo_at l hl d hd p hp m hm h1 h2 k (by omega)
    have hlen : (redoK l d k).length = 6 := by rw [redo_len, hd]
    have hleg : Legal (lsl (l.take k)) ⟨rgK l k, rgT l k, rgP l k, rgB l k, rgA l k⟩ := by
      have := hl.take (k + 1)
      rw [rg_take l k (by omega)] at this
      exact this.last
    have hpg : rgP l k < 6 := hleg.pg
    rw [redo_succ]
    unfold rstep
    have key : at_ (rp (l.take (k + 1))) p = if rgK l k ≠ 3 ∧ p = rgP l k then (rgA l k, k + 1) else at_ (rp (l.take k)) p := by
      rw [rg_take l k (by omega), rp_at (l.take k) ⟨rgK l k, rgT l k, rgP l k, rgB l k, rgA l k⟩ hpg, List.length_take, Nat.min_eq_left (by omega)]
    rcases Nat.lt_or_ge k m with hkm | hkm
    · -- what the disk has is not older
      rw [show max (k + 1) m = max k m by omega, ← ih]
      split
      · rfl
      · split
        · rename_i h3 h4
          rw [at_set _ _ _ (by rw [hlen]; exact hpg)]
          split
          · rename_i h5
            subst h5
            exfalso
            have h6 : at_ (redoK l d k) (rgP l k) = at_ (rp (l.take m)) (rgP l k) := by rw [ih, show max k m = m by omega]
            rw [← h2] at h6
            have : (at_ (redoK l d k) (rgP l k)).2 < k + 1 := h4
            rw [h6, hm] at this
            omega
          · rfl
        · rfl
    · rw [show max (k + 1) m = k + 1 by omega, key]
      rw [show max k m = k by omega] at ih
      split
      · rename_i h3
        rw [if_neg (fun h => h.1 h3), ih]
      · rename_i h3
        split
        · rename_i h4
          rw [at_set _ _ _ (by rw [hlen]; exact hpg)]
          by_cases h5 : p = rgP l k
          · rw [if_pos h5, if_pos ⟨h3, h5⟩]
          · rw [if_neg h5, if_neg (fun h => h5 h.2), ih]
        · rename_i h4
          by_cases h5 : p = rgP l k
          · exfalso
            apply h4
            show (at_ (redoK l d k) (rgP l k)).2 < k + 1
            rw [← h5, ih]
            have := (rp_lsn (l.take k) (hl.take k) p).1
            rw [List.length_take] at this
            omega
          · rw [if_neg (fun h => h5 h.2), ih]
theorem list_ext_at {a b : List (Int × Nat)} (ha : a.length = 6) (hb : b.length = 6) (h : ∀ p, p < 6 → at_ a p = at_ b p) : a = b := by
  refine List.ext_getElem (by rw [ha, hb]) fun i h1 h2 => ?_
  have := h i (by omega)
  unfold at_ at this
  simpa [List.getD, h1, h2] using this
end Go.Proofs.Ytjalpppmgoepiaa.Rv
