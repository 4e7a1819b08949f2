/- Replication in plain words: what a minority has seen is not committed. -/
import Derived.Test.YthhkekmeginooaaRqf
namespace Go.Proofs.Ythhkekmeginooaa.Rp
open Go Go.RowKit Hp
set_option linter.unusedVariables false

/-- k + 2 servers; server 0 leads with the log L, of which server 1 has the first m entries, the others none. -/
def mis (k : Nat) (L : Lg) (m : Nat) : Clu := ⟨⟨1, 0, L, L.length :: m :: List.replicate k 0⟩ :: ⟨1, 0, L.take m, []⟩ :: List.replicate k ⟨1, 0, [], []⟩, [0, 0], []⟩
theorem mis_n (k : Nat) (L : Lg) (m : Nat) : (mis k L m).srv.length = k + 2 := by
  show (List.replicate k _).length + 1 + 1 = _
  rw [List.length_replicate]
theorem newC_mis (k : Nat) : newC (k + 2) = mis k [] 0 := rfl
theorem mid_z (k A m : Nat) (h : m = 0 ∨ 2 ≤ k) : mid (A :: m :: List.replicate k 0) = 0 := by
  have hl : (A :: m :: List.replicate k 0).length = k + 2 := by rw [List.length_cons, List.length_cons, List.length_replicate]
  have hz : ∀ v, (A :: m :: List.replicate k 0).getD (v + 2) 0 = 0 := fun v => by
    show (List.replicate k 0).getD v 0 = 0
    simp only [List.getD]
    rw [List.getElem?_replicate]
    split <;> rfl
  have := mid_lt (A :: m :: List.replicate k 0) (by rw [hl]; omega) 1 fun V hn hV => by
    rw [hl]
    have h01 : ∀ v ∈ V, v = 0 ∨ (v = 1 ∧ 1 ≤ m) := fun v hv => by
      have := (hV v hv).2
      match v, this with
      | 0, _ => exact .inl rfl
      | 1, h => exact .inr ⟨rfl, h⟩
      | v + 2, h => rw [hz] at h; omega
    rcases h with h | h
    · have := nodup_sub V [0] hn fun v hv => by
        rcases h01 v hv with e | e
        · rw [e]; exact List.mem_cons_self ..
        · omega
      rw [List.length_singleton] at this
      omega
    · have := nodup_sub V [0, 1] hn fun v hv => by
        rcases h01 v hv with e | e
        · rw [e]; exact List.mem_cons_self ..
        · rw [e.1]; exact List.mem_cons_of_mem _ (List.mem_cons_self ..)
      have : V.length ≤ 2 := this
      omega
  omega
theorem mis_app (k : Nat) (L : Lg) (y : ByteArray) (hL : L.length < 60) : (mis k L 0).appC 0 y = mis k (L ++ [⟨1, y⟩]) 0 ∧ (mis k L 0).appE 0 = 0 := by
  have hi : (mis k L 0).isL 0 = true := rfl
  have hs : (mis k L 0).s 0 = ⟨1, 0, L, L.length :: 0 :: List.replicate k 0⟩ := rfl
  refine ⟨?_, by unfold Clu.appE; rw [if_pos hi, if_pos (by rw [hs]; exact hL)]⟩
  unfold Clu.appC
  rw [if_pos ⟨hi, by rw [hs]; exact hL⟩]
  have e := adv_no ⟨1, 0, L ++ [⟨1, y⟩], L.length :: 0 :: List.replicate k 0⟩ 0 0 (mid_z k _ 0 (.inl rfl)) (Nat.lt_irrefl 0)
  have e2 : ∀ s : Srv, s = ⟨1, 0, L ++ [⟨1, y⟩], L.length :: 0 :: List.replicate k 0⟩ → s.adv 0 = ⟨1, 0, L ++ [⟨1, y⟩], (L ++ [(⟨1, y⟩ : Ent)]).length :: 0 :: List.replicate k 0⟩ := fun s hs => by rw [hs, e]; rfl
  unfold Clu.app
  rw [e2 _ (by rw [hs])]
  rfl
theorem recvL_end : ∀ (es l : Lg), recvL l l.length es = l ++ es
  | [], l => by rw [List.append_nil]; rfl
  | e :: es, l => by
    have h : ¬ l[l.length]?.map Ent.term = some e.term := by rw [List.getElem?_eq_none (Nat.le_refl _)]; intro h; cases h
    show recvL (if _ then l else l.take l.length ++ [e]) (l.length + 1) es = _
    rw [if_neg h, List.take_length, show l.length + 1 = (l ++ [e]).length by rw [List.length_append]; rfl, recvL_end es (l ++ [e]), List.append_assoc]
    rfl
/-- What is sent. -/
def misM (L : Lg) (m : Nat) : Msg := ⟨1, 0, 1, 1, m, if m = 0 then 0 else (L[m - 1]?.map Ent.term).getD 0, 0, (L.drop m).take 3⟩
def misS (k : Nat) (L : Lg) (m : Nat) : Clu := { mis k L m with net := [misM L m] }
def misD (k : Nat) (L : Lg) (m : Nat) : Clu := ⟨⟨1, 0, L, L.length :: m :: List.replicate k 0⟩ :: ⟨1, 0, L.take (min L.length (m + 3)), []⟩ :: List.replicate k ⟨1, 0, [], []⟩, [0, 0], [⟨2, 1, 0, 1, min L.length (m + 3), 0, 0, []⟩]⟩
theorem mis_send (k : Nat) (L : Lg) (m : Nat) : (mis k L m).sendC 0 1 = misS k L m ∧ (mis k L m).sendE 0 1 = 0 := ⟨rfl, rfl⟩
theorem take_next (L : Lg) (m : Nat) (h : m ≤ L.length) : L.take m ++ (L.drop m).take 3 = L.take (min L.length (m + 3)) ∧ m + ((L.drop m).take 3).length = min L.length (m + 3) := by
  refine ⟨?_, by rw [List.length_take, List.length_drop]; omega⟩
  rw [← List.take_add, List.take_eq_take_min (i := m + 3), Nat.min_comm]
theorem mis_del1 (k : Nat) (L : Lg) (m : Nat) (h : m ≤ L.length) : (misS k L m).deliver 0 = misD k L m ∧ (misS k L m).netE 0 = 0 := by
  refine ⟨?_, rfl⟩
  have hf : (misM L m).fits ⟨1, 0, L.take m, []⟩ = true := by
    unfold Msg.fits
    rw [Bool.and_eq_true, Bool.or_eq_true]
    refine ⟨decide_eq_true (by show m ≤ (L.take m).length; rw [List.length_take]; omega), ?_⟩
    by_cases h0 : m = 0
    · exact .inl (decide_eq_true h0)
    · right
      refine decide_eq_true ?_
      show (L.take m)[m - 1]?.map Ent.term = some (if m = 0 then 0 else (L[m - 1]?.map Ent.term).getD 0)
      rw [if_neg h0, List.getElem?_take_of_lt (by omega), List.getElem?_eq_getElem (by omega)]
      rfl
  obtain ⟨t1, t2⟩ := take_next L m h
  show (mis k L m).recv (misM L m) = _
  unfold Clu.recv
  rw [show (mis k L m).s (misM L m).to = ⟨1, 0, L.take m, []⟩ from rfl, hf]
  unfold Srv.take
  rw [if_pos hf]
  have hr : recvL (L.take m) m ((L.drop m).take 3) = L.take (min L.length (m + 3)) := by
    have hl : (L.take m).length = m := by rw [List.length_take]; omega
    have := recvL_end ((L.drop m).take 3) (L.take m)
    rw [hl, t1] at this
    exact this
  show (⟨⟨1, 0, L, L.length :: m :: List.replicate k 0⟩ :: ⟨1, max 0 (min 0 (m + ((L.drop m).take 3).length)), recvL (L.take m) m ((L.drop m).take 3), []⟩ :: List.replicate k ⟨1, 0, [], []⟩, [0, 0], [⟨2, 1, 0, 1, m + ((L.drop m).take 3).length, 0, 0, []⟩]⟩ : Clu) = misD k L m
  rw [hr, t2, Nat.zero_min, Nat.max_self]
  rfl
theorem mis_del2 (k : Nat) (L : Lg) (m : Nat) (h : m ≤ L.length) (hk : 2 ≤ k) : (misD k L m).deliver 0 = mis k L (min L.length (m + 3)) ∧ (misD k L m).netE 0 = 0 := by
  refine ⟨?_, rfl⟩
  have e := adv_no ⟨1, 0, L, L.length :: min L.length (m + 3) :: List.replicate k 0⟩ 0 0 (mid_z k _ _ (.inr hk)) (Nat.lt_irrefl 0)
  show (⟨⟨1, 0, L, L.length :: m :: List.replicate k 0⟩ :: ⟨1, 0, L.take (min L.length (m + 3)), []⟩ :: List.replicate k ⟨1, 0, [], []⟩, [0, 0], []⟩ : Clu).put 0 (Srv.adv ⟨1, 0, L, L.length :: max m (min L.length (m + 3)) :: List.replicate k 0⟩ 0) = _
  rw [show max m (min L.length (m + 3)) = min L.length (m + 3) by omega, e]
  rfl
theorem mis_s (k : Nat) (L : Lg) (m v : Nat) (hv : v < k + 2) : ((mis k L m).s v).com = 0 ∧ ((mis k L m).s v).log = if v = 0 then L else if v = 1 then L.take m else [] := by
  match v, hv with
  | 0, _ => exact ⟨rfl, rfl⟩
  | 1, _ => exact ⟨rfl, rfl⟩
  | v + 2, hv =>
    have : (mis k L m).s (v + 2) = ⟨1, 0, [], []⟩ := by
      show (List.replicate k (⟨1, 0, [], []⟩ : Srv)).getD v s0 = _
      simp only [List.getD]
      rw [List.getElem?_replicate, if_pos (by omega)]
      rfl
    rw [this]
    exact ⟨rfl, by rw [if_neg (by omega), if_neg (by omega)]⟩
end Go.Proofs.Ythhkekmeginooaa.Rp
