/- Locks: the plain laws. -/
import Derived.Test.YtbimkciejfbodaaLkr
namespace Go.Proofs.Ytbimkciejfbodaa.Lk
open Go Go.RowKit Hp
set_option linter.unusedVariables false

theorem compat_iff {a b : Int} : compat a b = false ↔ a = 2 ∨ b = 2 ∨ (a = 1 ∧ b = 4) ∨ (a = 4 ∧ b = 1) := by
  unfold compat
  rw [Bool.not_eq_false']
  simp only [Bool.or_eq_true, Bool.and_eq_true, decide_eq_true_eq, or_assoc]
theorem compat_symm {a b : Int} (h : compat a b = false) : compat b a = false := by
  rw [compat_iff] at *
  omega
theorem cov_iff {a b : Int} : cov a b = true ↔ a = b ∨ a = 2 ∨ b = 3 := by
  unfold cov
  simp only [Bool.or_eq_true, decide_eq_true_eq, or_assoc]
theorem cov_refl (a : Int) : cov a a = true := cov_iff.2 (.inl rfl)
theorem cov_trans {a b c : Int} (h : cov a b = true) (k : cov b c = true) : cov a c = true := by
  rw [cov_iff] at *
  omega
theorem cov_compat {a b c : Int} (h : cov a b = true) (k : compat b c = false) : compat a c = false := by
  rw [cov_iff] at h
  rw [compat_iff] at *
  omega
theorem sup_cov1 (a b : Int) : cov (supM a b) a = true := by
  unfold supM
  split
  · exact cov_refl a
  · split
    · assumption
    · exact cov_iff.2 (by omega)
theorem sup_cov2 (a b : Int) : cov (supM a b) b = true := by
  unfold supM
  split
  · assumption
  · split
    · exact cov_refl b
    · exact cov_iff.2 (by omega)
theorem sup_cases (a b : Int) : supM a b = a ∨ supM a b = b ∨ supM a b = 2 := by
  unfold supM
  split
  · exact .inl rfl
  · split
    · exact .inr (.inl rfl)
    · exact .inr (.inr rfl)
theorem same_iff {a b : Lk} : sameL a b = true ↔ a.tx = b.tx ∧ a.tab = b.tab ∧ a.key = b.key := by
  unfold sameL sameR
  simp only [Bool.and_eq_true, decide_eq_true_eq]
theorem same_symm {a b : Lk} (h : sameL a b = true) : sameL b a = true := by
  rw [same_iff] at *
  exact ⟨h.1.symm, h.2.1.symm, h.2.2.symm⟩
theorem confl_iff {a b : Lk} : confl a b = true ↔ a.tx ≠ b.tx ∧ a.tab = b.tab ∧ a.key = b.key ∧ compat a.mode b.mode = false := by
  unfold confl sameR
  simp only [Bool.and_eq_true, decide_eq_true_eq, Bool.not_eq_true', and_assoc]
theorem confl_symm {a b : Lk} (h : confl a b = true) : confl b a = true := by
  rw [confl_iff] at *
  exact ⟨fun e => h.1 e.symm, h.2.1.symm, h.2.2.1.symm, compat_symm h.2.2.2⟩
theorem confl_no {a b : Lk} (h : confl a b = false) : confl b a = false := by
  cases e : confl b a with
  | false => rfl
  | true => rw [confl_symm e] at h; cases h
/-- A stronger lock of the same holder conflicts with whatever the weaker one does. -/
theorem confl_up {a b c : Lk} (h : sameL a b = true) (hc : cov b.mode a.mode = true) (k : confl a c = true) : confl b c = true := by
  rw [same_iff] at h
  rw [confl_iff] at *
  exact ⟨by rw [← h.1]; exact k.1, by rw [← h.2.1]; exact k.2.1, by rw [← h.2.2]; exact k.2.2.1, cov_compat hc k.2.2.2⟩
theorem lk_ext {a b : Lk} (h : sameL a b = true) : ({ a with mode := b.mode } : Lk) = b := by
  obtain ⟨h1, h2, h3⟩ := same_iff.1 h
  cases a; cases b
  simp only at h1 h2 h3
  subst h1 h2 h3
  rfl

def Dist (gr : List Lk) : Prop := gr.Pairwise fun a b => sameL a b = false
theorem Dist.ne {gr : List Lk} (h : Dist gr) {i j : Nat} (hi : i < gr.length) (hj : j < gr.length) (e : sameL gr[i] gr[j] = true) : i = j := by
  rcases Nat.lt_trichotomy i j with k | k | k
  · have := List.pairwise_iff_getElem.1 h i j hi hj k; rw [e] at this; cases this
  · exact k
  · have := List.pairwise_iff_getElem.1 h j i hj hi k; rw [same_symm e] at this; cases this
theorem grant_cases (gr : List Lk) (l : Lk) : ((∀ x ∈ gr, sameL x l = false) ∧ grantL gr l = gr ++ [l] ∧ modeL gr l = 0) ∨ ∃ i, ∃ h : i < gr.length, sameL gr[i] l = true ∧ grantL gr l = gr.set i l ∧ modeL gr l = gr[i].mode := by
  rcases idx_cases (fun x => sameL x l) gr with ⟨hi, hn⟩ | ⟨i, hil, hi, ht, hn⟩
  · refine .inl ⟨fun x hx => ?_, grantL_miss hn, modeL_miss hn⟩
    obtain ⟨j, hj, rfl⟩ := List.getElem_of_mem hx
    exact hn j hj
  · refine .inr ⟨i, hil, ht, ?_, modeL_hit hil ht hn⟩
    rw [grantL_hit hil ht hn, lk_ext ht]
theorem mem_grant {gr : List Lk} (hd : Dist gr) {l x : Lk} : x ∈ grantL gr l ↔ x = l ∨ (x ∈ gr ∧ sameL x l = false) := by
  rcases grant_cases gr l with ⟨h, e, _⟩ | ⟨i, hi, h, e, _⟩
  · rw [e, List.mem_append, List.mem_singleton]
    constructor
    · rintro (k | k)
      · exact .inr ⟨k, h x k⟩
      · exact .inl k
    · rintro (k | k)
      · exact .inr k
      · exact .inl k.1
  · rw [e]
    constructor
    · intro k
      obtain ⟨j, hj, rfl⟩ := List.getElem_of_mem k
      rw [List.getElem_set]
      split
      · exact .inl rfl
      · rename_i hij
        rw [List.length_set] at hj
        refine .inr ⟨List.getElem_mem hj, ?_⟩
        cases e2 : sameL gr[j] l with
        | false => rfl
        | true =>
          refine absurd (hd.ne hi hj ?_) hij
          rw [same_iff] at *
          exact ⟨h.1.trans e2.1.symm, h.2.1.trans e2.2.1.symm, h.2.2.trans e2.2.2.symm⟩
    · rintro (k | ⟨k, k2⟩)
      · subst k
        exact List.mem_iff_getElem.2 ⟨i, by simpa using hi, by simp⟩
      · obtain ⟨j, hj, rfl⟩ := List.getElem_of_mem k
        refine List.mem_iff_getElem.2 ⟨j, by simpa using hj, ?_⟩
        rw [List.getElem_set]
        rw [if_neg]
        intro e2
        subst e2
        rw [h] at k2
        cases k2
theorem dist_grant {gr : List Lk} (hd : Dist gr) (l : Lk) : Dist (grantL gr l) := by
  rcases grant_cases gr l with ⟨h, e, _⟩ | ⟨i, hi, h, e, _⟩
  · rw [e]
    refine List.pairwise_append.2 ⟨hd, List.pairwise_singleton _ _, fun a ha b hb => ?_⟩
    rw [List.mem_singleton.1 hb]
    exact h a ha
  · rw [e]
    refine List.pairwise_iff_getElem.2 fun a b ha hb hab => ?_
    rw [List.length_set] at ha hb
    cases e2 : sameL (gr.set i l)[a] (gr.set i l)[b] with
    | false => rfl
    | true =>
      refine absurd (hd.ne ha hb ?_) (by omega)
      rw [List.getElem_set, List.getElem_set] at e2
      rw [same_iff] at *
      split at e2 <;> split at e2
      · omega
      · rename_i k1 k2; subst k1; exact ⟨h.1.trans e2.1, h.2.1.trans e2.2.1, h.2.2.trans e2.2.2⟩
      · rename_i k1 k2; subst k2; exact ⟨e2.1.trans h.1.symm, e2.2.1.trans h.2.1.symm, e2.2.2.trans h.2.2.symm⟩
      · exact e2
theorem modeL_of {gr : List Lk} (hd : Dist gr) {x l : Lk} (hx : x ∈ gr) (hs : sameL x l = true) : modeL gr l = x.mode := by
  rcases grant_cases gr l with ⟨h, _, _⟩ | ⟨i, hi, h, _, e⟩
  · rw [h x hx] at hs; cases hs
  · obtain ⟨j, hj, rfl⟩ := List.getElem_of_mem hx
    have : i = j := hd.ne hi hj (by rw [same_iff] at *; exact ⟨h.1.trans hs.1.symm, h.2.1.trans hs.2.1.symm, h.2.2.trans hs.2.2.symm⟩)
    subst this
    exact e
theorem modeL_some {gr : List Lk} {l : Lk} (h : modeL gr l ≠ 0) : ∃ x ∈ gr, sameL x l = true ∧ modeL gr l = x.mode := by
  rcases grant_cases gr l with ⟨_, _, e⟩ | ⟨i, hi, h, _, e⟩
  · exact absurd e h
  · exact ⟨_, List.getElem_mem hi, h, e⟩

/-! ### Edges, by splits of the queue -/
def EdgeS (gr Q : List Lk) (t u : Int) : Prop := ∃ A q B, Q = A ++ q :: B ∧ q.tx = t ∧ ∃ x ∈ gr ++ A, confl x q = true ∧ x.tx = u
theorem edgeS_iff {M : Mg} {t u : Int} : EdgeM M t u ↔ EdgeS M.gr M.qu t u := by
  constructor
  · rintro ⟨i, h, h1, h2⟩
    refine ⟨M.qu.take i, M.qu[i], M.qu.drop (i + 1), ?_, h1, mem_col.1 h2⟩
    rw [List.getElem_cons_drop, List.take_append_drop]
  · rintro ⟨A, q, B, e, h1, h2⟩
    have hl : A.length < M.qu.length := by rw [e]; simp
    have e1 : M.qu[A.length] = q := by simp [e]
    have e2 : M.qu.take A.length = A := by rw [e]; simp
    exact ⟨A.length, hl, by rw [e1]; exact h1, by rw [e1, e2]; exact mem_col.2 h2⟩
def BlkS (gr Q : List Lk) : Prop := ∀ A q B, Q = A ++ q :: B → ∃ x ∈ gr ++ A, confl x q = true
theorem blk_ne {gr : List Lk} {q : Lk} : (blkL gr q).length ≠ 0 ↔ ∃ x ∈ gr, confl x q = true := by
  constructor
  · intro h
    obtain ⟨u, hu⟩ := List.exists_mem_of_length_pos (Nat.pos_of_ne_zero h)
    obtain ⟨x, h1, h2, _⟩ := mem_col.1 hu
    exact ⟨x, h1, h2⟩
  · rintro ⟨x, h1, h2⟩
    exact Nat.pos_iff_ne_zero.1 (List.length_pos_of_mem (mem_col.2 ⟨x, h1, h2, rfl⟩))
theorem blk_nil {gr : List Lk} {q : Lk} (h : (blkL gr q).length = 0) : ∀ x ∈ gr, confl x q = false := fun x hx => by
  cases e : confl x q with
  | false => rfl
  | true => exact absurd h (blk_ne.2 ⟨x, hx, e⟩)
/-- A key's lock is protected by one on its table. -/
def Prot (gr : List Lk) (x : Lk) : Prop := x.key.size ≠ 0 → ∃ y ∈ gr, y.tx = x.tx ∧ y.tab = x.tab ∧ y.key = ByteArray.empty ∧ cov y.mode (x.mode + 2) = true
structure Inv (gr Q : List Lk) : Prop where
  vl : ∀ x ∈ gr ++ Q, Valid x
  hd : Dist gr
  qd : Q.Pairwise fun a b => a.tx ≠ b.tx
  gc : ∀ x ∈ gr, ∀ y ∈ gr, confl x y = false
  pr : ∀ x ∈ gr ++ Q, Prot gr x
  up : ∀ q ∈ Q, ∀ g ∈ gr, sameL g q = true → cov q.mode g.mode = true
  rk : ∃ rank : Int → Nat, ∀ t u, EdgeS gr Q t u → rank u < rank t
theorem Inv.nil : Inv [] [] :=
  ⟨fun x h => by simp at h, List.Pairwise.nil, List.Pairwise.nil, fun x h => by simp at h, fun x h => by simp at h, fun x h => by simp at h, fun _ => 0, fun t u ⟨A, q, B, e, _⟩ => by simp at e⟩
theorem BlkS.nil (gr : List Lk) : BlkS gr [] := fun A q B e => by simp at e
theorem confl_self (x : Lk) : confl x x = false := by
  cases e : confl x x with
  | false => rfl
  | true => exact absurd rfl (confl_iff.1 e).1
theorem Inv.grant {gr Q Q' : List Lk} {l : Lk} (h : Inv gr Q) (hQ : Q'.Sublist Q) (hl : Valid l) (hp : Prot gr l) (hu : ∀ g ∈ gr, sameL g l = true → cov l.mode g.mode = true) (hc : ∀ x ∈ gr, confl x l = false)
    (ht : ∀ q ∈ Q', q.tx ≠ l.tx) (he : ∀ t u, EdgeS (grantL gr l) Q' t u → EdgeS gr Q t u) : Inv (grantL gr l) Q' := by
  have hm : ∀ x ∈ grantL gr l, x = l ∨ x ∈ gr := fun x hx => by
    rcases (mem_grant h.hd).1 hx with e | e
    · exact .inl e
    · exact .inr e.1
  have hlm : l ∈ grantL gr l := (mem_grant h.hd).2 (.inl rfl)
  refine ⟨fun x hx => ?_, dist_grant h.hd l, h.qd.sublist hQ, fun x hx y hy => ?_, fun x hx => ?_, fun q hq g hg hs => ?_, ?_⟩
  · rcases List.mem_append.1 hx with hx | hx
    · rcases hm x hx with rfl | e
      · exact hl
      · exact h.vl x (List.mem_append_left _ e)
    · exact h.vl x (List.mem_append_right _ (hQ.subset hx))
  · rcases hm x hx with rfl | e <;> rcases hm y hy with rfl | e2
    · exact confl_self _
    · exact confl_no (hc _ e2)
    · exact hc _ e
    · exact h.gc _ e _ e2
  · have hpx : Prot gr x := by
      rcases List.mem_append.1 hx with hx | hx
      · rcases hm x hx with rfl | e
        · exact hp
        · exact h.pr x (List.mem_append_left _ e)
      · exact h.pr x (List.mem_append_right _ (hQ.subset hx))
    intro hk
    obtain ⟨y, h1, h2, h3, h4, h5⟩ := hpx hk
    cases e : sameL y l with
    | false => exact ⟨y, (mem_grant h.hd).2 (.inr ⟨h1, e⟩), h2, h3, h4, h5⟩
    | true =>
      obtain ⟨e1, e2, e3⟩ := same_iff.1 e
      exact ⟨l, hlm, by rw [← e1, h2], by rw [← e2, h3], by rw [← e3, h4], cov_trans (hu y h1 e) h5⟩
  · rcases hm g hg with rfl | e
    · exact absurd (same_iff.1 hs).1.symm (ht q hq)
    · exact h.up q (hQ.subset hq) g e hs
  · obtain ⟨rank, hr⟩ := h.rk
    exact ⟨rank, fun t u e => hr t u (he t u e)⟩
/-- What blocks stays, where only stronger locks take the place of weaker ones. -/
theorem blk_keep {gr : List Lk} {l q : Lk} {A : List Lk} (hd : Dist gr) (hu : ∀ g ∈ gr, sameL g l = true → cov l.mode g.mode = true) (h : ∃ x ∈ gr ++ A, confl x q = true) : ∃ x ∈ grantL gr l ++ A, confl x q = true := by
  obtain ⟨x, hx, hc⟩ := h
  rcases List.mem_append.1 hx with hx | hx
  · cases e : sameL x l with
    | false => exact ⟨x, List.mem_append_left _ ((mem_grant hd).2 (.inr ⟨hx, e⟩)), hc⟩
    | true => exact ⟨l, List.mem_append_left _ ((mem_grant hd).2 (.inl rfl)), confl_up e (hu x hx e) hc⟩
  · exact ⟨x, List.mem_append_right _ hx, hc⟩
/-- Granted at once. -/
theorem Inv.now {gr Q : List Lk} {l : Lk} (h : Inv gr Q) (hb : BlkS gr Q) (hl : Valid l) (hp : Prot gr l) (hu : ∀ g ∈ gr, sameL g l = true → cov l.mode g.mode = true) (hc : ∀ x ∈ gr ++ Q, confl x l = false)
    (ht : ∀ q ∈ Q, q.tx ≠ l.tx) : Inv (grantL gr l) Q ∧ BlkS (grantL gr l) Q := by
  refine ⟨h.grant (List.Sublist.refl _) hl hp hu (fun x hx => hc x (List.mem_append_left _ hx)) ht ?_, fun A q B e => blk_keep h.hd hu (hb A q B e)⟩
  rintro t u ⟨A, q, B, e, h1, x, h2, h3, h4⟩
  refine ⟨A, q, B, e, h1, x, ?_, h3, h4⟩
  rcases List.mem_append.1 h2 with h2 | h2
  · rcases (mem_grant h.hd).1 h2 with rfl | h2
    · have := confl_no (hc q (List.mem_append_right _ (by rw [e]; simp)))
      rw [this] at h3
      cases h3
    · exact List.mem_append_left _ h2.1
  · exact List.mem_append_right _ h2
/-- Granted out of the queue. -/
theorem Inv.take {gr pre rest : List Lk} {q : Lk} (h : Inv gr (pre ++ q :: rest)) (hb : BlkS gr pre) (hn : (blkL (gr ++ pre) q).length = 0) :
    Inv (grantL gr q) (pre ++ rest) ∧ BlkS (grantL gr q) pre ∧ ∀ t u, EdgeS (grantL gr q) (pre ++ rest) t u → EdgeS gr (pre ++ q :: rest) t u := by
  have hno := blk_nil hn
  have hq : q ∈ pre ++ q :: rest := by simp
  have hu : ∀ g ∈ gr, sameL g q = true → cov q.mode g.mode = true := h.up q hq
  have hs : (pre ++ rest).Sublist (pre ++ q :: rest) := List.Sublist.append (List.Sublist.refl _) (List.sublist_cons_self _ _)
  have hE : ∀ t u, EdgeS (grantL gr q) (pre ++ rest) t u → EdgeS gr (pre ++ q :: rest) t u := by
    rintro t u ⟨A, r, B, e, h1, x, h2, h3, h4⟩
    rcases List.append_eq_append_iff.1 e with ⟨C, e1, e2⟩ | ⟨C, e1, e2⟩
    · subst e1
      refine ⟨pre ++ q :: C, r, B, by simp [e2], h1, x, ?_, h3, h4⟩
      rcases List.mem_append.1 h2 with h2 | h2
      · rcases (mem_grant h.hd).1 h2 with rfl | h2
        · simp
        · exact List.mem_append_left _ h2.1
      · refine List.mem_append_right _ ?_
        rcases List.mem_append.1 h2 with h2 | h2
        · exact List.mem_append_left _ h2
        · exact List.mem_append_right _ (List.mem_cons_of_mem _ h2)
    · cases C with
      | nil =>
        simp only [List.append_nil] at e1
        simp only [List.nil_append] at e2
        subst e1
        refine ⟨pre ++ [q], r, B, by simp [e2], h1, x, ?_, h3, h4⟩
        rcases List.mem_append.1 h2 with h2 | h2
        · rcases (mem_grant h.hd).1 h2 with rfl | h2
          · simp
          · exact List.mem_append_left _ h2.1
        · exact List.mem_append_right _ (List.mem_append_left _ h2)
      | cons c C =>
        simp only [List.cons_append, List.cons.injEq] at e2
        obtain ⟨rfl, e2⟩ := e2
        refine ⟨A, r, C ++ q :: rest, by simp [e1], h1, x, ?_, h3, h4⟩
        rcases List.mem_append.1 h2 with h2 | h2
        · rcases (mem_grant h.hd).1 h2 with rfl | h2
          · have := confl_no (hno r (List.mem_append_right _ (by rw [e1]; simp)))
            rw [this] at h3
            cases h3
          · exact List.mem_append_left _ h2.1
        · exact List.mem_append_right _ h2
  refine ⟨h.grant hs (h.vl q (List.mem_append_right _ hq)) (h.pr q (List.mem_append_right _ hq)) hu (fun x hx => hno x (List.mem_append_left _ hx)) (fun r hr => ?_) hE, fun A r B e => blk_keep h.hd hu (hb A r B e), hE⟩
  have hp := List.pairwise_append.1 h.qd
  rcases List.mem_append.1 hr with hr | hr
  · exact hp.2.2 r hr q List.mem_cons_self
  · exact fun e => (List.pairwise_cons.1 hp.2.1).1 r hr e.symm
theorem BlkS.snoc {gr pre : List Lk} {q : Lk} (h : BlkS gr pre) (hn : (blkL (gr ++ pre) q).length ≠ 0) : BlkS gr (pre ++ [q]) := by
  intro A r B e
  rcases List.eq_nil_or_concat B with rfl | ⟨C, b, rfl⟩
  · have e := List.append_inj' e rfl
    obtain ⟨rfl, e2⟩ := e
    cases e2
    exact blk_ne.1 hn
  · have e : pre ++ [q] = (A ++ r :: C) ++ [b] := by simpa using e
    have e := List.append_inj' e rfl
    exact h A r C e.1
/-- One pass over the queue. -/
structure RelOk (gr Q gr' Q' : List Lk) : Prop where
  inv : Inv gr' Q'
  blk : BlkS gr' Q'
  edge : ∀ t u, EdgeS gr' Q' t u → EdgeS gr Q t u
  sub : Q'.Sublist Q
  mem : ∀ x ∈ gr' ++ Q', x ∈ gr ++ Q
  len : gr'.length + Q'.length ≤ gr.length + Q.length
theorem relGo_ok : ∀ (rest gr pre : List Lk) (res : List Int), Inv gr (pre ++ rest) → BlkS gr pre → RelOk gr (pre ++ rest) (relGo gr pre rest res).1 (relGo gr pre rest res).2.1
  | [], gr, pre, res, h, hb => by
    unfold relGo
    rw [List.append_nil] at *
    exact ⟨h, hb, fun _ _ e => e, List.Sublist.refl _, fun _ e => e, Nat.le_refl _⟩
  | q :: rest, gr, pre, res, h, hb => by
    unfold relGo
    by_cases hn : (blkL (gr ++ pre) q).length = 0
    · rw [if_pos hn]
      obtain ⟨h1, h2, h3⟩ := h.take hb hn
      obtain ⟨a1, a2, a3, a4, a5, a6⟩ := relGo_ok rest (grantL gr q) pre (res ++ [q.tx]) h1 h2
      refine ⟨a1, a2, fun t u e => h3 t u (a3 t u e), a4.trans (List.Sublist.append (List.Sublist.refl _) (List.sublist_cons_self _ _)), fun x hx => ?_, ?_⟩
      · rcases List.mem_append.1 (a5 x hx) with e | e
        · rcases (mem_grant h.hd).1 e with rfl | e
          · simp
          · exact List.mem_append_left _ e.1
        · refine List.mem_append_right _ ?_
          rcases List.mem_append.1 e with e | e
          · exact List.mem_append_left _ e
          · exact List.mem_append_right _ (List.mem_cons_of_mem _ e)
      · have := grantL_len gr q
        simp only [List.length_append, List.length_cons] at *
        omega
    · rw [if_neg hn]
      have e : pre ++ [q] ++ rest = pre ++ q :: rest := by simp
      have := relGo_ok rest gr (pre ++ [q]) res (by rw [e]; exact h) (hb.snoc hn)
      rw [e] at this
      exact this
theorem mem_keep {t : Int} {l : List Lk} {x : Lk} : x ∈ keepC t l ↔ x ∈ l ∧ x.tx ≠ t := by
  unfold keepC oldC
  rw [List.mem_filter]
  simp
theorem keep_split {t : Int} : ∀ {Q A : List Lk} {q : Lk} {B : List Lk}, keepC t Q = A ++ q :: B → ∃ A' B', Q = A' ++ q :: B' ∧ A = keepC t A'
  | [], A, q, B, e => by cases A <;> cases e
  | x :: Q, A, q, B, e => by
    cases hx : oldC t x with
    | true =>
      have e1 : keepC t (x :: Q) = keepC t Q := by simp [keepC, hx]
      rw [e1] at e
      obtain ⟨A', B', e2, e3⟩ := keep_split e
      exact ⟨x :: A', B', by rw [e2]; rfl, by rw [e3]; simp [keepC, hx]⟩
    | false =>
      have e1 : keepC t (x :: Q) = x :: keepC t Q := by simp [keepC, hx]
      rw [e1] at e
      cases A with
      | nil =>
        simp only [List.nil_append, List.cons.injEq] at e
        obtain ⟨rfl, e⟩ := e
        exact ⟨[], Q, rfl, rfl⟩
      | cons a A =>
        simp only [List.cons_append, List.cons.injEq] at e
        obtain ⟨rfl, e⟩ := e
        obtain ⟨A', B', e2, e3⟩ := keep_split e
        exact ⟨x :: A', B', by rw [e2]; rfl, by rw [e3]; simp [keepC, hx]⟩
theorem Inv.keep {gr Q : List Lk} (h : Inv gr Q) (t : Int) : Inv (keepC t gr) (keepC t Q) ∧ ∀ a u, EdgeS (keepC t gr) (keepC t Q) a u → EdgeS gr Q a u := by
  have hm : ∀ x ∈ keepC t gr ++ keepC t Q, x ∈ gr ++ Q ∧ x.tx ≠ t := fun x hx => by
    rcases List.mem_append.1 hx with e | e
    · exact ⟨List.mem_append_left _ (mem_keep.1 e).1, (mem_keep.1 e).2⟩
    · exact ⟨List.mem_append_right _ (mem_keep.1 e).1, (mem_keep.1 e).2⟩
  have hE : ∀ a u, EdgeS (keepC t gr) (keepC t Q) a u → EdgeS gr Q a u := by
    rintro a u ⟨A, q, B, e, h1, x, h2, h3, h4⟩
    obtain ⟨A', B', e2, rfl⟩ := keep_split e
    refine ⟨A', q, B', e2, h1, x, ?_, h3, h4⟩
    rcases List.mem_append.1 h2 with e | e
    · exact List.mem_append_left _ (mem_keep.1 e).1
    · exact List.mem_append_right _ (mem_keep.1 e).1
  refine ⟨⟨fun x hx => h.vl x (hm x hx).1, h.hd.sublist List.filter_sublist, h.qd.sublist List.filter_sublist, fun x hx y hy => h.gc x (mem_keep.1 hx).1 y (mem_keep.1 hy).1, fun x hx hk => ?_, fun q hq g hg hs => h.up q (mem_keep.1 hq).1 g (mem_keep.1 hg).1 hs, ?_⟩, hE⟩
  · obtain ⟨y, h1, h2, h3⟩ := h.pr x (hm x hx).1 hk
    exact ⟨y, mem_keep.2 ⟨h1, by rw [h2]; exact (hm x hx).2⟩, h2, h3⟩
  · obtain ⟨rank, hr⟩ := h.rk
    exact ⟨rank, fun a u e => hr a u (hE a u e)⟩
/-- What a release leaves. -/
structure Rel (t : Int) (M M' : Mg) : Prop where
  ok : RelOk M.gr M.qu M'.gr M'.qu
  gone : ∀ x ∈ M'.gr ++ M'.qu, x.tx ≠ t
theorem rel_ok {M : Mg} (h : Inv M.gr M.qu) (t : Int) : Rel t M ⟨(relM M t).1, (relM M t).2.1⟩ := by
  obtain ⟨h1, h2⟩ := h.keep t
  obtain ⟨a1, a2, a3, a4, a5, a6⟩ := relGo_ok (keepC t M.qu) (keepC t M.gr) [] [] (by simpa using h1) (BlkS.nil _)
  simp only [List.nil_append] at a3 a4 a5 a6
  have l1 : (keepC t M.gr).length ≤ M.gr.length := List.length_filter_le _ _
  have l2 : (keepC t M.qu).length ≤ M.qu.length := List.length_filter_le _ _
  refine ⟨⟨a1, a2, fun a u e => h2 a u (a3 a u e), a4.trans List.filter_sublist, fun x hx => ?_, Nat.le_trans a6 (Nat.add_le_add l1 l2)⟩, fun x hx => ?_⟩
  · rcases List.mem_append.1 (a5 x hx) with e | e
    · exact List.mem_append_left _ (mem_keep.1 e).1
    · exact List.mem_append_right _ (mem_keep.1 e).1
  · rcases List.mem_append.1 (a5 x hx) with e | e
    · exact (mem_keep.1 e).2
    · exact (mem_keep.1 e).2
/-- Put at the queue's end. -/
theorem rch_one {M : Mg} {fs : List Int} {b x : Int} (hb : b ∈ fs) (h : Rch M [b] x) : Rch M fs x := by
  induction h with
  | base h => rw [List.mem_singleton.1 h]; exact .base hb
  | step _ e ih => exact .step ih e
theorem rch_head {M : Mg} {t u x : Int} (e : EdgeM M t u) (h : Rch M [u] x) : Rch M [t] x := by
  induction h with
  | base h => rw [List.mem_singleton.1 h]; exact .step (.base List.mem_cons_self) e
  | step _ e2 ih => exact .step ih e2
theorem rank_bound (rank : Int → Nat) (l : List Int) : ∃ K, ∀ u ∈ l, rank u < K := by
  induction l with
  | nil => exact ⟨0, fun u h => by cases h⟩
  | cons a l ih =>
    obtain ⟨K, hK⟩ := ih
    exact ⟨K + rank a + 1, fun u h => by
      rcases List.mem_cons.1 h with rfl | h
      · omega
      · have := hK u h; omega⟩
theorem Inv.enq {gr Q : List Lk} {l : Lk} (h : Inv gr Q) (hb : BlkS gr Q) (hl : Valid l) (hp : Prot gr l) (hu : ∀ g ∈ gr, sameL g l = true → cov l.mode g.mode = true) (ht : ∀ q ∈ Q, q.tx ≠ l.tx)
    (hn : (blkL (gr ++ Q) l).length ≠ 0) (hr : ¬ Rch ⟨gr, Q⟩ (blkL (gr ++ Q) l) l.tx) : Inv gr (Q ++ [l]) ∧ BlkS gr (Q ++ [l]) := by
  classical
  refine ⟨⟨fun x hx => ?_, h.hd, ?_, h.gc, fun x hx => ?_, fun q hq g hg hs => ?_, ?_⟩, hb.snoc hn⟩
  · rw [← List.append_assoc] at hx
    rcases List.mem_append.1 hx with e | e
    · exact h.vl x e
    · rw [List.mem_singleton.1 e]; exact hl
  · exact List.pairwise_append.2 ⟨h.qd, List.pairwise_singleton _ _, fun a ha b hb => by rw [List.mem_singleton.1 hb]; exact ht a ha⟩
  · rw [← List.append_assoc] at hx
    rcases List.mem_append.1 hx with e | e
    · exact h.pr x e
    · rw [List.mem_singleton.1 e]; exact hp
  · rcases List.mem_append.1 hq with e | e
    · exact h.up q e g hg hs
    · have e := List.mem_singleton.1 e
      subst e
      exact hu g hg hs
  · obtain ⟨rank, hk⟩ := h.rk
    obtain ⟨K, hK⟩ := rank_bound rank (blkL (gr ++ Q) l)
    refine ⟨fun x => if Rch ⟨gr, Q⟩ [x] l.tx then rank x + K else rank x, ?_⟩
    rintro t u ⟨A, q, B, e, h1, x, h2, h3, h4⟩
    rcases List.eq_nil_or_concat B with rfl | ⟨C, b, rfl⟩
    · have e := List.append_inj' e rfl
      obtain ⟨rfl, e2⟩ := e
      cases e2
      have hub : u ∈ blkL (gr ++ Q) l := mem_col.2 ⟨x, h2, h3, h4⟩
      have n1 : ¬ Rch ⟨gr, Q⟩ [u] l.tx := fun e => hr (rch_one hub e)
      have n2 : Rch ⟨gr, Q⟩ [t] l.tx := by rw [h1]; exact .base List.mem_cons_self
      simp only [if_neg n1, if_pos n2]
      have := hK u hub
      omega
    · have e : Q ++ [l] = (A ++ q :: C) ++ [b] := by simpa using e
      have e := List.append_inj' e rfl
      have hE : EdgeS gr Q t u := ⟨A, q, C, e.1, h1, x, h2, h3, h4⟩
      have hlt := hk t u hE
      by_cases n1 : Rch ⟨gr, Q⟩ [u] l.tx
      · have n2 : Rch ⟨gr, Q⟩ [t] l.tx := rch_head ((edgeS_iff (M := ⟨gr, Q⟩)).2 hE) n1
        simp only [if_pos n1, if_pos n2]
        omega
      · by_cases n2 : Rch ⟨gr, Q⟩ [t] l.tx
        · simp only [if_neg n1, if_pos n2]
          omega
        · simp only [if_neg n1, if_neg n2]
          omega

/-! ### Acquire -/
def intL (l : Lk) : Lk := ⟨l.tx, l.tab, ByteArray.empty, l.mode + 2⟩
def askL (gr : List Lk) (l : Lk) : Lk := { l with mode := if 0 < modeL gr l then supM (modeL gr l) l.mode else l.mode }
open Classical in
noncomputable def acqL (M : Mg) (l : Lk) : Int × Mg :=
  if ∃ q ∈ M.qu, q.tx = l.tx then (15, M)
  else if l.key.size ≠ 0 ∧ (modeL M.gr (intL l) = 0 ∨ cov (modeL M.gr (intL l)) (l.mode + 2) = false) then (6, M)
  else if 0 < modeL M.gr l ∧ cov (modeL M.gr l) l.mode = true then (0, M)
  else if modeL M.gr l = 0 ∧ 200 ≤ M.gr.length + M.qu.length then (18, M)
  else if (blkL (M.gr ++ M.qu) (askL M.gr l)).length = 0 then (0, ⟨grantL M.gr (askL M.gr l), M.qu⟩)
  else if Rch M (blkL (M.gr ++ M.qu) (askL M.gr l)) l.tx then (14, M)
  else (16, ⟨M.gr, M.qu ++ [askL M.gr l]⟩)
theorem ask_valid {gr Q : List Lk} {l : Lk} (h : Inv gr Q) (hl : Valid l) : Valid (askL gr l) := by
  unfold askL
  split
  · rename_i h0
    obtain ⟨x, hx, hs, e⟩ := modeL_some (gr := gr) (l := l) (by omega)
    obtain ⟨_, _, hk⟩ := same_iff.1 hs
    have vx := h.vl x (List.mem_append_left _ hx)
    rw [e]
    rcases sup_cases x.mode l.mode with k | k | k
    · exact ⟨hl.t0, hl.t1, by rw [k]; exact vx.m0, by rw [k]; exact vx.m1, fun e2 => by rw [k]; exact vx.k1 (by rw [hk]; exact e2), hl.b0, hl.b1, hl.k2⟩
    · exact ⟨hl.t0, hl.t1, by rw [k]; exact hl.m0, by rw [k]; exact hl.m1, fun e2 => by rw [k]; exact hl.k1 e2, hl.b0, hl.b1, hl.k2⟩
    · exact ⟨hl.t0, hl.t1, by rw [k]; show (1 : Int) ≤ 2; decide, by rw [k]; show (2 : Int) ≤ 4; decide, fun e2 => by rw [k]; exact Int.le_refl 2, hl.b0, hl.b1, hl.k2⟩
  · exact hl
theorem cov_add {a b : Int} (h : cov a b = true) (hm : 1 ≤ a ∧ 1 ≤ b ∧ a ≤ 2 ∧ b ≤ 2) : cov (a + 2) (b + 2) = true ∨ (a = 2 ∧ b = 1) := by
  rw [cov_iff] at *
  omega
theorem sup_key {a b : Int} (ha : 1 ≤ a ∧ a ≤ 2) (hb : 1 ≤ b ∧ b ≤ 2) (c : Int) (h1 : cov c (a + 2) = true) (h2 : cov c (b + 2) = true) : cov c (supM a b + 2) = true := by
  rcases sup_cases a b with k | k | k
  · rw [k]; exact h1
  · rw [k]; exact h2
  · have : a = 2 ∨ b = 2 := by
      unfold supM cov at k
      rcases Decidable.em (a = 2) with e | e
      · exact .inl e
      · rcases Decidable.em (b = 2) with e2 | e2
        · exact .inr e2
        · obtain rfl : a = 1 := by omega
          obtain rfl : b = 1 := by omega
          simp at k
    rw [k]
    rcases this with rfl | rfl
    · exact h1
    · exact h2
theorem ask_prot {gr Q : List Lk} {l : Lk} (h : Inv gr Q) (hl : Valid l) (hp : Prot gr l) : Prot gr (askL gr l) := by
  unfold askL
  split
  · rename_i h0
    obtain ⟨x, hx, hs, e⟩ := modeL_some (gr := gr) (l := l) (by omega)
    obtain ⟨k1, k2, hk⟩ := same_iff.1 hs
    have vx := h.vl x (List.mem_append_left _ hx)
    rw [e]
    intro hne
    have hne : l.key.size ≠ 0 := hne
    obtain ⟨y, y1, y2, y3, y4, y5⟩ := hp hne
    obtain ⟨z, z1, z2, z3, z4, z5⟩ := h.pr x (List.mem_append_left _ hx) (by rw [hk]; exact hne)
    have hyz : sameL y z = true := same_iff.2 ⟨by rw [y2, z2, k1], by rw [y3, z3, k2], by rw [y4, z4]⟩
    have : z = y := by
      obtain ⟨i, hi, rfl⟩ := List.getElem_of_mem y1
      obtain ⟨j, hj, rfl⟩ := List.getElem_of_mem z1
      have := h.hd.ne hi hj hyz
      subst this
      rfl
    subst this
    have m1 := vx.k1 (by rw [hk]; exact hne)
    have m2 := hl.k1 hne
    exact ⟨z, y1, y2, y3, y4, sup_key ⟨vx.m0, m1⟩ ⟨hl.m0, m2⟩ _ z5 y5⟩
  · exact hp
theorem ask_up {gr Q : List Lk} {l : Lk} (h : Inv gr Q) : ∀ g ∈ gr, sameL g (askL gr l) = true → cov (askL gr l).mode g.mode = true := by
  intro g hg hs
  have hs' : sameL g l = true := by
    rw [same_iff] at *
    exact hs
  have e := modeL_of h.hd hg hs'
  have hv := (h.vl g (List.mem_append_left _ hg)).m0
  unfold askL
  rw [if_pos (by omega), e]
  exact sup_cov1 _ _
/-- What a request leaves. -/
theorem acq_ok {M : Mg} {l : Lk} (h : Inv M.gr M.qu) (hb : BlkS M.gr M.qu) (hl : Valid l) : Inv (acqL M l).2.gr (acqL M l).2.qu ∧ BlkS (acqL M l).2.gr (acqL M l).2.qu := by
  unfold acqL
  split
  · exact ⟨h, hb⟩
  · rename_i hq
    split
    · exact ⟨h, hb⟩
    · rename_i hk
      split
      · exact ⟨h, hb⟩
      · split
        · exact ⟨h, hb⟩
        · have hp : Prot M.gr l := fun hne => by
            have h2 : ¬ (modeL M.gr (intL l) = 0 ∨ cov (modeL M.gr (intL l)) (l.mode + 2) = false) := fun e => hk ⟨hne, e⟩
            obtain ⟨x, hx, hs, e⟩ := modeL_some (gr := M.gr) (l := intL l) fun e => h2 (.inl e)
            obtain ⟨k1, k2, k3⟩ := same_iff.1 hs
            refine ⟨x, hx, k1, k2, k3, ?_⟩
            cases hc : cov (modeL M.gr (intL l)) (l.mode + 2) with
            | false => exact absurd (.inr hc) h2
            | true => rw [← e]; exact hc
          have ht : ∀ q ∈ M.qu, q.tx ≠ (askL M.gr l).tx := fun q hqm e => hq ⟨q, hqm, e⟩
          split
          · rename_i hn
            exact h.now hb (ask_valid h hl) (ask_prot h hl hp) (ask_up h) (blk_nil hn) ht
          · rename_i hn
            split
            · exact ⟨h, hb⟩
            · rename_i hr
              exact h.enq hb (ask_valid h hl) (ask_prot h hl hp) (ask_up h) ht hn hr
theorem acq_len (M : Mg) (l : Lk) : (acqL M l).2.gr.length + (acqL M l).2.qu.length ≤ M.gr.length + M.qu.length + 1 := by
  unfold acqL
  repeat' split
  all_goals try exact Nat.le_succ _
  · have := grantL_len M.gr (askL M.gr l)
    simp only
    omega
  · simp only [List.length_append, List.length_cons, List.length_nil]
    omega
theorem acq_mem (M : Mg) (h : Dist M.gr) (l : Lk) : ∀ x ∈ (acqL M l).2.gr ++ (acqL M l).2.qu, x.tx = l.tx ∨ x ∈ M.gr ++ M.qu := by
  unfold acqL
  repeat' split
  all_goals try exact fun x hx => .inr hx
  · intro x hx
    rcases List.mem_append.1 hx with e | e
    · rcases (mem_grant h).1 e with rfl | e
      · exact .inl rfl
      · exact .inr (List.mem_append_left _ e.1)
    · exact .inr (List.mem_append_right _ e)
  · intro x hx
    simp only at hx
    rw [← List.append_assoc] at hx
    rcases List.mem_append.1 hx with e | e
    · exact .inr e
    · rw [List.mem_singleton.1 e]; exact .inl rfl
end Go.Proofs.Ytbimkciejfbodaa.Lk
