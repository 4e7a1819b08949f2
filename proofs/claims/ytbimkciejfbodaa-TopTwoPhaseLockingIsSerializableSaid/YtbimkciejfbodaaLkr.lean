/- Locks: what a release computes; what its stores leave. -/
import Derived.Test.YtbimkciejfbodaaLko
namespace Go.Proofs.Ytbimkciejfbodaa.Lk
open Go Go.RowKit Hp
set_option linter.unusedVariables false

/-- One pass over the queue: gr is granted, pre stays queued, rest is still to be looked at. -/
def relGo (gr pre : List Lk) : List Lk → List Int → List Lk × List Lk × List Int
  | [], res => (gr, pre, res)
  | q :: rest, res => if (blkL (gr ++ pre) q).length = 0 then relGo (grantL gr q) pre rest (res ++ [q.tx]) else relGo gr (pre ++ [q]) rest res
def relM (M : Mg) (t : Int) : List Lk × List Lk × List Int := relGo (keepC t M.gr) [] (keepC t M.qu) []
theorem grantL_len (gr : List Lk) (l : Lk) : (grantL gr l).length ≤ gr.length + 1 := by
  unfold grantL
  split <;> simp
section
variable {w wr w2 : World} {p : Nat} {F : Nat → Prop} {M : Mg} {gv qv v' : Value} {l' : List Lk}
theorem ManP.storeG (h : ManP wr p F M gv qv) (C : Chg (fun j => gv.ownBlock = some j) wr w2) (hown : w2.ownsRow 0 33 4 v' l'.length (lkC l')) (hsub : ∀ k, v'.ownBlock = some k → gv.ownBlock = some k) :
    ManP (w2.setCell ⟨p, 0, none⟩ v') p F ⟨l', M.qu⟩ v' qv ∧ Chg F wr (w2.setCell ⟨p, 0, none⟩ v') := by
  have hne : ∀ k, gv.ownBlock = some k → k ≠ p := fun k hk e => by subst e; exact ((own_ty h.go) _ hk).1.ne (E' := 56) (by decide) (blk_ty h.blk)
  have B2 := h.blk.chg C (fun e => hne _ e rfl)
  have C2 : Chg (fun j => gv.ownBlock = some j ∨ j = p) wr (w2.setCell ⟨p, 0, none⟩ v') := (C.mono (S' := fun j => gv.ownBlock = some j ∨ j = p) fun _ _ e => .inl e).set (b := p) (.inl (.inr rfl)) 0 none v'
  refine ⟨h.putG C2 (B2.set 0 v') (own_chg hown (chg_set w2 p 0 none v') fun k hk e => hne k (hsub k hk) e) (fun k hk => hk) (fun k hk => Nat.lt_of_lt_of_le (h.lt k hk) C2.size) (fun k hk => h.gF k (hsub k hk)) fun k hk => .inl (hsub k hk), C2.mono fun j _ e => ?_⟩
  rcases e with e | e
  · exact h.gF j e
  · subst e; exact h.fp
theorem ManP.storeQ (h : ManP wr p F M gv qv) (C : Chg (fun j => qv.ownBlock = some j) wr w2) (hown : w2.ownsRow 0 33 4 v' l'.length (lkC l')) (hsub : ∀ k, v'.ownBlock = some k → qv.ownBlock = some k) :
    ManP (w2.setCell ⟨p, 1, none⟩ v') p F ⟨M.gr, l'⟩ gv v' ∧ Chg F wr (w2.setCell ⟨p, 1, none⟩ v') := by
  have hne : ∀ k, qv.ownBlock = some k → k ≠ p := fun k hk e => by subst e; exact ((own_ty h.qo) _ hk).1.ne (E' := 56) (by decide) (blk_ty h.blk)
  have B2 := h.blk.chg C (fun e => hne _ e rfl)
  have C2 : Chg (fun j => qv.ownBlock = some j ∨ j = p) wr (w2.setCell ⟨p, 1, none⟩ v') := (C.mono (S' := fun j => qv.ownBlock = some j ∨ j = p) fun _ _ e => .inl e).set (b := p) (.inl (.inr rfl)) 1 none v'
  refine ⟨h.putQ C2 (B2.set 1 v') (own_chg hown (chg_set w2 p 1 none v') fun k hk e => hne k (hsub k hk) e) (fun k hk => hk) (fun k hk => Nat.lt_of_lt_of_le (h.lt k hk) C2.size) (fun k hk => h.qF k (hsub k hk)) fun k hk => .inl (hsub k hk), C2.mono fun j _ e => ?_⟩
  rcases e with e | e
  · exact h.qF j e
  · subst e; exact h.fp
/-- The struct's block is as it was, ahead of the store. -/
theorem ManP.farG (h : ManP wr p F M gv qv) (C : Chg (fun j => gv.ownBlock = some j) wr w2) : Blk w2 p [gv, qv] 56 := h.blk.chg C fun e => by
  exact ((own_ty h.go) _ e).1.ne (E' := 56) (by decide) (blk_ty h.blk)
theorem ManP.farQ (h : ManP wr p F M gv qv) (C : Chg (fun j => qv.ownBlock = some j) wr w2) : Blk w2 p [gv, qv] 56 := h.blk.chg C fun e => by
  exact ((own_ty h.qo) _ e).1.ne (E' := 56) (by decide) (blk_ty h.blk)
end
/-- The loop's state. -/
structure RL (w wr : World) (p : Nat) (F : Nat → Prop) (R : List Lk × List Lk × List Int) (N : Nat) (rv : Value) (gr pre rest : List Lk) (res : List Int) (K : Nat → Prop) : Prop where
  man : ManR wr p ⟨gr, pre ++ rest⟩ K
  ch : Chg F w wr
  kf : ∀ k, K k → F k ∨ w.heap.size ≤ k
  row : wr.ownsRow w.heap.size 3 1 rv res.length (icI res)
  far : ∀ k, rv.ownBlock = some k → ¬ K k
  go : relGo gr pre rest res = R
  len : gr.length + (pre ++ rest).length ≤ N
  rl : res.length + rest.length ≤ N
theorem RL.up {w wr w' : World} {p : Nat} {F K : Nat → Prop} {R : List Lk × List Lk × List Int} {N : Nat} {rv : Value} {gr pre rest : List Lk} {res : List Int} (h : RL w wr p F R N rv gr pre rest res K) (hu : Up wr w') : RL w w' p F R N rv gr pre rest res K :=
  ⟨h.man.up hu, h.ch.trans (Below.chg (fun _ => False) hu) fun _ _ e => e.elim, h.kf, own_up h.row hu, h.far, h.go, h.len, h.rl⟩
theorem RL.stay {w wr : World} {p : Nat} {F K : Nat → Prop} {R : List Lk × List Lk × List Int} {N : Nat} {rv : Value} {gr pre rest : List Lk} {q : Lk} {res : List Int} (h : RL w wr p F R N rv gr pre (q :: rest) res K) (hb : (blkL (gr ++ pre) q).length ≠ 0) : RL w wr p F R N rv gr (pre ++ [q]) rest res K := by
  have e : pre ++ [q] ++ rest = pre ++ q :: rest := by simp
  refine ⟨by rw [e]; exact h.man, h.ch, h.kf, h.row, h.far, ?_, by rw [e]; exact h.len, by have := h.rl; simp only [List.length_cons] at this; omega⟩
  have := h.go
  unfold relGo at this
  rw [if_neg hb] at this
  exact this
/-- Granted, and taken out of the queue. -/
theorem RL.take {w wr w6 w8 : World} {p : Nat} {F K K6 : Nat → Prop} {R : List Lk × List Lk × List Int} {N : Nat} {rv : Value} {gr pre rest : List Lk} {q : Lk} {res : List Int} (h : RL w wr p F R N rv gr pre (q :: rest) res K)
    (C6 : Chg K wr w6) (e6 : K6 = Fx K wr w6) (hm : ManR w8 p ⟨grantL gr q, pre ++ rest⟩ K6) (C8 : Chg K6 w6 w8) :
    Chg F w w8 ∧ (∀ k, K6 k → F k ∨ w.heap.size ≤ k) ∧ w8.ownsRow w.heap.size 3 1 rv res.length (icI res) ∧ ∀ k, rv.ownBlock = some k → ¬ K6 k := by
  subst e6
  have C1 : Chg F w w6 := h.ch.trans C6 fun k hk e => by rcases h.kf k e with e | e; exact e; omega
  have far6 : ∀ k, rv.ownBlock = some k → ¬ Fx K wr w6 k := fun k hk e => by
    rcases e with e | e
    · exact h.far k hk e
    · have := own_lt h.row k hk; omega
  have kf6 : ∀ k, Fx K wr w6 k → F k ∨ w.heap.size ≤ k := fun k e => by
    rcases e with e | e
    · exact h.kf k e
    · exact .inr (Nat.le_trans h.ch.size e.1)
  refine ⟨C1.trans C8 fun k hk e => ?_, kf6, own_chg (own_chg h.row C6 h.far) C8 far6, far6⟩
  rcases kf6 k e with e | e
  · exact e
  · omega
theorem RL.next {w wr w8 w9 : World} {p : Nat} {F K K6 : Nat → Prop} {R : List Lk × List Lk × List Int} {N : Nat} {rv rv' : Value} {gr pre rest : List Lk} {q : Lk} {res : List Int} (h : RL w wr p F R N rv gr pre (q :: rest) res K) (hb : (blkL (gr ++ pre) q).length = 0)
    (hm : ManR w8 p ⟨grantL gr q, pre ++ rest⟩ K6) (h8 : Chg F w w8 ∧ (∀ k, K6 k → F k ∨ w.heap.size ≤ k) ∧ w8.ownsRow w.heap.size 3 1 rv res.length (icI res) ∧ ∀ k, rv.ownBlock = some k → ¬ K6 k) {W : World} (hU : Up w8 W)
    (hown : w9.ownsRow w.heap.size 3 1 rv' (res.length + 1) (icI res ++ [.int .i64 q.tx])) (hg : W.grownBy w9 rv.ownBlock) (hat : ∀ k, rv'.ownBlock = some k → rv.ownBlock = some k ∨ w8.heap.size ≤ k) : RL w w9 p F R N rv' (grantL gr q) pre rest (res ++ [q.tx]) K6 := by
  obtain ⟨a1, a2, a3, a4⟩ := h8
  have CW : Chg (fun k => rv.ownBlock = some k) w8 w9 := (Below.chg _ hU).grown hg fun k hk => .inl hk
  refine ⟨hm.chg CW fun k hk e => a4 k e hk, a1.trans CW fun k hk e => ?_, a2, ?_, fun k hk e => ?_, ?_, ?_, ?_⟩
  · have := ((own_ty a3) k e).2; omega
  · rw [List.length_append, show icI (res ++ [q.tx]) = icI res ++ [.int .i64 q.tx] by simp [icI]]; exact hown
  · rcases hat k hk with e2 | e2
    · exact a4 k e2 e
    · have := hm.lt k e; omega
  · have := h.go
    unfold relGo at this
    rw [if_pos hb] at this
    exact this
  · have := h.len
    have := grantL_len gr q
    simp only [List.length_append, List.length_cons] at *
    omega
  · have := h.rl
    simp only [List.length_append, List.length_cons, List.length_nil] at *
    omega
end Go.Proofs.Ytbimkciejfbodaa.Lk
