/- Recovery: the law's run in memory. -/
import Derived.Test.YtjalpppmgoepiaaRvt
namespace Go.Proofs.Ytjalpppmgoepiaa.Rv
open Go Go.RowKit Hp
set_option linter.unusedVariables false

theorem MI.mono {w : World} {b n m : Nat} {g : Nat → Option Int} (h : MI w b n g) (hn : n ≤ m) : MI w b m g := by obtain ⟨D, h, r⟩ := h; exact ⟨D, h.mono hn, r⟩
theorem MO.mono {w : World} {b n m : Nat} {f : Nat → Nat} {A : List Nat} (h : MO w b n f A) (hn : n ≤ m) : MO w b m f A := by obtain ⟨D, h, r⟩ := h; exact ⟨D, h.mono hn, r⟩
def iv (C : List Int) : List Value := C.map fun x => .int .i64 x
theorem iv_get (C : List Int) (i : Nat) (h : i < C.length) : (iv C)[i]? = some (.int .i64 (C.getD i 0)) := by simp [iv, List.getD, h]
theorem iv_set (C : List Int) (i : Nat) (v : Int) : (iv C).set i (.int .i64 v) = iv (C.set i v) := by simp [iv]
structure RS (p : Nat) (F : Nat → Prop) (w W : World) (E : Eng) (C : List Int) (A : List Nat) (g : Nat → Nat → Option Int) (RL : List Nat) (av : Value) (G : Nat → Prop) (f : Nat → Nat) (k : Nat) : Prop where
  er : EngR W p E G
  gf : ∀ j, G j → F j ∨ w.heap.size ≤ j
  gn : ¬ G w.heap.size ∧ ¬ G (w.heap.size + 1) ∧ ¬ G (w.heap.size + 1 + 1)
  ch : Chg F w W
  b4 : Blk W w.heap.size (iv (List.replicate 6 0)) 28
  b6 : Blk W (w.heap.size + 1) (iv C) 28
  mo : MO W (w.heap.size + 1 + 1) k f A
  im : ∀ t ∈ A, MI W (f t) k (g t)
  fn : ∀ t ∈ A, ¬ G (f t) ∧ w.heap.size + 2 < f t
  fi : ∀ t ∈ A, ∀ u ∈ A, t ≠ u → f t ≠ f u
  ao : W.ownsRow (w.heap.size + 3) 3 1 av RL.length (naC RL)
  an : ∀ j, av.ownBlock = some j → ¬ G j
  ps : w.heap.size + 3 ≤ W.heap.size
section
variable {p : Nat} {F : Nat → Prop} {w W W' : World} {E E' : Eng} {C : List Int} {A : List Nat} {g : Nat → Nat → Option Int} {RL : List Nat} {av : Value} {G : Nat → Prop} {f : Nat → Nat} {k : Nat}
theorem RS.mono (h : RS p F w W E C A g RL av G f k) {m : Nat} (hm : k ≤ m) : RS p F w W E C A g RL av G f m :=
  ⟨h.er, h.gf, h.gn, h.ch, h.b4, h.b6, h.mo.mono hm, fun t ht => (h.im t ht).mono hm, h.fn, h.fi, h.ao, h.an, h.ps⟩
theorem RS.up (h : RS p F w W E C A g RL av G f k) (hu : Up W W') : RS p F w W' E C A g RL av G f k :=
  ⟨h.er.up hu, h.gf, h.gn, h.ch.trans (Below.chg (fun _ => False) hu) fun _ _ e => e.elim, h.b4.up hu, h.b6.up hu, h.mo.chg (Below.chg (fun _ => False) hu) (fun e => e), fun t ht => (h.im t ht).chg (Below.chg (fun _ => False) hu) (fun e => e), h.fn, h.fi, own_up h.ao hu, h.an, Nat.le_trans h.ps hu.size⟩
/-- Behind a call of the engine's. -/
theorem RS.eng (h : RS p F w W E C A g RL av G f k) (hp : EngPost p E' G W W') : RS p F w W' E' C A g RL av (Fx G W W') f k := by
  obtain ⟨e, c⟩ := hp
  have hps := h.ps
  have hz := c.size
  have nx : ∀ j, ¬ G j → j < W.heap.size → ¬ Fx G W W' j := fun j hj hl e => by
    rcases e with q | q
    · exact hj q
    · omega
  refine ⟨e, fun j hj => ?_, ⟨nx _ h.gn.1 (by omega), nx _ h.gn.2.1 (by omega), nx _ h.gn.2.2 (by omega)⟩, h.ch.trans c fun j hj e => (h.gf j e).elim id fun q => by omega, h.b4.chg c h.gn.1, h.b6.chg c h.gn.2.1, h.mo.chg c h.gn.2.2, fun t ht => (h.im t ht).chg c (h.fn t ht).1, fun t ht => ⟨nx _ (h.fn t ht).1 (h.im t ht).lt, (h.fn t ht).2⟩, h.fi, own_chg h.ao c h.an, fun j hj => nx j (h.an j hj) (own_lt h.ao j hj), by omega⟩
  rcases hj with q | q
  · exact h.gf j q
  · have := h.ch.size
    exact .inr (by omega)
/-- A block of the law's own has changed, that is none of the others. -/
theorem RS.own (h : RS p F w W E C A g RL av G f k) {b : Nat} (C1 : Chg (fun j => j = b) W W') (hG : ¬ G b) (hb : w.heap.size ≤ b) (h4 : b ≠ w.heap.size) {C' : List Int} (h6 : Blk W' (w.heap.size + 1) (iv C') 28) {k' : Nat} {f' : Nat → Nat} {A' : List Nat} {g' : Nat → Nat → Option Int} {RL' : List Nat} {av' : Value}
    (mo : MO W' (w.heap.size + 1 + 1) k' f' A') (im : ∀ t ∈ A', MI W' (f' t) k' (g' t)) (fn : ∀ t ∈ A', ¬ G (f' t) ∧ w.heap.size + 2 < f' t) (fi : ∀ t ∈ A', ∀ u ∈ A', t ≠ u → f' t ≠ f' u) (ao : W'.ownsRow (w.heap.size + 3) 3 1 av' RL'.length (naC RL')) (an : ∀ j, av'.ownBlock = some j → ¬ G j) : RS p F w W' E C' A' g' RL' av' G f' k' :=
  ⟨h.er.chg C1 (fun j hj e => hG (e ▸ hj)), h.gf, h.gn, h.ch.trans C1 fun j hj e => by omega, h.b4.chg C1 (fun e => h4 e.symm), h6, mo, im, fn, fi, ao, an, Nat.le_trans h.ps C1.size⟩
theorem ty_map {w : World} {b : Nat} {E : TypeId} (h : Ty w b E) {n : Nat} {g : Nat → Option Int} : ¬ MI w b n g := fun ⟨D, hm, _⟩ => by
  obtain ⟨c, fz, e⟩ := h
  obtain ⟨es, clock, e2, _⟩ := hm
  rw [e] at e2
  cases e2
theorem RS.avne (h : RS p F w W E C A g RL av G f k) {t : Nat} (ht : t ∈ A) : ∀ j, av.ownBlock = some j → j ≠ f t := fun j hj e => by
  subst e
  exact ty_map ((own_ty h.ao) _ hj).1 (h.im t ht)
/-- A committed value is stored. -/
theorem RS.setC (h : RS p F w W E C A g RL av G f k) (x : Nat) (v : Int) : RS p F w (W.setCell ⟨w.heap.size + 1, x, none⟩ (.int .i64 v)) E (C.set x v) A g RL av G f k := by
  have C1 := chg_set W (w.heap.size + 1) x none (.int .i64 v)
  have hps := h.ps
  refine h.own (b := w.heap.size + 1) C1 h.gn.2.1 (by omega) (by omega) ?_ (h.mo.chg C1 (by omega)) (fun t ht => (h.im t ht).chg C1 fun e => by have := (h.fn t ht).2; omega) h.fn h.fi (own_chg h.ao C1 fun j hj e => by have := ((own_ty h.ao) j hj).2; omega) h.an
  have := h.b6.set x (.int .i64 v)
  rw [iv_set] at this
  exact this
/-- The row of the active ones has changed. -/
theorem RS.row (h : RS p F w W E C A g RL av G f k) {RL' : List Nat} {av' : Value} (hg : W.grownBy W' av.ownBlock) (ao : W'.ownsRow (w.heap.size + 3) 3 1 av' RL'.length (naC RL')) (an : ∀ j, av'.ownBlock = some j → ¬ G j) : RS p F w W' E C A g RL' av' G f k := by
  have C1 : Chg (fun j => av.ownBlock = some j) W W' := (Chg.refl _ W).grown hg fun j hj => .inl hj
  have hps := h.ps
  have hb := fun j (hj : av.ownBlock = some j) => ((own_ty h.ao) j hj).2
  exact ⟨h.er.chg C1 (fun j hj e => h.an j e hj), h.gf, h.gn, h.ch.trans C1 fun j hj e => by have := hb j e; omega, h.b4.chg C1 fun e => by have := hb _ e; omega, h.b6.chg C1 fun e => by have := hb _ e; omega, h.mo.chg C1 fun e => by have := hb _ e; omega, fun t ht => (h.im t ht).chg C1 fun e => h.avne ht _ e rfl, h.fn, h.fi, ao, an, Nat.le_trans h.ps C1.size⟩
/-- A value is stored into a transaction's map. -/
theorem RS.put (h : RS p F w W E C A g RL av G f k) {t : Nat} (ht : t ∈ A) {x : Nat} {v : Int} (C1 : Chg (fun j => j = f t) W W') (hm : MI W' (f t) (k + 1) (upd (g t) x (some v))) : RS p F w W' E C A (upd g t (upd (g t) x (some v))) RL av G f (k + 1) := by
  have hps := h.ps
  obtain ⟨h1, h2⟩ := h.fn t ht
  refine h.own (b := f t) C1 h1 (by omega) (by omega) (h.b6.chg C1 (by omega)) ((h.mo.chg C1 (by omega)).mono (Nat.le_succ k)) (fun u hu => ?_) h.fn h.fi (own_chg h.ao C1 fun j hj e => h.avne ht j hj e) h.an
  by_cases e : u = t
  · rw [e, upd_same]; exact hm
  · rw [upd_other _ _ _ e]
    exact ((h.im u hu).chg C1 (h.fi u hu t ht e)).mono (Nat.le_succ k)
/-- A transaction more: its map is the block m. -/
theorem RS.ins (h : RS p F w W E C A g RL av G f k) {t : Nat} (hA : t ∉ A) (C1 : Chg (fun j => j = w.heap.size + 1 + 1) (W.alloc (.map #[] 0)) W') (hm : MO W' (w.heap.size + 1 + 1) (k + 1) (upd f t W.heap.size) (A ++ [t])) : RS p F w W' E C (A ++ [t]) (upd g t fun _ => none) RL av G (upd f t W.heap.size) (k + 1) := by
  have hps := h.ps
  have h2 := h.up ((Up.refl W).alloc (.map #[] 0))
  have hn : ∀ u ∈ A, u ≠ t := fun u hu e => hA (e ▸ hu)
  have hG : ¬ G W.heap.size := fun e => by have := h.er.lt _ e; omega
  refine h2.own (b := w.heap.size + 1 + 1) C1 h.gn.2.2 (by omega) (by omega) (h2.b6.chg C1 (by omega)) hm (fun u hu => ?_) (fun u hu => ?_) (fun u hu x hx hux => ?_) (own_chg h2.ao C1 fun j hj e => by have := ((own_ty h2.ao) j hj).2; omega) h.an
  · rcases List.mem_append.1 hu with e | e
    · rw [upd_other _ _ _ (hn u e), upd_other _ _ _ (hn u e)]
      exact ((h2.im u e).chg C1 fun e2 => by have := (h.fn u e).2; omega).mono (Nat.le_succ k)
    · rw [List.mem_singleton.1 e, upd_same, upd_same]
      exact ((MI.new W).chg C1 (by omega)).mono (Nat.zero_le _)
  · rcases List.mem_append.1 hu with e | e
    · rw [upd_other _ _ _ (hn u e)]; exact h.fn u e
    · rw [List.mem_singleton.1 e, upd_same]; exact ⟨hG, by omega⟩
  · have hlt : ∀ u ∈ A, f u < W.heap.size := fun u hu => (h.im u hu).lt
    rcases List.mem_append.1 hu with e | e <;> rcases List.mem_append.1 hx with e2 | e2
    · rw [upd_other _ _ _ (hn u e), upd_other _ _ _ (hn x e2)]; exact h.fi u e x e2 hux
    · rw [upd_other _ _ _ (hn u e), List.mem_singleton.1 e2, upd_same]; have := hlt u e; omega
    · rw [List.mem_singleton.1 e, upd_same, upd_other _ _ _ (hn x e2)]; have := hlt x e2; omega
    · exact absurd ((List.mem_singleton.1 e).trans (List.mem_singleton.1 e2).symm) hux
/-- Fewer transactions. -/
theorem RS.sub (h : RS p F w W E C A g RL av G f k) {A' : List Nat} (hs : ∀ t ∈ A', t ∈ A) : RS p F w W E C A' g RL av G f k :=
  ⟨h.er, h.gf, h.gn, h.ch, h.b4, h.b6, h.mo.sub hs, fun t ht => h.im t (hs t ht), fun t ht => h.fn t (hs t ht), fun t ht u hu => h.fi t (hs t ht) u (hs u hu), h.ao, h.an, h.ps⟩
end
theorem keep_del {A : List Nat} (hn : A.Nodup) (i : Nat) (h : i < A.length) : A.take i ++ A.drop (i + 1) = keepC A[i] A := by
  have e : A = A.take i ++ A[i] :: A.drop (i + 1) := by rw [← List.drop_eq_getElem_cons h, List.take_append_drop]
  have hn2 : (A.take i ++ A[i] :: A.drop (i + 1)).Nodup := by rw [← e]; exact hn
  obtain ⟨a1, a2, a3⟩ := List.nodup_append.1 hn2
  obtain ⟨b1, b2⟩ := List.nodup_cons.1 a2
  have k1 : keepC A[i] (A.take i) = A.take i := by
    unfold keepC
    rw [List.filter_eq_self]
    intro q hq
    have := a3 q hq A[i] List.mem_cons_self
    simp [oldC, this]
  have k2 : keepC A[i] (A.drop (i + 1)) = A.drop (i + 1) := by
    unfold keepC
    rw [List.filter_eq_self]
    intro q hq
    have : q ≠ A[i] := fun e2 => b1 (e2 ▸ hq)
    simp [oldC, this]
  generalize hx : A[i] = x at *
  have : keepC x A = keepC x (A.take i) ++ keepC x (x :: A.drop (i + 1)) := by
    conv => lhs; rw [e]
    unfold keepC
    rw [List.filter_append]
  rw [this, keep_cons, if_pos rfl, k1, k2]
end Go.Proofs.Ytjalpppmgoepiaa.Rv
