/- The write-ahead log in memory. -/
import Derived.Test.YtmaeeidaegigcaaWla
namespace Go.Proofs.Ytmaeeidaegigcaa.Wl
open Go Go.RowKit Hp
open Dk (Dsk DiskR bc DOk)
set_option linter.unusedVariables false

def ic (l : List Nat) : List Value := l.map fun (n : Nat) => .int .i64 (n : Int)
theorem ic_len (l : List Nat) : (ic l).length = l.length := List.length_map ..
theorem ic_get (l : List Nat) (i : Nat) (h : i < l.length) : (ic l)[i]? = some (.int .i64 (l[i] : Int)) := by simp [ic, h]
def lgC (q : Nat) (L : Log) (dv ev : Value) : List Value := [.pointer (some ⟨q, 0, none⟩), .int .i64 (L.hd : Int), .int .i64 (L.inc : Int), .int .i64 (L.st : Int), dv, ev]
structure LogP (w : World) (p : Nat) (F : Nat → Prop) (L : Log) (q : Nat) (G : Nat → Prop) (dv ev : Value) : Prop where
  lt : ∀ k, F k → k < w.heap.size
  fp : F p
  blk : Blk w p [.pointer (some ⟨q, 0, none⟩), .int .i64 (L.hd : Int), .int .i64 (L.inc : Int), .int .i64 (L.st : Int), dv, ev] 83
  dk : DiskR w q L.dsk G
  gf : ∀ k, G k → F k
  gp : ¬ G p
  dow : w.ownsRow 0 5 1 dv L.dat.length (bc L.dat)
  df : ∀ k, dv.ownBlock = some k → F k ∧ ¬ G k
  eow : w.ownsRow 0 3 1 ev L.ends.length (ic L.ends)
  ef : ∀ k, ev.ownBlock = some k → F k ∧ ¬ G k
def LogR (w : World) (p : Nat) (L : Log) (F : Nat → Prop) : Prop := ∃ q G dv ev, LogP w p F L q G dv ev
def LogPost (p : Nat) (L : Log) (F : Nat → Prop) (w w' : World) : Prop := LogR w' p L (Fx F w w') ∧ Chg F w w'
section
variable {w w' w1 w2 : World} {p q : Nat} {F F' G : Nat → Prop} {L L1 L2 : Log} {dv ev dv' ev' : Value}
theorem LogP.mono (h : LogP w p F L q G dv ev) (hF : ∀ k, F k → F' k) (hl : ∀ k, F' k → k < w.heap.size) : LogP w p F' L q G dv ev :=
  ⟨hl, hF p h.fp, h.blk, h.dk, fun k hk => hF k (h.gf k hk), h.gp, h.dow, fun k hk => ⟨hF k (h.df k hk).1, (h.df k hk).2⟩, h.eow, fun k hk => ⟨hF k (h.ef k hk).1, (h.ef k hk).2⟩⟩
theorem LogP.chg {S : Nat → Prop} (h : LogP w p F L q G dv ev) (hc : Chg S w w') (hS : ∀ k, F k → ¬ S k) : LogP w' p F L q G dv ev :=
  ⟨fun k hk => Nat.lt_of_lt_of_le (h.lt k hk) hc.size, h.fp, h.blk.chg hc (hS p h.fp), h.dk.chg hc fun k hk => hS k (h.gf k hk), h.gf, h.gp, own_chg h.dow hc fun k hk => hS k (h.df k hk).1, h.df, own_chg h.eow hc fun k hk => hS k (h.ef k hk).1, h.ef⟩
theorem LogP.up (h : LogP w p F L q G dv ev) (hu : Up w w') : LogP w' p F L q G dv ev := h.chg (Below.chg (fun _ => False) hu) fun _ _ e => e
theorem LogR.up (h : LogR w p L F) (hu : Up w w') : LogR w' p L F := by obtain ⟨q, G, dv, ev, h⟩ := h; exact ⟨q, G, dv, ev, h.up hu⟩
theorem LogR.lt (h : LogR w p L F) : ∀ k, F k → k < w.heap.size := by obtain ⟨q, G, dv, ev, h⟩ := h; exact h.lt
theorem LogR.chg {S : Nat → Prop} (h : LogR w p L F) (hc : Chg S w w') (hS : ∀ k, F k → ¬ S k) : LogR w' p L F := by obtain ⟨q, G, dv, ev, h⟩ := h; exact ⟨q, G, dv, ev, h.chg hc hS⟩
theorem fx_lt (hl : ∀ k, F k → k < w.heap.size) (hs : w.heap.size ≤ w'.heap.size) : ∀ k, Fx F w w' k → k < w'.heap.size := fun k hk => by
  rcases hk with e | e
  · have := hl k e; omega
  · exact e.2
theorem LogPost.trans (h1 : LogPost p L1 F w w1) (h2 : LogPost p L2 (Fx F w w1) w1 w2) (hl : ∀ k, F k → k < w.heap.size) : LogPost p L2 F w w2 := by
  obtain ⟨⟨q, G, dv, ev, h⟩, c⟩ := h2
  have z1 := h1.2.size
  have z2 := c.size
  refine ⟨⟨q, G, dv, ev, h.mono (fun k hk => ?_) (fx_lt hl (Nat.le_trans z1 z2))⟩, h1.2.trans c fun k hk e => ?_⟩
  · rcases hk with (e | e) | e
    · exact .inl e
    · exact .inr ⟨e.1, by omega⟩
    · exact .inr ⟨by omega, e.2⟩
  · rcases e with e | e
    · exact e
    · omega
/-- Nothing but new blocks has come between. -/
theorem LogPost.behind (hu : Up w w1) (h : LogPost p L F w1 w2) (hl : ∀ k, F k → k < w.heap.size) : LogPost p L F w w2 := by
  obtain ⟨⟨q, G, dv, ev, h⟩, c⟩ := h
  have z1 := hu.size
  have z2 := c.size
  refine ⟨⟨q, G, dv, ev, h.mono (fun k hk => ?_) (fx_lt hl (Nat.le_trans z1 z2))⟩, (Below.chg F hu).trans c fun k hk e => e⟩
  rcases hk with e | e
  · exact .inl e
  · exact .inr ⟨by omega, e.2⟩
theorem LogPost.up (h : LogPost p L F w w1) (hu : Up w1 w2) (hl : ∀ k, F k → k < w.heap.size) : LogPost p L F w w2 := by
  obtain ⟨⟨q, G, dv, ev, h⟩, c⟩ := h
  have z1 := hu.size
  have z2 := c.size
  refine ⟨⟨q, G, dv, ev, (h.up hu).mono (fun k hk => ?_) (fx_lt hl (Nat.le_trans z2 z1))⟩, c.trans (Below.chg F hu) fun k hk e => e⟩
  rcases hk with e | e
  · exact .inl e
  · exact .inr ⟨e.1, by omega⟩
theorem LogP.disk {d' : Dsk} (h : LogP w p F L q G dv ev) (hd : DiskR w' q d' (Fx G w w')) (hc : Chg G w w') : LogP w' p (Fx F w w') { L with dsk := d' } q (Fx G w w') dv ev ∧ Chg F w w' := by
  have nx : ∀ k, F k → ¬ G k → ¬ Fx G w w' k := fun k hf hg e => by
    rcases e with e | e
    · exact hg e
    · have := h.lt k hf; omega
  refine ⟨⟨fx_lt h.lt hc.size, .inl h.fp, h.blk.chg hc h.gp, hd, fun k hk => hk.imp (h.gf k) id, nx p h.fp h.gp, own_chg h.dow hc fun k hk => (h.df k hk).2, fun k hk => ⟨.inl (h.df k hk).1, nx k (h.df k hk).1 (h.df k hk).2⟩, own_chg h.eow hc fun k hk => (h.ef k hk).2, fun k hk => ⟨.inl (h.ef k hk).1, nx k (h.ef k hk).1 (h.ef k hk).2⟩⟩, hc.mono fun k _ e => h.gf k e⟩
theorem LogP.dne (h : LogP w p F L q G dv ev) : ∀ k, dv.ownBlock = some k → k ≠ p := fun k hk e => by
  subst e
  exact ((own_ty h.dow) _ hk).1.ne (E' := 83) (by decide) (blk_ty h.blk)
theorem LogP.ene (h : LogP w p F L q G dv ev) : ∀ k, ev.ownBlock = some k → k ≠ p := fun k hk e => by
  subst e
  exact ((own_ty h.eow) _ hk).1.ne (E' := 83) (by decide) (blk_ty h.blk)
theorem LogP.dene (h : LogP w p F L q G dv ev) : ∀ k, dv.ownBlock = some k → ev.ownBlock ≠ some k := fun k hk e =>
  ((own_ty h.dow) _ hk).1.ne (E' := 3) (by decide) ((own_ty h.eow) _ e).1
theorem LogP.hdr (h : LogP w p F L q G dv ev) (n : Nat) : LogP (w.setCell ⟨p, 1, none⟩ (.int .i64 (n : Int))) p F { L with hd := n } q G dv ev ∧ Chg F w (w.setCell ⟨p, 1, none⟩ (.int .i64 (n : Int))) := by
  have C := chg_set w p 1 none (.int .i64 (n : Int))
  exact ⟨⟨fun k hk => Nat.lt_of_lt_of_le (h.lt k hk) C.size, h.fp, h.blk.set 1 _, h.dk.chg C fun k hk e => h.gp (e ▸ hk), h.gf, h.gp, own_chg h.dow C (h.dne · ·), h.df, own_chg h.eow C (h.ene · ·), h.ef⟩, C.mono fun k _ e => e ▸ h.fp⟩
theorem LogP.incr (h : LogP w p F L q G dv ev) (n : Nat) : LogP (w.setCell ⟨p, 2, none⟩ (.int .i64 (n : Int))) p F { L with inc := n } q G dv ev ∧ Chg F w (w.setCell ⟨p, 2, none⟩ (.int .i64 (n : Int))) := by
  have C := chg_set w p 2 none (.int .i64 (n : Int))
  exact ⟨⟨fun k hk => Nat.lt_of_lt_of_le (h.lt k hk) C.size, h.fp, h.blk.set 2 _, h.dk.chg C fun k hk e => h.gp (e ▸ hk), h.gf, h.gp, own_chg h.dow C (h.dne · ·), h.df, own_chg h.eow C (h.ene · ·), h.ef⟩, C.mono fun k _ e => e ▸ h.fp⟩
theorem LogP.strt (h : LogP w p F L q G dv ev) (n : Nat) : LogP (w.setCell ⟨p, 3, none⟩ (.int .i64 (n : Int))) p F { L with st := n } q G dv ev ∧ Chg F w (w.setCell ⟨p, 3, none⟩ (.int .i64 (n : Int))) := by
  have C := chg_set w p 3 none (.int .i64 (n : Int))
  exact ⟨⟨fun k hk => Nat.lt_of_lt_of_le (h.lt k hk) C.size, h.fp, h.blk.set 3 _, h.dk.chg C fun k hk e => h.gp (e ▸ hk), h.gf, h.gp, own_chg h.dow C (h.dne · ·), h.df, own_chg h.eow C (h.ene · ·), h.ef⟩, C.mono fun k _ e => e ▸ h.fp⟩
/-- The data stored anew. -/
theorem LogP.putD {S : Nat → Prop} {l' : List Int} (h : LogP w p F L q G dv ev) (hc : Chg S w w') (hS : ∀ k, k < w.heap.size → S k → k = p ∨ dv.ownBlock = some k) (hb : Blk w' p [.pointer (some ⟨q, 0, none⟩), .int .i64 (L.hd : Int), .int .i64 (L.inc : Int), .int .i64 (L.st : Int), dv', ev] 83) (ho : w'.ownsRow 0 5 1 dv' l'.length (bc l')) (hf : ∀ k, dv'.ownBlock = some k → dv.ownBlock = some k ∨ w.heap.size ≤ k) : LogP w' p (Fx F w w') { L with dat := l' } q G dv' ev ∧ Chg F w w' := by
  have nS : ∀ k, k < w.heap.size → k ≠ p → dv.ownBlock ≠ some k → ¬ S k := fun k hk h1 h2 e => (hS k hk e).elim h1 h2
  refine ⟨⟨fx_lt h.lt hc.size, .inl h.fp, hb, h.dk.chg hc fun k hk => nS k (h.dk.lt k hk) (fun e => h.gp (e ▸ hk)) fun e => (h.df k e).2 hk, fun k hk => .inl (h.gf k hk), h.gp, ho, fun k hk => ?_, own_chg h.eow hc fun k hk => nS k (own_lt h.eow k hk) (h.ene k hk) fun e => h.dene k e hk, fun k hk => ⟨.inl (h.ef k hk).1, (h.ef k hk).2⟩⟩, hc.mono fun k hk e => ?_⟩
  · rcases hf k hk with e | e
    · exact ⟨.inl (h.df k e).1, (h.df k e).2⟩
    · exact ⟨.inr ⟨e, own_lt ho k hk⟩, fun g => by have := h.dk.lt k g; omega⟩
  · rcases hS k hk e with rfl | e
    · exact h.fp
    · exact (h.df k e).1
/-- The ends stored anew. -/
theorem LogP.putE {S : Nat → Prop} {l' : List Nat} (h : LogP w p F L q G dv ev) (hc : Chg S w w') (hS : ∀ k, k < w.heap.size → S k → k = p ∨ ev.ownBlock = some k) (hb : Blk w' p [.pointer (some ⟨q, 0, none⟩), .int .i64 (L.hd : Int), .int .i64 (L.inc : Int), .int .i64 (L.st : Int), dv, ev'] 83) (ho : w'.ownsRow 0 3 1 ev' l'.length (ic l')) (hf : ∀ k, ev'.ownBlock = some k → ev.ownBlock = some k ∨ w.heap.size ≤ k) : LogP w' p (Fx F w w') { L with ends := l' } q G dv ev' ∧ Chg F w w' := by
  have nS : ∀ k, k < w.heap.size → k ≠ p → ev.ownBlock ≠ some k → ¬ S k := fun k hk h1 h2 e => (hS k hk e).elim h1 h2
  refine ⟨⟨fx_lt h.lt hc.size, .inl h.fp, hb, h.dk.chg hc fun k hk => nS k (h.dk.lt k hk) (fun e => h.gp (e ▸ hk)) fun e => (h.ef k e).2 hk, fun k hk => .inl (h.gf k hk), h.gp, own_chg h.dow hc fun k hk => nS k (own_lt h.dow k hk) (h.dne k hk) fun e => h.dene k hk e, fun k hk => ⟨.inl (h.df k hk).1, (h.df k hk).2⟩, ho, fun k hk => ?_⟩, hc.mono fun k hk e => ?_⟩
  · rcases hf k hk with e | e
    · exact ⟨.inl (h.ef k e).1, (h.ef k e).2⟩
    · exact ⟨.inr ⟨e, own_lt ho k hk⟩, fun g => by have := h.dk.lt k g; omega⟩
  · rcases hS k hk e with rfl | e
    · exact h.fp
    · exact (h.ef k e).1
end
end Go.Proofs.Ytmaeeidaegigcaa.Wl
