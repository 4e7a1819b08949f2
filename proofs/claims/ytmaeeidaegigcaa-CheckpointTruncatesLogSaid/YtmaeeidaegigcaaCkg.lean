/- The checkpoint store in memory. -/
import Derived.Test.YtmaeeidaegigcaaCkf
import Derived.Test.YtmaeeidaegigcaaWlp
namespace Go.Proofs.Ytmaeeidaegigcaa.Ck
open Go Go.RowKit Hp So
open Dk (Dsk DiskR)
open Wl (Log LogR LogPost fx_lt)
set_option linter.unusedVariables false

structure Ck where
  ents : Ws
  log : Log
  dsk : Dsk
  cks : Nat
  pend : Ws
  next : Int
  cov : Nat
structure CkP (w : World) (p : Nat) (F : Nat → Prop) (C : Ck) (q r : Nat) (Fl Fd : Nat → Prop) (ev pv : Value) : Prop where
  lt : ∀ k, F k → k < w.heap.size
  fp : F p
  blk : Blk w p [ev, .pointer (some ⟨q, 0, none⟩), .pointer (some ⟨r, 0, none⟩), .int .i64 (C.cks : Int), pv, .int .i64 C.next, .int .i64 (C.cov : Int)] 92
  log : LogR w q C.log Fl
  dk : DiskR w r C.dsk Fd
  ent : w.ownsRow 0 62 2 ev C.ents.length (ec C.ents)
  pnd : w.ownsRow 0 62 2 pv C.pend.length (ec C.pend)
  lf : ∀ k, Fl k → F k
  df : ∀ k, Fd k → F k
  np : ¬ Fl p ∧ ¬ Fd p
  dis : ∀ k, Fl k → ¬ Fd k
  ef : ∀ k, ev.ownBlock = some k → F k ∧ ¬ Fl k ∧ ¬ Fd k
  pf : ∀ k, pv.ownBlock = some k → F k ∧ ¬ Fl k ∧ ¬ Fd k
def CkR (w : World) (p : Nat) (C : Ck) (F : Nat → Prop) : Prop := ∃ q r Fl Fd ev pv, CkP w p F C q r Fl Fd ev pv
def CkPost (p : Nat) (C : Ck) (F : Nat → Prop) (w w' : World) : Prop := CkR w' p C (Fx F w w') ∧ Chg F w w'
section
variable {w w' w1 w2 : World} {p q r : Nat} {F F' Fl Fd : Nat → Prop} {C C1 C2 : Ck} {ev pv ev' pv' : Value}
theorem CkP.ene (h : CkP w p F C q r Fl Fd ev pv) : ∀ k, ev.ownBlock = some k → k ≠ p := fun k hk e => by
  subst e
  exact ((own_ty h.ent) _ hk).1.ne (E' := 92) (by decide) (blk_ty h.blk)
theorem CkP.pne (h : CkP w p F C q r Fl Fd ev pv) : ∀ k, pv.ownBlock = some k → k ≠ p := fun k hk e => by
  subst e
  exact ((own_ty h.pnd) _ hk).1.ne (E' := 92) (by decide) (blk_ty h.blk)
theorem CkP.mono (h : CkP w p F C q r Fl Fd ev pv) (hF : ∀ k, F k → F' k) (hl : ∀ k, F' k → k < w.heap.size) : CkP w p F' C q r Fl Fd ev pv :=
  ⟨hl, hF p h.fp, h.blk, h.log, h.dk, h.ent, h.pnd, fun k hk => hF k (h.lf k hk), fun k hk => hF k (h.df k hk), h.np, h.dis, fun k hk => ⟨hF k (h.ef k hk).1, (h.ef k hk).2⟩, fun k hk => ⟨hF k (h.pf k hk).1, (h.pf k hk).2⟩⟩
theorem CkP.chg {S : Nat → Prop} (h : CkP w p F C q r Fl Fd ev pv) (hc : Chg S w w') (hS : ∀ k, F k → ¬ S k) : CkP w' p F C q r Fl Fd ev pv :=
  ⟨fun k hk => Nat.lt_of_lt_of_le (h.lt k hk) hc.size, h.fp, h.blk.chg hc (hS p h.fp), h.log.chg hc fun k hk => hS k (h.lf k hk), h.dk.chg hc fun k hk => hS k (h.df k hk), own_chg h.ent hc fun k hk => hS k (h.ef k hk).1, own_chg h.pnd hc fun k hk => hS k (h.pf k hk).1, h.lf, h.df, h.np, h.dis, h.ef, h.pf⟩
theorem CkP.up (h : CkP w p F C q r Fl Fd ev pv) (hu : Up w w') : CkP w' p F C q r Fl Fd ev pv := h.chg (Below.chg (fun _ => False) hu) fun _ _ e => e
theorem CkR.up (h : CkR w p C F) (hu : Up w w') : CkR w' p C F := by obtain ⟨q, r, Fl, Fd, ev, pv, h⟩ := h; exact ⟨q, r, Fl, Fd, ev, pv, h.up hu⟩
theorem CkR.lt (h : CkR w p C F) : ∀ k, F k → k < w.heap.size := by obtain ⟨q, r, Fl, Fd, ev, pv, h⟩ := h; exact h.lt
theorem CkR.chg {S : Nat → Prop} (h : CkR w p C F) (hc : Chg S w w') (hS : ∀ k, F k → ¬ S k) : CkR w' p C F := by obtain ⟨q, r, Fl, Fd, ev, pv, h⟩ := h; exact ⟨q, r, Fl, Fd, ev, pv, h.chg hc hS⟩
theorem CkPost.trans (h1 : CkPost p C1 F w w1) (h2 : CkPost p C2 (Fx F w w1) w1 w2) (hl : ∀ k, F k → k < w.heap.size) : CkPost p C2 F w w2 := by
  obtain ⟨⟨q, r, Fl, Fd, ev, pv, h⟩, c⟩ := h2
  have z1 := h1.2.size
  have z2 := c.size
  refine ⟨⟨q, r, Fl, Fd, ev, pv, h.mono (fun k hk => ?_) (fx_lt hl (Nat.le_trans z1 z2))⟩, h1.2.trans c fun k hk e => ?_⟩
  · rcases hk with (e | e) | e
    · exact .inl e
    · exact .inr ⟨e.1, by omega⟩
    · exact .inr ⟨by omega, e.2⟩
  · rcases e with e | e
    · exact e
    · omega
/-- Joined to what was before. -/
theorem CkP.join (h : CkP w2 p (Fx (Fx F w w1) w1 w2) C q r Fl Fd ev pv ∧ Chg (Fx F w w1) w1 w2) (c : Chg F w w1) (hl : ∀ k, F k → k < w.heap.size) : CkP w2 p (Fx F w w2) C q r Fl Fd ev pv ∧ Chg F w w2 := by
  have z1 := c.size
  have z2 := h.2.size
  have c2 : Chg F w w2 := c.trans h.2 fun k hk e => e.elim id fun e => by omega
  refine ⟨h.1.mono (fun k hk => ?_) (fx_lt hl c2.size), c2⟩
  rcases hk with (e | e) | e
  · exact .inl e
  · exact .inr ⟨e.1, by omega⟩
  · exact .inr ⟨by omega, e.2⟩
theorem CkP.ups (h : CkP w1 p (Fx F w w1) C q r Fl Fd ev pv) (c : Chg F w w1) (hu : Up w1 w2) (hl : ∀ k, F k → k < w.heap.size) : CkP w2 p (Fx F w w2) C q r Fl Fd ev pv ∧ Chg F w w2 := by
  have z1 := hu.size
  have c2 : Chg F w w2 := c.trans (Below.chg F hu) fun k hk e => e
  exact ⟨(h.up hu).mono (fun k hk => hk.imp id fun e => ⟨e.1, by omega⟩) (fx_lt hl c2.size), c2⟩
theorem CkP.start (h : CkP w p F C q r Fl Fd ev pv) : CkP w p (Fx F w w) C q r Fl Fd ev pv ∧ Chg F w w := ⟨h.mono (fun k hk => .inl hk) (fx_lt h.lt (Nat.le_refl _)), Chg.refl F w⟩
/-- A call of the log's. -/
theorem CkP.logStep {L' : Log} (h : CkP w p F C q r Fl Fd ev pv) (hP : LogPost q L' Fl w w') : CkP w' p (Fx F w w') { C with log := L' } q r (Fx Fl w w') Fd ev pv ∧ Chg F w w' := by
  have hc := hP.2
  have nx : ∀ k, F k → ¬ Fl k → ¬ Fx Fl w w' k := fun k hf hg e => by
    rcases e with e | e
    · exact hg e
    · have := h.lt k hf; omega
  refine ⟨⟨fx_lt h.lt hc.size, .inl h.fp, h.blk.chg hc h.np.1, hP.1, h.dk.chg hc fun k hk e => h.dis k e hk, own_chg h.ent hc fun k hk => (h.ef k hk).2.1, own_chg h.pnd hc fun k hk => (h.pf k hk).2.1, fun k hk => hk.imp (h.lf k) id, fun k hk => .inl (h.df k hk), ⟨nx p h.fp h.np.1, h.np.2⟩, fun k hk hd => ?_, fun k hk => ⟨.inl (h.ef k hk).1, nx k (h.ef k hk).1 (h.ef k hk).2.1, (h.ef k hk).2.2⟩, fun k hk => ⟨.inl (h.pf k hk).1, nx k (h.pf k hk).1 (h.pf k hk).2.1, (h.pf k hk).2.2⟩⟩, hc.mono fun k _ e => h.lf k e⟩
  rcases hk with e | e
  · exact h.dis k e hd
  · have := h.lt k (h.df k hd); omega
/-- A call of the disk's. -/
theorem CkP.dskStep {d' : Dsk} (h : CkP w p F C q r Fl Fd ev pv) (hd : DiskR w' r d' (Fx Fd w w')) (hc : Chg Fd w w') : CkP w' p (Fx F w w') { C with dsk := d' } q r Fl (Fx Fd w w') ev pv ∧ Chg F w w' := by
  have nx : ∀ k, F k → ¬ Fd k → ¬ Fx Fd w w' k := fun k hf hg e => by
    rcases e with e | e
    · exact hg e
    · have := h.lt k hf; omega
  refine ⟨⟨fx_lt h.lt hc.size, .inl h.fp, h.blk.chg hc h.np.2, h.log.chg hc fun k hk => h.dis k hk, hd, own_chg h.ent hc fun k hk => (h.ef k hk).2.2, own_chg h.pnd hc fun k hk => (h.pf k hk).2.2, fun k hk => .inl (h.lf k hk), fun k hk => hk.imp (h.df k) id, ⟨h.np.1, nx p h.fp h.np.2⟩, fun k hk => nx k (h.lf k hk) (h.dis k hk), fun k hk => ⟨.inl (h.ef k hk).1, (h.ef k hk).2.1, nx k (h.ef k hk).1 (h.ef k hk).2.2⟩, fun k hk => ⟨.inl (h.pf k hk).1, (h.pf k hk).2.1, nx k (h.pf k hk).1 (h.pf k hk).2.2⟩⟩, hc.mono fun k _ e => h.df k e⟩
/-- The store's own cells written anew. -/
theorem CkP.own {S : Nat → Prop} {C' : Ck} (h : CkP w p F C q r Fl Fd ev pv) (hc : Chg S w w') (hS : ∀ k, k < w.heap.size → S k → k = p) (hl : C'.log = C.log) (hd : C'.dsk = C.dsk) (hb : Blk w' p [ev', .pointer (some ⟨q, 0, none⟩), .pointer (some ⟨r, 0, none⟩), .int .i64 (C'.cks : Int), pv', .int .i64 C'.next, .int .i64 (C'.cov : Int)] 92)
    (he : w'.ownsRow 0 62 2 ev' C'.ents.length (ec C'.ents)) (hp : w'.ownsRow 0 62 2 pv' C'.pend.length (ec C'.pend)) (hef : ∀ k, ev'.ownBlock = some k → (F k ∧ ¬ Fl k ∧ ¬ Fd k) ∨ w.heap.size ≤ k) (hpf : ∀ k, pv'.ownBlock = some k → (F k ∧ ¬ Fl k ∧ ¬ Fd k) ∨ w.heap.size ≤ k) :
    CkP w' p (Fx F w w') C' q r Fl Fd ev' pv' ∧ Chg F w w' := by
  have nl : ∀ k, Fl k → ¬ S k := fun k hk e => by have := hS k (h.lt k (h.lf k hk)) e; subst this; exact h.np.1 hk
  have nd : ∀ k, Fd k → ¬ S k := fun k hk e => by have := hS k (h.lt k (h.df k hk)) e; subst this; exact h.np.2 hk
  have fr : ∀ {v : Value} {n : Nat} {xs : List Value}, w'.ownsRow 0 62 2 v n xs → (∀ k, v.ownBlock = some k → (F k ∧ ¬ Fl k ∧ ¬ Fd k) ∨ w.heap.size ≤ k) → ∀ k, v.ownBlock = some k → Fx F w w' k ∧ ¬ Fl k ∧ ¬ Fd k := fun ho hf k hk => by
    rcases hf k hk with e | e
    · exact ⟨.inl e.1, e.2⟩
    · exact ⟨.inr ⟨e, own_lt ho k hk⟩, fun g => by have := h.lt k (h.lf k g); omega, fun g => by have := h.lt k (h.df k g); omega⟩
  exact ⟨⟨fx_lt h.lt hc.size, .inl h.fp, hb, by rw [hl]; exact h.log.chg hc nl, by rw [hd]; exact h.dk.chg hc nd, he, hp, fun k hk => .inl (h.lf k hk), fun k hk => .inl (h.df k hk), h.np, h.dis, fr he hef, fr hp hpf⟩, hc.mono fun k hk e => by rw [hS k hk e]; exact h.fp⟩
end
def newC (n : Nat) : Ck := ⟨[], (Wl.newL n).head, Dsk.new 42, 0, [], -1, 0⟩
set_option maxRecDepth 100000 in
set_option maxHeartbeats 2000000 in
theorem new_any (n : Nat) (w : World) (h1 : 4 ≤ n) (h2 : n ≤ 256) :
    Calls Try.prog 32 #[.int .i64 (n : Int)] w fun e w' => ∃ p F, e = .returned (.tuple #[.pointer (some ⟨p, 0, none⟩), .int .i64 0]) ∧ CkR w' p (newC n) F ∧ (∀ k, F k → w.heap.size ≤ k) ∧ Up w w' := by
  have hn : (n : Int) ≤ 256 := by omega
  go_enter Try.func32, Try.ntmps32
  go_wp2_with (first
    | (go_at_call 22; refine (Wl.new_any n _ h1 h2).mono ?_; rintro e w1 ⟨q, Fl, rfl, hl, hf, hu⟩; have L1 := Lib.hid hl; have F1 := Lib.hid hf; have U1 := Lib.hid hu; clear hl hf hu)
    | (go_at_call 13; refine (Dk.new_any 42 _ (by decide) (by decide)).mono ?_; rintro e w2 ⟨r, rfl, hd, hu⟩; have D2 := Lib.hid hd; have U2 := Lib.hid hu; clear hd hu)
    | fail)
  go_ret2
  have z1 := U1.out.size
  have z2 := U2.out.size
  have hb := Blk.new w2 #[.slice none 0 0, .pointer (some ⟨q, 0, none⟩), .pointer (some ⟨r, 0, none⟩), .int .i64 0, .slice none 0 0, .int .i64 (-1), .int .i64 0] 92
  have hu3 := (Up.refl w2).alloc (.cells #[.slice none 0 0, .pointer (some ⟨q, 0, none⟩), .pointer (some ⟨r, 0, none⟩), .int .i64 0, .slice none 0 0, .int .i64 (-1), .int .i64 0] 92)
  refine ⟨w2.heap.size, fun k => w.heap.size ≤ k ∧ k < (w2.alloc (.cells #[.slice none 0 0, .pointer (some ⟨q, 0, none⟩), .pointer (some ⟨r, 0, none⟩), .int .i64 0, .slice none 0 0, .int .i64 (-1), .int .i64 0] 92)).heap.size, rfl, ?_, fun k hk => hk.1, (U1.out.trans U2.out).trans hu3⟩
  have hlt := L1.out.lt
  have z3 := hu3.size
  exact ⟨q, r, Fl, _, .slice none 0 0, .slice none 0 0, fun k hk => hk.2, ⟨by omega, hb.lt⟩, hb, (L1.out.up U2.out).up hu3, D2.out.up hu3, World.ownsRow_nil _ _ _ _, World.ownsRow_nil _ _ _ _, fun k hk => ⟨F1.out k hk, by have := hlt k hk; omega⟩, fun k hk => ⟨by have := hk.1; omega, by have := hk.2; omega⟩, ⟨fun e => by have := hlt _ e; omega, fun e => by have := e.2; omega⟩, fun k hk e => by have := hlt k hk; omega, fun k hk => (by cases hk), fun k hk => (by cases hk)⟩
end Go.Proofs.Ytmaeeidaegigcaa.Ck
