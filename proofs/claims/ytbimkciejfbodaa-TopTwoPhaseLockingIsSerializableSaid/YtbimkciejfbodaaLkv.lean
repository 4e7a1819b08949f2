/- Locks: the manager as a law holds it. -/
import Derived.Test.YtbimkciejfbodaaLku
import Derived.Test.YtbimkciejfbodaaLkq
namespace Go.Proofs.Ytbimkciejfbodaa.Lk
open Go Go.RowKit Hp
set_option linter.unusedVariables false

/-- The manager at p, all of it made since w. -/
structure OwnM (w wr : World) (p : Nat) (M : Mg) (K : Nat → Prop) : Prop where
  man : ManR wr p M K
  base : ∀ k, K k → w.heap.size ≤ k
  upw : Up w wr
theorem OwnM.up {w wr w' : World} {p : Nat} {M : Mg} {K : Nat → Prop} (h : OwnM w wr p M K) (hu : Up wr w') : OwnM w w' p M K := ⟨h.man.up hu, h.base, h.upw.trans hu⟩
theorem OwnM.behind {w0 w wr : World} {p : Nat} {M : Mg} {K : Nat → Prop} (h : OwnM w wr p M K) (hu : Up w0 w) : OwnM w0 wr p M K := ⟨h.man, fun k hk => Nat.le_trans hu.size (h.base k hk), hu.trans h.upw⟩
/-- What a call leaves. -/
def Lands (w wr w' : World) (p : Nat) (K : Nat → Prop) (M' : Mg) : Prop := ∃ K', OwnM w w' p M' K' ∧ Chg K wr w' ∧ ∀ k, K' k → K k ∨ wr.heap.size ≤ k
theorem OwnM.upc {w wr w' : World} {p : Nat} {M : Mg} {K : Nat → Prop} (h : OwnM w wr p M K) (hc : Chg K wr w') : Up w w' := ((h.upw.chg K).trans hc fun _ _ e => e).up fun k hk e => by have := h.base k e; omega
theorem Lands.of {w wr w' : World} {p : Nat} {M M' : Mg} {K : Nat → Prop} (h : OwnM w wr p M K) (hp : ManPost p M' K wr w') : Lands w wr w' p K M' :=
  ⟨Fx K wr w', ⟨hp.1, fun k hk => by
    rcases hk with e | e
    · exact h.base k e
    · exact Nat.le_trans h.upw.size e.1, h.upc hp.2⟩, hp.2, fun k hk => by
    rcases hk with e | e
    · exact .inl e
    · exact .inr e.1⟩
/-- The manager's own state is good. -/
structure Good (M : Mg) (n : Nat) : Prop where
  inv : Inv M.gr M.qu
  blk : BlkS M.gr M.qu
  len : M.gr.length + M.qu.length ≤ n
theorem Good.nil : Good ⟨[], []⟩ 0 := ⟨Inv.nil, BlkS.nil _, Nat.le_refl _⟩
theorem Good.acq {M : Mg} {n : Nat} (h : Good M n) {l : Lk} (hl : Valid l) : Good (acqL M l).2 (n + 1) := by
  obtain ⟨h1, h2⟩ := acq_ok h.inv h.blk hl
  exact ⟨h1, h2, by have := acq_len M l; have := h.len; omega⟩
theorem Good.rel {M : Mg} {n : Nat} (h : Good M n) (t : Int) : Good ⟨(relM M t).1, (relM M t).2.1⟩ n := by
  have := (rel_ok h.inv t).ok
  exact ⟨this.inv, this.blk, Nat.le_trans this.len h.len⟩
theorem Good.mono {M : Mg} {n m : Nat} (h : Good M n) (hm : n ≤ m) : Good M m := ⟨h.inv, h.blk, Nat.le_trans h.len hm⟩
theorem Good.rg {M : Mg} {n : Nat} (h : Good M n) : RgL M.gr := fun x hx => ⟨(h.inv.vl x (List.mem_append_left _ hx)).t0, (h.inv.vl x (List.mem_append_left _ hx)).t1⟩
def AcqO (w wr : World) (p : Nat) (K : Nat → Prop) (x : Int × Mg) (e : Ending) (w' : World) : Prop := e = .returned (.int .i64 x.1) ∧ Lands w wr w' p K x.2
theorem acqO {w wr : World} {p : Nat} {M : Mg} {K : Nat → Prop} {n : Nat} (h : OwnM w wr p M K) (hg : Good M n) (hn : n ≤ 900) {l : Lk} (hl : Valid l) :
    Calls Try.prog 14 #[.pointer (some ⟨p, 0, none⟩), lkV l] wr (AcqO w wr p K (acqL M l)) :=
  (acq_any p M K l wr h.man hg.inv hl (Nat.le_trans hg.len hn)).mono fun _ _ ⟨a, b⟩ => ⟨a, Lands.of h b⟩
/-- A release's answer is a row of its own. -/
def RelO (w wr : World) (p : Nat) (M : Mg) (K : Nat → Prop) (t : Int) (e : Ending) (w' : World) : Prop :=
  ∃ v, e = .returned (.tuple #[v, .int .i64 0]) ∧ w'.ownsRow wr.heap.size 3 1 v (relM M t).2.2.length (icI (relM M t).2.2) ∧ ∃ K', OwnM w w' p ⟨(relM M t).1, (relM M t).2.1⟩ K' ∧ Chg K wr w' ∧ (∀ k, K' k → K k ∨ wr.heap.size ≤ k) ∧ ∀ k, v.ownBlock = some k → ¬ K' k
theorem relO {w wr : World} {p : Nat} {M : Mg} {K : Nat → Prop} {n : Nat} (h : OwnM w wr p M K) (hg : Good M n) (hn : n ≤ 900) {t : Int} (ht0 : 0 ≤ t) (ht1 : t < 20) :
    Calls Try.prog 13 #[.pointer (some ⟨p, 0, none⟩), .int .i64 t] wr (RelO w wr p M K t) :=
  (rel_any p M K t wr h.man ht0 ht1 (Nat.le_trans hg.len hn)).mono fun _ w' ⟨v, K', a, b, c, d, e, f⟩ =>
    ⟨v, a, b, K', ⟨c, fun k hk => by rcases e k hk with e | e; exact h.base k e; exact Nat.le_trans h.upw.size e, h.upc d⟩, d, e, f⟩
theorem waitsO {w wr : World} {p : Nat} {M : Mg} {K : Nat → Prop} {n : Nat} (h : OwnM w wr p M K) (hg : Good M n) (hn : n ≤ 900) (t : Int) :
    Calls Try.prog 12 #[.pointer (some ⟨p, 0, none⟩), .int .i64 t] wr (WaitPost M t wr) := waits_any p M K t wr h.man (by have := hg.len; omega) (by have := hg.len; omega)
theorem heldO {w wr : World} {p : Nat} {M : Mg} {K : Nat → Prop} {n : Nat} (h : OwnM w wr p M K) (hg : Good M n) (hn : n ≤ 900) :
    Calls Try.prog 24 #[.pointer (some ⟨p, 0, none⟩)] wr fun e w' => ∃ v rs, e = .returned v ∧ rs.Perm M.gr ∧ SortedL rs ∧ w'.ownsRow wr.heap.size 33 4 v rs.length (lkC rs) ∧ Up wr w' :=
  held_any p M K wr h.man hg.rg (by have := hg.len; omega)
set_option maxRecDepth 100000 in
theorem new_any (w : World) : Calls Try.prog 10 #[] w fun e w' => e = .returned (.pointer (some ⟨w.heap.size, 0, none⟩)) ∧ OwnM w w' w.heap.size ⟨[], []⟩ (fun k => k = w.heap.size) := by
  go_enter Try.func10, Try.ntmps10
  go_wp2
  go_ret
  have hb := Blk.new w #[.slice none 0 0, .slice none 0 0] 56
  exact ⟨rfl, ⟨⟨_, _, fun k hk => by rw [hk]; exact hb.lt, rfl, hb, World.ownsRow_nil _ _ _ _, fun k e => (by cases e), World.ownsRow_nil _ _ _ _, fun k e => (by cases e), fun k e => (by cases e)⟩, fun k hk => by rw [hk]; exact Nat.le_refl _, (Up.refl w).alloc _⟩⟩

/-! ### Requests with a known answer -/
theorem rch_noq {gr : List Lk} {fs : List Int} {u : Int} (h : Rch ⟨gr, []⟩ fs u) : u ∈ fs := by
  induction h with
  | base h => exact h
  | step _ e ih =>
    obtain ⟨i, hi, _⟩ := e
    simp at hi
theorem mode_none {gr : List Lk} {l : Lk} (h : ∀ x ∈ gr, sameL x l = false) : modeL gr l = 0 ∧ grantL gr l = gr ++ [l] ∧ askL gr l = l := by
  rcases grant_cases gr l with ⟨_, e1, e2⟩ | ⟨i, hi, e, _⟩
  · exact ⟨e2, e1, by unfold askL; rw [if_neg (by omega)]⟩
  · rw [h _ (List.getElem_mem hi)] at e; cases e
/-- A request on a table, of one who holds nothing there. -/
theorem acq_new {gr Q : List Lk} {l : Lk} (h1 : ¬ ∃ q ∈ Q, q.tx = l.tx) (h2 : l.key.size = 0) (h3 : ∀ x ∈ gr, sameL x l = false) (h4 : gr.length + Q.length < 200) :
    ((∀ x ∈ gr ++ Q, confl x l = false) → acqL ⟨gr, Q⟩ l = (0, ⟨gr ++ [l], Q⟩)) ∧
    ((∃ x ∈ gr ++ Q, confl x l = true) → Rch ⟨gr, Q⟩ (blkL (gr ++ Q) l) l.tx → acqL ⟨gr, Q⟩ l = (14, ⟨gr, Q⟩)) ∧
    ((∃ x ∈ gr ++ Q, confl x l = true) → ¬ Rch ⟨gr, Q⟩ (blkL (gr ++ Q) l) l.tx → acqL ⟨gr, Q⟩ l = (16, ⟨gr, Q ++ [l]⟩)) := by
  obtain ⟨m0, m1, m2⟩ := mode_none h3
  have := @acq_go ⟨gr, Q⟩ l h1 (fun e => e.1 h2) (fun e => by rw [m0] at e; omega) (fun e => by simp only at e; omega)
  rw [m2, m1] at this
  refine ⟨fun hc => this.1 ?_, fun hc hr => this.2.1 (blk_ne.2 hc) hr, fun hc hr => this.2.2 (blk_ne.2 hc) hr⟩
  rcases Nat.eq_zero_or_pos (blkL (gr ++ Q) l).length with e | e
  · exact e
  · obtain ⟨x, hx, hc2⟩ := blk_ne.1 (Nat.pos_iff_ne_zero.1 e)
    rw [hc x hx] at hc2; cases hc2
/-- .. of one who holds a weaker lock. -/
theorem acq_more {gr Q : List Lk} {l : Lk} (hd : Dist gr) {x : Lk} (hx : x ∈ gr) (hs : sameL x l = true) (hm : 0 < x.mode) (hc : cov x.mode l.mode = false) (hc2 : cov l.mode x.mode = true) (h1 : ¬ ∃ q ∈ Q, q.tx = l.tx) (h2 : l.key.size = 0) :
    ((∀ y ∈ gr ++ Q, confl y l = false) → acqL ⟨gr, Q⟩ l = (0, ⟨grantL gr l, Q⟩)) ∧
    ((∃ y ∈ gr ++ Q, confl y l = true) → Rch ⟨gr, Q⟩ (blkL (gr ++ Q) l) l.tx → acqL ⟨gr, Q⟩ l = (14, ⟨gr, Q⟩)) ∧
    ((∃ y ∈ gr ++ Q, confl y l = true) → ¬ Rch ⟨gr, Q⟩ (blkL (gr ++ Q) l) l.tx → acqL ⟨gr, Q⟩ l = (16, ⟨gr, Q ++ [l]⟩)) := by
  have e := modeL_of hd hx hs
  have ha : askL gr l = l := by
    unfold askL
    rw [if_pos (by omega), e]
    unfold supM
    rw [if_neg (by rw [hc]; decide), if_pos hc2]
  have := @acq_go ⟨gr, Q⟩ l h1 (fun e => e.1 h2) (fun k => by rw [e, hc] at k; cases k.2) (fun k => by simp only at k; omega)
  rw [ha] at this
  refine ⟨fun hc => this.1 ?_, fun hc hr => this.2.1 (blk_ne.2 hc) hr, fun hc hr => this.2.2 (blk_ne.2 hc) hr⟩
  rcases Nat.eq_zero_or_pos (blkL (gr ++ Q) l).length with e | e
  · exact e
  · obtain ⟨x, hx, hc2⟩ := blk_ne.1 (Nat.pos_iff_ne_zero.1 e)
    rw [hc x hx] at hc2; cases hc2
/-- The table of the fixed laws. -/
def tT : ByteArray := ⟨#[116]⟩
theorem tT_valid {t m : Int} (h0 : 0 ≤ t) (h1 : t < 20) (h2 : 1 ≤ m) (h3 : m ≤ 4) : Valid ⟨t, tT, ByteArray.empty, m⟩ := ⟨h0, h1, h2, h3, fun e => absurd rfl e, show tT.size ≠ 0 by decide, show tT.size ≤ 24 by decide, show ByteArray.empty.size ≤ 24 by decide⟩
theorem works1 : acqL ⟨[], []⟩ ⟨0, tT, ByteArray.empty, 2⟩ = (0, ⟨[⟨0, tT, ByteArray.empty, 2⟩], []⟩) :=
  (acq_new (l := ⟨0, tT, ByteArray.empty, 2⟩) (fun ⟨q, h, _⟩ => by cases h) rfl (fun x h => by cases h) (by decide)).1 (fun x h => by cases h)
theorem works2 : acqL ⟨[⟨0, tT, ByteArray.empty, 2⟩], []⟩ ⟨1, tT, ByteArray.empty, 1⟩ = (16, ⟨[⟨0, tT, ByteArray.empty, 2⟩], [⟨1, tT, ByteArray.empty, 1⟩]⟩) :=
  (acq_new (l := ⟨1, tT, ByteArray.empty, 1⟩) (fun ⟨q, h, _⟩ => by cases h) rfl (fun x h => by rw [List.mem_singleton.1 h]; decide) (by decide)).2.2 ⟨⟨0, tT, ByteArray.empty, 2⟩, by simp, by decide⟩ (fun h => by
    have h := rch_noq h
    obtain ⟨x, h1, h2, h3⟩ := mem_col.1 h
    have : x = ⟨0, tT, ByteArray.empty, 2⟩ := by simpa using h1
    rw [this] at h3
    cases h3)
set_option maxRecDepth 100000 in
theorem works_any (w : World) : Calls Try.prog 21 #[] w fun e w' => e = .returned (.bool true) ∧ Up w w' := by
  have V1 : Valid ⟨0, tT, ByteArray.empty, 2⟩ := tT_valid (by decide) (by decide) (by decide) (by decide)
  have V2 : Valid ⟨1, tT, ByteArray.empty, 1⟩ := tT_valid (by decide) (by decide) (by decide) (by decide)
  have G1 := Good.nil.acq V1
  rw [works1] at G1
  have HA1 := Lib.hid (fun W p K h => acqO (w := w) (wr := W) (p := p) (K := K) h Good.nil (by omega) V1)
  have HA2 := Lib.hid (fun W p K h => acqO (w := w) (wr := W) (p := p) (K := K) h G1 (by omega) V2)
  rw [works1] at HA1
  rw [works2] at HA2
  unfold lkV tT at HA1 HA2
  clear V1 V2 G1
  go_enter Try.func21, Try.ntmps21
  go_wp2_with (first
    | (go_at_call 14; have tok := O2; refine (HA2.out _ _ _ O2.out).mono ?_; rintro e w3 ⟨rfl, K3, h3, _⟩; have O3 := Lib.hid h3; clear h3)
    | (go_at_call 14; refine (HA1.out _ _ _ O1.out).mono ?_; rintro e w2 ⟨rfl, K2, h2, _⟩; have O2 := Lib.hid h2; clear h2)
    | (go_at_call 10; refine (new_any _).mono ?_; rintro e w1 ⟨rfl, h1⟩; have O1 := Lib.hid h1; clear h1)
    | fail)
  go_ret
  exact ⟨rfl, O3.out.upw⟩
end Go.Proofs.Ytbimkciejfbodaa.Lk
