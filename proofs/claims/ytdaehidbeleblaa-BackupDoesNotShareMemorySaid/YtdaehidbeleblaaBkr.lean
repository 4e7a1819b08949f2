/- The archive, the map and the states as the laws hold them in memory. -/
import Derived.Test.YtdaehidbeleblaaBki
import Derived.Test.YtdaehidbeleblaaBkp
import Derived.Test.YtdaehidbeleblaaBkq
import Derived.Maps.Own
import Derived.Maps.OwnSet
import Derived.Maps.Views
import Derived.StringKeys
namespace Go.Proofs.Ytdaehidbeleblaa.Bk
open Go Go.RowKit Hp
open Mv (Val rowC rowC_len rowC_one rowC_get RM rmC rmC1 rmC_len rmC_get erR RecsR RecsS Srt pos has pos_le has_pos fm_len fm_take fm_drop fm_get fm_set fm_one cloneR rowV row_any)
set_option linter.unusedVariables false

/-- The archive is memory that is new since w0, apart from the blocks of K. -/
def Own (w0 : World) (K : Nat → Prop) (w : World) (p : Nat) (A : Ar) : Prop := ∃ F, ArR w p A F ∧ (∀ k, F k → w0.heap.size ≤ k ∧ ¬ K k) ∧ (∀ k, K k → k < w.heap.size) ∧ Up w0 w
def OwnP (w0 : World) (K : Nat → Prop) (p : Nat) (A' : Ar) (w w' : World) : Prop := Own w0 K w' p A' ∧ Chg (fun k => w0.heap.size ≤ k ∧ ¬ K k) w w'
theorem Own.ok {w0 w : World} {K : Nat → Prop} {p : Nat} {d : Ar} (h : Own w0 K w p d) : AOk d := by obtain ⟨F, h, _⟩ := h; exact h.ok
theorem Own.upw {w0 w : World} {K : Nat → Prop} {p : Nat} {d : Ar} (h : Own w0 K w p d) : Up w0 w := by obtain ⟨F, _, _, _, h⟩ := h; exact h
theorem Own.ltK {w0 w : World} {K : Nat → Prop} {p : Nat} {d : Ar} (h : Own w0 K w p d) : ∀ k, K k → k < w.heap.size := by obtain ⟨F, _, _, h, _⟩ := h; exact h
theorem chg_up {a b c : World} {K : Nat → Prop} (h : Up a b) (k : Chg (fun j => a.heap.size ≤ j ∧ ¬ K j) b c) : Up a c :=
  ((Below.chg (fun _ => False) h).trans k (S' := fun j => a.heap.size ≤ j ∧ ¬ K j) (fun j hj e => by have := e.1; omega)).up fun _ _ e => e
theorem Own.lift {w0 w w' : World} {K : Nat → Prop} {p : Nat} {d' : Ar} {F : Nat → Prop} (hF : ∀ k, F k → w0.heap.size ≤ k ∧ ¬ K k) (hK : ∀ k, K k → k < w.heap.size) (hu : Up w0 w) (h : ArPost p d' F w w') : OwnP w0 K p d' w w' := by
  have C : Chg (fun k => w0.heap.size ≤ k ∧ ¬ K k) w w' := h.2.mono fun k _ e => hF k e
  refine ⟨⟨_, h.1, fun k hk => ?_, fun k hk => Nat.lt_of_lt_of_le (hK k hk) C.size, chg_up hu C⟩, C⟩
  rcases hk with hk | hk
  · exact hF k hk
  · exact ⟨Nat.le_trans hu.size hk.1, fun e => by have := hK k e; omega⟩
theorem Own.up {w0 w w' : World} {K : Nat → Prop} {p : Nat} {d : Ar} (h : Own w0 K w p d) (hu : Up w w') : Own w0 K w' p d := by
  obtain ⟨F, h1, h2, h3, h4⟩ := h
  exact ⟨F, h1.up hu, h2, fun k hk => Nat.lt_of_lt_of_le (h3 k hk) hu.size, h4.trans hu⟩
/-- What is new since w is kept, too. -/
theorem Own.widen {w0 w w' : World} {K : Nat → Prop} {p : Nat} {d : Ar} (h : Own w0 K w p d) (hu : Up w w') : Own w0 (fun k => K k ∨ (w.heap.size ≤ k ∧ k < w'.heap.size)) w' p d := by
  obtain ⟨F, h1, h2, h3, h4⟩ := h
  refine ⟨F, h1.up hu, fun k hk => ⟨(h2 k hk).1, fun e => ?_⟩, fun k hk => ?_, h4.trans hu⟩
  · rcases e with e | e
    · exact (h2 k hk).2 e
    · have := h1.lt k hk; omega
  · rcases hk with hk | hk
    · exact Nat.lt_of_lt_of_le (h3 k hk) hu.size
    · exact hk.2
/-- A row that is kept has grown. -/
theorem Own.grown {w0 W w' : World} {K : Nat → Prop} {p : Nat} {d : Ar} {row : Option Nat} (h : Own w0 K W p d) (hg : W.grownBy w' row) (hr : ∀ k, row = some k → K k ∧ w0.heap.size ≤ k) : Own w0 (fun k => K k ∨ (W.heap.size ≤ k ∧ k < w'.heap.size)) w' p d := by
  obtain ⟨F, h1, h2, h3, h4⟩ := h
  have C : Chg (fun k => row = some k) W w' := (Chg.refl _ W).grown hg fun k hk => .inl hk
  refine ⟨F, h1.chg C fun k hk e => (h2 k hk).2 (hr k e).1, fun k hk => ⟨(h2 k hk).1, fun e => ?_⟩, fun k hk => ?_, Below.grown h4 hg (h4.size) fun k hk => (hr k hk).2⟩
  · rcases e with e | e
    · exact (h2 k hk).2 e
    · have := h1.lt k hk; omega
  · rcases hk with hk | hk
    · exact Nat.lt_of_lt_of_le (h3 k hk) C.size
    · exact hk.2
theorem Own.lose {w0 w : World} {K K' : Nat → Prop} {p : Nat} {d : Ar} (h : Own w0 K w p d) (hK : ∀ k, K' k → K k) : Own w0 K' w p d := by
  obtain ⟨F, h1, h2, h3, h4⟩ := h
  exact ⟨F, h1, fun k hk => ⟨(h2 k hk).1, fun e => (h2 k hk).2 (hK k e)⟩, fun k hk => h3 k (hK k hk), h4⟩
section
variable {w0 w : World} {K : Nat → Prop} {p : Nat} {A : Ar}
theorem newO (w : World) : Calls Try.prog 8 #[] w fun e w' => ∃ p, e = .returned (.pointer (some ⟨p, 0, none⟩)) ∧ Own w (fun _ => False) w' p ar0 := by
  refine (new_any w).mono ?_
  rintro e w' ⟨p, rfl, h, hu⟩
  exact ⟨p, rfl, _, h, fun k hk => ⟨hk.1, fun e => e⟩, fun k hk => hk.elim, hu⟩
theorem recordO (h : Own w0 K w p A) {t : Int} {k : ByteArray} {rv : Value} {row : List Val} (hv : Src w 3 rv row.length (rowC row)) (h1 : latA A < t) (h2 : t ≤ 1099511627776) (h3 : k.size ≤ 24) (h4 : row.length ≤ 6) (h5 : A.chgs.length < 200) :
    Calls Try.prog 10 #[.pointer (some ⟨p, 0, none⟩), .int .i64 t, .string k, rv] w fun e w' => e = .returned (.int .i64 0) ∧ OwnP w0 K p { A with chgs := A.chgs ++ [⟨t, k, row⟩] } w w' := by
  obtain ⟨F, g1, g2, g3, g4⟩ := h
  refine (rec_ok p A F t k rv row w g1 hv h1 h2 h3 h4 h5).mono ?_
  rintro e w' ⟨rfl, h⟩
  exact ⟨rfl, Own.lift g2 g3 g4 h⟩
theorem fullO (h : Own w0 K w p A) {t : Int} (h1 : latA A < t) (h2 : t ≤ 1099511627776) (h3 : A.baks.length < 20) (h4 : (stA A t).length ≤ 40) (h5 : A.earl ≤ t) (h6 : A.recs.length ≤ 99000) :
    Calls Try.prog 15 #[.pointer (some ⟨p, 0, none⟩), .int .i64 t] w fun e w' => ∃ A' st idx, e = .returned (.tuple #[.int .i64 st, .int .i64 0]) ∧ OwnP w0 K p A' w w' ∧ FB A (stA A t) (stA A t).length A'.recs A'.refs idx st ∧ A'.baks = A.baks ++ [(t, idx)] ∧ A'.chgs = A.chgs ∧ A'.earl = A.earl := by
  obtain ⟨F, g1, g2, g3, g4⟩ := h
  refine (full_any p A F t w g1 h1 h2 h3 h4 h5 h6).mono ?_
  rintro e w' ⟨A', st, idx, rfl, h, r⟩
  exact ⟨A', st, idx, rfl, Own.lift g2 g3 g4 h, r⟩
theorem stateO (h : Own w0 K w p A) {t : Int} (ht : A.earl ≤ t) :
    Calls Try.prog 14 #[.pointer (some ⟨p, 0, none⟩), .int .i64 t] w fun e w' => ∃ v, e = .returned (.tuple #[v, .int .i64 0]) ∧ RecsR w' w.heap.size v (stA A t) ∧ Up w w' := by
  obtain ⟨F, g1, _⟩ := h
  exact state_any p A F t w g1 ht
theorem sizeO (h : Own w0 K w p A) :
    Calls Try.prog 17 #[.pointer (some ⟨p, 0, none⟩)] w fun e w' => e = .returned (.tuple #[.int .i64 (A.baks.length : Nat), .int .i64 (live A.refs : Nat), .int .i64 (A.chgs.length : Nat)]) ∧ Up w w' := by
  obtain ⟨F, g1, _⟩ := h
  exact size_any p A F w g1
theorem pruneO (h : Own w0 K w p A) {t : Int} (h1 : 0 ≤ t) (h2 : t ≤ 1099511627776) :
    Calls Try.prog 20 #[.pointer (some ⟨p, 0, none⟩), .int .i64 t] w fun e w' => ∃ A' n, e = .returned (.int .i64 0) ∧ OwnP w0 K p A' w w' ∧ PrA A A' t n := by
  obtain ⟨F, g1, g2, g3, g4⟩ := h
  refine (prune_any p A F t w g1 h1 h2).mono ?_
  rintro e w' ⟨A', n, rfl, h, r⟩
  exact ⟨A', n, rfl, Own.lift g2 g3 g4 h, r⟩
end
/-! ### The map -/
def keyL (k : ByteArray) : Lit := .string k.data.toList
theorem keyL_inj {a b : ByteArray} (h : keyL a = keyL b) : a = b := by
  unfold keyL at h
  simp only [Lit.string.injEq] at h
  exact ByteArray.ext (Array.toList_inj.1 h)
theorem keyL_key (k : ByteArray) : WideAt.IsKeyLit (keyL k) := trivial
theorem key_of {k : ByteArray} (hk : k.size ≤ 24) : keyOf Try.prog 9 (.string k) = some (keyL k) := WideMaps.keyOf_string_mk Try.underlying9 (by unfold maxLen; omega)
def RH (v : Value) : Option (DataW Value × List MemPlace) := some (.held v, [])
def nilH : DataW Value := .held (.slice none 0 0)
abbrev Rec1 := ByteArray × List Val
structure MR (w1 w : World) (K : Nat → Prop) (b n : Nat) (S : Rec1 → Prop) (D : DataW Value) : Prop where
  own : w.ownsMap Try.prog 9 RH b n D
  kb : K b
  lo : w1.heap.size ≤ b
  mem : ∀ kl, Maps.has D kl = true ↔ ∃ y, S y ∧ kl = keyL y.1
  rows : ∀ y, S y → ∃ v, D.atKey (keyL y.1) nilH = .held v ∧ w.ownsRow w1.heap.size 34 3 v y.2.length (rowC y.2) ∧ ∀ k, v.ownBlock = some k → K k
theorem map_chg {S : Nat → Prop} {w w' : World} {b n : Nat} {D : DataW Value} (h : w.ownsMap Try.prog 9 RH b n D) (hc : Chg S w w') (hn : ¬ S b) : w'.ownsMap Try.prog 9 RH b n D := by
  have hlt := h.lt
  obtain ⟨es, clock, hb, F, hs, hD⟩ := h
  exact ⟨es, clock, (hc.block b hlt hn).trans hb, F, hs, hD⟩
section
variable {w1 w w' W : World} {K K' S : Nat → Prop} {p b n : Nat} {A : Ar} {R R' : Rec1 → Prop} {D : DataW Value}
theorem MR.chg (h : MR w1 w K b n R D) (hc : Chg S w w') (hS : ∀ k, K k → ¬ S k) : MR w1 w' K b n R D :=
  ⟨map_chg h.own hc (hS b h.kb), h.kb, h.lo, h.mem, fun y hy => by obtain ⟨v, h1, h2, h3⟩ := h.rows y hy; exact ⟨v, h1, own_chg h2 hc fun k hk => hS k (h3 k hk), h3⟩⟩
theorem MR.step {A' : Ar} (h : MR w1 w K b n R D) (hc : OwnP w1 K p A' w w') : MR w1 w' K b n R D := h.chg hc.2 fun k hk e => e.2 hk
theorem MR.up (h : MR w1 w K b n R D) (hu : Up w w') : MR w1 w' K b n R D := h.chg (Below.chg (fun _ => False) hu) fun _ _ e => e
theorem MR.wide (h : MR w1 w K b n R D) (hK : ∀ k, K k → K' k) : MR w1 w K' b n R D :=
  ⟨h.own, hK _ h.kb, h.lo, h.mem, fun y hy => by obtain ⟨v, h1, h2, h3⟩ := h.rows y hy; exact ⟨v, h1, h2, fun k hk => hK k (h3 k hk)⟩⟩
theorem MR.mono {n' : Nat} (h : MR w1 w K b n R D) (hn : n ≤ n') : MR w1 w K b n' R D := ⟨h.own.mono hn, h.kb, h.lo, h.mem, h.rows⟩
theorem MR.congr (h : MR w1 w K b n R D) (hS : ∀ y, R y ↔ R' y) : MR w1 w K b n R' D :=
  ⟨h.own, h.kb, h.lo, fun kl => (h.mem kl).trans ⟨fun ⟨y, hy, e⟩ => ⟨y, (hS y).1 hy, e⟩, fun ⟨y, hy, e⟩ => ⟨y, (hS y).2 hy, e⟩⟩, fun y hy => h.rows y ((hS y).2 hy)⟩
theorem map_ne {base size m : Nat} {E : TypeId} {v : Value} {xs : List Value} (h : w.ownsMap Try.prog 9 RH b n D) (hv : w.ownsRow base E size v m xs) : ∀ k, v.ownBlock = some k → some k ≠ some b := fun k hk e => by
  obtain ⟨⟨a, c, hc⟩, _⟩ := (own_ty hv) k hk
  obtain ⟨es, clock, hb, _⟩ := h
  cases e
  rw [hb] at hc
  cases hc
theorem own_grown {row : Option Nat} {base size m : Nat} {E : TypeId} {v : Value} {xs : List Value} (hv : w.ownsRow base E size v m xs) (hg : w.grownBy w' row) (hne : ∀ k, v.ownBlock = some k → some k ≠ row) : w'.ownsRow base E size v m xs :=
  own_chg hv ((Chg.refl (fun k => row = some k) w).grown hg fun k hk => .inl hk) fun k hk e => hne k hk e.symm
theorem MR.put (h : MR w1 W K b n R D) {k : ByteArray} {v : Value} {r : List Val} (hown : w'.ownsMap Try.prog 9 RH b (n + 1) (D.put (keyL k) (.held v)))
    (hg : W.grownBy w' (some b)) (hv : W.ownsRow w1.heap.size 34 3 v r.length (rowC r)) (hvK : ∀ j, v.ownBlock = some j → K j) : MR w1 w' K b (n + 1) (fun y => (y.1 = k ∧ y.2 = r) ∨ (y.1 ≠ k ∧ R y)) (D.put (keyL k) (.held v)) := by
  have T := h.own.tidy (Maps.string_keyed Try.underlying9)
  refine ⟨hown, h.kb, h.lo, fun kl => ?_, fun y hy => ?_⟩
  · by_cases e : kl = keyL k
    · subst e
      rw [Maps.has_put_same T.isMap (keyL_key k)]
      exact ⟨fun _ => ⟨(k, r), .inl ⟨rfl, rfl⟩, rfl⟩, fun _ => rfl⟩
    · rw [Maps.has_put_other e, h.mem]
      constructor
      · rintro ⟨y, hy, rfl⟩
        exact ⟨y, .inr ⟨fun e2 => e (by rw [e2]), hy⟩, rfl⟩
      · rintro ⟨y, hy, rfl⟩
        rcases hy with ⟨e2, _⟩ | ⟨_, h2⟩
        · exact absurd (by rw [e2]) e
        · exact ⟨y, h2, rfl⟩
  · rcases hy with ⟨e2, e3⟩ | ⟨e2, h2⟩
    · refine ⟨v, by rw [e2, Maps.atKey_put_same T.isMap (keyL_key k)], ?_, hvK⟩
      rw [e3]
      exact own_grown hv hg (map_ne h.own hv)
    · obtain ⟨u, h3, h4, h5⟩ := h.rows y h2
      exact ⟨u, by rw [Maps.atKey_put_other (fun e => e2 (keyL_inj e)), h3], own_grown h4 hg (map_ne h.own h4), h5⟩
theorem MR.del (h : MR w1 W K b n R D) {k : ByteArray} (hown : w'.ownsMap Try.prog 9 RH b n (D.del (keyL k))) (hg : W.grownBy w' (some b)) : MR w1 w' K b n (fun y => y.1 ≠ k ∧ R y) (D.del (keyL k)) := by
  refine ⟨hown, h.kb, h.lo, fun kl => ?_, fun y hy => ?_⟩
  · by_cases e : kl = keyL k
    · subst e
      rw [Maps.has_del_same]
      refine ⟨fun e => (by cases e), ?_⟩
      rintro ⟨y, hy, e⟩
      exact absurd (keyL_inj e).symm hy.1
    · rw [Maps.has_del_other e, h.mem]
      constructor
      · rintro ⟨y, hy, rfl⟩
        exact ⟨y, ⟨fun e2 => e (by rw [e2]), hy⟩, rfl⟩
      · rintro ⟨y, hy, rfl⟩
        exact ⟨y, hy.2, rfl⟩
  · obtain ⟨u, h3, h4, h5⟩ := h.rows y hy.2
    exact ⟨u, by rw [Maps.atKey_del_other (fun e => hy.1 (keyL_inj e)), h3], own_grown h4 hg (map_ne h.own h4), h5⟩
theorem MR.zero {w2 : World} (hu : Up w1 w2) (hK : K w2.heap.size) : MR w1 (w2.alloc (.map #[] 0)) K w2.heap.size 0 (fun _ => False) (.map []) :=
  ⟨World.ownsMap_made _ _ _ _, hK, hu.size, fun kl => ⟨fun h => (by cases h), fun ⟨y, hy, _⟩ => hy.elim⟩, fun y hy => hy.elim⟩
end
theorem Own.turn {w0 W w' : World} {K : Nat → Prop} {p b n : Nat} {A : Ar} {R : Rec1 → Prop} {D : DataW Value} (h : Own w0 K W p A) (hM : MR w0 W K b n R D) (hg : W.grownBy w' (some b)) : Own w0 K w' p A :=
  (h.grown hg fun k e => by cases e; exact ⟨hM.kb, hM.lo⟩).lose fun k hk => .inl hk
theorem zeroRow (w : World) : (zeroValue 27).run Try.prog w = .ok (.slice none 0 0) w := by kernel_rfl
/-! ### The states -/
def StO (w1 : World) (K : Nat → Prop) (w : World) (v : Value) (s : Recs) : Prop :=
  ∃ gs : List RM, gs.map erR = s ∧ w.ownsRow w1.heap.size 40 2 v gs.length (rmC gs) ∧ (∀ k, v.ownBlock = some k → K k) ∧ ∀ g ∈ gs, w.ownsRow w1.heap.size 34 3 g.rv g.row.length (rowC g.row) ∧ ∀ k, g.rv.ownBlock = some k → K k
structure StsR (w1 w : World) (K : Nat → Prop) (v : Value) (vs : List Value) (sts : List Recs) : Prop where
  own : w.ownsRow w1.heap.size 36 1 v vs.length vs
  ownK : ∀ k, v.ownBlock = some k → K k
  len : vs.length = sts.length
  each : ∀ i (h : i < vs.length), StO w1 K w vs[i] (sts.getD i [])
section
variable {w1 w w' : World} {K K' S : Nat → Prop} {v : Value} {s : Recs} {vs : List Value} {sts : List Recs}
theorem StO.chg (h : StO w1 K w v s) (hc : Chg S w w') (hS : ∀ k, K k → ¬ S k) : StO w1 K w' v s := by
  obtain ⟨gs, h1, h2, h3, h4⟩ := h
  exact ⟨gs, h1, own_chg h2 hc fun k hk => hS k (h3 k hk), h3, fun g hg => ⟨own_chg (h4 g hg).1 hc fun k hk => hS k ((h4 g hg).2 k hk), (h4 g hg).2⟩⟩
theorem StO.wide (h : StO w1 K w v s) (hK : ∀ k, K k → K' k) : StO w1 K' w v s := by
  obtain ⟨gs, h1, h2, h3, h4⟩ := h
  exact ⟨gs, h1, h2, fun k hk => hK k (h3 k hk), fun g hg => ⟨(h4 g hg).1, fun k hk => hK k ((h4 g hg).2 k hk)⟩⟩
theorem StO.src (h : StO w1 K w v s) (hl : ∀ r ∈ s, r.2.length ≤ 1000) : RecsS w v s := by
  obtain ⟨gs, h1, h2, h3, h4⟩ := h
  subst h1
  exact ⟨gs, rfl, own_src h2, fun g hg => ⟨own_src (h4 g hg).1, hl (erR g) (List.mem_map.2 ⟨g, hg, rfl⟩)⟩⟩
theorem StsR.chg (h : StsR w1 w K v vs sts) (hc : Chg S w w') (hS : ∀ k, K k → ¬ S k) : StsR w1 w' K v vs sts :=
  ⟨own_chg h.own hc fun k hk => hS k (h.ownK k hk), h.ownK, h.len, fun i hi => (h.each i hi).chg hc hS⟩
theorem StsR.up (h : StsR w1 w K v vs sts) (hu : Up w w') : StsR w1 w' K v vs sts := h.chg (Below.chg (fun _ => False) hu) fun _ _ e => e
theorem StsR.step {p : Nat} {A' : Ar} (h : StsR w1 w K v vs sts) (hc : OwnP w1 K p A' w w') : StsR w1 w' K v vs sts := h.chg hc.2 fun k hk e => e.2 hk
theorem StsR.wide (h : StsR w1 w K v vs sts) (hK : ∀ k, K k → K' k) : StsR w1 w K' v vs sts := ⟨h.own, fun k hk => hK k (h.ownK k hk), h.len, fun i hi => (h.each i hi).wide hK⟩
/-- A block that is of another kind than the states' has turned. -/
theorem StsR.map {b n : Nat} {D : DataW Value} (h : StsR w1 w K v vs sts) (hm : w.ownsMap Try.prog 9 RH b n D) (hg : w.grownBy w' (some b)) : StsR w1 w' K v vs sts :=
  ⟨own_grown h.own hg (map_ne hm h.own), h.ownK, h.len, fun i hi => by
    obtain ⟨gs, h1, h2, h3, h4⟩ := h.each i hi
    exact ⟨gs, h1, own_grown h2 hg (map_ne hm h2), h3, fun g hg' => ⟨own_grown (h4 g hg').1 hg (map_ne hm (h4 g hg').1), (h4 g hg').2⟩⟩⟩
end
end Go.Proofs.Ytdaehidbeleblaa.Bk
