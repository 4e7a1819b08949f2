/- The snapshot database, as a law holds it; snapshotWorks. -/
import Derived.Test.YtnbhdpmhgamjfaaSnq
import Derived.Test.YtnbhdpmhgamjfaaSnp
namespace Go.Proofs.Ytnbhdpmhgamjfaa.Sn
open Go Go.RowKit Hp So
open Mv (Val PC PV rowC rowC_one fm_len fm_take fm_drop fm_get fm_set fm_one RowIn StR Srt SOk pos has fx_lt fx_up ty_chg has_pos pos_le vacuumL cloneR latL cnt addL rowV kA)
set_option linter.unusedVariables false

/-- The database is memory that is new since w0, apart from the blocks of K. -/
def Own (w0 : World) (K : Nat → Prop) (w : World) (p : Nat) (d : Db) : Prop := ∃ F, DbR w p d F ∧ (∀ k, F k → w0.heap.size ≤ k ∧ ¬ K k) ∧ (∀ k, K k → k < w.heap.size) ∧ Up w0 w
def OwnP (w0 : World) (K : Nat → Prop) (p : Nat) (d' : Db) (w w' : World) : Prop := Own w0 K w' p d' ∧ Chg (fun k => w0.heap.size ≤ k ∧ ¬ K k) w w'
theorem Own.ok {w0 w : World} {K : Nat → Prop} {p : Nat} {d : Db} (h : Own w0 K w p d) : DOk d := by obtain ⟨F, h, _⟩ := h; exact h.ok
theorem Own.upw {w0 w : World} {K : Nat → Prop} {p : Nat} {d : Db} (h : Own w0 K w p d) : Up w0 w := by obtain ⟨F, _, _, _, h⟩ := h; exact h
theorem chg_up {a b c : World} {K : Nat → Prop} (h : Up a b) (k : Chg (fun j => a.heap.size ≤ j ∧ ¬ K j) b c) : Up a c :=
  ((Below.chg (fun _ => False) h).trans k (S' := fun j => a.heap.size ≤ j ∧ ¬ K j) (fun j hj e => by have := e.1; omega)).up fun _ _ e => e
theorem Own.lift {w0 w w' : World} {K : Nat → Prop} {p : Nat} {d' : Db} {F : Nat → Prop} (hF : ∀ k, F k → w0.heap.size ≤ k ∧ ¬ K k) (hK : ∀ k, K k → k < w.heap.size) (hu : Up w0 w) (h : DbPost p d' F w w') : OwnP w0 K p d' w w' := by
  have C : Chg (fun k => w0.heap.size ≤ k ∧ ¬ K k) w w' := h.2.mono fun k _ e => hF k e
  refine ⟨⟨_, h.1, fun k hk => ?_, fun k hk => Nat.lt_of_lt_of_le (hK k hk) C.size, chg_up hu C⟩, C⟩
  rcases hk with hk | hk
  · exact hF k hk
  · exact ⟨Nat.le_trans hu.size hk.1, fun e => by have := hK k e; omega⟩
theorem Own.up {w0 w w' : World} {K : Nat → Prop} {p : Nat} {d : Db} (h : Own w0 K w p d) (hu : Up w w') : Own w0 K w' p d := by
  obtain ⟨F, h1, h2, h3, h4⟩ := h
  exact ⟨F, h1.up hu, h2, fun k hk => Nat.lt_of_lt_of_le (h3 k hk) hu.size, h4.trans hu⟩
/-- A new block is kept too. -/
theorem Own.alloc {w0 w : World} {K : Nat → Prop} {p : Nat} {d : Db} (h : Own w0 K w p d) (o : Obj) : Own w0 (fun k => K k ∨ k = w.heap.size) (w.alloc o) p d := by
  obtain ⟨F, h1, h2, h3, h4⟩ := h
  have hu := (Up.refl w).alloc o
  refine ⟨F, h1.up hu, fun k hk => ⟨(h2 k hk).1, fun e => ?_⟩, fun k hk => ?_, h4.trans hu⟩
  · rcases e with e | e
    · exact (h2 k hk).2 e
    · have := h1.lt k hk; omega
  · have : (w.alloc o).heap.size = w.heap.size + 1 := by simp
    rcases hk with hk | hk
    · have := h3 k hk; omega
    · omega
/-- A store into a kept block. -/
theorem Own.set {w0 w : World} {K : Nat → Prop} {p : Nat} {d : Db} (h : Own w0 K w p d) {b : Nat} (hb : K b) (hb0 : w0.heap.size ≤ b) (i : Nat) (s : Option Nat) (v : Value) : Own w0 K (w.setCell ⟨b, i, s⟩ v) p d := by
  obtain ⟨F, h1, h2, h3, h4⟩ := h
  have C := chg_set w b i s v
  exact ⟨F, h1.chg C fun k hk e => (h2 k hk).2 (by rw [e]; exact hb), h2, fun k hk => Nat.lt_of_lt_of_le (h3 k hk) C.size, h4.set hb0 i s v⟩
theorem Own.lose {w0 w : World} {K K' : Nat → Prop} {p : Nat} {d : Db} (h : Own w0 K w p d) (hK : ∀ k, K' k → K k) : Own w0 K' w p d := by
  obtain ⟨F, h1, h2, h3, h4⟩ := h
  exact ⟨F, h1, fun k hk => ⟨(h2 k hk).1, fun e => (h2 k hk).2 (hK k e)⟩, fun k hk => h3 k (hK k hk), h4⟩
theorem OwnP.at_ {w0 w w' : World} {K : Nat → Prop} {p : Nat} {d : Db} {b o : Nat} {v : Value} (h : OwnP w0 K p d w w') (ha : At w b o v) (hb : K b ∨ b < w0.heap.size) : At w' b o v := ha.chg h.2 fun e => by
  rcases hb with hb | hb
  · exact e.2 hb
  · omega
theorem OwnP.up {w0 w w' : World} {K : Nat → Prop} {p : Nat} {d : Db} (hu : Up w0 w) (h : OwnP w0 K p d w w') : Up w0 w' := chg_up hu h.2
section
variable {w0 w : World} {K : Nat → Prop} {p : Nat} {d : Db}
theorem newO (w : World) : Calls Try.prog 4 #[] w fun e w' => ∃ p, e = .returned (.pointer (some ⟨p, 0, none⟩)) ∧ Own w (fun _ => False) w' p db0 := by
  refine (new_any w).mono ?_
  rintro e w' ⟨p, q, rfl, h, h1, h2, h3⟩
  exact ⟨p, rfl, fun k => k = p ∨ k = q, ⟨q, _, _, _, _, h, fun k hk => hk, fun k hk => by
    rcases hk with hk | hk
    · exact h.lt k hk
    · exact h.st.lt k hk⟩, fun k hk => ⟨by omega, fun e => e⟩, fun k hk => hk.elim, h3⟩
theorem beginO (h : Own w0 K w p d) (hl : d.last < 1000000) (hn : d.act.length ≠ 60) :
    Calls Try.prog 6 #[.pointer (some ⟨p, 0, none⟩)] w fun e w' => e = .returned (.tuple #[.int .i64 (d.last + 1), .int .i64 0]) ∧ OwnP w0 K p (begD d) w w' := by
  obtain ⟨F, h1, h2, h3, h4⟩ := h
  refine (begin_any p d F w h1 hl hn).mono ?_
  rintro e w' ⟨rfl, h5⟩
  exact ⟨rfl, Own.lift h2 h3 h4 h5⟩
theorem putO (h : Own w0 K w p d) {id : Int} {t : Tr} (ht : tr d id = some t) {k : ByteArray} (hk : k.size ≤ 24) {rv : Value} {row : List Val} (hr : row.length ≤ 6) (hrow : Src w 3 rv row.length (rowC row)) :
    Calls Try.prog 10 #[.pointer (some ⟨p, 0, none⟩), .int .i64 id, .string k, rv] w fun e w' => e = .returned (.int .i64 (bufP d id k ⟨false, row⟩).2) ∧ OwnP w0 K p (bufP d id k ⟨false, row⟩).1 w w' := by
  obtain ⟨F, h1, h2, h3, h4⟩ := h
  refine (put_any p d F id k rv row w h1 (tr_at ht).1 hk hr hrow).mono ?_
  rintro e w' ⟨rfl, h5⟩
  exact ⟨rfl, Own.lift h2 h3 h4 h5⟩
theorem rollbackO (h : Own w0 K w p d) (id : Int) :
    Calls Try.prog 9 #[.pointer (some ⟨p, 0, none⟩), .int .i64 id] w fun e w' => e = .returned (.int .i64 (rolP d id).2) ∧ OwnP w0 K p (rolP d id).1 w w' := by
  obtain ⟨F, h1, h2, h3, h4⟩ := h
  refine (rollback_any p d F id w h1).mono ?_
  rintro e w' ⟨rfl, h5⟩
  exact ⟨rfl, Own.lift h2 h3 h4 h5⟩
theorem commitO (h : Own w0 K w p d) {id : Int} {t : Tr} (ht : tr d id = some t) (hc : d.clock < 1000000) :
    Calls Try.prog 13 #[.pointer (some ⟨p, 0, none⟩), .int .i64 id] w fun e w' => e = .returned (.tuple #[.int .i64 (comP d id).2.1, .int .i64 (comP d id).2.2]) ∧ OwnP w0 K p (comP d id).1 w w' := by
  obtain ⟨F, h1, h2, h3, h4⟩ := h
  refine (commit_any p d F id w h1 (tr_at ht).1 hc).mono ?_
  rintro e w' ⟨rfl, h5⟩
  exact ⟨rfl, Own.lift h2 h3 h4 h5⟩
end
/-! ### A transaction alone -/
structure Solo (d : Db) (c : Int) (j : Nat) : Prop where
  act : d.act = []
  clock : d.clock = c
  last : d.last = j
  cnt : Mv.cnt d.st ≤ 2 * j
structure One (d : Db) (c : Int) (j : Nat) (l : WL) : Prop where
  act : d.act = [⟨(j : Int) + 1, c, l⟩]
  clock : d.clock = c
  last : d.last = (j : Int) + 1
  cnt : Mv.cnt d.st ≤ 2 * j
theorem One.tr {d : Db} {c : Int} {j : Nat} {l : WL} (h : One d c j l) : tr d ((j : Int) + 1) = some ⟨(j : Int) + 1, c, l⟩ := by unfold Sn.tr; rw [h.act]; simp
theorem solo_beg {d : Db} {c : Int} {j : Nat} (h : Solo d c j) : One (begD d) c j [] := ⟨by show d.act ++ [_] = _; rw [h.act, h.last, h.clock]; rfl, h.clock, by show d.last + 1 = _; rw [h.last], h.cnt⟩
theorem wput_pos (l : WL) (k : ByteArray) (x : Wr) : 0 < (wput l k x).length ∧ (wput l k x).length ≤ l.length + 1 := by
  have hp := pos_le l k
  unfold wput
  split
  · rename_i hh
    obtain ⟨h1, _⟩ := has_pos hh
    simp; omega
  · simp only [List.length_append, List.length_take, List.length_cons, List.length_drop]
    omega
theorem one_put {d : Db} {c : Int} {j : Nat} {l : WL} (ok : DOk d) (h : One d c j l) {k : ByteArray} {x : Wr} (hk : k.size ≤ 24) (hr : x.row.length ≤ 6) (hl : l.length < 40) : (bufP d ((j : Int) + 1) k x).2 = 0 ∧ One (bufP d ((j : Int) + 1) k x).1 c j (wput l k x) := by
  rw [buf_tr ok h.tr hk hr, if_neg (by simp only; omega)]
  refine ⟨rfl, ⟨?_, h.clock, h.last, h.cnt⟩⟩
  show d.act.map _ = _
  rw [h.act]
  simp
theorem fin_solo {d : Db} {c : Int} {j : Nat} {l : WL} (ok : DOk d) (h : One d c j l) : (finI d ((j : Int) + 1)).act = [] ∧ Mv.cnt (finI d ((j : Int) + 1)).st ≤ 2 * j := by
  obtain ⟨_, hi, _⟩ := tr_at h.tr
  refine ⟨?_, Nat.le_trans (fin_ok ok _).2 h.cnt⟩
  show d.act.eraseIdx _ = []
  have : (d.act.eraseIdx (tidx d.act ((j : Int) + 1)).toNat).length = 0 := by rw [List.length_eraseIdx_of_lt hi, h.act]; rfl
  exact List.length_eq_zero_iff.1 this
theorem one_rol {d : Db} {c : Int} {j : Nat} {l : WL} (ok : DOk d) (h : One d c j l) : (rolP d ((j : Int) + 1)).2 = 0 ∧ Solo (rolP d ((j : Int) + 1)).1 c (j + 1) := by
  rw [rol_tr h.tr]
  obtain ⟨h1, h2⟩ := fin_solo ok h
  exact ⟨rfl, h1, h.clock, by show d.last = _; rw [h.last]; simp, by show Mv.cnt (finI d _).st ≤ _; omega⟩
theorem one_com {d : Db} {c : Int} {j : Nat} {l : WL} (ok : DOk d) (h : One d c j l) (hl : l.length ≤ 2) (hj : j ≤ 100) :
    (comP d ((j : Int) + 1)).2 = (if l.length = 0 then c else c + 1, 0) ∧ Solo (comP d ((j : Int) + 1)).1 (if l.length = 0 then c else c + 1) (j + 1) := by
  obtain ⟨h1, h2⟩ := fin_solo ok h
  have hc := h.cnt
  rw [com_tr h.tr, conf_solo ok (by rw [h.clock]; exact Int.le_refl _), if_neg (by decide), if_neg (by simp only; omega)]
  simp only
  by_cases h0 : l.length = 0
  · rw [if_pos h0, if_pos h0]
    exact ⟨by rw [h.clock], h1, h.clock, by show d.last = _; rw [h.last]; simp, by show Mv.cnt (finI d _).st ≤ _; omega⟩
  · rw [if_neg h0, if_neg h0]
    refine ⟨by rw [h.clock], h1, by show d.clock + 1 = _; rw [h.clock], by show d.last = _; rw [h.last]; simp, ?_⟩
    have := putAll_cnt (finI d ((j : Int) + 1)).hz (d.clock + 1) l (finI d ((j : Int) + 1)).st
    show Mv.cnt (putAll _ _ _ l) ≤ _
    omega
theorem solo0 : Solo db0 0 0 := ⟨rfl, rfl, rfl, Nat.le_refl _⟩

end Go.Proofs.Ytnbhdpmhgamjfaa.Sn
