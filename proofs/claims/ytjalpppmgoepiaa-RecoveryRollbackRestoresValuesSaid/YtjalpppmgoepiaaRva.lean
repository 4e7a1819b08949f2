/- Recovery: rows of numbers that are handed in; the engine, plain and in memory. -/
import Derived.Test.YtjalpppmgoepiaaSl
import Derived.Test.YtjalpppmgoepiaaRs
namespace Go.Proofs.Ytjalpppmgoepiaa.Rv
open Go Go.RowKit Hp
set_option linter.unusedVariables false

def Elems (w : World) (a : Option Addr) (len : Nat) (zs : List Int) : Prop :=
  ∀ i, i < len → ∃ b off, a = some ⟨b, off, none⟩ ∧ b < w.heap.size ∧ w.cell? ⟨b, off + i, none⟩ = some (.int .i64 (zs.getD i 0))
theorem elems_up {w w' : World} {a : Option Addr} {len : Nat} {zs : List Int} (h : Elems w a len zs) (hb : Up w w') : Elems w' a len zs := fun i hi => by
  obtain ⟨b, off, ha, hlt, hc⟩ := h i hi
  exact ⟨b, off, ha, by have := hb.size; omega, (hb.cell (p := ⟨b, off + i, none⟩) hlt).trans hc⟩
theorem elems_of {w : World} {a : Option Addr} {len cap : Nat} {zs : List Int} (h : (a = none ∧ len = 0 ∧ cap = 0 ∧ zs = []) ∨
  ∃ x, a = some x ∧ len ≤ cap ∧ cap ≤ maxLen ∧ zs.length = cap ∧ (∀ i, i < zs.length → w.cell? (x.add i) = some (.int .i64 (zs.getD i 0))) ∧ ∀ n ∈ zs, (Lit.int .i64 n).wf = true) :
    Elems w a len zs ∧ len ≤ cap ∧ cap ≤ 9223372036854775807 := by
  rcases h with ⟨rfl, rfl, rfl, rfl⟩ | ⟨x, rfl, hl, hm, hz, hcell, hwz⟩
  · exact ⟨fun i hi => by omega, by omega, by omega⟩
  · refine ⟨fun i hi => ?_, hl, by unfold maxLen at hm; exact hm⟩
    have hc := hcell i (by omega)
    obtain ⟨b, off, spot⟩ := x
    have h0 := hcell 0 (by omega)
    have hspot : spot = none := by simpa [Addr.add] using World.cell?_spot h0
    subst hspot
    have hc' : w.cell? ⟨b, off + i, none⟩ = some (.int .i64 (zs.getD i 0)) := by
      by_cases e : i = 0
      · subst e; simpa [Addr.add] using hc
      · simpa [Addr.add, e] using hc
    refine ⟨b, off, rfl, ?_, hc'⟩
    unfold World.cell? at hc'
    rcases Nat.lt_or_ge b w.heap.size with h | h
    · exact h
    · simp [Array.getElem?_eq_none h] at hc'
theorem mod_any (k n : Int) (w : World) (h0 : 0 < n) (h1 : n ≤ 1000000) :
    Calls Try.prog 13 #[.int .i64 k, .int .i64 n] w fun e w' => e = .returned (.int .i64 (modV k n)) ∧ w = w' := by
  have HD := Lib.hid (mod_eq k n h0 h1)
  go_enter Try.func13, Try.ntmps13
  go_wp2
  go_ret
  exact ⟨by simp [HD.out], rfl⟩

/-! ### Rows of k cells an element -/
section
variable {α : Type} {f : α → List Value} {k : Nat}
theorem fm_len (hk : ∀ a, (f a).length = k) (l : List α) : (l.flatMap f).length = l.length * k := by
  induction l with
  | nil => simp
  | cons a l ih => rw [List.flatMap_cons, List.length_append, ih, hk, List.length_cons, Nat.add_mul, Nat.one_mul, Nat.add_comm]
theorem fm_take (hk : ∀ a, (f a).length = k) (l : List α) (i : Nat) : (l.flatMap f).take (i * k) = (l.take i).flatMap f := by
  induction l generalizing i with
  | nil => simp
  | cons a l ih => cases i with
    | zero => simp
    | succ i => rw [List.take_succ_cons, List.flatMap_cons, List.flatMap_cons, Nat.add_mul, Nat.one_mul, Nat.add_comm, ← hk a, List.take_length_add_append, hk a, ih]
theorem fm_drop (hk : ∀ a, (f a).length = k) (l : List α) (i : Nat) : (l.flatMap f).drop (i * k) = (l.drop i).flatMap f := by
  induction l generalizing i with
  | nil => simp
  | cons a l ih => cases i with
    | zero => simp
    | succ i => rw [List.drop_succ_cons, List.flatMap_cons, Nat.add_mul, Nat.one_mul, Nat.add_comm, ← hk a, List.drop_length_add_append, hk a, ih]
theorem fm_get (hk : ∀ a, (f a).length = k) (l : List α) (i j : Nat) (h : i < l.length) (hj : j < k) : (l.flatMap f)[i * k + j]? = (f l[i])[j]? := by
  induction l generalizing i with
  | nil => simp at h
  | cons a l ih => cases i with
    | zero => rw [List.flatMap_cons, Nat.zero_mul, Nat.zero_add, List.getElem?_append_left (by rw [hk]; exact hj)]; rfl
    | succ i =>
      rw [List.flatMap_cons, List.getElem?_append_right (by rw [hk, Nat.add_mul]; omega), hk, show (i + 1) * k + j - k = i * k + j by rw [Nat.add_mul]; omega, ih i (by simpa using h)]
      rfl
theorem fm_set (hk : ∀ a, (f a).length = k) (l : List α) (i j : Nat) (h : i < l.length) (hj : j < k) (u : Value) (a : α) (ha : f a = (f l[i]).set j u) : (l.flatMap f).set (i * k + j) u = (l.set i a).flatMap f := by
  induction l generalizing i with
  | nil => simp at h
  | cons b l ih => cases i with
    | zero => rw [List.flatMap_cons, Nat.zero_mul, Nat.zero_add, List.set_append_left _ _ (by rw [hk]; exact hj), List.set_cons_zero, List.flatMap_cons, ha]; rfl
    | succ i =>
      rw [List.flatMap_cons, List.set_append_right _ _ (by rw [hk, Nat.add_mul]; omega), hk, show (i + 1) * k + j - k = i * k + j by rw [Nat.add_mul]; omega, ih i (by simpa using h) (by simpa using ha), List.set_cons_succ, List.flatMap_cons]
theorem fm_one (h1 : ∀ a, ∀ u ∈ f a, u.oneCell' = true) (l : List α) : ∀ u ∈ l.flatMap f, u.oneCell' = true := fun u hu => by
  obtain ⟨a, _, ha⟩ := List.mem_flatMap.1 hu
  exact h1 a u ha
end

/-! ### Plain -/
structure Rec where
  kind : Nat
  tx : Nat
  page : Nat
  before : Int
  after : Int
structure Eng where
  buf : List (Int × Nat)
  dsk : List (Int × Nat)
  log : List Rec
  fl : Nat
  last : Nat
  act : List Nat
  wri : List Nat
def pgC1 (x : Int × Nat) : List Value := [.int .i64 x.1, .int .i64 (x.2 : Int)]
def pgC (l : List (Int × Nat)) : List Value := l.flatMap pgC1
def reC1 (r : Rec) : List Value := [.int .i64 (r.kind : Int), .int .i64 (r.tx : Int), .int .i64 (r.page : Int), .int .i64 r.before, .int .i64 r.after]
def reC (l : List Rec) : List Value := l.flatMap reC1
def reV (r : Rec) : Value := .agg #[.int .i64 (r.kind : Int), .int .i64 (r.tx : Int), .int .i64 (r.page : Int), .int .i64 r.before, .int .i64 r.after]
def naC1 (x : Nat) : List Value := [.int .i64 (x : Int)]
def naC (l : List Nat) : List Value := l.flatMap naC1
theorem pgC_len (l : List (Int × Nat)) : (pgC l).length = l.length * 2 := fm_len (k := 2) (fun _ => rfl) l
theorem reC_len (l : List Rec) : (reC l).length = l.length * 5 := fm_len (k := 5) (fun _ => rfl) l
theorem naC_len (l : List Nat) : (naC l).length = l.length * 1 := fm_len (k := 1) (fun _ => rfl) l
theorem pgC_get (l : List (Int × Nat)) (i : Nat) (h : i < l.length) : (pgC l)[i * 2]? = some (.int .i64 l[i].1) ∧ (pgC l)[i * 2 + 1]? = some (.int .i64 (l[i].2 : Int)) :=
  ⟨by have := fm_get (f := pgC1) (k := 2) (fun _ => rfl) l i 0 h (by omega); simpa [pgC, pgC1] using this, by have := fm_get (f := pgC1) (k := 2) (fun _ => rfl) l i 1 h (by omega); simpa [pgC, pgC1] using this⟩
theorem reC_get (l : List Rec) (i : Nat) (h : i < l.length) : (reC l)[i * 5]? = some (.int .i64 (l[i].kind : Int)) ∧ (reC l)[i * 5 + 1]? = some (.int .i64 (l[i].tx : Int)) ∧ (reC l)[i * 5 + 2]? = some (.int .i64 (l[i].page : Int)) ∧ (reC l)[i * 5 + 3]? = some (.int .i64 l[i].before) ∧ (reC l)[i * 5 + 4]? = some (.int .i64 l[i].after) :=
  ⟨by have := fm_get (f := reC1) (k := 5) (fun _ => rfl) l i 0 h (by omega); simpa [reC, reC1] using this, by have := fm_get (f := reC1) (k := 5) (fun _ => rfl) l i 1 h (by omega); simpa [reC, reC1] using this,
    by have := fm_get (f := reC1) (k := 5) (fun _ => rfl) l i 2 h (by omega); simpa [reC, reC1] using this, by have := fm_get (f := reC1) (k := 5) (fun _ => rfl) l i 3 h (by omega); simpa [reC, reC1] using this,
    by have := fm_get (f := reC1) (k := 5) (fun _ => rfl) l i 4 h (by omega); simpa [reC, reC1] using this⟩
theorem naC_get (l : List Nat) (i : Nat) (h : i < l.length) : (naC l)[i]? = some (.int .i64 (l[i] : Int)) := by
  have := fm_get (f := naC1) (k := 1) (fun _ => rfl) l i 0 h (by omega)
  simpa [naC, naC1] using this
theorem reC_one (l : List Rec) : ∀ u ∈ reC l, u.oneCell' = true := fm_one (fun a u hu => by unfold reC1 at hu; simp at hu; rcases hu with rfl | rfl | rfl | rfl | rfl <;> rfl) l
theorem pgC_one (l : List (Int × Nat)) : ∀ u ∈ pgC l, u.oneCell' = true := fm_one (fun a u hu => by unfold pgC1 at hu; simp at hu; rcases hu with rfl | rfl <;> rfl) l
theorem naC_one (l : List Nat) : ∀ u ∈ naC l, u.oneCell' = true := fm_one (fun a u hu => by unfold naC1 at hu; simp at hu; rcases hu with rfl; rfl) l
/-- A record is logged and applied. -/
def appE (E : Eng) (r : Rec) : Eng := { E with log := E.log ++ [r], buf := if r.kind = 3 then E.buf else E.buf.set r.page (r.after, E.log.length + 1) }
def finE (E : Eng) (t : Nat) : Eng := let E1 := appE E ⟨3, t, 0, 0, 0⟩; { E1 with act := E1.act.filter (fun x => decide (x ≠ t)), wri := E1.wri.map fun x => if x = t then 0 else x }
def ustep (t : Nat) (s : Nat × Eng) (r : Rec) : Nat × Eng :=
  if r.tx ≠ t then s else if r.kind = 2 then (s.1 + 1, s.2) else if r.kind = 1 then (if 0 < s.1 then (s.1 - 1, s.2) else (0, appE s.2 ⟨2, t, r.page, r.after, r.before⟩)) else s
def undoE (E : Eng) (t : Nat) : Eng := (E.log.reverse.foldl (ustep t) (0, E)).2
/-! ### In memory -/
def Dj (a b : Option Nat) : Prop := ∀ k, a = some k → b ≠ some k
structure EngP (w : World) (p : Nat) (F : Nat → Prop) (E : Eng) (bv dv lv av wv : Value) : Prop where
  lt : ∀ k, F k → k < w.heap.size
  fp : F p
  blk : Blk w p [bv, dv, lv, .int .i64 (E.fl : Int), .int .i64 (E.last : Int), av, wv] 44
  bo : w.ownsRow 0 53 2 bv E.buf.length (pgC E.buf)
  bF : ∀ k, bv.ownBlock = some k → F k
  do_ : w.ownsRow 0 53 2 dv E.dsk.length (pgC E.dsk)
  dF : ∀ k, dv.ownBlock = some k → F k
  lo : w.ownsRow 0 50 5 lv E.log.length (reC E.log)
  lF : ∀ k, lv.ownBlock = some k → F k
  ao : w.ownsRow 0 3 1 av E.act.length (naC E.act)
  aF : ∀ k, av.ownBlock = some k → F k
  wo : w.ownsRow 0 3 1 wv E.wri.length (naC E.wri)
  wF : ∀ k, wv.ownBlock = some k → F k
  bd : Dj bv.ownBlock dv.ownBlock
  aw : Dj av.ownBlock wv.ownBlock
def EngR (w : World) (p : Nat) (E : Eng) (F : Nat → Prop) : Prop := ∃ bv dv lv av wv, EngP w p F E bv dv lv av wv
def EngPost (p : Nat) (E' : Eng) (F : Nat → Prop) (w w' : World) : Prop := EngR w' p E' (Fx F w w') ∧ Chg F w w'
section
variable {w w' : World} {p : Nat} {F F' : Nat → Prop} {E : Eng} {bv dv lv av wv : Value}
theorem EngP.chg {S : Nat → Prop} (h : EngP w p F E bv dv lv av wv) (hc : Chg S w w') (hS : ∀ k, F k → ¬ S k) : EngP w' p F E bv dv lv av wv :=
  ⟨fun k hk => Nat.lt_of_lt_of_le (h.lt k hk) hc.size, h.fp, h.blk.chg hc (hS _ h.fp), own_chg h.bo hc fun k hk => hS k (h.bF k hk), h.bF, own_chg h.do_ hc fun k hk => hS k (h.dF k hk), h.dF, own_chg h.lo hc fun k hk => hS k (h.lF k hk), h.lF,
    own_chg h.ao hc fun k hk => hS k (h.aF k hk), h.aF, own_chg h.wo hc fun k hk => hS k (h.wF k hk), h.wF, h.bd, h.aw⟩
theorem EngP.up (h : EngP w p F E bv dv lv av wv) (hu : Up w w') : EngP w' p F E bv dv lv av wv := h.chg (Below.chg (fun _ => False) hu) fun _ _ e => e
theorem EngP.mono (h : EngP w p F E bv dv lv av wv) (hF : ∀ k, F k → F' k) (hl : ∀ k, F' k → k < w.heap.size) : EngP w p F' E bv dv lv av wv :=
  ⟨hl, hF _ h.fp, h.blk, h.bo, fun k hk => hF k (h.bF k hk), h.do_, fun k hk => hF k (h.dF k hk), h.lo, fun k hk => hF k (h.lF k hk), h.ao, fun k hk => hF k (h.aF k hk), h.wo, fun k hk => hF k (h.wF k hk), h.bd, h.aw⟩
theorem EngR.chg {S : Nat → Prop} (h : EngR w p E F) (hc : Chg S w w') (hS : ∀ k, F k → ¬ S k) : EngR w' p E F := by obtain ⟨bv, dv, lv, av, wv, h⟩ := h; exact ⟨bv, dv, lv, av, wv, h.chg hc hS⟩
theorem EngR.up (h : EngR w p E F) (hu : Up w w') : EngR w' p E F := by obtain ⟨bv, dv, lv, av, wv, h⟩ := h; exact ⟨bv, dv, lv, av, wv, h.up hu⟩
theorem EngR.lt (h : EngR w p E F) : ∀ k, F k → k < w.heap.size := by obtain ⟨bv, dv, lv, av, wv, h⟩ := h; exact h.lt
theorem EngPost.of_up (h : EngR w p E F) (hu : Up w w') : EngPost p E F w w' := by
  obtain ⟨bv, dv, lv, av, wv, h⟩ := h
  exact ⟨⟨bv, dv, lv, av, wv, (h.up hu).mono (fun k hk => .inl hk) fun k hk => fx_ltp h.lt hu.size hk⟩, Below.chg F hu⟩
theorem EngPost.behind {w1 : World} (hl : ∀ k, F k → k < w.heap.size) (hu : Up w w1) (h : EngPost p E F w1 w') : EngPost p E F w w' := by
  obtain ⟨⟨bv, dv, lv, av, wv, h1⟩, h2⟩ := h
  have C : Chg F w w' := (Below.chg F hu).trans h2 fun _ _ e => e
  refine ⟨⟨bv, dv, lv, av, wv, h1.mono (fun k hk => ?_) fun k hk => fx_ltp hl C.size hk⟩, C⟩
  rcases hk with hk | hk
  · exact .inl hk
  · exact .inr ⟨Nat.le_trans hu.size hk.1, hk.2⟩
theorem EngPost.ahead {w1 : World} (hl : ∀ k, F k → k < w.heap.size) (h : EngPost p E F w w1) (hu : Up w1 w') : EngPost p E F w w' := by
  obtain ⟨⟨bv, dv, lv, av, wv, h1⟩, h2⟩ := h
  have C : Chg F w w' := h2.trans (Below.chg (fun _ => False) hu) fun _ _ e => e.elim
  exact ⟨⟨bv, dv, lv, av, wv, (h1.up hu).mono (fun k hk => fx_mono hu.size hk) fun k hk => fx_ltp hl C.size hk⟩, C⟩
/-- One behind the other. -/
theorem EngPost.next {w1 : World} {E' : Eng} (hl : ∀ k, F k → k < w.heap.size) (h : EngPost p E F w w1) (h2 : EngPost p E' (Fx F w w1) w1 w') : EngPost p E' F w w' := by
  obtain ⟨_, c1⟩ := h
  obtain ⟨⟨bv, dv, lv, av, wv, h1⟩, c2⟩ := h2
  have C : Chg F w w' := c1.trans c2 fun k hk e => by
    rcases e with e | e
    · exact e
    · omega
  refine ⟨⟨bv, dv, lv, av, wv, h1.mono (fun k hk => ?_) fun k hk => fx_ltp hl C.size hk⟩, C⟩
  rcases hk with (hk | hk) | hk
  · exact .inl hk
  · exact .inr ⟨hk.1, by have := c2.size; omega⟩
  · exact .inr ⟨by have := c1.size; omega, hk.2⟩
theorem Dj.newL {x x' y : Option Nat} (hd : Dj x y) (hn : ∀ k, x' = some k → x = some k ∨ ¬ F k) (hy : ∀ k, y = some k → F k) : Dj x' y := fun k hk e => by
  rcases hn k hk with e2 | e2
  · exact hd k e2 e
  · exact e2 (hy k e)
theorem Dj.newR {x y y' : Option Nat} (hd : Dj x y) (hn : ∀ k, y' = some k → y = some k ∨ ¬ F k) (hx : ∀ k, x = some k → F k) : Dj x y' := fun k hk e => by
  rcases hn k e with e2 | e2
  · exact hd k hk e2
  · exact e2 (hx k hk)
theorem EngP.putB {v' : Value} {l' : List (Int × Nat)} (h : EngP w p F E bv dv lv av wv) (C : Chg (fun j => bv.ownBlock = some j ∨ j = p) w w') (hb : Blk w' p [v', dv, lv, .int .i64 (E.fl : Int), .int .i64 (E.last : Int), av, wv] 44) (hown : w'.ownsRow 0 53 2 v' l'.length (pgC l')) (hF : ∀ k, F k → F' k) (hl : ∀ k, F' k → k < w'.heap.size)
    (hgF : ∀ k, v'.ownBlock = some k → F' k) (hd : ∀ k, v'.ownBlock = some k → bv.ownBlock = some k ∨ ¬ F k) : EngP w' p F' { E with buf := l' } v' dv lv av wv := by
  have tp := blk_ty h.blk
  refine ⟨hl, hF _ h.fp, hb, hown, hgF, own_chg h.do_ C fun k hk e => ?_, fun k hk => hF k (h.dF k hk), own_chg h.lo C fun k hk e => ?_, fun k hk => hF k (h.lF k hk), own_chg h.ao C fun k hk e => ?_, fun k hk => hF k (h.aF k hk), own_chg h.wo C fun k hk e => ?_, fun k hk => hF k (h.wF k hk), h.bd.newL hd h.dF, h.aw⟩
  · rcases e with e | e
    · exact h.bd k e hk
    · subst e; exact ((own_ty h.do_) _ hk).1.ne (E' := 44) (by decide) tp
  · rcases e with e | e
    · exact ((own_ty h.lo) k hk).1.ne (E' := 53) (by decide) ((own_ty h.bo) k e).1
    · subst e; exact ((own_ty h.lo) _ hk).1.ne (E' := 44) (by decide) tp
  · rcases e with e | e
    · exact ((own_ty h.ao) k hk).1.ne (E' := 53) (by decide) ((own_ty h.bo) k e).1
    · subst e; exact ((own_ty h.ao) _ hk).1.ne (E' := 44) (by decide) tp
  · rcases e with e | e
    · exact ((own_ty h.wo) k hk).1.ne (E' := 53) (by decide) ((own_ty h.bo) k e).1
    · subst e; exact ((own_ty h.wo) _ hk).1.ne (E' := 44) (by decide) tp
theorem EngP.putD {v' : Value} {l' : List (Int × Nat)} (h : EngP w p F E bv dv lv av wv) (C : Chg (fun j => dv.ownBlock = some j ∨ j = p) w w') (hb : Blk w' p [bv, v', lv, .int .i64 (E.fl : Int), .int .i64 (E.last : Int), av, wv] 44) (hown : w'.ownsRow 0 53 2 v' l'.length (pgC l')) (hF : ∀ k, F k → F' k) (hl : ∀ k, F' k → k < w'.heap.size)
    (hgF : ∀ k, v'.ownBlock = some k → F' k) (hd : ∀ k, v'.ownBlock = some k → dv.ownBlock = some k ∨ ¬ F k) : EngP w' p F' { E with dsk := l' } bv v' lv av wv := by
  have tp := blk_ty h.blk
  refine ⟨hl, hF _ h.fp, hb, own_chg h.bo C fun k hk e => ?_, fun k hk => hF k (h.bF k hk), hown, hgF, own_chg h.lo C fun k hk e => ?_, fun k hk => hF k (h.lF k hk), own_chg h.ao C fun k hk e => ?_, fun k hk => hF k (h.aF k hk), own_chg h.wo C fun k hk e => ?_, fun k hk => hF k (h.wF k hk), h.bd.newR hd h.bF, h.aw⟩
  · rcases e with e | e
    · exact h.bd k hk e
    · subst e; exact ((own_ty h.bo) _ hk).1.ne (E' := 44) (by decide) tp
  · rcases e with e | e
    · exact ((own_ty h.lo) k hk).1.ne (E' := 53) (by decide) ((own_ty h.do_) k e).1
    · subst e; exact ((own_ty h.lo) _ hk).1.ne (E' := 44) (by decide) tp
  · rcases e with e | e
    · exact ((own_ty h.ao) k hk).1.ne (E' := 53) (by decide) ((own_ty h.do_) k e).1
    · subst e; exact ((own_ty h.ao) _ hk).1.ne (E' := 44) (by decide) tp
  · rcases e with e | e
    · exact ((own_ty h.wo) k hk).1.ne (E' := 53) (by decide) ((own_ty h.do_) k e).1
    · subst e; exact ((own_ty h.wo) _ hk).1.ne (E' := 44) (by decide) tp
theorem EngP.putL {v' : Value} {l' : List Rec} (h : EngP w p F E bv dv lv av wv) (C : Chg (fun j => lv.ownBlock = some j ∨ j = p) w w') (hb : Blk w' p [bv, dv, v', .int .i64 (E.fl : Int), .int .i64 (E.last : Int), av, wv] 44) (hown : w'.ownsRow 0 50 5 v' l'.length (reC l')) (hF : ∀ k, F k → F' k) (hl : ∀ k, F' k → k < w'.heap.size)
    (hgF : ∀ k, v'.ownBlock = some k → F' k) (hd : ∀ k, v'.ownBlock = some k → lv.ownBlock = some k ∨ ¬ F k) : EngP w' p F' { E with log := l' } bv dv v' av wv := by
  have tp := blk_ty h.blk
  refine ⟨hl, hF _ h.fp, hb, own_chg h.bo C fun k hk e => ?_, fun k hk => hF k (h.bF k hk), own_chg h.do_ C fun k hk e => ?_, fun k hk => hF k (h.dF k hk), hown, hgF, own_chg h.ao C fun k hk e => ?_, fun k hk => hF k (h.aF k hk), own_chg h.wo C fun k hk e => ?_, fun k hk => hF k (h.wF k hk), h.bd, h.aw⟩
  · rcases e with e | e
    · exact ((own_ty h.bo) k hk).1.ne (E' := 50) (by decide) ((own_ty h.lo) k e).1
    · subst e; exact ((own_ty h.bo) _ hk).1.ne (E' := 44) (by decide) tp
  · rcases e with e | e
    · exact ((own_ty h.do_) k hk).1.ne (E' := 50) (by decide) ((own_ty h.lo) k e).1
    · subst e; exact ((own_ty h.do_) _ hk).1.ne (E' := 44) (by decide) tp
  · rcases e with e | e
    · exact ((own_ty h.ao) k hk).1.ne (E' := 50) (by decide) ((own_ty h.lo) k e).1
    · subst e; exact ((own_ty h.ao) _ hk).1.ne (E' := 44) (by decide) tp
  · rcases e with e | e
    · exact ((own_ty h.wo) k hk).1.ne (E' := 50) (by decide) ((own_ty h.lo) k e).1
    · subst e; exact ((own_ty h.wo) _ hk).1.ne (E' := 44) (by decide) tp
theorem EngP.putA {v' : Value} {l' : List Nat} (h : EngP w p F E bv dv lv av wv) (C : Chg (fun j => av.ownBlock = some j ∨ j = p) w w') (hb : Blk w' p [bv, dv, lv, .int .i64 (E.fl : Int), .int .i64 (E.last : Int), v', wv] 44) (hown : w'.ownsRow 0 3 1 v' l'.length (naC l')) (hF : ∀ k, F k → F' k) (hl : ∀ k, F' k → k < w'.heap.size)
    (hgF : ∀ k, v'.ownBlock = some k → F' k) (hd : ∀ k, v'.ownBlock = some k → av.ownBlock = some k ∨ ¬ F k) : EngP w' p F' { E with act := l' } bv dv lv v' wv := by
  have tp := blk_ty h.blk
  refine ⟨hl, hF _ h.fp, hb, own_chg h.bo C fun k hk e => ?_, fun k hk => hF k (h.bF k hk), own_chg h.do_ C fun k hk e => ?_, fun k hk => hF k (h.dF k hk), own_chg h.lo C fun k hk e => ?_, fun k hk => hF k (h.lF k hk), hown, hgF, own_chg h.wo C fun k hk e => ?_, fun k hk => hF k (h.wF k hk), h.bd, h.aw.newL hd h.wF⟩
  · rcases e with e | e
    · exact ((own_ty h.bo) k hk).1.ne (E' := 3) (by decide) ((own_ty h.ao) k e).1
    · subst e; exact ((own_ty h.bo) _ hk).1.ne (E' := 44) (by decide) tp
  · rcases e with e | e
    · exact ((own_ty h.do_) k hk).1.ne (E' := 3) (by decide) ((own_ty h.ao) k e).1
    · subst e; exact ((own_ty h.do_) _ hk).1.ne (E' := 44) (by decide) tp
  · rcases e with e | e
    · exact ((own_ty h.lo) k hk).1.ne (E' := 3) (by decide) ((own_ty h.ao) k e).1
    · subst e; exact ((own_ty h.lo) _ hk).1.ne (E' := 44) (by decide) tp
  · rcases e with e | e
    · exact h.aw k e hk
    · subst e; exact ((own_ty h.wo) _ hk).1.ne (E' := 44) (by decide) tp
theorem EngP.putW {v' : Value} {l' : List Nat} (h : EngP w p F E bv dv lv av wv) (C : Chg (fun j => wv.ownBlock = some j ∨ j = p) w w') (hb : Blk w' p [bv, dv, lv, .int .i64 (E.fl : Int), .int .i64 (E.last : Int), av, v'] 44) (hown : w'.ownsRow 0 3 1 v' l'.length (naC l')) (hF : ∀ k, F k → F' k) (hl : ∀ k, F' k → k < w'.heap.size)
    (hgF : ∀ k, v'.ownBlock = some k → F' k) (hd : ∀ k, v'.ownBlock = some k → wv.ownBlock = some k ∨ ¬ F k) : EngP w' p F' { E with wri := l' } bv dv lv av v' := by
  have tp := blk_ty h.blk
  refine ⟨hl, hF _ h.fp, hb, own_chg h.bo C fun k hk e => ?_, fun k hk => hF k (h.bF k hk), own_chg h.do_ C fun k hk e => ?_, fun k hk => hF k (h.dF k hk), own_chg h.lo C fun k hk e => ?_, fun k hk => hF k (h.lF k hk), own_chg h.ao C fun k hk e => ?_, fun k hk => hF k (h.aF k hk), hown, hgF, h.bd, h.aw.newR hd h.aF⟩
  · rcases e with e | e
    · exact ((own_ty h.bo) k hk).1.ne (E' := 3) (by decide) ((own_ty h.wo) k e).1
    · subst e; exact ((own_ty h.bo) _ hk).1.ne (E' := 44) (by decide) tp
  · rcases e with e | e
    · exact ((own_ty h.do_) k hk).1.ne (E' := 3) (by decide) ((own_ty h.wo) k e).1
    · subst e; exact ((own_ty h.do_) _ hk).1.ne (E' := 44) (by decide) tp
  · rcases e with e | e
    · exact ((own_ty h.lo) k hk).1.ne (E' := 3) (by decide) ((own_ty h.wo) k e).1
    · subst e; exact ((own_ty h.lo) _ hk).1.ne (E' := 44) (by decide) tp
  · rcases e with e | e
    · exact h.aw k hk e
    · subst e; exact ((own_ty h.ao) _ hk).1.ne (E' := 44) (by decide) tp
/-- A number of the engine's own is stored. -/
theorem EngP.putFl (h : EngP w p F E bv dv lv av wv) (m : Nat) : EngP (w.setCell ⟨p, 3, none⟩ (.int .i64 (m : Int))) p F { E with fl := m } bv dv lv av wv := by
  have C := chg_set w p 3 none (.int .i64 (m : Int))
  have tp := blk_ty h.blk
  exact ⟨fun k hk => Nat.lt_of_lt_of_le (h.lt k hk) C.size, h.fp, h.blk.set 3 _, own_chg h.bo C fun k hk e => by subst e; exact ((own_ty h.bo) _ hk).1.ne (E' := 44) (by decide) tp, h.bF, own_chg h.do_ C fun k hk e => by subst e; exact ((own_ty h.do_) _ hk).1.ne (E' := 44) (by decide) tp, h.dF,
    own_chg h.lo C fun k hk e => by subst e; exact ((own_ty h.lo) _ hk).1.ne (E' := 44) (by decide) tp, h.lF, own_chg h.ao C fun k hk e => by subst e; exact ((own_ty h.ao) _ hk).1.ne (E' := 44) (by decide) tp, h.aF, own_chg h.wo C fun k hk e => by subst e; exact ((own_ty h.wo) _ hk).1.ne (E' := 44) (by decide) tp, h.wF, h.bd, h.aw⟩
theorem EngP.putLast (h : EngP w p F E bv dv lv av wv) (m : Nat) : EngP (w.setCell ⟨p, 4, none⟩ (.int .i64 (m : Int))) p F { E with last := m } bv dv lv av wv := by
  have C := chg_set w p 4 none (.int .i64 (m : Int))
  have tp := blk_ty h.blk
  exact ⟨fun k hk => Nat.lt_of_lt_of_le (h.lt k hk) C.size, h.fp, h.blk.set 4 _, own_chg h.bo C fun k hk e => by subst e; exact ((own_ty h.bo) _ hk).1.ne (E' := 44) (by decide) tp, h.bF, own_chg h.do_ C fun k hk e => by subst e; exact ((own_ty h.do_) _ hk).1.ne (E' := 44) (by decide) tp, h.dF,
    own_chg h.lo C fun k hk e => by subst e; exact ((own_ty h.lo) _ hk).1.ne (E' := 44) (by decide) tp, h.lF, own_chg h.ao C fun k hk e => by subst e; exact ((own_ty h.ao) _ hk).1.ne (E' := 44) (by decide) tp, h.aF, own_chg h.wo C fun k hk e => by subst e; exact ((own_ty h.wo) _ hk).1.ne (E' := 44) (by decide) tp, h.wF, h.bd, h.aw⟩
end
end Go.Proofs.Ytjalpppmgoepiaa.Rv
