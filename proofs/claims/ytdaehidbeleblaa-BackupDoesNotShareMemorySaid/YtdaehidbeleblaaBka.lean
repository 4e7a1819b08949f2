/- The archive: the plain model, and how it lies in memory. -/
import Derived.Test.YtdaehidbeleblaaRwf
namespace Go.Proofs.Ytdaehidbeleblaa.Bk
open Go Go.RowKit Hp
open Mv (Val rowC rowC_len rowC_one rowC_get RM rmC rmC1 rmC_len rmC_get erR RecsR RecsS Srt pos has pos_le has_pos fm_len fm_take fm_drop fm_get fm_set fm_one)
set_option linter.unusedVariables false

abbrev Recs := List (ByteArray × List Val)
structure Ch where
  time : Int
  key : ByteArray
  row : List Val
abbrev Ba := Int × List Nat
structure Ar where
  recs : Recs
  refs : List Nat
  baks : List Ba
  chgs : List Ch
  earl : Int
def latA (A : Ar) : Int := match A.chgs.getLast? with
  | some c => if (A.baks.getLastD (0, [])).1 < c.time then c.time else (A.baks.getLastD (0, [])).1
  | none => (A.baks.getLastD (0, [])).1
def recD (recs : Recs) (i : Nat) : ByteArray × List Val := recs.getD i (ByteArray.empty, [])
/-- The records that a backup names. -/
def stB (recs : Recs) (idx : List Nat) : Recs := idx.map (recD recs)
def baseA (l : List Ba) (t : Int) : Ba := l.foldl (fun b x => if x.1 ≤ t then x else b) (0, [])
def chStep (s : Recs) (c : Ch) : Recs :=
  if has s c.key = true then (if c.row.length = 0 then s.take (pos s c.key) ++ s.drop (pos s c.key + 1) else s.set (pos s c.key) (c.key, c.row))
  else if c.row.length = 0 then s else s.take (pos s c.key) ++ (c.key, c.row) :: s.drop (pos s c.key)
/-- The changes from b (not with it) up to t, upon s. -/
def foldC (s : Recs) (b t : Int) (l : List Ch) : Recs := l.foldl (fun s c => if b < c.time ∧ c.time ≤ t then chStep s c else s) s
def stA (A : Ar) (t : Int) : Recs := foldC (stB A.recs (baseA A.baks t).2) (baseA A.baks t).1 t A.chgs
structure AOk (A : Ar) : Prop where
  ne : 0 < A.baks.length
  bl : A.baks.length ≤ 20
  cl : A.chgs.length ≤ 200
  rl : A.refs.length = A.recs.length
  big : A.recs.length ≤ 100000
  srt : ∀ b ∈ A.baks, Srt (stB A.recs b.2)
  il : ∀ b ∈ A.baks, b.2.length ≤ 40
  ilt : ∀ b ∈ A.baks, ∀ i ∈ b.2, i < A.recs.length
  cnt : ∀ i, i < A.refs.length → A.refs.getD i 0 = (A.baks.flatMap Prod.snd).count i
  ch : ∀ c ∈ A.chgs, c.key.size ≤ 24 ∧ c.row.length ≤ 6
  rr : ∀ r ∈ A.recs, r.1.size ≤ 24 ∧ r.2.length ≤ 6

/-! ### In memory -/
structure BM where
  time : Int
  iv : Value
  idx : List Nat
structure CM where
  time : Int
  key : ByteArray
  rv : Value
  row : List Val
def icN (l : List Nat) : List Value := l.map fun i : Nat => .int .i64 (i : Int)
def bmC1 (b : BM) : List Value := [.int .i64 b.time, b.iv]
def cmC1 (c : CM) : List Value := [.int .i64 c.time, .string c.key, c.rv]
def bmC (l : List BM) : List Value := l.flatMap bmC1
def cmC (l : List CM) : List Value := l.flatMap cmC1
def erB (b : BM) : Ba := (b.time, b.idx)
def erCh (c : CM) : Ch := ⟨c.time, c.key, c.row⟩
theorem bmC_len (l : List BM) : (bmC l).length = l.length * 2 := fm_len (k := 2) (fun _ => rfl) l
theorem cmC_len (l : List CM) : (cmC l).length = l.length * 3 := fm_len (k := 3) (fun _ => rfl) l
theorem icN_len (l : List Nat) : (icN l).length = l.length := by simp [icN]
theorem icN_get (l : List Nat) (i : Nat) (h : i < l.length) : (icN l)[i]? = some (.int .i64 (l[i] : Int)) := by simp [icN, h]
theorem bmC_get (l : List BM) (i : Nat) (h : i < l.length) : (bmC l)[i * 2]? = some (.int .i64 l[i].time) ∧ (bmC l)[i * 2 + 1]? = some l[i].iv :=
  ⟨by have := fm_get (f := bmC1) (k := 2) (fun _ => rfl) l i 0 h (by omega); simpa [bmC, bmC1] using this, by have := fm_get (f := bmC1) (k := 2) (fun _ => rfl) l i 1 h (by omega); simpa [bmC, bmC1] using this⟩
theorem cmC_get (l : List CM) (i : Nat) (h : i < l.length) : (cmC l)[i * 3]? = some (.int .i64 l[i].time) ∧ (cmC l)[i * 3 + 1]? = some (.string l[i].key) ∧ (cmC l)[i * 3 + 2]? = some l[i].rv :=
  ⟨by have := fm_get (f := cmC1) (k := 3) (fun _ => rfl) l i 0 h (by omega); simpa [cmC, cmC1] using this, by have := fm_get (f := cmC1) (k := 3) (fun _ => rfl) l i 1 h (by omega); simpa [cmC, cmC1] using this,
    by have := fm_get (f := cmC1) (k := 3) (fun _ => rfl) l i 2 h (by omega); simpa [cmC, cmC1] using this⟩
structure ArP (w : World) (p : Nat) (F : Nat → Prop) (rs : List RM) (refs : List Nat) (bs : List BM) (cs : List CM) (e : Int) (rv fv bv cv : Value) : Prop where
  lt : ∀ k, F k → k < w.heap.size
  fp : F p
  blk : Blk w p [rv, fv, bv, cv, .int .i64 e] 59
  rcs : w.ownsRow 0 40 2 rv rs.length (rmC rs)
  rcsF : ∀ k, rv.ownBlock = some k → F k
  ref : w.ownsRow 0 3 1 fv refs.length (icN refs)
  refF : ∀ k, fv.ownBlock = some k → F k
  bak : w.ownsRow 0 55 2 bv bs.length (bmC bs)
  bakF : ∀ k, bv.ownBlock = some k → F k
  chg : w.ownsRow 0 63 3 cv cs.length (cmC cs)
  chgF : ∀ k, cv.ownBlock = some k → F k
  rrow : ∀ r ∈ rs, w.ownsRow 0 34 3 r.rv r.row.length (rowC r.row)
  rrowF : ∀ r ∈ rs, ∀ k, r.rv.ownBlock = some k → F k
  crow : ∀ c ∈ cs, w.ownsRow 0 34 3 c.rv c.row.length (rowC c.row)
  crowF : ∀ c ∈ cs, ∀ k, c.rv.ownBlock = some k → F k
  idx : ∀ b ∈ bs, w.ownsRow 0 3 1 b.iv b.idx.length (icN b.idx)
  idxF : ∀ b ∈ bs, ∀ k, b.iv.ownBlock = some k → F k
  dis : ∀ b ∈ bs, ∀ k, b.iv.ownBlock = some k → fv.ownBlock ≠ some k
theorem ArP.chg' {S : Nat → Prop} {w w' : World} {p : Nat} {F : Nat → Prop} {rs : List RM} {refs : List Nat} {bs : List BM} {cs : List CM} {e : Int} {rv fv bv cv : Value} (h : ArP w p F rs refs bs cs e rv fv bv cv) (hc : Chg S w w') (hS : ∀ k, F k → ¬ S k) :
    ArP w' p F rs refs bs cs e rv fv bv cv :=
  ⟨fun k hk => Nat.lt_of_lt_of_le (h.lt k hk) hc.size, h.fp, h.blk.chg hc (hS _ h.fp), own_chg h.rcs hc fun k hk => hS k (h.rcsF k hk), h.rcsF, own_chg h.ref hc fun k hk => hS k (h.refF k hk), h.refF, own_chg h.bak hc fun k hk => hS k (h.bakF k hk), h.bakF,
    own_chg h.chg hc fun k hk => hS k (h.chgF k hk), h.chgF, fun r hr => own_chg (h.rrow r hr) hc fun k hk => hS k (h.rrowF r hr k hk), h.rrowF, fun c hm => own_chg (h.crow c hm) hc fun k hk => hS k (h.crowF c hm k hk), h.crowF,
    fun b hb => own_chg (h.idx b hb) hc fun k hk => hS k (h.idxF b hb k hk), h.idxF, h.dis⟩
theorem ArP.up {w w' : World} {p : Nat} {F : Nat → Prop} {rs : List RM} {refs : List Nat} {bs : List BM} {cs : List CM} {e : Int} {rv fv bv cv : Value} (h : ArP w p F rs refs bs cs e rv fv bv cv) (hu : Up w w') : ArP w' p F rs refs bs cs e rv fv bv cv :=
  h.chg' (Below.chg (fun _ => False) hu) fun _ _ e => e
theorem ArP.mono {w : World} {p : Nat} {F F' : Nat → Prop} {rs : List RM} {refs : List Nat} {bs : List BM} {cs : List CM} {e : Int} {rv fv bv cv : Value} (h : ArP w p F rs refs bs cs e rv fv bv cv) (hF : ∀ k, F k → F' k) (hl : ∀ k, F' k → k < w.heap.size) :
    ArP w p F' rs refs bs cs e rv fv bv cv :=
  ⟨hl, hF _ h.fp, h.blk, h.rcs, fun k hk => hF k (h.rcsF k hk), h.ref, fun k hk => hF k (h.refF k hk), h.bak, fun k hk => hF k (h.bakF k hk), h.chg, fun k hk => hF k (h.chgF k hk), h.rrow, fun r hr k hk => hF k (h.rrowF r hr k hk), h.crow, fun c hc k hk => hF k (h.crowF c hc k hk),
    h.idx, fun b hb k hk => hF k (h.idxF b hb k hk), h.dis⟩
/-- The archive A lies at p, in the blocks of F. -/
def ArR (w : World) (p : Nat) (A : Ar) (F : Nat → Prop) : Prop :=
  ∃ rs bs cs rv fv bv cv, ArP w p F rs A.refs bs cs A.earl rv fv bv cv ∧ rs.map erR = A.recs ∧ bs.map erB = A.baks ∧ cs.map erCh = A.chgs ∧ AOk A
def ArPost (p : Nat) (A' : Ar) (F : Nat → Prop) (w w' : World) : Prop := ArR w' p A' (Fx F w w') ∧ Chg F w w'
theorem ArR.up {w w' : World} {p : Nat} {A : Ar} {F : Nat → Prop} (h : ArR w p A F) (hu : Up w w') : ArR w' p A F := by
  obtain ⟨rs, bs, cs, rv, fv, bv, cv, h, r⟩ := h; exact ⟨rs, bs, cs, rv, fv, bv, cv, h.up hu, r⟩
theorem ArR.chg {S : Nat → Prop} {w w' : World} {p : Nat} {A : Ar} {F : Nat → Prop} (h : ArR w p A F) (hc : Chg S w w') (hS : ∀ k, F k → ¬ S k) : ArR w' p A F := by
  obtain ⟨rs, bs, cs, rv, fv, bv, cv, h, r⟩ := h; exact ⟨rs, bs, cs, rv, fv, bv, cv, h.chg' hc hS, r⟩
theorem ArR.mono {w : World} {p : Nat} {A : Ar} {F F' : Nat → Prop} (h : ArR w p A F) (hF : ∀ k, F k → F' k) (hl : ∀ k, F' k → k < w.heap.size) : ArR w p A F' := by
  obtain ⟨rs, bs, cs, rv, fv, bv, cv, h, r⟩ := h; exact ⟨rs, bs, cs, rv, fv, bv, cv, h.mono hF hl, r⟩
theorem ArR.lt {w : World} {p : Nat} {A : Ar} {F : Nat → Prop} (h : ArR w p A F) : ∀ k, F k → k < w.heap.size := by obtain ⟨_, _, _, _, _, _, _, h, _⟩ := h; exact h.lt
theorem ArR.ok {w : World} {p : Nat} {A : Ar} {F : Nat → Prop} (h : ArR w p A F) : AOk A := by obtain ⟨_, _, _, _, _, _, _, _, _, _, _, h⟩ := h; exact h
end Go.Proofs.Ytdaehidbeleblaa.Bk
