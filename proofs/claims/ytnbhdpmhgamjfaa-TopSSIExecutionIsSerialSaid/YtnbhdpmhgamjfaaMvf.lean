/- joined: Mvd, Mve, Mvf -/
import Derived.Test.YtnbhdpmhgamjfaaMvc
import Derived.IntWalk
import Derived.RangeFuncNested
import Derived.RangeFuncBound
import Derived.RangeFuncCalls
import Derived.RangeFuncLeaves
import Derived.RangeFuncBox
import Derived.Shelf.Abstract
import Derived.Shelf.RegionOpen
import Derived.OwnWalkIn
import Derived.TacticsInMore
import Derived.LoopNIn
import Derived.LoopIn
/- The multi-version store: the plain model, and how it lies in memory. -/
namespace Go.Proofs.Ytnbhdpmhgamjfaa.Mv
open Go Go.RowKit Hp So
set_option linter.unusedVariables false

/-! ### Rows of k cells an element -/
section
variable {α : Type} {f : α → List Value} {k : Nat}
theorem fm_len (hk : ∀ a, (f a).length = k) (l : List α) : (l.flatMap f).length = l.length * k := by
  induction l with
  | nil => simp
  | cons a l ih => rw [List.flatMap_cons, List.length_append, ih, hk, List.length_cons, Nat.add_mul, Nat.one_mul, Nat.add_comm]
theorem fm_take (hk : ∀ a, (f a).length = k) (l : List α) (i : Nat) : (l.flatMap f).take (i * k) = (l.take i).flatMap f := by
  induction l generalizing i with
  | nil => simp
  | cons a l ih => cases i with
    | zero => simp
    | succ i => rw [List.take_succ_cons, List.flatMap_cons, List.flatMap_cons, Nat.add_mul, Nat.one_mul, Nat.add_comm, ← hk a, List.take_length_add_append, hk a, ih]
theorem fm_drop (hk : ∀ a, (f a).length = k) (l : List α) (i : Nat) : (l.flatMap f).drop (i * k) = (l.drop i).flatMap f := by
  induction l generalizing i with
  | nil => simp
  | cons a l ih => cases i with
    | zero => simp
    | succ i => rw [List.drop_succ_cons, List.flatMap_cons, Nat.add_mul, Nat.one_mul, Nat.add_comm, ← hk a, List.drop_length_add_append, hk a, ih]
theorem fm_get (hk : ∀ a, (f a).length = k) (l : List α) (i j : Nat) (h : i < l.length) (hj : j < k) : (l.flatMap f)[i * k + j]? = (f l[i])[j]? := by
  induction l generalizing i with
  | nil => simp at h
  | cons a l ih => cases i with
    | zero => rw [List.flatMap_cons, Nat.zero_mul, Nat.zero_add, List.getElem?_append_left (by rw [hk]; exact hj)]; rfl
    | succ i =>
      rw [List.flatMap_cons, List.getElem?_append_right (by rw [hk, Nat.add_mul]; omega), hk, show (i + 1) * k + j - k = i * k + j by rw [Nat.add_mul]; omega, ih i (by simpa using h)]
      rfl
theorem fm_set (hk : ∀ a, (f a).length = k) (l : List α) (i j : Nat) (h : i < l.length) (hj : j < k) (u : Value) (a : α) (ha : f a = (f l[i]).set j u) : (l.flatMap f).set (i * k + j) u = (l.set i a).flatMap f := by
  induction l generalizing i with
  | nil => simp at h
  | cons b l ih => cases i with
    | zero => rw [List.flatMap_cons, Nat.zero_mul, Nat.zero_add, List.set_append_left _ _ (by rw [hk]; exact hj), List.set_cons_zero, List.flatMap_cons, ha]; rfl
    | succ i =>
      rw [List.flatMap_cons, List.set_append_right _ _ (by rw [hk, Nat.add_mul]; omega), hk, show (i + 1) * k + j - k = i * k + j by rw [Nat.add_mul]; omega, ih i (by simpa using h) (by simpa using ha), List.set_cons_succ, List.flatMap_cons]
theorem fm_one (h1 : ∀ a, ∀ u ∈ f a, u.oneCell' = true) (l : List α) : ∀ u ∈ l.flatMap f, u.oneCell' = true := fun u hu => by
  obtain ⟨a, _, ha⟩ := List.mem_flatMap.1 hu
  exact h1 a u ha
end

/-! ### Plain -/
structure Val where
  kind : Int
  int : Int
  text : ByteArray
structure PV where
  ts : Int
  tomb : Bool
  row : List Val
abbrev PC := ByteArray × List PV
def valC (v : Val) : List Value := [.int .i64 v.kind, .int .i64 v.int, .string v.text]
def rowC (l : List Val) : List Value := l.flatMap valC
theorem rowC_len (l : List Val) : (rowC l).length = l.length * 3 := fm_len (k := 3) (fun _ => rfl) l
theorem rowC_one (l : List Val) : ∀ u ∈ rowC l, u.oneCell' = true := fm_one (fun a u hu => by unfold valC at hu; simp at hu; rcases hu with rfl | rfl | rfl <;> rfl) l
section
variable {α : Type}
def pos (l : List (ByteArray × α)) (k : ByteArray) : Nat := l.findIdx fun e => !decide (slt e.1 k)
theorem pos_le (l : List (ByteArray × α)) (k : ByteArray) : pos l k ≤ l.length := List.findIdx_le_length
theorem pos_eq {l : List (ByteArray × α)} {k : ByteArray} {i : Nat} (hi : i ≤ l.length) (h1 : ∀ j (h : j < l.length), j < i → slt l[j].1 k) (h2 : ∀ h : i < l.length, ¬ slt l[i].1 k) : pos l k = i := by
  unfold pos
  by_cases h : i < l.length
  · exact (List.findIdx_eq h).2 ⟨by simpa using h2 h, fun j hj => by simpa using h1 j (by omega) hj⟩
  · obtain rfl : i = l.length := by omega
    rw [List.findIdx_eq_length]
    intro e he
    obtain ⟨j, hj, rfl⟩ := List.getElem_of_mem he
    simpa using h1 j hj hj
theorem pos_lt {l : List (ByteArray × α)} {k : ByteArray} {j : Nat} (hj : j < pos l k) : ∃ h : j < l.length, slt l[j].1 k := by
  have hl := pos_le l k
  refine ⟨by omega, ?_⟩
  have := List.not_of_lt_findIdx hj
  simpa using this
theorem pos_ge {l : List (ByteArray × α)} {k : ByteArray} (h : pos l k < l.length) : ¬ slt l[pos l k].1 k := by
  have := List.findIdx_getElem (w := h)
  simp only [Bool.not_eq_true', decide_eq_false_iff_not] at this
  exact this
def has (l : List (ByteArray × α)) (k : ByteArray) : Bool := decide (∃ h : pos l k < l.length, l[pos l k].1 = k)
theorem has_pos {l : List (ByteArray × α)} {k : ByteArray} (h : has l k = true) : ∃ hp : pos l k < l.length, l[pos l k].1 = k := of_decide_eq_true h
def Srt (l : List (ByteArray × α)) : Prop := l.Pairwise fun a b => slt a.1 b.1
theorem Srt.get {l : List (ByteArray × α)} (h : Srt l) {i j : Nat} (hi : i < j) (hj : j < l.length) : slt l[i].1 l[j].1 := List.pairwise_iff_getElem.1 h i j (by omega) hj hi
theorem Srt.ins {l : List (ByteArray × α)} (h : Srt l) (k : ByteArray) (x : α) (hh : has l k = false) : Srt (l.take (pos l k) ++ (k, x) :: l.drop (pos l k)) := by
  have hp := pos_le l k
  have gt : ∀ e ∈ l.drop (pos l k), slt k e.1 := fun e he => by
    obtain ⟨j, hj, rfl⟩ := List.getElem_of_mem he
    rw [List.getElem_drop]
    rw [List.length_drop] at hj
    have h0 : pos l k < l.length := by omega
    have h1 : slt k l[pos l k].1 := by
      rcases Decidable.em (slt k l[pos l k].1) with h | h
      · exact h
      · exact absurd (decide_eq_true (⟨h0, slt_total (pos_ge h0) h⟩ : ∃ h : pos l k < l.length, l[pos l k].1 = k)) (by simpa [has] using hh)
    cases j with
    | zero => exact h1
    | succ j => exact slt_trans h1 (h.get (by omega) (by omega))
  have lt : ∀ e ∈ l.take (pos l k), slt e.1 k := fun e he => by
    obtain ⟨j, hj, rfl⟩ := List.getElem_of_mem he
    rw [List.length_take] at hj
    rw [List.getElem_take]
    exact (pos_lt (by omega)).2
  refine List.pairwise_append.2 ⟨h.sublist (List.take_sublist _ _), List.pairwise_cons.2 ⟨fun e he => gt e he, h.sublist (List.drop_sublist _ _)⟩, fun a ha b hb => ?_⟩
  rcases List.mem_cons.1 hb with rfl | hb
  · exact lt a ha
  · exact slt_trans (lt a ha) (gt b hb)
theorem Srt.set {l : List (ByteArray × α)} (h : Srt l) (i : Nat) (hi : i < l.length) (x : α) : Srt (l.set i (l[i].1, x)) := by
  refine List.pairwise_iff_getElem.2 fun a b ha hb hab => ?_
  have := h.get hab (by simpa using hb)
  simp only [List.getElem_set]
  split <;> split
  · omega
  · rename_i h1 h2; subst h1; exact this
  · rename_i h1 h2; subst h2; exact this
  · exact this
theorem mono_scmp {l : List (ByteArray × α)} (h : Srt l) (t : ByteArray) (d : ByteArray × α) : ∀ a b, a ≤ b → b < l.length → scmp (l.getD b d).1 t < 0 → scmp (l.getD a d).1 t < 0 := fun a b hab hb hc => by
  rw [scmp_lt] at *
  rcases Nat.lt_or_ge a b with h1 | h1
  · refine slt_trans ?_ hc
    have := h.get h1 hb
    simpa [List.getD, hb, Nat.lt_trans h1 hb] using this
  · obtain rfl : a = b := by omega
    exact hc
theorem pos_get {l : List (ByteArray × α)} {t : ByteArray} {x : α} {i : Nat} (hi : i ≤ l.length) (h1 : ∀ j, j < i → scmp (l.getD j (t, x)).1 t < 0) (h2 : ∀ j, i ≤ j → j < l.length → 0 ≤ scmp (l.getD j (t, x)).1 t) :
    pos l t = i ∧ (decide (i < l.length) && decide (scmp (l.getD i (t, x)).1 t = 0)) = has l t := by
  have gd : ∀ j (h : j < l.length), l.getD j (t, x) = l[j] := fun j h => by simp [List.getD, h]
  have e : pos l t = i := pos_eq hi (fun j hj hji => by have := h1 j hji; rw [gd j hj, scmp_lt] at this; exact this) (fun h hs => by have := h2 i (Nat.le_refl _) h; rw [gd i h] at this; rw [← scmp_lt] at hs; omega)
  refine ⟨e, ?_⟩
  unfold has
  by_cases h : i < l.length
  · have hpl : pos l t < l.length := by omega
    have eg : l[pos l t] = l[i] := by congr 1
    rw [gd i h]
    by_cases hq : l[i].1 = t
    · have hs : scmp l[i].1 t = 0 := scmp_eq.2 hq
      have hh : ∃ h : pos l t < l.length, l[pos l t].1 = t := ⟨hpl, by rw [eg]; exact hq⟩
      rw [decide_eq_true h, decide_eq_true hs, decide_eq_true hh]; rfl
    · have hs : ¬ scmp l[i].1 t = 0 := fun e => hq (scmp_eq.1 e)
      have hh : ¬ ∃ h : pos l t < l.length, l[pos l t].1 = t := fun ⟨a, b⟩ => hq (by rw [eg] at b; exact b)
      rw [decide_eq_false hs, decide_eq_false hh, Bool.and_false]
  · have hh : ¬ ∃ h : pos l t < l.length, l[pos l t].1 = t := fun ⟨a, _⟩ => h (by omega)
    rw [decide_eq_false h, decide_eq_false hh, Bool.false_and]
end
/-- How many versions there are. -/
def cnt (l : List PC) : Nat := (l.map fun c => c.2.length).sum
def lastTs (l : List PV) : Int := (l.getLastD ⟨0, false, []⟩).ts
structure SOk (l : List PC) (hz : Int) : Prop where
  srt : Srt l
  ne : ∀ c ∈ l, c.2 ≠ []
  cnt : cnt l ≤ 400
  key : ∀ c ∈ l, c.1.size ≤ 24
  row : ∀ c ∈ l, ∀ v ∈ c.2, v.row.length ≤ 6
  ts : ∀ c ∈ l, ∀ v ∈ c.2, 1 ≤ v.ts ∧ v.ts ≤ 1099511627776
  inc : ∀ c ∈ l, c.2.Pairwise fun a b => a.ts < b.ts
def addL (l : List PC) (hz : Int) (k : ByteArray) (v : PV) : List PC × Int :=
  if 24 < k.size ∨ 6 < v.row.length then (l, 2)
  else if v.ts < 1 ∨ 1099511627776 < v.ts then (l, 1)
  else if v.ts ≤ hz then (l, 21)
  else if has l k = true ∧ v.ts ≤ lastTs (l.getD (pos l k) (k, [])).2 then (l, 6)
  else if cnt l = 400 then (l, 18)
  else if has l k = true then (l.set (pos l k) (k, (l.getD (pos l k) (k, [])).2 ++ [v]), 0)
  else (l.take (pos l k) ++ (k, [v]) :: l.drop (pos l k), 0)
/-- The newest version of at most ts. -/
def visL (l : List PV) (ts : Int) : Option PV := l.reverse.find? fun v => decide (v.ts ≤ ts)
/-- The row that a reader at ts sees. -/
def vis1 (l : List PV) (ts : Int) : Option (List Val) := match visL l ts with | some v => if v.tomb then none else some v.row | none => none
def getL (l : List PC) (hz : Int) (k : ByteArray) (ts : Int) : List Val × Int :=
  if ts < hz then ([], 21) else if has l k = true then (match vis1 (l.getD (pos l k) (k, [])).2 ts with | some r => (r, 0) | none => ([], 4)) else ([], 4)
def latL (l : List PC) (k : ByteArray) : Int := if has l k = true then lastTs (l.getD (pos l k) (k, [])).2 else 0
def scanL (l : List PC) (ts : Int) : List (ByteArray × List Val) := l.filterMap fun c => (vis1 c.2 ts).map fun r => (c.1, r)

/-! ### In memory -/
structure MV where
  ts : Int
  tomb : Bool
  rv : Value
  row : List Val
structure MC where
  key : ByteArray
  vv : Value
  vs : List MV
def mvC1 (v : MV) : List Value := [.int .i64 v.ts, .bool v.tomb, v.rv]
def mcC1 (c : MC) : List Value := [.string c.key, c.vv]
def mvC (l : List MV) : List Value := l.flatMap mvC1
def mcC (l : List MC) : List Value := l.flatMap mcC1
def erV (v : MV) : PV := ⟨v.ts, v.tomb, v.row⟩
def erC (c : MC) : PC := (c.key, c.vs.map erV)
theorem mvC_len (l : List MV) : (mvC l).length = l.length * 3 := fm_len (k := 3) (fun _ => rfl) l
theorem mcC_len (l : List MC) : (mcC l).length = l.length * 2 := fm_len (k := 2) (fun _ => rfl) l
/-- A row that the store holds. -/
def RowIn (w : World) (F : Nat → Prop) (rv : Value) (row : List Val) : Prop := Src w 3 rv row.length (rowC row) ∧ ∀ a n c, rv = .slice (some a) n c → F a.block ∧ Ty w a.block 47
structure StP (w : World) (p : Nat) (cs : List MC) (hz : Int) (F : Nat → Prop) (cv : Value) : Prop where
  lt : ∀ k, F k → k < w.heap.size
  fp : F p
  blk : Blk w p [cv, .int .i64 hz] 83
  chn : w.ownsRow 0 97 2 cv cs.length (mcC cs)
  chF : ∀ k, cv.ownBlock = some k → F k
  vrs : ∀ c ∈ cs, w.ownsRow 0 94 3 c.vv c.vs.length (mvC c.vs)
  vrF : ∀ c ∈ cs, ∀ k, c.vv.ownBlock = some k → F k
  vrd : cs.Pairwise fun a b => ∀ k, a.vv.ownBlock = some k → b.vv.ownBlock ≠ some k
  rws : ∀ c ∈ cs, ∀ v ∈ c.vs, RowIn w F v.rv v.row
def StR (w : World) (p : Nat) (l : List PC) (hz : Int) (F : Nat → Prop) : Prop := ∃ cv cs, StP w p cs hz F cv ∧ cs.map erC = l ∧ SOk l hz
theorem ty_chg {S : Nat → Prop} {w w' : World} {b : Nat} {E : TypeId} (h : Ty w b E) (hc : Chg S w w') (hn : ¬ S b) : Ty w' b E := by
  obtain ⟨c, fz, h'⟩ := h
  exact ⟨c, fz, (hc.block b (Ty.lt ⟨c, fz, h'⟩) hn).trans h'⟩
theorem RowIn.chg {S F F' : Nat → Prop} {w w' : World} {rv : Value} {row : List Val} (h : RowIn w F rv row) (hc : Chg S w w') (hS : ∀ k, F k → Ty w k 47 → ¬ S k ∧ F' k) : RowIn w' F' rv row :=
  ⟨h.1.chg hc fun a n c e => (hS _ (h.2 a n c e).1 (h.2 a n c e).2).1, fun a n c e => ⟨(hS _ (h.2 a n c e).1 (h.2 a n c e).2).2, ty_chg (h.2 a n c e).2 hc (hS _ (h.2 a n c e).1 (h.2 a n c e).2).1⟩⟩
theorem StP.chg {S : Nat → Prop} {w w' : World} {p : Nat} {cs : List MC} {hz : Int} {F : Nat → Prop} {cv : Value} (h : StP w p cs hz F cv) (hc : Chg S w w') (hS : ∀ k, F k → ¬ S k) : StP w' p cs hz F cv :=
  ⟨fun k hk => Nat.lt_of_lt_of_le (h.lt k hk) hc.size, h.fp, h.blk.chg hc (hS _ h.fp), own_chg h.chn hc fun k hk => hS k (h.chF k hk), h.chF, fun c hcm => own_chg (h.vrs c hcm) hc fun k hk => hS k (h.vrF c hcm k hk), h.vrF, h.vrd,
    fun c hcm v hv => (h.rws c hcm v hv).chg hc fun k hk _ => ⟨hS k hk, hk⟩⟩
theorem RowIn.mono {F F' : Nat → Prop} {w : World} {rv : Value} {row : List Val} (h : RowIn w F rv row) (hF : ∀ k, F k → F' k) : RowIn w F' rv row := ⟨h.1, fun a n c e => ⟨hF _ (h.2 a n c e).1, (h.2 a n c e).2⟩⟩
theorem StP.mono {w : World} {p : Nat} {cs : List MC} {hz : Int} {F F' : Nat → Prop} {cv : Value} (h : StP w p cs hz F cv) (hF : ∀ k, F k → F' k) (hl : ∀ k, F' k → k < w.heap.size) : StP w p cs hz F' cv :=
  ⟨hl, hF _ h.fp, h.blk, h.chn, fun k hk => hF _ (h.chF k hk), h.vrs, fun c hc k hk => hF _ (h.vrF c hc k hk), h.vrd, fun c hc v hv => (h.rws c hc v hv).mono hF⟩
theorem StR.chg {S : Nat → Prop} {w w' : World} {p : Nat} {l : List PC} {hz : Int} {F : Nat → Prop} (h : StR w p l hz F) (hc : Chg S w w') (hS : ∀ k, F k → ¬ S k) : StR w' p l hz F := by
  obtain ⟨cv, cs, h, r⟩ := h; exact ⟨cv, cs, h.chg hc hS, r⟩
theorem StR.mono {w : World} {p : Nat} {l : List PC} {hz : Int} {F F' : Nat → Prop} (h : StR w p l hz F) (hF : ∀ k, F k → F' k) (hl : ∀ k, F' k → k < w.heap.size) : StR w p l hz F' := by
  obtain ⟨cv, cs, h, r⟩ := h; exact ⟨cv, cs, h.mono hF hl, r⟩
theorem StR.up {w w' : World} {p : Nat} {l : List PC} {hz : Int} {F : Nat → Prop} (h : StR w p l hz F) (hc : Up w w') : StR w' p l hz F := h.chg (Below.chg (fun _ => False) hc) fun _ _ e => e
theorem StR.lt {w : World} {p : Nat} {l : List PC} {hz : Int} {F : Nat → Prop} (h : StR w p l hz F) : ∀ k, F k → k < w.heap.size := by obtain ⟨_, _, h, _⟩ := h; exact h.lt
theorem fx_lt {F : Nat → Prop} {w w' : World} (h : ∀ k, F k → k < w.heap.size) (hs : w.heap.size ≤ w'.heap.size) : ∀ k, Fx F w w' k → k < w'.heap.size := fun k hk => by
  rcases hk with hk | hk
  · have := h k hk; omega
  · exact hk.2
theorem fx_up {F : Nat → Prop} {w w1 w' : World} (h : w.heap.size ≤ w1.heap.size) : ∀ k, Fx F w1 w' k → Fx F w w' k := fun k hk => by
  rcases hk with hk | hk
  · exact .inl hk
  · exact .inr ⟨by omega, hk.2⟩
theorem StR.upP {w w' : World} {p : Nat} {l : List PC} {hz : Int} {F : Nat → Prop} (h : StR w p l hz F) (hu : Up w w') : StR w' p l hz (Fx F w w') ∧ Chg F w w' :=
  ⟨(h.up hu).mono (fun _ hk => .inl hk) (fx_lt h.lt hu.size), Below.chg F hu⟩
/-- Behind a first step that only grows. -/
theorem StR.behind {w w1 w' : World} {p : Nat} {l' : List PC} {hz' : Int} {F : Nat → Prop} (hl : ∀ k, F k → k < w.heap.size) (hu : Up w w1) (h : StR w' p l' hz' (Fx F w1 w') ∧ Chg F w1 w') : StR w' p l' hz' (Fx F w w') ∧ Chg F w w' :=
  ⟨h.1.mono (fx_up hu.size) (fx_lt hl (Nat.le_trans hu.size h.2.size)), (Below.chg F hu).trans h.2 fun _ _ e => e⟩
theorem StR.two {w a b : World} {p : Nat} {l : List PC} {hz : Int} {F : Nat → Prop} (hl : ∀ k, F k → k < w.heap.size) (h1 : Chg F w a) (h : StR b p l hz (Fx (Fx F w a) a b) ∧ Chg (Fx F w a) a b) : StR b p l hz (Fx F w b) ∧ Chg F w b := by
  have hC : Chg F w b := h1.trans h.2 fun k hk e => by
    rcases e with e | e
    · exact e
    · omega
  refine ⟨h.1.mono (fun k hk => ?_) (fx_lt hl hC.size), hC⟩
  have := h1.size; have := h.2.size
  rcases hk with (hk | hk) | hk
  · exact .inl hk
  · exact .inr ⟨hk.1, by omega⟩
  · exact .inr ⟨by omega, hk.2⟩

end Go.Proofs.Ytnbhdpmhgamjfaa.Mv

/- The multi-version store: search, Len, Latest. -/
namespace Go.Proofs.Ytnbhdpmhgamjfaa.Mv
open Go Go.RowKit Hp So
set_option linter.unusedVariables false

theorem mcC_get (cs : List MC) (i : Nat) (h : i < cs.length) : (mcC cs)[i * 2]? = some (.string cs[i].key) ∧ (mcC cs)[i * 2 + 1]? = some cs[i].vv :=
  ⟨by have := fm_get (f := mcC1) (k := 2) (fun _ => rfl) cs i 0 h (by omega); simpa [mcC, mcC1] using this, by have := fm_get (f := mcC1) (k := 2) (fun _ => rfl) cs i 1 h (by omega); simpa [mcC, mcC1] using this⟩
theorem mvC_get (l : List MV) (i : Nat) (h : i < l.length) : (mvC l)[i * 3]? = some (.int .i64 l[i].ts) ∧ (mvC l)[i * 3 + 1]? = some (.bool l[i].tomb) ∧ (mvC l)[i * 3 + 2]? = some l[i].rv :=
  ⟨by have := fm_get (f := mvC1) (k := 3) (fun _ => rfl) l i 0 h (by omega); simpa [mvC, mvC1] using this, by have := fm_get (f := mvC1) (k := 3) (fun _ => rfl) l i 1 h (by omega); simpa [mvC, mvC1] using this, by have := fm_get (f := mvC1) (k := 3) (fun _ => rfl) l i 2 h (by omega); simpa [mvC, mvC1] using this⟩
/-- A cell of a row that is owned. -/
theorem own_cell {w : World} {base : Nat} {E : TypeId} {size : Nat} {v : Value} {n : Nat} {xs : List Value} (h : w.ownsRow base E size v n xs) (hn : 0 < n) : ∃ g cap, v = .slice (some ⟨g, 0, none⟩) n cap ∧ n ≤ cap ∧ cap ≤ 9223372036854775807 ∧ ∀ j u, xs[j]? = some u → At w g j u := by
  obtain ⟨g, cap, hv, h1, h2, h3, h4, _⟩ := own_some h hn
  exact ⟨g, cap, hv, h1, h2, fun j u hj => ⟨h3, h4 j u hj⟩⟩
theorem vs_len_le {l : List PC} {i : Nat} (h : i < l.length) : l[i].2.length ≤ cnt l := by
  unfold cnt
  induction l generalizing i with
  | nil => simp at h
  | cons a l ih => cases i with
    | zero => simp
    | succ i => have := ih (i := i) (by simpa using h); simp at *; omega
theorem len_le_cnt {l : List PC} (h : ∀ c ∈ l, c.2 ≠ []) : l.length ≤ cnt l := by
  unfold cnt
  induction l with
  | nil => simp
  | cons a l ih =>
    have h1 : 0 < a.2.length := List.length_pos_iff.2 (h a (List.mem_cons_self ..))
    have h2 := ih fun c hc => h c (List.mem_cons_of_mem _ hc)
    simp only [List.map_cons, List.sum_cons, List.length_cons]
    omega
theorem SOk.len {l : List PC} {hz : Int} (h : SOk l hz) : l.length ≤ 400 := Nat.le_trans (len_le_cnt h.ne) h.cnt

set_option maxRecDepth 100000 in
set_option maxHeartbeats 1000000 in
theorem search_any (p : Nat) (l : List PC) (hz : Int) (F : Nat → Prop) (t : ByteArray) (w : World) (h : StR w p l hz F) :
    Calls Try.prog 40 #[.pointer (some ⟨p, 0, none⟩), .string t] w fun e w' => e = .returned (.tuple #[.int .i64 (pos l t : Nat), .bool (has l t)]) ∧ Up w w' := by
  obtain ⟨cv, cs, h, rfl, ok⟩ := h
  have hlen := ok.len
  rw [List.length_map] at hlen
  have hc : Calls Try.prog 59 #[cv, .string t, .func (.func 60) #[] #[]] w fun e w' => e = .returned (.tuple #[.int .i64 (pos (cs.map erC) t : Nat), .bool (has (cs.map erC) t)]) ∧ Up w w' := by
    refine (bs_any cv cs.length (mcC cs) (fun i => ((cs.map erC).getD i (t, [])).1) (fun i => (cs.map (·.vv)).getD i undef) t w h.chn (by omega) (fun i hi => ?_) (fun a b h1 h2 h3 => mono_scmp ok.srt t (t, []) a b h1 (by rw [List.length_map]; exact h2) h3)).mono ?_
    · have := mcC_get cs i hi
      simp only [List.getD, List.getElem?_map, List.getElem?_eq_getElem hi, Option.map_some, Option.getD_some]
      exact this
    · rintro e w' ⟨i, h1, h2, h3, rfl, h4⟩
      obtain ⟨e1, e2⟩ := pos_get (l := cs.map erC) (x := []) (by rw [List.length_map]; exact h1) h2 (fun j a b => h3 j a (by rw [List.length_map] at b; exact b))
      rw [List.length_map] at e2
      exact ⟨by rw [e1, ← e2], h4⟩
  have c0 := h.blk.cell 0
  rw [show ([cv, .int .i64 hz])[0]? = some cv from rfl] at c0
  clear h ok
  go_enter Try.func40, Try.ntmps40
  go_wp2_with (go_at_call 59; refine hc.mono ?_; rintro e w' ⟨rfl, h4⟩)
  go_wp2
  go_ret2
  exact ⟨rfl, h4⟩

theorem cnt_take (l : List PC) (k : Nat) (h : k < l.length) : cnt (l.take (k + 1)) = cnt (l.take k) + l[k].2.length := by
  unfold cnt
  rw [List.take_succ_eq_append_getElem h, List.map_append, List.sum_append]; simp
theorem cnt_take_le (l : List PC) (k : Nat) : cnt (l.take k) ≤ cnt l := by
  have : cnt l = cnt (l.take k) + cnt (l.drop k) := by unfold cnt; rw [← List.sum_append, ← List.map_append, List.take_append_drop]
  omega

set_option maxRecDepth 100000 in
set_option maxHeartbeats 1000000 in
theorem len_any (p : Nat) (l : List PC) (hz : Int) (F : Nat → Prop) (w : World) (h : StR w p l hz F) :
    Calls Try.prog 26 #[.pointer (some ⟨p, 0, none⟩)] w fun e w' => e = .returned (.int .i64 (cnt l)) ∧ Up w w' := by
  obtain ⟨cv, cs, h, hl, ok⟩ := h
  have hlen := ok.len
  have hcnt := ok.cnt
  have hll : cs.length = l.length := by rw [← hl, List.length_map]
  have HL := Lib.hid hl
  have HLL := Lib.hid hll
  have HS := Lib.hid h
  obtain ⟨a, cap, rfl, _, _, _⟩ := own_form h.chn
  have c0 := h.blk.cell 0
  rw [show ([Value.slice a cs.length cap, .int .i64 hz])[0]? = some (.slice a cs.length cap) from rfl] at c0
  clear h ok hl
  have hlb : cs.length ≤ 400 := by omega
  clear hll
  go_enter Try.func26, Try.ntmps26
  go_wp2
  go_loopw [3, 11] (fun n i wr => ∃ k : Nat, k ≤ cs.length ∧ i = .int .i64 k ∧ n = .int .i64 (cnt (l.take k) : Nat) ∧ Up w wr) (fun _ i _ => cs.length - (intOf i).toNat)
  case atStart => exact ⟨0, by omega, rfl, rfl, Up.refl _⟩
  case round =>
    obtain ⟨k, hk, rfl, rfl, hu⟩ := hrel
    have HU := Lib.hid hu
    have hb := cnt_take_le l k
    clear hu
    by_cases hlt : k < cs.length
    · obtain ⟨g, cap', hv, _, _, hc⟩ := own_cell HS.out.chn (by omega)
      simp only [Value.slice.injEq] at hv
      obtain ⟨rfl, _, rfl⟩ := hv
      have e0 := ((hc _ _ (mcC_get cs k hlt).1).grow HU.out).2
      have e1 := ((hc _ _ (mcC_get cs k hlt).2).grow HU.out).2
      obtain ⟨a1, c1, hv1, q1, q2, _⟩ := own_form (HS.out.vrs _ (List.getElem_mem hlt))
      rw [hv1] at e1
      have hkl : k < l.length := by rw [← HLL.out]; exact hlt
      have CT := Lib.hid (cnt_take l k hkl)
      have hb2 := cnt_take_le l (k + 1)
      have VL : Hid (l[k].2.length = cs[k].vs.length) := by
        have : l[k] = erC cs[k] := by simp [← HL.out]
        unfold Hid; rw [this]; simp [erC]
      rw [VL.out] at CT
      rw [CT.out] at hb2
      have HV1 := Lib.hid hv1
      generalize cs[k].vs.length = m at e1 CT q1 hb2 VL
      generalize cs[k].key = key at e0
      have CK : Hid ((cnt (l.take k) : Int) + (m : Int) = ((cnt (l.take (k + 1)) : Nat) : Int)) := by unfold Hid; rw [CT.out]; omega
      generalize cnt (l.take k) = x at hb2 hb CK ⊢
      clear hc hv1
      go_wp2
      go_roundw
      case rel => exact ⟨k + 1, by omega, by go_num, by rw [← CK.out], HU.out.alloc _⟩
      case measure => simp [intOf]; omega
    · obtain rfl : k = cs.length := by omega
      have CE : Hid (cnt (l.take cs.length) = cnt l) := by unfold Hid; rw [HLL.out, List.take_length]
      go_wp2
      go_ret
      exact ⟨by rw [CE.out]; rfl, HU.out⟩

/-- What lies at chain i. -/
theorem StP.at_ {w : World} {p : Nat} {cs : List MC} {hz : Int} {F : Nat → Prop} {cv : Value} (h : StP w p cs hz F cv) (ok : SOk (cs.map erC) hz) {i : Nat} (hi : i < cs.length) :
    ∃ g cap g1 cap1 m x, cv = .slice (some ⟨g, 0, none⟩) cs.length cap ∧ 0 < m ∧ m ≤ 400 ∧ m ≤ cap1 ∧ cap1 ≤ 9223372036854775807 ∧ cs.length ≤ cap ∧ cap ≤ 9223372036854775807 ∧ At w g (i * 2) (.string cs[i].key) ∧ At w g (i * 2 + 1) (.slice (some ⟨g1, 0, none⟩) m cap1) ∧ At w g1 ((m - 1) * 3) (.int .i64 x) ∧ x = lastTs (cs[i].vs.map erV) := by
  obtain ⟨g, cap, hv, hle, hcap, hcc⟩ := own_cell h.chn (by omega)
  have hil : i < (cs.map erC).length := by rw [List.length_map]; exact hi
  have el : (cs.map erC)[i] = erC cs[i] := by simp
  have hne : 0 < cs[i].vs.length := by
    have := ok.ne _ (List.getElem_mem hil)
    rw [el] at this
    exact List.length_pos_iff.2 fun e => this (by simp [erC, e])
  obtain ⟨g1, cap1, hv1, hm1, hcap1, hc1⟩ := own_cell (h.vrs _ (List.getElem_mem hi)) hne
  have hml : cs[i].vs.length ≤ 400 := by
    have h1 := vs_len_le hil
    rw [el] at h1
    have h2 := ok.cnt
    have h3 : (erC cs[i]).2.length = cs[i].vs.length := by simp [erC]
    omega
  refine ⟨g, cap, g1, cap1, cs[i].vs.length, cs[i].vs[cs[i].vs.length - 1].ts, hv, hne, hml, hm1, hcap1, hle, hcap, hcc _ _ (mcC_get cs i hi).1, by rw [← hv1]; exact hcc _ _ (mcC_get cs i hi).2, hc1 _ _ (mvC_get cs[i].vs (cs[i].vs.length - 1) (by omega)).1, ?_⟩
  unfold lastTs
  rw [List.getLastD_eq_getLast?, List.getLast?_map, List.getLast?_eq_getElem?, List.getElem?_eq_getElem (by omega)]
  rfl
set_option maxRecDepth 100000 in
set_option maxHeartbeats 2000000 in
theorem latest_any (p : Nat) (l : List PC) (hz : Int) (F : Nat → Prop) (t : ByteArray) (w : World) (h : StR w p l hz F) :
    Calls Try.prog 25 #[.pointer (some ⟨p, 0, none⟩), .string t] w fun e w' => e = .returned (.int .i64 (latL l t)) ∧ Up w w' := by
  have hc := search_any p l hz F t w h
  cases hh : has l t with
  | false =>
    rw [hh] at hc
    have HLT : Hid (latL l t = 0) := by unfold Hid latL; simp [hh]
    go_enter Try.func25, Try.ntmps25
    go_wp2_with (go_at_call 40; refine hc.mono ?_; rintro e w' ⟨rfl, h4⟩)
    go_ret
    exact ⟨by rw [HLT.out]; rfl, h4⟩
  | true =>
    rw [hh] at hc
    obtain ⟨cv, cs, h, rfl, ok⟩ := h
    obtain ⟨hp, _⟩ := has_pos hh
    have hlen := ok.len
    rw [List.length_map] at hp hlen
    obtain ⟨g, cap, g1, cap1, m, x, rfl, hm0, hm1, hm2, hm3, _, hcap, k0, e1, e2, hx⟩ := h.at_ ok (i := pos (cs.map erC) t) hp
    have HLT : Hid (latL (cs.map erC) t = x) := by
      unfold Hid latL
      rw [if_pos hh, hx]
      simp [List.getD, hp, erC]
    have c0 := h.blk.cell 0
    rw [show ([Value.slice (some ⟨g, 0, none⟩) cs.length cap, .int .i64 hz])[0]? = some (.slice (some ⟨g, 0, none⟩) cs.length cap) from rfl] at c0
    have C0 : Hid (At w p 0 (.slice (some ⟨g, 0, none⟩) cs.length cap)) := ⟨h.blk.lt, c0⟩
    have E1 := Lib.hid e1
    have E2 := Lib.hid e2
    generalize pos (cs.map erC) t = ps at *
    have b0 : (0 : Int) ≤ (m : Int) - 1 := by omega
    have b1 : (m : Int) - 1 < (m : Int) := by omega
    have b2 : ((m : Int) - 1).toNat = m - 1 := by omega
    have b3 : (ps : Int) < (cs.length : Int) := by omega
    have B4 : Hid (IntKind.i64.wrap ((m : Int) - 1) = (m : Int) - 1) := IntWalk.i64_in _ (by omega)
    clear hx c0 e1 e2 h ok hh k0
    go_enter Try.func25, Try.ntmps25
    go_wp2_with (go_at_call 40; refine hc.mono ?_; rintro e w1 ⟨rfl, h4⟩; have c0 := (C0.out.grow h4).2; have e1 := (E1.out.grow h4).2; have e2 := (E2.out.grow h4).2; have H4 := Lib.hid h4; clear h4)
    have B4' := B4.out
    go_quiet (fail)
    clear B4'
    go_wp2
    go_ret
    exact ⟨by rw [HLT.out]; rfl, H4.out.drewN _⟩

end Go.Proofs.Ytnbhdpmhgamjfaa.Mv

/- slices.Backward over versions: the iterator's contract. -/
namespace Go.Proofs.Ytnbhdpmhgamjfaa.Mv
open Go Go.RowKit Go.Shelf Hp
set_option linter.unusedVariables false
attribute [local go_sem] Oper.semAt_some

/-- The first k of len - 1, len - 2, .., 0. -/
def dn (len k : Nat) : List (Fin len) := ((List.finRange len).reverse).take k
theorem dn_succ {len k : Nat} (h : k < len) : dn len (k + 1) = dn len k ++ [⟨len - 1 - k, by omega⟩] := by
  unfold dn
  rw [List.take_succ_eq_append_getElem (by simpa using h)]
  congr 2
  rw [List.getElem_reverse]
  apply Fin.ext
  simp
theorem dn_len {len k : Nat} (h : k ≤ len) : (dn len k).length = k := by simp [dn, h]
theorem mem_dn {len k : Nat} (h : k ≤ len) {x : Fin len} : x ∈ dn len k ↔ len - k ≤ x.1 := by
  induction k with
  | zero => simp [dn]
  | succ k ih =>
    rw [dn_succ (by omega), List.mem_append, ih (by omega), List.mem_singleton]
    constructor
    · rintro (h | rfl)
      · omega
      · show len - (k + 1) ≤ len - 1 - k; omega
    · intro h
      by_cases e : len - k ≤ x.1
      · exact .inl e
      · exact .inr (Fin.ext (show x.1 = len - 1 - k by omega))

set_option maxRecDepth 100000 in
set_option maxHeartbeats 2000000 in
theorem back1_in (F : Fence) (n : Nat) (hF : F.fn 73) (hro : F.round = none) (hn : 1 ≤ n) (l Bs n₀ len cap : Nat) (a : Option Addr) (c0 c1 c2 : Nat → Value) (hlen : len ≤ cap) (hcap : cap ≤ 9223372036854775807) (hBn : Bs < n₀) (J Jx : List (Fin len) → World → Prop)
    (hY : ∀ pre x W, J pre W → pre.length < len → YieldAt F (n - 1) Try.prog l #[.int .i64 (x.1 : Int), .agg #[c0 x.1, c1 x.1, c2 x.1]] W fun e W' =>
      (e = .returned (.bool true) ∧ J (pre ++ [x]) W' ∧ Below n₀ W W') ∨ (e = .returned (.bool false) ∧ Jx (pre ++ [x]) W'))
    (W : World) (hBs : W.cell? ⟨Bs, 0, none⟩ = some (.slice a len cap)) (hc : ∀ j, j < len → ∃ b off, a = some ⟨b, off, none⟩ ∧ b < n₀ ∧ W.cell? ⟨b, off + j * 3, none⟩ = some (c0 j) ∧ W.cell? ⟨b, off + j * 3 + 1, none⟩ = some (c1 j) ∧ W.cell? ⟨b, off + j * 3 + 2, none⟩ = some (c2 j)) (h0 : J [] W) :
    CallsIn F n Try.prog 73 #[.func (.yield l) #[] #[], .pointer (some ⟨Bs, 0, none⟩)] W fun e W' => (∃ v, e = .returned v) ∧
      ((∃ ys, ys = dn len len ∧ J ys W') ∨ (∃ pre, (∃ k, k ≤ len ∧ pre = dn len k) ∧ Jx pre W')) := by
  have HC := Lib.hid hc
  clear hc
  refine callsIn_of_wp Try.func73 rfl hF ?_ hro
  simp only [Try.ntmps73, List.size_toArray, List.length_cons, List.length_nil, Nat.reduceAdd, Nat.reduceSub, Array.replicate_succ, Array.replicate_zero, List.push_toArray, List.append_toArray, List.nil_append, List.cons_append]
  gi_wp2
  gi_loopw [3] (fun i wr => ∃ k : Nat, k ≤ len ∧ i = .int .i64 ((len : Int) - 1 - k) ∧ J (dn len k) wr ∧ Below n₀ W wr)
    (fun i _ => (intOf i + 1).toNat)
  case atStart => exact ⟨0, Nat.zero_le _, by simp, h0, Below.refl _ _⟩
  case round =>
    obtain ⟨k, hk, rfl, hJs, hnx⟩ := hrel
    have hbx := (hnx.cell (p := ⟨Bs, 0, none⟩) hBn).trans hBs
    by_cases hlt : k < len
    · obtain ⟨x, hx⟩ : ∃ x : Nat, x = len - 1 - k := ⟨_, rfl⟩
      have hxl : x < len := by omega
      have hxe : (len : Int) - 1 - k = (x : Int) := by omega
      obtain ⟨b, off, rfl, hb, e0, e1, e2⟩ := HC.out x hxl
      have f0 := (hnx.cell (p := ⟨b, off + x * 3, none⟩) hb).trans e0
      have f1 := (hnx.cell (p := ⟨b, off + x * 3 + 1, none⟩) hb).trans e1
      have f2 := (hnx.cell (p := ⟨b, off + x * 3 + 2, none⟩) hb).trans e2
      have DS := Lib.hid (dn_succ hlt)
      have XE : Hid ((⟨len - 1 - k, by omega⟩ : Fin len) = ⟨x, hxl⟩) := Fin.ext hx.symm
      rw [XE.out] at DS
      obtain ⟨fn, tmps, assign, body, hy, hR⟩ := hY _ ⟨x, hxl⟩ wr hJs (by rw [dn_len hk]; exact hlt)
      dsimp only at hy
      rw [hxe]
      have HX := Lib.hid hx
      have hk1 : k + x + 1 ≤ len := by omega
      have hk2 : len ≤ k + x + 1 := by omega
      clear e0 e1 e2 hBs hx hxe XE
      gi_wp2
      refine hR.mono ?_
      rintro e W3 (⟨rfl, hJ3, hk3⟩ | ⟨rfl, hJx3⟩)
      · gi_wp2
        go_roundw
        case rel =>
          refine ⟨k + 1, by omega, ?_, by rw [DS.out]; exact hJ3, hnx.trans hk3⟩
          rw [show (len : Int) - 1 - ((k + 1 : Nat) : Int) = (x : Int) - 1 by omega]
        case measure => simp [intOf]
      · gi_wp2
        refine bodyPost_ret (results_none rfl _ _ _) rfl ?_
        exact ⟨⟨_, rfl⟩, .inr ⟨_, ⟨k + 1, by omega, DS.out.symm⟩, hJx3⟩⟩
    · obtain rfl : k = len := by omega
      have hm1 : (k : Int) - 1 - k = -1 := by omega
      rw [hm1]
      gi_wp2
      go_end0
      exact ⟨⟨_, rfl⟩, .inl ⟨_, rfl, hJs⟩⟩

theorem back_stops (F : Fence) (n : Nat) (hF : F.fn 73) (hro : F.round = none) (hn : 1 ≤ n) (Bs len cap : Nat) (a : Option Addr) (c0 c1 c2 : Nat → Value) (hlen : len ≤ cap) (hcap : cap ≤ 9223372036854775807) (w : World) (hBs : Bs < w.heap.size)
    (hc : w.cell? ⟨Bs, 0, none⟩ = some (.slice a len cap)) (hcs : ∀ j, j < len → ∃ b off, a = some ⟨b, off, none⟩ ∧ b < w.heap.size ∧ w.cell? ⟨b, off + j * 3, none⟩ = some (c0 j) ∧ w.cell? ⟨b, off + j * 3 + 1, none⟩ = some (c1 j) ∧ w.cell? ⟨b, off + j * 3 + 2, none⟩ = some (c2 j)) :
    SeqStopsK F n Try.prog 73 #[.pointer (some ⟨Bs, 0, none⟩)] (fun x : Fin len => #[.int .i64 (x.1 : Int), .agg #[c0 x.1, c1 x.1, c2 x.1]]) (Below w.heap.size) (fun ys => ys = dn len len)
      (fun pre => ∃ k, k ≤ len ∧ pre = dn len k) len w := fun l J Jx W hW _ _ hY h0 =>
  back1_in F n hF hro hn l Bs w.heap.size len cap a c0 c1 c2 hlen hcap hBs J Jx hY W ((hW.cell (p := ⟨Bs, 0, none⟩) hBs).trans hc)
    (fun j hj => by
      obtain ⟨b, off, ha, hb, h1, h2, h3⟩ := hcs j hj
      exact ⟨b, off, ha, hb, (hW.cell (p := ⟨b, off + j * 3, none⟩) hb).trans h1, (hW.cell (p := ⟨b, off + j * 3 + 1, none⟩) hb).trans h2, (hW.cell (p := ⟨b, off + j * 3 + 2, none⟩) hb).trans h3⟩) h0
/-- What is owned is so still, where another block than cells has turned. -/
theorem own_noncells {w w' : World} {base : Nat} {E : TypeId} {size : Nat} {v : Value} {n : Nat} {xs : List Value} {row : Option Nat} (h : w.ownsRow base E size v n xs) (hg : w.grownBy w' row) (hr : ∀ r, row = some r → ∃ o : Obj, w.heap[r]? = some o ∧ o.isCells = false) : w'.ownsRow base E size v n xs := by
  refine h.kept hg ?_
  rcases hv : v.ownBlock with _ | k
  · exact .inl rfl
  · refine .inr fun e => ?_
    obtain ⟨o, ho, hc⟩ := hr k e.symm
    obtain ⟨c, fz, ht⟩ := ((own_ty h) k hv).1
    rw [ht] at ho
    cases ho
    cases hc
end Go.Proofs.Ytnbhdpmhgamjfaa.Mv
