/- The multi-version store: the plain model, and how it lies in memory. -/
import Derived.Test.YtinmpodnfofmdaaMvc
namespace Go.Proofs.Ytinmpodnfofmdaa.Mv
open Go Go.RowKit Hp So
set_option linter.unusedVariables false

/-! ### Rows of k cells an element -/
section
variable {α : Type} {f : α → List Value} {k : Nat}
theorem fm_len (hk : ∀ a, (f a).length = k) (l : List α) : (l.flatMap f).length = l.length * k := by
  induction l with
  | nil => simp
  | cons a l ih => rw [List.flatMap_cons, List.length_append, ih, hk, List.length_cons, Nat.add_mul, Nat.one_mul, Nat.add_comm]
theorem fm_take (hk : ∀ a, (f a).length = k) (l : List α) (i : Nat) : (l.flatMap f).take (i * k) = (l.take i).flatMap f := by
  induction l generalizing i with
  | nil => simp
  | cons a l ih => cases i with
    | zero => simp
    | succ i => rw [List.take_succ_cons, List.flatMap_cons, List.flatMap_cons, Nat.add_mul, Nat.one_mul, Nat.add_comm, ← hk a, List.take_length_add_append, hk a, ih]
theorem fm_drop (hk : ∀ a, (f a).length = k) (l : List α) (i : Nat) : (l.flatMap f).drop (i * k) = (l.drop i).flatMap f := by
  induction l generalizing i with
  | nil => simp
  | cons a l ih => cases i with
    | zero => simp
    | succ i => rw [List.drop_succ_cons, List.flatMap_cons, Nat.add_mul, Nat.one_mul, Nat.add_comm, ← hk a, List.drop_length_add_append, hk a, ih]
theorem fm_get (hk : ∀ a, (f a).length = k) (l : List α) (i j : Nat) (h : i < l.length) (hj : j < k) : (l.flatMap f)[i * k + j]? = (f l[i])[j]? := by
  induction l generalizing i with
  | nil => simp at h
  | cons a l ih => cases i with
    | zero => rw [List.flatMap_cons, Nat.zero_mul, Nat.zero_add, List.getElem?_append_left (by rw [hk]; exact hj)]; rfl
    | succ i =>
      rw [List.flatMap_cons, List.getElem?_append_right (by rw [hk, Nat.add_mul]; omega), hk, show (i + 1) * k + j - k = i * k + j by rw [Nat.add_mul]; omega, ih i (by simpa using h)]
      rfl
theorem fm_set (hk : ∀ a, (f a).length = k) (l : List α) (i j : Nat) (h : i < l.length) (hj : j < k) (u : Value) (a : α) (ha : f a = (f l[i]).set j u) : (l.flatMap f).set (i * k + j) u = (l.set i a).flatMap f := by
  induction l generalizing i with
  | nil => simp at h
  | cons b l ih => cases i with
    | zero => rw [List.flatMap_cons, Nat.zero_mul, Nat.zero_add, List.set_append_left _ _ (by rw [hk]; exact hj), List.set_cons_zero, List.flatMap_cons, ha]; rfl
    | succ i =>
      rw [List.flatMap_cons, List.set_append_right _ _ (by rw [hk, Nat.add_mul]; omega), hk, show (i + 1) * k + j - k = i * k + j by rw [Nat.add_mul]; omega, ih i (by simpa using h) (by simpa using ha), List.set_cons_succ, List.flatMap_cons]
theorem fm_one (h1 : ∀ a, ∀ u ∈ f a, u.oneCell' = true) (l : List α) : ∀ u ∈ l.flatMap f, u.oneCell' = true := fun u hu => by
  obtain ⟨a, _, ha⟩ := List.mem_flatMap.1 hu
  exact h1 a u ha
end

/-! ### Plain -/
structure Val where
  kind : Int
  int : Int
  text : ByteArray
structure PV where
  ts : Int
  tomb : Bool
  row : List Val
abbrev PC := ByteArray × List PV
def valC (v : Val) : List Value := [.int .i64 v.kind, .int .i64 v.int, .string v.text]
def rowC (l : List Val) : List Value := l.flatMap valC
theorem rowC_len (l : List Val) : (rowC l).length = l.length * 3 := fm_len (k := 3) (fun _ => rfl) l
theorem rowC_one (l : List Val) : ∀ u ∈ rowC l, u.oneCell' = true := fm_one (fun a u hu => by unfold valC at hu; simp at hu; rcases hu with rfl | rfl | rfl <;> rfl) l
section
variable {α : Type}
def pos (l : List (ByteArray × α)) (k : ByteArray) : Nat := l.findIdx fun e => !decide (slt e.1 k)
theorem pos_le (l : List (ByteArray × α)) (k : ByteArray) : pos l k ≤ l.length := List.findIdx_le_length
theorem pos_eq {l : List (ByteArray × α)} {k : ByteArray} {i : Nat} (hi : i ≤ l.length) (h1 : ∀ j (h : j < l.length), j < i → slt l[j].1 k) (h2 : ∀ h : i < l.length, ¬ slt l[i].1 k) : pos l k = i := by
  unfold pos
  by_cases h : i < l.length
  · exact (List.findIdx_eq h).2 ⟨by simpa using h2 h, fun j hj => by simpa using h1 j (by omega) hj⟩
  · obtain rfl : i = l.length := by omega
    rw [List.findIdx_eq_length]
    intro e he
    obtain ⟨j, hj, rfl⟩ := List.getElem_of_mem he
    simpa using h1 j hj hj
theorem pos_lt {l : List (ByteArray × α)} {k : ByteArray} {j : Nat} (hj : j < pos l k) : ∃ h : j < l.length, slt l[j].1 k := by
  have hl := pos_le l k
  refine ⟨by omega, ?_⟩
  have := List.not_of_lt_findIdx hj
  simpa using this
theorem pos_ge {l : List (ByteArray × α)} {k : ByteArray} (h : pos l k < l.length) : ¬ slt l[pos l k].1 k := by
  have := List.findIdx_getElem (w := h)
  simp only [Bool.not_eq_true', decide_eq_false_iff_not] at this
  exact this
def has (l : List (ByteArray × α)) (k : ByteArray) : Bool := decide (∃ h : pos l k < l.length, l[pos l k].1 = k)
theorem has_pos {l : List (ByteArray × α)} {k : ByteArray} (h : has l k = true) : ∃ hp : pos l k < l.length, l[pos l k].1 = k := of_decide_eq_true h
def Srt (l : List (ByteArray × α)) : Prop := l.Pairwise fun a b => slt a.1 b.1
theorem Srt.get {l : List (ByteArray × α)} (h : Srt l) {i j : Nat} (hi : i < j) (hj : j < l.length) : slt l[i].1 l[j].1 := List.pairwise_iff_getElem.1 h i j (by omega) hj hi
theorem Srt.ins {l : List (ByteArray × α)} (h : Srt l) (k : ByteArray) (x : α) (hh : has l k = false) : Srt (l.take (pos l k) ++ (k, x) :: l.drop (pos l k)) := by
  have hp := pos_le l k
  have gt : ∀ e ∈ l.drop (pos l k), slt k e.1 := fun e he => by
    obtain ⟨j, hj, rfl⟩ := List.getElem_of_mem he
    rw [List.getElem_drop]
    rw [List.length_drop] at hj
    have h0 : pos l k < l.length := by omega
    have h1 : slt k l[pos l k].1 := by
      rcases Decidable.em (slt k l[pos l k].1) with h | h
      · exact h
      · exact absurd (decide_eq_true (⟨h0, slt_total (pos_ge h0) h⟩ : ∃ h : pos l k < l.length, l[pos l k].1 = k)) (by simpa [has] using hh)
    cases j with
    | zero => exact h1
    | succ j => exact slt_trans h1 (h.get (by omega) (by omega))
  have lt : ∀ e ∈ l.take (pos l k), slt e.1 k := fun e he => by
    obtain ⟨j, hj, rfl⟩ := List.getElem_of_mem he
    rw [List.length_take] at hj
    rw [List.getElem_take]
    exact (pos_lt (by omega)).2
  refine List.pairwise_append.2 ⟨h.sublist (List.take_sublist _ _), List.pairwise_cons.2 ⟨fun e he => gt e he, h.sublist (List.drop_sublist _ _)⟩, fun a ha b hb => ?_⟩
  rcases List.mem_cons.1 hb with rfl | hb
  · exact lt a ha
  · exact slt_trans (lt a ha) (gt b hb)
theorem Srt.set {l : List (ByteArray × α)} (h : Srt l) (i : Nat) (hi : i < l.length) (x : α) : Srt (l.set i (l[i].1, x)) := by
  refine List.pairwise_iff_getElem.2 fun a b ha hb hab => ?_
  have := h.get hab (by simpa using hb)
  simp only [List.getElem_set]
  split <;> split
  · omega
  · rename_i h1 h2; subst h1; exact this
  · rename_i h1 h2; subst h2; exact this
  · exact this
theorem mono_scmp {l : List (ByteArray × α)} (h : Srt l) (t : ByteArray) (d : ByteArray × α) : ∀ a b, a ≤ b → b < l.length → scmp (l.getD b d).1 t < 0 → scmp (l.getD a d).1 t < 0 := fun a b hab hb hc => by
  rw [scmp_lt] at *
  rcases Nat.lt_or_ge a b with h1 | h1
  · refine slt_trans ?_ hc
    have := h.get h1 hb
    simpa [List.getD, hb, Nat.lt_trans h1 hb] using this
  · obtain rfl : a = b := by omega
    exact hc
theorem pos_get {l : List (ByteArray × α)} {t : ByteArray} {x : α} {i : Nat} (hi : i ≤ l.length) (h1 : ∀ j, j < i → scmp (l.getD j (t, x)).1 t < 0) (h2 : ∀ j, i ≤ j → j < l.length → 0 ≤ scmp (l.getD j (t, x)).1 t) :
    pos l t = i ∧ (decide (i < l.length) && decide (scmp (l.getD i (t, x)).1 t = 0)) = has l t := by
  have gd : ∀ j (h : j < l.length), l.getD j (t, x) = l[j] := fun j h => by simp [List.getD, h]
  have e : pos l t = i := pos_eq hi (fun j hj hji => by have := h1 j hji; rw [gd j hj, scmp_lt] at this; exact this) (fun h hs => by have := h2 i (Nat.le_refl _) h; rw [gd i h] at this; rw [← scmp_lt] at hs; omega)
  refine ⟨e, ?_⟩
  unfold has
  by_cases h : i < l.length
  · have hpl : pos l t < l.length := by omega
    have eg : l[pos l t] = l[i] := by congr 1
    rw [gd i h]
    by_cases hq : l[i].1 = t
    · have hs : scmp l[i].1 t = 0 := scmp_eq.2 hq
      have hh : ∃ h : pos l t < l.length, l[pos l t].1 = t := ⟨hpl, by rw [eg]; exact hq⟩
      rw [decide_eq_true h, decide_eq_true hs, decide_eq_true hh]; rfl
    · have hs : ¬ scmp l[i].1 t = 0 := fun e => hq (scmp_eq.1 e)
      have hh : ¬ ∃ h : pos l t < l.length, l[pos l t].1 = t := fun ⟨a, b⟩ => hq (by rw [eg] at b; exact b)
      rw [decide_eq_false hs, decide_eq_false hh, Bool.and_false]
  · have hh : ¬ ∃ h : pos l t < l.length, l[pos l t].1 = t := fun ⟨a, _⟩ => h (by omega)
    rw [decide_eq_false h, decide_eq_false hh, Bool.false_and]
end
/-- How many versions there are. -/
def cnt (l : List PC) : Nat := (l.map fun c => c.2.length).sum
def lastTs (l : List PV) : Int := (l.getLastD ⟨0, false, []⟩).ts
structure SOk (l : List PC) (hz : Int) : Prop where
  srt : Srt l
  ne : ∀ c ∈ l, c.2 ≠ []
  cnt : cnt l ≤ 400
  key : ∀ c ∈ l, c.1.size ≤ 24
  row : ∀ c ∈ l, ∀ v ∈ c.2, v.row.length ≤ 6
  ts : ∀ c ∈ l, ∀ v ∈ c.2, 1 ≤ v.ts ∧ v.ts ≤ 1099511627776
  inc : ∀ c ∈ l, c.2.Pairwise fun a b => a.ts < b.ts
def addL (l : List PC) (hz : Int) (k : ByteArray) (v : PV) : List PC × Int :=
  if 24 < k.size ∨ 6 < v.row.length then (l, 2)
  else if v.ts < 1 ∨ 1099511627776 < v.ts then (l, 1)
  else if v.ts ≤ hz then (l, 21)
  else if has l k = true ∧ v.ts ≤ lastTs (l.getD (pos l k) (k, [])).2 then (l, 6)
  else if cnt l = 400 then (l, 18)
  else if has l k = true then (l.set (pos l k) (k, (l.getD (pos l k) (k, [])).2 ++ [v]), 0)
  else (l.take (pos l k) ++ (k, [v]) :: l.drop (pos l k), 0)
/-- The newest version of at most ts. -/
def visL (l : List PV) (ts : Int) : Option PV := l.reverse.find? fun v => decide (v.ts ≤ ts)
/-- The row that a reader at ts sees. -/
def vis1 (l : List PV) (ts : Int) : Option (List Val) := match visL l ts with | some v => if v.tomb then none else some v.row | none => none
def getL (l : List PC) (hz : Int) (k : ByteArray) (ts : Int) : List Val × Int :=
  if ts < hz then ([], 21) else if has l k = true then (match vis1 (l.getD (pos l k) (k, [])).2 ts with | some r => (r, 0) | none => ([], 4)) else ([], 4)
def latL (l : List PC) (k : ByteArray) : Int := if has l k = true then lastTs (l.getD (pos l k) (k, [])).2 else 0
def scanL (l : List PC) (ts : Int) : List (ByteArray × List Val) := l.filterMap fun c => (vis1 c.2 ts).map fun r => (c.1, r)

/-! ### In memory -/
structure MV where
  ts : Int
  tomb : Bool
  rv : Value
  row : List Val
structure MC where
  key : ByteArray
  vv : Value
  vs : List MV
def mvC1 (v : MV) : List Value := [.int .i64 v.ts, .bool v.tomb, v.rv]
def mcC1 (c : MC) : List Value := [.string c.key, c.vv]
def mvC (l : List MV) : List Value := l.flatMap mvC1
def mcC (l : List MC) : List Value := l.flatMap mcC1
def erV (v : MV) : PV := ⟨v.ts, v.tomb, v.row⟩
def erC (c : MC) : PC := (c.key, c.vs.map erV)
theorem mvC_len (l : List MV) : (mvC l).length = l.length * 3 := fm_len (k := 3) (fun _ => rfl) l
theorem mcC_len (l : List MC) : (mcC l).length = l.length * 2 := fm_len (k := 2) (fun _ => rfl) l
/-- A row that the store holds. -/
def RowIn (w : World) (F : Nat → Prop) (rv : Value) (row : List Val) : Prop := Src w 3 rv row.length (rowC row) ∧ ∀ a n c, rv = .slice (some a) n c → F a.block ∧ Ty w a.block 39
structure StP (w : World) (p : Nat) (cs : List MC) (hz : Int) (F : Nat → Prop) (cv : Value) : Prop where
  lt : ∀ k, F k → k < w.heap.size
  fp : F p
  blk : Blk w p [cv, .int .i64 hz] 88
  chn : w.ownsRow 0 85 2 cv cs.length (mcC cs)
  chF : ∀ k, cv.ownBlock = some k → F k
  vrs : ∀ c ∈ cs, w.ownsRow 0 82 3 c.vv c.vs.length (mvC c.vs)
  vrF : ∀ c ∈ cs, ∀ k, c.vv.ownBlock = some k → F k
  vrd : cs.Pairwise fun a b => ∀ k, a.vv.ownBlock = some k → b.vv.ownBlock ≠ some k
  rws : ∀ c ∈ cs, ∀ v ∈ c.vs, RowIn w F v.rv v.row
def StR (w : World) (p : Nat) (l : List PC) (hz : Int) (F : Nat → Prop) : Prop := ∃ cv cs, StP w p cs hz F cv ∧ cs.map erC = l ∧ SOk l hz
theorem ty_chg {S : Nat → Prop} {w w' : World} {b : Nat} {E : TypeId} (h : Ty w b E) (hc : Chg S w w') (hn : ¬ S b) : Ty w' b E := by
  obtain ⟨c, fz, h'⟩ := h
  exact ⟨c, fz, (hc.block b (Ty.lt ⟨c, fz, h'⟩) hn).trans h'⟩
theorem RowIn.chg {S F F' : Nat → Prop} {w w' : World} {rv : Value} {row : List Val} (h : RowIn w F rv row) (hc : Chg S w w') (hS : ∀ k, F k → Ty w k 39 → ¬ S k ∧ F' k) : RowIn w' F' rv row :=
  ⟨h.1.chg hc fun a n c e => (hS _ (h.2 a n c e).1 (h.2 a n c e).2).1, fun a n c e => ⟨(hS _ (h.2 a n c e).1 (h.2 a n c e).2).2, ty_chg (h.2 a n c e).2 hc (hS _ (h.2 a n c e).1 (h.2 a n c e).2).1⟩⟩
theorem StP.chg {S : Nat → Prop} {w w' : World} {p : Nat} {cs : List MC} {hz : Int} {F : Nat → Prop} {cv : Value} (h : StP w p cs hz F cv) (hc : Chg S w w') (hS : ∀ k, F k → ¬ S k) : StP w' p cs hz F cv :=
  ⟨fun k hk => Nat.lt_of_lt_of_le (h.lt k hk) hc.size, h.fp, h.blk.chg hc (hS _ h.fp), own_chg h.chn hc fun k hk => hS k (h.chF k hk), h.chF, fun c hcm => own_chg (h.vrs c hcm) hc fun k hk => hS k (h.vrF c hcm k hk), h.vrF, h.vrd,
    fun c hcm v hv => (h.rws c hcm v hv).chg hc fun k hk _ => ⟨hS k hk, hk⟩⟩
theorem RowIn.mono {F F' : Nat → Prop} {w : World} {rv : Value} {row : List Val} (h : RowIn w F rv row) (hF : ∀ k, F k → F' k) : RowIn w F' rv row := ⟨h.1, fun a n c e => ⟨hF _ (h.2 a n c e).1, (h.2 a n c e).2⟩⟩
theorem StP.mono {w : World} {p : Nat} {cs : List MC} {hz : Int} {F F' : Nat → Prop} {cv : Value} (h : StP w p cs hz F cv) (hF : ∀ k, F k → F' k) (hl : ∀ k, F' k → k < w.heap.size) : StP w p cs hz F' cv :=
  ⟨hl, hF _ h.fp, h.blk, h.chn, fun k hk => hF _ (h.chF k hk), h.vrs, fun c hc k hk => hF _ (h.vrF c hc k hk), h.vrd, fun c hc v hv => (h.rws c hc v hv).mono hF⟩
theorem StR.chg {S : Nat → Prop} {w w' : World} {p : Nat} {l : List PC} {hz : Int} {F : Nat → Prop} (h : StR w p l hz F) (hc : Chg S w w') (hS : ∀ k, F k → ¬ S k) : StR w' p l hz F := by
  obtain ⟨cv, cs, h, r⟩ := h; exact ⟨cv, cs, h.chg hc hS, r⟩
theorem StR.mono {w : World} {p : Nat} {l : List PC} {hz : Int} {F F' : Nat → Prop} (h : StR w p l hz F) (hF : ∀ k, F k → F' k) (hl : ∀ k, F' k → k < w.heap.size) : StR w p l hz F' := by
  obtain ⟨cv, cs, h, r⟩ := h; exact ⟨cv, cs, h.mono hF hl, r⟩
theorem StR.up {w w' : World} {p : Nat} {l : List PC} {hz : Int} {F : Nat → Prop} (h : StR w p l hz F) (hc : Up w w') : StR w' p l hz F := h.chg (Below.chg (fun _ => False) hc) fun _ _ e => e
theorem StR.lt {w : World} {p : Nat} {l : List PC} {hz : Int} {F : Nat → Prop} (h : StR w p l hz F) : ∀ k, F k → k < w.heap.size := by obtain ⟨_, _, h, _⟩ := h; exact h.lt
theorem fx_lt {F : Nat → Prop} {w w' : World} (h : ∀ k, F k → k < w.heap.size) (hs : w.heap.size ≤ w'.heap.size) : ∀ k, Fx F w w' k → k < w'.heap.size := fun k hk => by
  rcases hk with hk | hk
  · have := h k hk; omega
  · exact hk.2
theorem fx_up {F : Nat → Prop} {w w1 w' : World} (h : w.heap.size ≤ w1.heap.size) : ∀ k, Fx F w1 w' k → Fx F w w' k := fun k hk => by
  rcases hk with hk | hk
  · exact .inl hk
  · exact .inr ⟨by omega, hk.2⟩
theorem StR.upP {w w' : World} {p : Nat} {l : List PC} {hz : Int} {F : Nat → Prop} (h : StR w p l hz F) (hu : Up w w') : StR w' p l hz (Fx F w w') ∧ Chg F w w' :=
  ⟨(h.up hu).mono (fun _ hk => .inl hk) (fx_lt h.lt hu.size), Below.chg F hu⟩
/-- Behind a first step that only grows. -/
theorem StR.behind {w w1 w' : World} {p : Nat} {l' : List PC} {hz' : Int} {F : Nat → Prop} (hl : ∀ k, F k → k < w.heap.size) (hu : Up w w1) (h : StR w' p l' hz' (Fx F w1 w') ∧ Chg F w1 w') : StR w' p l' hz' (Fx F w w') ∧ Chg F w w' :=
  ⟨h.1.mono (fx_up hu.size) (fx_lt hl (Nat.le_trans hu.size h.2.size)), (Below.chg F hu).trans h.2 fun _ _ e => e⟩
theorem StR.two {w a b : World} {p : Nat} {l : List PC} {hz : Int} {F : Nat → Prop} (hl : ∀ k, F k → k < w.heap.size) (h1 : Chg F w a) (h : StR b p l hz (Fx (Fx F w a) a b) ∧ Chg (Fx F w a) a b) : StR b p l hz (Fx F w b) ∧ Chg F w b := by
  have hC : Chg F w b := h1.trans h.2 fun k hk e => by
    rcases e with e | e
    · exact e
    · omega
  refine ⟨h.1.mono (fun k hk => ?_) (fx_lt hl hC.size), hC⟩
  have := h1.size; have := h.2.size
  rcases hk with (hk | hk) | hk
  · exact .inl hk
  · exact .inr ⟨hk.1, by omega⟩
  · exact .inr ⟨by omega, hk.2⟩

end Go.Proofs.Ytinmpodnfofmdaa.Mv
