/- Rows of values, sorted lists by key. -/
import Derived.Test.YtdaehidbeleblaaSl
import Derived.Test.YtdaehidbeleblaaSc
import Derived.Test.YtdaehidbeleblaaEl
namespace Go.Proofs.Ytdaehidbeleblaa.Mv
open Go Go.RowKit Hp So
set_option linter.unusedVariables false

/-! ### Rows of k cells an element -/
section
variable {α : Type} {f : α → List Value} {k : Nat}
theorem fm_len (hk : ∀ a, (f a).length = k) (l : List α) : (l.flatMap f).length = l.length * k := by
  induction l with
  | nil => simp
  | cons a l ih => rw [List.flatMap_cons, List.length_append, ih, hk, List.length_cons, Nat.add_mul, Nat.one_mul, Nat.add_comm]
theorem fm_take (hk : ∀ a, (f a).length = k) (l : List α) (i : Nat) : (l.flatMap f).take (i * k) = (l.take i).flatMap f := by
  induction l generalizing i with
  | nil => simp
  | cons a l ih => cases i with
    | zero => simp
    | succ i => rw [List.take_succ_cons, List.flatMap_cons, List.flatMap_cons, Nat.add_mul, Nat.one_mul, Nat.add_comm, ← hk a, List.take_length_add_append, hk a, ih]
theorem fm_drop (hk : ∀ a, (f a).length = k) (l : List α) (i : Nat) : (l.flatMap f).drop (i * k) = (l.drop i).flatMap f := by
  induction l generalizing i with
  | nil => simp
  | cons a l ih => cases i with
    | zero => simp
    | succ i => rw [List.drop_succ_cons, List.flatMap_cons, Nat.add_mul, Nat.one_mul, Nat.add_comm, ← hk a, List.drop_length_add_append, hk a, ih]
theorem fm_get (hk : ∀ a, (f a).length = k) (l : List α) (i j : Nat) (h : i < l.length) (hj : j < k) : (l.flatMap f)[i * k + j]? = (f l[i])[j]? := by
  induction l generalizing i with
  | nil => simp at h
  | cons a l ih => cases i with
    | zero => rw [List.flatMap_cons, Nat.zero_mul, Nat.zero_add, List.getElem?_append_left (by rw [hk]; exact hj)]; rfl
    | succ i =>
      rw [List.flatMap_cons, List.getElem?_append_right (by rw [hk, Nat.add_mul]; omega), hk, show (i + 1) * k + j - k = i * k + j by rw [Nat.add_mul]; omega, ih i (by simpa using h)]
      rfl
theorem fm_set (hk : ∀ a, (f a).length = k) (l : List α) (i j : Nat) (h : i < l.length) (hj : j < k) (u : Value) (a : α) (ha : f a = (f l[i]).set j u) : (l.flatMap f).set (i * k + j) u = (l.set i a).flatMap f := by
  induction l generalizing i with
  | nil => simp at h
  | cons b l ih => cases i with
    | zero => rw [List.flatMap_cons, Nat.zero_mul, Nat.zero_add, List.set_append_left _ _ (by rw [hk]; exact hj), List.set_cons_zero, List.flatMap_cons, ha]; rfl
    | succ i =>
      rw [List.flatMap_cons, List.set_append_right _ _ (by rw [hk, Nat.add_mul]; omega), hk, show (i + 1) * k + j - k = i * k + j by rw [Nat.add_mul]; omega, ih i (by simpa using h) (by simpa using ha), List.set_cons_succ, List.flatMap_cons]
theorem fm_one (h1 : ∀ a, ∀ u ∈ f a, u.oneCell' = true) (l : List α) : ∀ u ∈ l.flatMap f, u.oneCell' = true := fun u hu => by
  obtain ⟨a, _, ha⟩ := List.mem_flatMap.1 hu
  exact h1 a u ha
end

/-! ### Plain -/
structure Val where
  kind : Int
  int : Int
  text : ByteArray
def valC (v : Val) : List Value := [.int .i64 v.kind, .int .i64 v.int, .string v.text]
def rowC (l : List Val) : List Value := l.flatMap valC
theorem rowC_len (l : List Val) : (rowC l).length = l.length * 3 := fm_len (k := 3) (fun _ => rfl) l
theorem rowC_one (l : List Val) : ∀ u ∈ rowC l, u.oneCell' = true := fm_one (fun a u hu => by unfold valC at hu; simp at hu; rcases hu with rfl | rfl | rfl <;> rfl) l
section
variable {α : Type}
def pos (l : List (ByteArray × α)) (k : ByteArray) : Nat := l.findIdx fun e => !decide (slt e.1 k)
theorem pos_le (l : List (ByteArray × α)) (k : ByteArray) : pos l k ≤ l.length := List.findIdx_le_length
theorem pos_eq {l : List (ByteArray × α)} {k : ByteArray} {i : Nat} (hi : i ≤ l.length) (h1 : ∀ j (h : j < l.length), j < i → slt l[j].1 k) (h2 : ∀ h : i < l.length, ¬ slt l[i].1 k) : pos l k = i := by
  unfold pos
  by_cases h : i < l.length
  · exact (List.findIdx_eq h).2 ⟨by simpa using h2 h, fun j hj => by simpa using h1 j (by omega) hj⟩
  · obtain rfl : i = l.length := by omega
    rw [List.findIdx_eq_length]
    intro e he
    obtain ⟨j, hj, rfl⟩ := List.getElem_of_mem he
    simpa using h1 j hj hj
theorem pos_lt {l : List (ByteArray × α)} {k : ByteArray} {j : Nat} (hj : j < pos l k) : ∃ h : j < l.length, slt l[j].1 k := by
  have hl := pos_le l k
  refine ⟨by omega, ?_⟩
  have := List.not_of_lt_findIdx hj
  simpa using this
theorem pos_ge {l : List (ByteArray × α)} {k : ByteArray} (h : pos l k < l.length) : ¬ slt l[pos l k].1 k := by
  have := List.findIdx_getElem (w := h)
  simp only [Bool.not_eq_true', decide_eq_false_iff_not] at this
  exact this
def has (l : List (ByteArray × α)) (k : ByteArray) : Bool := decide (∃ h : pos l k < l.length, l[pos l k].1 = k)
theorem has_pos {l : List (ByteArray × α)} {k : ByteArray} (h : has l k = true) : ∃ hp : pos l k < l.length, l[pos l k].1 = k := of_decide_eq_true h
def Srt (l : List (ByteArray × α)) : Prop := l.Pairwise fun a b => slt a.1 b.1
theorem Srt.get {l : List (ByteArray × α)} (h : Srt l) {i j : Nat} (hi : i < j) (hj : j < l.length) : slt l[i].1 l[j].1 := List.pairwise_iff_getElem.1 h i j (by omega) hj hi
theorem Srt.ins {l : List (ByteArray × α)} (h : Srt l) (k : ByteArray) (x : α) (hh : has l k = false) : Srt (l.take (pos l k) ++ (k, x) :: l.drop (pos l k)) := by
  have hp := pos_le l k
  have gt : ∀ e ∈ l.drop (pos l k), slt k e.1 := fun e he => by
    obtain ⟨j, hj, rfl⟩ := List.getElem_of_mem he
    rw [List.getElem_drop]
    rw [List.length_drop] at hj
    have h0 : pos l k < l.length := by omega
    have h1 : slt k l[pos l k].1 := by
      rcases Decidable.em (slt k l[pos l k].1) with h | h
      · exact h
      · exact absurd (decide_eq_true (⟨h0, slt_total (pos_ge h0) h⟩ : ∃ h : pos l k < l.length, l[pos l k].1 = k)) (by simpa [has] using hh)
    cases j with
    | zero => exact h1
    | succ j => exact slt_trans h1 (h.get (by omega) (by omega))
  have lt : ∀ e ∈ l.take (pos l k), slt e.1 k := fun e he => by
    obtain ⟨j, hj, rfl⟩ := List.getElem_of_mem he
    rw [List.length_take] at hj
    rw [List.getElem_take]
    exact (pos_lt (by omega)).2
  refine List.pairwise_append.2 ⟨h.sublist (List.take_sublist _ _), List.pairwise_cons.2 ⟨fun e he => gt e he, h.sublist (List.drop_sublist _ _)⟩, fun a ha b hb => ?_⟩
  rcases List.mem_cons.1 hb with rfl | hb
  · exact lt a ha
  · exact slt_trans (lt a ha) (gt b hb)
theorem Srt.set {l : List (ByteArray × α)} (h : Srt l) (i : Nat) (hi : i < l.length) (x : α) : Srt (l.set i (l[i].1, x)) := by
  refine List.pairwise_iff_getElem.2 fun a b ha hb hab => ?_
  have := h.get hab (by simpa using hb)
  simp only [List.getElem_set]
  split <;> split
  · omega
  · rename_i h1 h2; subst h1; exact this
  · rename_i h1 h2; subst h2; exact this
  · exact this
theorem mono_scmp {l : List (ByteArray × α)} (h : Srt l) (t : ByteArray) (d : ByteArray × α) : ∀ a b, a ≤ b → b < l.length → scmp (l.getD b d).1 t < 0 → scmp (l.getD a d).1 t < 0 := fun a b hab hb hc => by
  rw [scmp_lt] at *
  rcases Nat.lt_or_ge a b with h1 | h1
  · refine slt_trans ?_ hc
    have := h.get h1 hb
    simpa [List.getD, hb, Nat.lt_trans h1 hb] using this
  · obtain rfl : a = b := by omega
    exact hc
theorem pos_get {l : List (ByteArray × α)} {t : ByteArray} {x : α} {i : Nat} (hi : i ≤ l.length) (h1 : ∀ j, j < i → scmp (l.getD j (t, x)).1 t < 0) (h2 : ∀ j, i ≤ j → j < l.length → 0 ≤ scmp (l.getD j (t, x)).1 t) :
    pos l t = i ∧ (decide (i < l.length) && decide (scmp (l.getD i (t, x)).1 t = 0)) = has l t := by
  have gd : ∀ j (h : j < l.length), l.getD j (t, x) = l[j] := fun j h => by simp [List.getD, h]
  have e : pos l t = i := pos_eq hi (fun j hj hji => by have := h1 j hji; rw [gd j hj, scmp_lt] at this; exact this) (fun h hs => by have := h2 i (Nat.le_refl _) h; rw [gd i h] at this; rw [← scmp_lt] at hs; omega)
  refine ⟨e, ?_⟩
  unfold has
  by_cases h : i < l.length
  · have hpl : pos l t < l.length := by omega
    have eg : l[pos l t] = l[i] := by congr 1
    rw [gd i h]
    by_cases hq : l[i].1 = t
    · have hs : scmp l[i].1 t = 0 := scmp_eq.2 hq
      have hh : ∃ h : pos l t < l.length, l[pos l t].1 = t := ⟨hpl, by rw [eg]; exact hq⟩
      rw [decide_eq_true h, decide_eq_true hs, decide_eq_true hh]; rfl
    · have hs : ¬ scmp l[i].1 t = 0 := fun e => hq (scmp_eq.1 e)
      have hh : ¬ ∃ h : pos l t < l.length, l[pos l t].1 = t := fun ⟨a, b⟩ => hq (by rw [eg] at b; exact b)
      rw [decide_eq_false hs, decide_eq_false hh, Bool.and_false]
  · have hh : ¬ ∃ h : pos l t < l.length, l[pos l t].1 = t := fun ⟨a, _⟩ => h (by omega)
    rw [decide_eq_false h, decide_eq_false hh, Bool.false_and]
end
end Go.Proofs.Ytdaehidbeleblaa.Mv
