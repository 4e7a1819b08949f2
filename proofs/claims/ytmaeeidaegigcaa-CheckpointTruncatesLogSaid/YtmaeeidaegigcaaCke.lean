/- The checkpoint's entries in plain words. -/
import Derived.Test.YtmaeeidaegigcaaSo
import Derived.Test.YtmaeeidaegigcaaSl
namespace Go.Proofs.Ytmaeeidaegigcaa.Ck
open Go Go.RowKit Hp So
set_option linter.unusedVariables false

/-! ### Plain -/
abbrev Ws := List (ByteArray × ByteArray)
def ec (l : Ws) : List Value := l.flatMap fun e => [.string e.1, .string e.2]
theorem ec_len (l : Ws) : (ec l).length = l.length * 2 := by unfold ec; induction l with
  | nil => rfl
  | cons a l ih => rw [List.flatMap_cons, List.length_append, ih, List.length_cons]; simp only [List.length_cons, List.length_nil]; omega
theorem ec_cons (e : ByteArray × ByteArray) (l : Ws) : ec (e :: l) = .string e.1 :: .string e.2 :: ec l := rfl
theorem ec_app (a b : Ws) : ec (a ++ b) = ec a ++ ec b := List.flatMap_append
theorem ec_take (l : Ws) (i : Nat) : (ec l).take (i * 2) = ec (l.take i) := by
  induction l generalizing i with
  | nil => simp [ec]
  | cons a l ih => cases i with
    | zero => simp [ec]
    | succ i => rw [ec_cons, show (i + 1) * 2 = i * 2 + 1 + 1 by omega, List.take_succ_cons, List.take_succ_cons, ih, List.take_succ_cons, ec_cons]
theorem ec_drop (l : Ws) (i : Nat) : (ec l).drop (i * 2) = ec (l.drop i) := by
  induction l generalizing i with
  | nil => simp [ec]
  | cons a l ih => cases i with
    | zero => simp [ec]
    | succ i => rw [ec_cons, show (i + 1) * 2 = i * 2 + 1 + 1 by omega, List.drop_succ_cons, List.drop_succ_cons, ih, List.drop_succ_cons]
theorem ec_get (l : Ws) (i : Nat) (h : i < l.length) : (ec l)[i * 2]? = some (.string l[i].1) ∧ (ec l)[i * 2 + 1]? = some (.string l[i].2) := by
  induction l generalizing i with
  | nil => simp at h
  | cons a l ih => cases i with
    | zero => simp [ec_cons]
    | succ i =>
      have := ih i (by simpa using h)
      rw [ec_cons, show (i + 1) * 2 = i * 2 + 1 + 1 by omega, show i * 2 + 1 + 1 + 1 = (i * 2 + 1) + 1 + 1 by omega]
      simpa using this
theorem ec_set (l : Ws) (i : Nat) (h : i < l.length) (v : ByteArray) : (ec l).set (i * 2 + 1) (.string v) = ec (l.set i (l[i].1, v)) := by
  induction l generalizing i with
  | nil => simp at h
  | cons a l ih => cases i with
    | zero => simp [ec_cons]
    | succ i =>
      have := ih i (by simpa using h)
      rw [ec_cons, show (i + 1) * 2 + 1 = i * 2 + 1 + 1 + 1 by omega]
      simp only [List.set_cons_succ, this, List.getElem_cons_succ, ec_cons]
theorem ec_one (l : Ws) : ∀ u ∈ ec l, u.oneCell' = true := fun u hu => by
  unfold ec at hu
  obtain ⟨e, _, he⟩ := List.mem_flatMap.1 hu
  simp at he; rcases he with rfl | rfl <;> rfl
def Srt (l : Ws) : Prop := l.Pairwise fun a b => slt a.1 b.1
structure WOk (l : Ws) : Prop where
  srt : Srt l
  len : l.length ≤ 20
  key : ∀ e ∈ l, e.1.size ≤ 12 ∧ e.2.size ≤ 12
def pos (l : Ws) (k : ByteArray) : Nat := l.findIdx fun e => !decide (slt e.1 k)
theorem pos_le (l : Ws) (k : ByteArray) : pos l k ≤ l.length := List.findIdx_le_length
theorem pos_eq {l : Ws} {k : ByteArray} {i : Nat} (hi : i ≤ l.length) (h1 : ∀ j (h : j < l.length), j < i → slt l[j].1 k) (h2 : ∀ h : i < l.length, ¬ slt l[i].1 k) : pos l k = i := by
  unfold pos
  by_cases h : i < l.length
  · exact (List.findIdx_eq h).2 ⟨by simpa using h2 h, fun j hj => by simpa using h1 j (by omega) hj⟩
  · obtain rfl : i = l.length := by omega
    rw [List.findIdx_eq_length]
    intro e he
    obtain ⟨j, hj, rfl⟩ := List.getElem_of_mem he
    simpa using h1 j hj hj
theorem pos_lt {l : Ws} {k : ByteArray} {j : Nat} (hj : j < pos l k) : ∃ h : j < l.length, slt l[j].1 k := by
  have hl := pos_le l k
  refine ⟨by omega, ?_⟩
  have := List.not_of_lt_findIdx hj
  simpa using this
theorem pos_ge {l : Ws} {k : ByteArray} (h : pos l k < l.length) : ¬ slt l[pos l k].1 k := by
  have := List.findIdx_getElem (w := h)
  simp only [Bool.not_eq_true', decide_eq_false_iff_not] at this
  exact this
def has (l : Ws) (k : ByteArray) : Bool := decide (∃ h : pos l k < l.length, l[pos l k].1 = k)
theorem has_pos {l : Ws} {k : ByteArray} (h : has l k = true) : ∃ hp : pos l k < l.length, l[pos l k].1 = k := of_decide_eq_true h
theorem Srt.get {l : Ws} (h : Srt l) {i j : Nat} (hi : i < j) (hj : j < l.length) : slt l[i].1 l[j].1 := List.pairwise_iff_getElem.1 h i j (by omega) hj hi
theorem mono_scmp {l : Ws} (h : Srt l) (t : ByteArray) (d : ByteArray × ByteArray) : ∀ a b, a ≤ b → b < l.length → scmp (l.getD b d).1 t < 0 → scmp (l.getD a d).1 t < 0 := fun a b hab hb hc => by
  rw [scmp_lt] at *
  rcases Nat.lt_or_ge a b with h1 | h1
  · refine slt_trans ?_ hc
    have := h.get h1 hb
    simpa [List.getD, hb, Nat.lt_trans h1 hb] using this
  · obtain rfl : a = b := by omega
    exact hc
theorem pos_get {l : Ws} {t : ByteArray} {i : Nat} (hi : i ≤ l.length) (h1 : ∀ j, j < i → scmp (l.getD j (t, ByteArray.empty)).1 t < 0) (h2 : ∀ j, i ≤ j → j < l.length → 0 ≤ scmp (l.getD j (t, ByteArray.empty)).1 t) :
    pos l t = i ∧ (decide (i < l.length) && decide (scmp (l.getD i (t, ByteArray.empty)).1 t = 0)) = has l t := by
  have gd : ∀ j (h : j < l.length), l.getD j (t, ByteArray.empty) = l[j] := fun j h => by simp [List.getD, h]
  have e : pos l t = i := pos_eq hi (fun j hj hji => by have := h1 j hji; rw [gd j hj, scmp_lt] at this; exact this) (fun h hs => by have := h2 i (Nat.le_refl _) h; rw [gd i h] at this; rw [← scmp_lt] at hs; omega)
  refine ⟨e, ?_⟩
  unfold has
  by_cases h : i < l.length
  · have hpl : pos l t < l.length := by omega
    have eg : l[pos l t] = l[i] := by congr 1
    rw [gd i h]
    by_cases hq : l[i].1 = t
    · have hs : scmp l[i].1 t = 0 := scmp_eq.2 hq
      have hh : ∃ h : pos l t < l.length, l[pos l t].1 = t := ⟨hpl, by rw [eg]; exact hq⟩
      rw [decide_eq_true h, decide_eq_true hs, decide_eq_true hh]; rfl
    · have hs : ¬ scmp l[i].1 t = 0 := fun e => hq (scmp_eq.1 e)
      have hh : ¬ ∃ h : pos l t < l.length, l[pos l t].1 = t := fun ⟨a, b⟩ => hq (by rw [eg] at b; exact b)
      rw [decide_eq_false hs, decide_eq_false hh, Bool.and_false]
  · have hh : ¬ ∃ h : pos l t < l.length, l[pos l t].1 = t := fun ⟨a, _⟩ => h (by omega)
    rw [decide_eq_false h, decide_eq_false hh, Bool.false_and]


theorem WOk.nil : WOk [] := ⟨List.Pairwise.nil, by simp, fun e he => by cases he⟩
/-- The entries after an update: an empty value deletes. -/
def apL (l : Ws) (u : ByteArray × ByteArray) : Ws :=
  if has l u.1 then (if u.2 = ByteArray.empty then l.take (pos l u.1) ++ l.drop (pos l u.1 + 1) else l.set (pos l u.1) u)
  else if u.2 = ByteArray.empty then l else l.take (pos l u.1) ++ u :: l.drop (pos l u.1)
def fullL (l : Ws) (u : ByteArray × ByteArray) : Bool := !has l u.1 && !decide (u.2 = ByteArray.empty) && decide (l.length = 20)
theorem WOk.ap {l : Ws} (h : WOk l) (u : ByteArray × ByteArray) (h1 : u.1.size ≤ 12) (h2 : u.2.size ≤ 12) (hf : fullL l u = false) : WOk (apL l u) := by
  obtain ⟨k, v⟩ := u
  unfold apL
  split
  · rename_i hh
    obtain ⟨hp, he⟩ := has_pos hh
    split
    · have hs : (l.take (pos l k) ++ l.drop (pos l k + 1)).Sublist l := by
        conv => rhs; rw [← List.take_append_drop (pos l k) l]
        exact List.Sublist.append (List.Sublist.refl _) (by rw [← List.drop_drop]; exact List.drop_sublist _ _)
      exact ⟨h.srt.sublist hs, Nat.le_trans hs.length_le h.len, fun e he => h.key _ (hs.subset he)⟩
    · refine ⟨?_, by simpa using h.len, fun e he' => ?_⟩
      · have hs := h.srt
        refine List.pairwise_iff_getElem.2 fun i j hi hj hij => ?_
        have := hs.get hij (by simpa using hj)
        simp only [List.getElem_set]
        split <;> split
        · omega
        · rename_i h1 h2; subst h1; rw [he] at this; exact this
        · rename_i h1 h2; subst h2; rw [he] at this; exact this
        · exact this
      · rcases List.mem_or_eq_of_mem_set he' with h1 | rfl
        · exact h.key _ h1
        · exact ⟨h1, h2⟩
  · rename_i hh
    split
    · exact h
    · rename_i hv
      have hl : ¬ l.length = 20 := fun e => by
        simp [fullL, hh, hv, e] at hf
      have hp := pos_le l k
      have gt : ∀ e ∈ l.drop (pos l k), slt k e.1 := fun e he => by
        obtain ⟨j, hj, rfl⟩ := List.getElem_of_mem he
        rw [List.getElem_drop]
        rw [List.length_drop] at hj
        have h0 : pos l k < l.length := by omega
        have h1 : slt k l[pos l k].1 := by
          rcases Decidable.em (slt k l[pos l k].1) with h | h
          · exact h
          · exact absurd (decide_eq_true (⟨h0, slt_total (pos_ge h0) h⟩ : ∃ h : pos l k < l.length, l[pos l k].1 = k)) (by simpa [has] using hh)
        cases j with
        | zero => exact h1
        | succ j => exact slt_trans h1 (h.srt.get (by omega) (by omega))
      have lt : ∀ e ∈ l.take (pos l k), slt e.1 k := fun e he => by
        obtain ⟨j, hj, rfl⟩ := List.getElem_of_mem he
        rw [List.length_take] at hj
        rw [List.getElem_take]
        exact (pos_lt (by omega)).2
      refine ⟨?_, by simp only [List.length_append, List.length_take, List.length_cons, List.length_drop]; have := h.len; show min _ _ + _ ≤ _; omega, fun e he => ?_⟩
      · refine List.pairwise_append.2 ⟨h.srt.sublist (List.take_sublist _ _), List.pairwise_cons.2 ⟨fun e he => gt e he, h.srt.sublist (List.drop_sublist _ _)⟩, fun a ha b hb => ?_⟩
        rcases List.mem_cons.1 hb with rfl | hb
        · exact lt a ha
        · exact slt_trans (lt a ha) (gt b hb)
      · rcases List.mem_append.1 he with he | he
        · exact h.key _ (List.mem_of_mem_take he)
        · rcases List.mem_cons.1 he with rfl | he
          · exact ⟨h1, h2⟩
          · exact h.key _ (List.mem_of_mem_drop he)

end Go.Proofs.Ytmaeeidaegigcaa.Ck
