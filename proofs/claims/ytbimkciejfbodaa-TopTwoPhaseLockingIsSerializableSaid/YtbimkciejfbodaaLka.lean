/- Locks: the plain model; the small functions. -/
import Derived.Test.YtbimkciejfbodaaEl
import Derived.Test.YtbimkciejfbodaaSc
namespace Go.Proofs.Ytbimkciejfbodaa.Lk
open Go Go.RowKit Hp
set_option linter.unusedVariables false

/-! ### Rows of k cells an element -/
section
variable {α : Type} {f : α → List Value} {k : Nat}
theorem fm_len (hk : ∀ a, (f a).length = k) (l : List α) : (l.flatMap f).length = l.length * k := by
  induction l with
  | nil => simp
  | cons a l ih => rw [List.flatMap_cons, List.length_append, ih, hk, List.length_cons, Nat.add_mul, Nat.one_mul, Nat.add_comm]
theorem fm_take (hk : ∀ a, (f a).length = k) (l : List α) (i : Nat) : (l.flatMap f).take (i * k) = (l.take i).flatMap f := by
  induction l generalizing i with
  | nil => simp
  | cons a l ih => cases i with
    | zero => simp
    | succ i => rw [List.take_succ_cons, List.flatMap_cons, List.flatMap_cons, Nat.add_mul, Nat.one_mul, Nat.add_comm, ← hk a, List.take_length_add_append, hk a, ih]
theorem fm_drop (hk : ∀ a, (f a).length = k) (l : List α) (i : Nat) : (l.flatMap f).drop (i * k) = (l.drop i).flatMap f := by
  induction l generalizing i with
  | nil => simp
  | cons a l ih => cases i with
    | zero => simp
    | succ i => rw [List.drop_succ_cons, List.flatMap_cons, Nat.add_mul, Nat.one_mul, Nat.add_comm, ← hk a, List.drop_length_add_append, hk a, ih]
theorem fm_get (hk : ∀ a, (f a).length = k) (l : List α) (i j : Nat) (h : i < l.length) (hj : j < k) : (l.flatMap f)[i * k + j]? = (f l[i])[j]? := by
  induction l generalizing i with
  | nil => simp at h
  | cons a l ih => cases i with
    | zero => rw [List.flatMap_cons, Nat.zero_mul, Nat.zero_add, List.getElem?_append_left (by rw [hk]; exact hj)]; rfl
    | succ i =>
      rw [List.flatMap_cons, List.getElem?_append_right (by rw [hk, Nat.add_mul]; omega), hk, show (i + 1) * k + j - k = i * k + j by rw [Nat.add_mul]; omega, ih i (by simpa using h)]
      rfl
theorem fm_set (hk : ∀ a, (f a).length = k) (l : List α) (i j : Nat) (h : i < l.length) (hj : j < k) (u : Value) (a : α) (ha : f a = (f l[i]).set j u) : (l.flatMap f).set (i * k + j) u = (l.set i a).flatMap f := by
  induction l generalizing i with
  | nil => simp at h
  | cons b l ih => cases i with
    | zero => rw [List.flatMap_cons, Nat.zero_mul, Nat.zero_add, List.set_append_left _ _ (by rw [hk]; exact hj), List.set_cons_zero, List.flatMap_cons, ha]; rfl
    | succ i =>
      rw [List.flatMap_cons, List.set_append_right _ _ (by rw [hk, Nat.add_mul]; omega), hk, show (i + 1) * k + j - k = i * k + j by rw [Nat.add_mul]; omega, ih i (by simpa using h) (by simpa using ha), List.set_cons_succ, List.flatMap_cons]
theorem fm_one (h1 : ∀ a, ∀ u ∈ f a, u.oneCell' = true) (l : List α) : ∀ u ∈ l.flatMap f, u.oneCell' = true := fun u hu => by
  obtain ⟨a, _, ha⟩ := List.mem_flatMap.1 hu
  exact h1 a u ha
end

/-! ### Plain -/
structure Lk where
  tx : Int
  tab : ByteArray
  key : ByteArray
  mode : Int
deriving DecidableEq
def lkC1 (l : Lk) : List Value := [.int .i64 l.tx, .string l.tab, .string l.key, .int .i64 l.mode]
def lkC (l : List Lk) : List Value := l.flatMap lkC1
def lkV (l : Lk) : Value := .agg #[.int .i64 l.tx, .string l.tab, .string l.key, .int .i64 l.mode]
theorem lkC_len (l : List Lk) : (lkC l).length = l.length * 4 := fm_len (k := 4) (fun _ => rfl) l
theorem lkC_get (l : List Lk) (i : Nat) (h : i < l.length) : (lkC l)[i * 4]? = some (.int .i64 l[i].tx) ∧ (lkC l)[i * 4 + 1]? = some (.string l[i].tab) ∧ (lkC l)[i * 4 + 2]? = some (.string l[i].key) ∧ (lkC l)[i * 4 + 3]? = some (.int .i64 l[i].mode) :=
  ⟨by have := fm_get (f := lkC1) (k := 4) (fun _ => rfl) l i 0 h (by omega); simpa [lkC, lkC1] using this, by have := fm_get (f := lkC1) (k := 4) (fun _ => rfl) l i 1 h (by omega); simpa [lkC, lkC1] using this,
    by have := fm_get (f := lkC1) (k := 4) (fun _ => rfl) l i 2 h (by omega); simpa [lkC, lkC1] using this, by have := fm_get (f := lkC1) (k := 4) (fun _ => rfl) l i 3 h (by omega); simpa [lkC, lkC1] using this⟩
theorem lkC_one (l : List Lk) : ∀ u ∈ lkC l, u.oneCell' = true := fm_one (fun a u hu => by unfold lkC1 at hu; simp at hu; rcases hu with rfl | rfl | rfl | rfl <;> rfl) l
def compat (a b : Int) : Bool := !(decide (a = 2) || decide (b = 2) || (decide (a = 1) && decide (b = 4)) || (decide (a = 4) && decide (b = 1)))
def sameR (a b : Lk) : Bool := decide (a.tab = b.tab) && decide (a.key = b.key)
def sameL (a b : Lk) : Bool := decide (a.tx = b.tx) && sameR a b
def confl (a b : Lk) : Bool := decide (a.tx ≠ b.tx) && (sameR a b && !compat a.mode b.mode)
def cov (a b : Int) : Bool := decide (a = b) || decide (a = 2) || decide (b = 3)
def supM (a b : Int) : Int := if cov a b then a else if cov b a then b else 2
/-- A request as the laws make them. -/
structure Valid (l : Lk) : Prop where
  t0 : 0 ≤ l.tx
  t1 : l.tx < 20
  m0 : 1 ≤ l.mode
  m1 : l.mode ≤ 4
  k1 : l.key.size ≠ 0 → l.mode ≤ 2
  b0 : l.tab.size ≠ 0
  b1 : l.tab.size ≤ 24
  k2 : l.key.size ≤ 24
theorem tl_eq (a b : ByteArray) : (a.toList == b.toList) = decide (a = b) := by
  by_cases h : a = b
  · subst h; simp
  · rw [decide_eq_false h, beq_eq_false_iff_ne]
    exact fun e => h (by
      rw [So.tl, So.tl] at e
      exact So.ba_inj e)
theorem tl_iff {a b : ByteArray} : a.toList = b.toList ↔ a = b := ⟨fun e => by rw [So.tl, So.tl] at e; exact So.ba_inj e, fun e => by rw [e]⟩
theorem sz_iff {a : ByteArray} : a.size = 0 ↔ a.toList = [] := by
  rw [So.tl]
  show a.data.size = 0 ↔ _
  rw [← Array.length_toList, List.length_eq_zero_iff]
theorem int_beq (a b : Int) : (a == b) = decide (a = b) := by by_cases h : a = b <;> simp [h]
set_option maxRecDepth 100000 in
set_option maxHeartbeats 2000000 in
theorem compat_any (a b : Int) (w : World) : Calls Try.prog 69 #[.int .i64 a, .int .i64 b] w fun e w' => e = .returned (.bool (compat a b)) ∧ w = w' := by
  go_enter Try.func69, Try.ntmps69
  go_wp2
  all_goals
    go_ret
    exact ⟨ret_bool (by simp_all [compat]), rfl⟩
set_option maxRecDepth 100000 in
set_option maxHeartbeats 2000000 in
theorem cov_any (a b : Int) (w : World) : Calls Try.prog 37 #[.int .i64 a, .int .i64 b] w fun e w' => e = .returned (.bool (cov a b)) ∧ w = w' := by
  go_enter Try.func37, Try.ntmps37
  go_wp2
  all_goals
    go_ret
    exact ⟨ret_bool (by simp_all [cov, int_beq]), rfl⟩
set_option maxRecDepth 100000 in
set_option maxHeartbeats 2000000 in
theorem sup_any (a b : Int) (w : World) : Calls Try.prog 38 #[.int .i64 a, .int .i64 b] w fun e w' => e = .returned (.int .i64 (supM a b)) ∧ w = w' := by
  unfold supM
  cases h1 : cov a b with
  | true =>
    go_enter Try.func38, Try.ntmps38
    go_wp2_with (first | (go_at_call 37; refine (cov_any _ _ _).mono ?_; rw [h1]; rintro e w' ⟨rfl, rfl⟩) | fail)
    go_ret
    exact ⟨by simp, rfl⟩
  | false =>
    cases h2 : cov b a with
    | true =>
      go_enter Try.func38, Try.ntmps38
      go_wp2_with (first | (go_at_call 37; refine (cov_any _ _ _).mono ?_; (first | rw [h1] | rw [h2]); rintro e w' ⟨rfl, rfl⟩) | fail)
      go_ret
      exact ⟨by simp, rfl⟩
    | false =>
      go_enter Try.func38, Try.ntmps38
      go_wp2_with (first | (go_at_call 37; refine (cov_any _ _ _).mono ?_; (first | rw [h1] | rw [h2]); rintro e w' ⟨rfl, rfl⟩) | fail)
      go_ret
      exact ⟨by simp, rfl⟩
theorem two_cells (w : World) (a b : Lk) : At ((w.alloc (.cells #[.int .i64 a.tx, .string a.tab, .string a.key, .int .i64 a.mode] 33)).alloc (.cells #[.int .i64 b.tx, .string b.tab, .string b.key, .int .i64 b.mode] 33)) w.heap.size 0 (.int .i64 a.tx) :=
  (At.new w _ _ 0 _ rfl).grow ((Up.refl _).alloc _)
set_option maxRecDepth 100000 in
set_option maxHeartbeats 2000000 in
theorem same_any (a b : Lk) (w : World) : Calls Try.prog 59 #[lkV a, lkV b] w fun e w' => e = .returned (.bool (sameL a b)) ∧ Up w w' := by
  obtain ⟨at0, at1, at2, at3⟩ := a
  obtain ⟨bt0, bt1, bt2, bt3⟩ := b
  unfold lkV
  go_enter Try.func59, Try.ntmps59
  go_wp2
  all_goals
    go_ret
    refine ⟨ret_bool ?_, ((Up.refl w).alloc _).alloc _⟩
    simp_all [sameL, sameR, tl_eq, tl_iff]
set_option maxRecDepth 100000 in
set_option maxHeartbeats 2000000 in
theorem confl_any (a b : Lk) (w : World) : Calls Try.prog 55 #[lkV a, lkV b] w fun e w' => e = .returned (.bool (confl a b)) ∧ Up w w' := by
  obtain ⟨at0, at1, at2, at3⟩ := a
  obtain ⟨bt0, bt1, bt2, bt3⟩ := b
  unfold lkV
  go_enter Try.func55, Try.ntmps55
  go_wp2_with (first | (go_at_call 69; refine (compat_any _ _ _).mono ?_; rintro e w' ⟨rfl, rfl⟩) | fail)
  all_goals
    go_ret
    refine ⟨ret_bool ?_, ((Up.refl w).alloc _).alloc _⟩
    simp_all [confl, sameR, tl_iff, bne, int_beq]
set_option maxRecDepth 100000 in
set_option maxHeartbeats 2000000 in
theorem valid_any (l : Lk) (h : Valid l) (w : World) : Calls Try.prog 33 #[lkV l] w fun e w' => e = .returned (.int .i64 0) ∧ Up w w' := by
  obtain ⟨t0, t1, m0, m1, k1, b0, b1, k2⟩ := h
  obtain ⟨lt, lb, lk, lm⟩ := l
  simp only at t0 t1 m0 m1 k1 b0 b1 k2
  have h1 : ¬ lt < 0 := by omega
  have h2 : ¬ 20 ≤ lt := by omega
  have h3 : ¬ lm < 1 := by omega
  have h4 : ¬ 4 < lm := by omega
  have h5 : ¬ (24 : Int) < (lb.size : Int) := by omega
  have h6 : ¬ (24 : Int) < (lk.size : Int) := by omega
  have hb : lb.toList.isEmpty = false := by
    rw [List.isEmpty_eq_false_iff]
    exact fun e => b0 (sz_iff.2 e)
  unfold lkV
  rcases Decidable.em (lk.size = 0) with hk | hk
  · have hk1 := sz_iff.1 hk
    have hk2 : lk.toList.isEmpty = true := by rw [hk1]; rfl
    clear k1 hk
    go_enter Try.func33, Try.ntmps33
    go_wp2
    go_ret
    exact ⟨rfl, (Up.refl w).alloc _⟩
  · have hk1 : ¬ lk.toList = [] := fun e => hk (sz_iff.2 e)
    have hk2 : lk.toList.isEmpty = false := by rw [List.isEmpty_eq_false_iff]; exact hk1
    have hm2 : lm ≤ 2 := k1 hk
    have hm3 : ¬ 2 < lm := by omega
    clear k1 hk
    go_enter Try.func33, Try.ntmps33
    go_wp2
    go_ret
    exact ⟨rfl, (Up.refl w).alloc _⟩
end Go.Proofs.Ytbimkciejfbodaa.Lk
