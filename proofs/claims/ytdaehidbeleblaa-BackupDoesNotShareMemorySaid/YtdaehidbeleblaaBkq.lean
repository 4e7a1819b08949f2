/- The archive's laws: the plain part. -/
import Derived.Test.YtdaehidbeleblaaBkl
import Derived.Test.YtdaehidbeleblaaBko
import Derived.Test.YtdaehidbeleblaaBkm
import Derived.Test.YtdaehidbeleblaaEl
namespace Go.Proofs.Ytdaehidbeleblaa.Bk
open Go Go.RowKit Hp
open Mv (Val rowC rowC_len rowC_one rowC_get RM rmC rmC1 rmC_len rmC_get erR RecsR RecsS Srt pos has pos_le has_pos fm_len fm_take fm_drop fm_get fm_set fm_one cloneR)
open So (slt)
set_option linter.unusedVariables false

/-- B is A with the row under k (none, if it is empty). -/
def Upd (B A : Recs) (k : ByteArray) (row : List Val) : Prop := ∀ y, y ∈ B ↔ (y.1 = k ∧ row.length ≠ 0 ∧ y.2 = row) ∨ (y.1 ≠ k ∧ y ∈ A)
theorem srt_mid {T R : Recs} {x : ByteArray × List Val} (h : Srt (T ++ x :: R)) : ∀ y ∈ T ++ R, y.1 ≠ x.1 := fun y hy e => by
  have h1 := List.pairwise_append.1 h
  rcases List.mem_append.1 hy with hy | hy
  · have := h1.2.2 y hy x (List.mem_cons_self ..)
    rw [e] at this; exact So.slt_irrefl _ this
  · have := (List.pairwise_cons.1 h1.2.1).1 y hy
    rw [e] at this; exact So.slt_irrefl _ this
theorem no_has {s : Recs} (hs : Srt s) {k : ByteArray} (h : has s k = false) : ∀ y ∈ s, y.1 ≠ k := fun y hy e => by
  obtain ⟨j, hj, rfl⟩ := List.getElem_of_mem hy
  have hp : pos s k ≤ j := by
    rcases Nat.lt_or_ge j (pos s k) with h1 | h1
    · obtain ⟨_, h2⟩ := Mv.pos_lt h1
      rw [e] at h2; exact absurd h2 (So.slt_irrefl _)
    · exact h1
  have hp2 : pos s k < s.length := by omega
  have hge := Mv.pos_ge hp2
  rcases Nat.lt_or_ge (pos s k) j with h1 | h1
  · have := hs.get h1 hj
    rw [e] at this; exact hge this
  · have he : pos s k = j := by omega
    have : has s k = true := decide_eq_true ⟨hp2, by simp only [he]; exact e⟩
    rw [this] at h; cases h
theorem chStep_upd {s : Recs} (hs : Srt s) (c : Ch) : Upd (chStep s c) s c.key c.row := fun y => by
  unfold chStep
  by_cases hh : has s c.key = true
  · obtain ⟨hp, hk⟩ := has_pos hh
    have e : s = s.take (pos s c.key) ++ s[pos s c.key] :: s.drop (pos s c.key + 1) := by rw [← List.drop_eq_getElem_cons hp, List.take_append_drop]
    have hm := srt_mid (T := s.take (pos s c.key)) (R := s.drop (pos s c.key + 1)) (x := s[pos s c.key]) (by rw [← e]; exact hs)
    rw [hk] at hm
    have hy : y ∈ s ↔ y = s[pos s c.key] ∨ y ∈ s.take (pos s c.key) ++ s.drop (pos s c.key + 1) := by
      conv => lhs; rw [e]
      simp only [List.mem_append, List.mem_cons]
      exact or_left_comm
    rw [if_pos hh]
    by_cases h0 : c.row.length = 0
    · rw [if_pos h0]
      constructor
      · intro h
        exact .inr ⟨hm y h, hy.2 (.inr h)⟩
      · rintro (⟨_, h, _⟩ | ⟨h1, h2⟩)
        · exact absurd h0 h
        · rcases hy.1 h2 with h3 | h3
          · rw [h3] at h1; exact absurd hk h1
          · exact h3
    · rw [if_neg h0, List.set_eq_take_append_cons_drop, if_pos hp]
      constructor
      · intro h
        rcases List.mem_append.1 h with h | h
        · exact .inr ⟨hm y (List.mem_append.2 (.inl h)), hy.2 (.inr (List.mem_append.2 (.inl h)))⟩
        · rcases List.mem_cons.1 h with h | h
          · rw [h]; exact .inl ⟨rfl, h0, rfl⟩
          · exact .inr ⟨hm y (List.mem_append.2 (.inr h)), hy.2 (.inr (List.mem_append.2 (.inr h)))⟩
      · rintro (⟨h1, _, h2⟩ | ⟨h1, h2⟩)
        · exact List.mem_append.2 (.inr (List.mem_cons.2 (.inl (Prod.ext h1 h2))))
        · rcases hy.1 h2 with h3 | h3
          · rw [h3] at h1; exact absurd hk h1
          · rcases List.mem_append.1 h3 with h3 | h3
            · exact List.mem_append.2 (.inl h3)
            · exact List.mem_append.2 (.inr (List.mem_cons_of_mem _ h3))
  · have hf : has s c.key = false := by simpa using hh
    have hn := no_has hs hf
    rw [if_neg hh]
    by_cases h0 : c.row.length = 0
    · rw [if_pos h0]
      exact ⟨fun h => .inr ⟨hn y h, h⟩, fun h => by
        rcases h with ⟨_, h, _⟩ | ⟨_, h⟩
        · exact absurd h0 h
        · exact h⟩
    · rw [if_neg h0]
      have hy : y ∈ s ↔ y ∈ s.take (pos s c.key) ∨ y ∈ s.drop (pos s c.key) := by
        conv => lhs; rw [← List.take_append_drop (pos s c.key) s]
        exact List.mem_append
      constructor
      · intro h
        rcases List.mem_append.1 h with h | h
        · exact .inr ⟨hn y (hy.2 (.inl h)), hy.2 (.inl h)⟩
        · rcases List.mem_cons.1 h with h | h
          · rw [h]; exact .inl ⟨rfl, h0, rfl⟩
          · exact .inr ⟨hn y (hy.2 (.inr h)), hy.2 (.inr h)⟩
      · rintro (⟨h1, _, h2⟩ | ⟨h1, h2⟩)
        · exact List.mem_append.2 (.inr (List.mem_cons.2 (.inl (Prod.ext h1 h2))))
        · rcases hy.1 h2 with h3 | h3
          · exact List.mem_append.2 (.inl h3)
          · exact List.mem_append.2 (.inr (List.mem_cons_of_mem _ h3))
theorem srt_nodup {A : Recs} (h : Srt A) : A.Nodup := List.Pairwise.imp (fun {a b} hab e => by rw [e] at hab; exact So.slt_irrefl _ hab) h
/-- Two sorted lists with the same members are one. -/
theorem srt_ext : ∀ {a b : Recs}, Srt a → Srt b → (∀ y, y ∈ a ↔ y ∈ b) → a = b
  | [], [], _, _, _ => rfl
  | [], y :: b, _, _, h => by have := (h y).2 (List.mem_cons_self ..); cases this
  | x :: a, [], _, _, h => by have := (h x).1 (List.mem_cons_self ..); cases this
  | x :: a, y :: b, ha, hb, h => by
    have ha' := List.pairwise_cons.1 ha
    have hb' := List.pairwise_cons.1 hb
    have hxy : x = y := by
      rcases List.mem_cons.1 ((h x).1 (List.mem_cons_self ..)) with h1 | h1
      · exact h1
      · rcases List.mem_cons.1 ((h y).2 (List.mem_cons_self ..)) with h2 | h2
        · exact h2.symm
        · exact absurd (hb'.1 x h1) (So.slt_asymm (ha'.1 y h2))
    subst hxy
    refine congrArg _ (srt_ext ha'.2 hb'.2 fun z => ?_)
    have hz := h z
    rw [List.mem_cons, List.mem_cons] at hz
    constructor
    · intro hm
      rcases hz.1 (.inr hm) with e | e
      · subst e; exact absurd (ha'.1 z hm) (So.slt_irrefl _)
      · exact e
    · intro hm
      rcases hz.2 (.inr hm) with e | e
      · subst e; exact absurd (hb'.1 z hm) (So.slt_irrefl _)
      · exact e
/-! ### States -/
theorem base_congr {l : List Ba} {t t' : Int} (h : ∀ b ∈ l, (b.1 ≤ t ↔ b.1 ≤ t')) : baseA l t = baseA l t' := by
  unfold baseA
  generalize ((0, []) : Ba) = d
  induction l generalizing d with
  | nil => rfl
  | cons x l ih =>
    simp only [List.foldl_cons]
    have hx := h x (List.mem_cons_self ..)
    have e : (if x.1 ≤ t then x else d) = if x.1 ≤ t' then x else d := by simp only [hx]
    rw [e]
    exact ih (fun b hb => h b (List.mem_cons_of_mem _ hb)) _
theorem base_snoc (l : List Ba) (x : Ba) (t : Int) : baseA (l ++ [x]) t = if x.1 ≤ t then x else baseA l t := by simp [baseA, List.foldl_append]
theorem foldC_congr {s : Recs} {b t t' : Int} {l : List Ch} (h : ∀ c ∈ l, (b < c.time ∧ c.time ≤ t ↔ b < c.time ∧ c.time ≤ t')) : foldC s b t l = foldC s b t' l := by
  unfold foldC
  induction l generalizing s with
  | nil => rfl
  | cons x l ih =>
    simp only [List.foldl_cons]
    have hx := h x (List.mem_cons_self ..)
    have e : (if b < x.time ∧ x.time ≤ t then chStep s x else s) = if b < x.time ∧ x.time ≤ t' then chStep s x else s := by simp only [hx]
    rw [e]
    exact ih fun b hb => h b (List.mem_cons_of_mem _ hb)
theorem foldC_none {s : Recs} {b t : Int} {l : List Ch} (h : ∀ c ∈ l, ¬ (b < c.time ∧ c.time ≤ t)) : foldC s b t l = s := by
  unfold foldC
  induction l generalizing s with
  | nil => rfl
  | cons x l ih =>
    simp only [List.foldl_cons]
    rw [if_neg (h x (List.mem_cons_self ..))]
    exact ih fun b hb => h b (List.mem_cons_of_mem _ hb)
theorem foldC_filter {s : Recs} {b t : Int} {l : List Ch} {p : Ch → Bool} (h : ∀ c ∈ l, p c = false → ¬ (b < c.time ∧ c.time ≤ t)) : foldC s b t (l.filter p) = foldC s b t l := by
  unfold foldC
  induction l generalizing s with
  | nil => rfl
  | cons x l ih =>
    have ih' := fun s' => ih (s := s') fun c hc => h c (List.mem_cons_of_mem _ hc)
    rw [List.filter_cons]
    cases hp : p x with
    | true => simp only [if_true, List.foldl_cons]; exact ih' _
    | false =>
      simp only [List.foldl_cons]
      rw [if_neg (h x (List.mem_cons_self ..) hp)]
      exact ih' _
theorem st_snoc (A : Ar) (c : Ch) (t : Int) : stA { A with chgs := A.chgs ++ [c] } t = if (baseA A.baks t).1 < c.time ∧ c.time ≤ t then chStep (stA A t) c else stA A t := by
  simp [stA, foldC, List.foldl_append]
/-! ### The archive that the laws make -/
structure Arc (A : Ar) (sts : List Recs) (n nb : Nat) : Prop where
  sl : sts.length = n + 1
  st : ∀ t : Nat, t ≤ n → stA A t = sts.getD t []
  lat : latA A = n
  earl : A.earl = 0
  bt : ∀ b ∈ A.baks, 0 ≤ b.1 ∧ b.1 ≤ n
  bs : A.baks.Pairwise fun a b => a.1 < b.1
  ct : ∀ c ∈ A.chgs, 0 < c.time ∧ c.time ≤ n
  bn : A.baks.length = nb + 1
  cn : A.chgs.length ≤ n
  rn : A.recs.length ≤ 6 * nb
  b0 : (A.baks.getD 0 (0, [])).1 = 0
  ky : ∀ s ∈ sts, Srt s ∧ (∀ y ∈ s, (∃ j : Nat, j < 6 ∧ y.1 = keyB j) ∧ y.2.length ≤ 1) ∧ s.length ≤ 6
theorem arc0 : Arc ar0 [[]] 0 0 :=
  ⟨rfl, fun t ht => (by cases Nat.le_zero.1 ht; rfl), rfl, rfl, fun b hb => (by rw [List.mem_singleton.1 hb]; decide), List.pairwise_singleton _ _, fun c hc => (by cases hc), rfl, Nat.le_refl _, Nat.le_refl _, rfl, fun s hs => by
    rw [List.mem_singleton.1 hs]; exact ⟨List.Pairwise.nil, fun y hy => (by cases hy), by decide⟩⟩
theorem keyB_mod (x : Int) : ∃ j : Nat, j < 6 ∧ keyB x = keyB j := by
  refine ⟨(modV x 6).toNat, ?_, ?_⟩
  · have := modV_nonneg x 6 (by omega); have := modV_lt x 6 (by omega); omega
  · have h0 := modV_nonneg x 6 (by omega)
    have h1 := modV_lt x 6 (by omega)
    have : modV ((modV x 6).toNat : Int) 6 = modV x 6 := by
      rw [Int.toNat_of_nonneg h0]
      generalize modV x 6 = m at *
      unfold modV
      omega
    unfold keyB
    rw [this]
theorem keyB_nat {i j : Nat} (hi : i < 6) (hj : j < 6) (hij : i < j) : slt (keyB i) (keyB j) := by
  have : ∀ i j : Fin 6, i < j → slt (keyB ((i : Nat) : Int)) (keyB ((j : Nat) : Int)) := by
    unfold slt keyB modV one
    decide
  exact this ⟨i, hi⟩ ⟨j, hj⟩ hij
theorem keyB_inj {i j : Nat} (hi : i < 6) (hj : j < 6) (h : keyB i = keyB j) : i = j := by
  rcases Nat.lt_trichotomy i j with h1 | h1 | h1
  · have := keyB_nat hi hj h1; rw [h] at this; exact absurd this (So.slt_irrefl _)
  · exact h1
  · have := keyB_nat hj hi h1; rw [h] at this; exact absurd this (So.slt_irrefl _)
/-- What the law's inner loop collects. -/
def colK (s : Recs) (k : Nat) : Recs := (List.range k).filterMap fun j : Nat => s.find? fun y => decide (y.1 = keyB j)
theorem colK_succ (s : Recs) (k : Nat) : colK s (k + 1) = colK s k ++ (match s.find? (fun y => decide (y.1 = keyB k)) with | some y => [y] | none => []) := by
  unfold colK
  rw [List.range_succ, List.filterMap_append, List.filterMap_cons, List.filterMap_nil]
  cases s.find? (fun y => decide (y.1 = keyB k)) <;> rfl
theorem colK_len (s : Recs) (k : Nat) : (colK s k).length ≤ k := by
  have := List.length_filterMap_le (fun j : Nat => s.find? fun y => decide (y.1 = keyB j)) (List.range k)
  rw [List.length_range] at this
  exact this
theorem mem_colK {s : Recs} {k : Nat} {y : ByteArray × List Val} (h : y ∈ colK s k) : ∃ j, j < k ∧ y ∈ s ∧ y.1 = keyB j := by
  obtain ⟨j, hj, h⟩ := List.mem_filterMap.1 h
  exact ⟨j, List.mem_range.1 hj, List.mem_of_find?_eq_some h, of_decide_eq_true (List.find?_some (p := fun y : ByteArray × List Val => decide (y.1 = keyB j)) h)⟩
theorem srt_inj {A : Recs} (h : Srt A) {y z : ByteArray × List Val} (hy : y ∈ A) (hz : z ∈ A) (e : y.1 = z.1) : y = z := by
  obtain ⟨i, hi, rfl⟩ := List.getElem_of_mem hy
  obtain ⟨j, hj, rfl⟩ := List.getElem_of_mem hz
  rcases Nat.lt_trichotomy i j with hij | rfl | hij
  · have := h.get hij hj; rw [e] at this; exact absurd this (So.slt_irrefl _)
  · rfl
  · have := h.get hij hi; rw [e] at this; exact absurd this (So.slt_irrefl _)
theorem srt_colK {s : Recs} : ∀ k, k ≤ 6 → Srt (colK s k)
  | 0, _ => List.Pairwise.nil
  | k + 1, hk => by
    rw [colK_succ]
    cases hf : s.find? (fun y => decide (y.1 = keyB k)) with
    | none => simpa using srt_colK (s := s) k (by omega)
    | some y =>
      refine List.pairwise_append.2 ⟨srt_colK k (by omega), List.pairwise_singleton _ _, fun a ha b hb => ?_⟩
      rw [List.mem_singleton.1 hb]
      obtain ⟨j, hj, _, e⟩ := mem_colK ha
      have e2 : y.1 = keyB k := of_decide_eq_true (List.find?_some (p := fun y : ByteArray × List Val => decide (y.1 = keyB k)) hf)
      rw [e, e2]
      exact keyB_nat (by omega) (by omega) hj
theorem colK_all {s : Recs} (hs : Srt s) (hk : ∀ y ∈ s, ∃ j : Nat, j < 6 ∧ y.1 = keyB j) : colK s 6 = s := by
  refine srt_ext (srt_colK 6 (Nat.le_refl _)) hs fun y => ⟨fun h => by obtain ⟨_, _, h, _⟩ := mem_colK h; exact h, fun h => ?_⟩
  obtain ⟨j, hj, e⟩ := hk y h
  refine List.mem_filterMap.2 ⟨j, List.mem_range.2 hj, ?_⟩
  cases hf : s.find? (fun y => decide (y.1 = keyB j)) with
  | none =>
    have := List.find?_eq_none.1 hf y h
    simp [e] at this
  | some z =>
    have e2 : z.1 = keyB j := of_decide_eq_true (List.find?_some (p := fun y : ByteArray × List Val => decide (y.1 = keyB j)) hf)
    rw [srt_inj hs h (List.mem_of_find?_eq_some hf) (by rw [e, e2])]
theorem getD_snoc {α : Type} (l : List α) (x d : α) (t : Nat) : (l ++ [x]).getD t d = if t = l.length then x else l.getD t d := by
  simp only [List.getD]
  rcases Nat.lt_trichotomy t l.length with h | rfl | h
  · rw [List.getElem?_append_left h, if_neg (by omega)]
  · simp
  · rw [List.getElem?_eq_none (by simp; omega), if_neg (by omega), List.getElem?_eq_none (by omega)]
theorem Arc.now {A : Ar} {sts : List Recs} {n nb : Nat} (h : Arc A sts n nb) : stA A ((n : Int) + 1) = stA A n := by
  unfold stA
  have e : baseA A.baks ((n : Int) + 1) = baseA A.baks n := base_congr fun b hb => by have := (h.bt b hb).2; omega
  rw [e]
  exact foldC_congr fun c hc => by have := (h.ct c hc).2; omega
theorem Arc.base {A : Ar} {sts : List Recs} {n nb : Nat} (h : Arc A sts n nb) (t : Int) : 0 ≤ (baseA A.baks t).1 ∧ (baseA A.baks t).1 ≤ n := by
  rcases base_mem A.baks t with e | e
  · rw [e]; exact ⟨Int.le_refl _, by show (0 : Int) ≤ n; omega⟩
  · exact h.bt _ e
theorem Arc.cur {A : Ar} {sts : List Recs} {n nb : Nat} (h : Arc A sts n nb) : sts.getD n [] ∈ sts := by
  have : n < sts.length := by rw [h.sl]; omega
  simp [List.getD, this]
theorem key_len {s : Recs} (hs : Srt s) (hk : ∀ y ∈ s, ∃ j : Nat, j < 6 ∧ y.1 = keyB j) : s.length ≤ 6 := by
  have := colK_len s 6
  rwa [colK_all hs hk] at this
theorem arc_rec {A : Ar} {sts : List Recs} {n nb : Nat} (h : Arc A sts n nb) (x : Int) {row : List Val} (hr : row.length ≤ 1) :
    Arc { A with chgs := A.chgs ++ [⟨(n : Int) + 1, keyB x, row⟩] } (sts ++ [chStep (sts.getD n []) ⟨(n : Int) + 1, keyB x, row⟩]) (n + 1) nb ∧ Upd (chStep (sts.getD n []) ⟨(n : Int) + 1, keyB x, row⟩) (sts.getD n []) (keyB x) row := by
  obtain ⟨k1, k2, k3⟩ := h.ky _ h.cur
  have hU := chStep_upd k1 ⟨(n : Int) + 1, keyB x, row⟩
  have hS := (chStep_ok k1 ⟨(n : Int) + 1, keyB x, row⟩).1
  have hK : ∀ y ∈ chStep (sts.getD n []) ⟨(n : Int) + 1, keyB x, row⟩, (∃ j : Nat, j < 6 ∧ y.1 = keyB j) ∧ y.2.length ≤ 1 := fun y hy => by
    rcases (hU y).1 hy with ⟨e, _, e2⟩ | ⟨_, e⟩
    · obtain ⟨j, hj, e3⟩ := keyB_mod x
      exact ⟨⟨j, hj, e.trans e3⟩, by rw [e2]; exact hr⟩
    · exact k2 y e
  refine ⟨⟨by simp [h.sl], fun t ht => ?_, ?_, h.earl, fun b hb => ?_, h.bs, fun c hc => ?_, h.bn, ?_, h.rn, h.b0, fun s hs => ?_⟩, hU⟩
  · rw [st_snoc, getD_snoc, h.sl]
    rcases Nat.lt_or_ge n t with h1 | h1
    · obtain rfl : t = n + 1 := by omega
      have hb := h.base ((n + 1 : Nat) : Int)
      rw [if_pos rfl, if_pos ⟨by show _ < (n : Int) + 1; omega, by show (n : Int) + 1 ≤ _; push_cast; omega⟩]
      rw [show ((n + 1 : Nat) : Int) = (n : Int) + 1 by push_cast; rfl, h.now, h.st n (Nat.le_refl _)]
    · have hne : ¬ ((baseA A.baks t).1 < (n : Int) + 1 ∧ (n : Int) + 1 ≤ t) := by omega
      have hne2 : ¬ t = n + 1 := by omega
      rw [if_neg hne, if_neg hne2, h.st t h1]
  · have hb : ∀ b ∈ A.baks, b.1 ≤ n := fun b hb => (h.bt b hb).2
    have hl : (A.baks.getLastD (0, [])).1 ≤ n := by
      rw [List.getLastD_eq_getLast?]
      cases hg : A.baks.getLast? with
      | none => show (0 : Int) ≤ n; omega
      | some b => exact hb b (List.mem_of_getLast? hg)
    unfold latA
    simp only [List.getLast?_append, List.getLast?_singleton, Option.some_or]
    rw [if_pos (by omega)]
    push_cast
    rfl
  · have := h.bt b hb; push_cast; omega
  · rcases List.mem_append.1 hc with hc | hc
    · have := h.ct c hc; push_cast; omega
    · rw [List.mem_singleton.1 hc]; show (0 : Int) < n + 1 ∧ (n : Int) + 1 ≤ _; push_cast; omega
  · show (A.chgs ++ [_]).length ≤ n + 1
    have := h.cn; simp; omega
  · rcases List.mem_append.1 hs with hs | hs
    · exact h.ky s hs
    · rw [List.mem_singleton.1 hs]
      exact ⟨hS, hK, key_len hS fun y hy => (hK y hy).1⟩
theorem arc_full {A A' : Ar} {sts : List Recs} {n nb : Nat} {idx : List Nat} {st : Int} (h : Arc A sts n nb) (hf : FB A (stA A ((n : Int) + 1)) (stA A ((n : Int) + 1)).length A'.recs A'.refs idx st) (hb : A'.baks = A.baks ++ [((n : Int) + 1, idx)]) (hc : A'.chgs = A.chgs) (he : A'.earl = A.earl) :
    Arc A' (sts ++ [sts.getD n []]) (n + 1) (nb + 1) := by
  obtain ⟨k1, k2, k3⟩ := h.ky _ h.cur
  have hidx : stB A'.recs idx = sts.getD n [] := by rw [hf.new.1, List.take_length, h.now, h.st n (Nat.le_refl _)]
  refine ⟨by simp [h.sl], fun t ht => ?_, ?_, by rw [he, h.earl], fun b hm => ?_, ?_, fun c hm => ?_, by rw [hb]; simp [h.bn], by rw [hc]; have := h.cn; omega, ?_, by
    have h0 : 0 < A.baks.length := by rw [h.bn]; omega
    have := h.b0
    rw [hb, getD_snoc, if_neg (by omega)]; exact this, fun s hs => ?_⟩
  · rw [getD_snoc, h.sl]
    unfold stA
    rw [hb, hc, base_snoc]
    rcases Nat.lt_or_ge n t with h1 | h1
    · obtain rfl : t = n + 1 := by omega
      rw [if_pos rfl, if_pos (by show (n : Int) + 1 ≤ _; push_cast; omega), hidx]
      exact foldC_none fun c hm => by have := h.ct c hm; push_cast; omega
    · have hne : ¬ (n : Int) + 1 ≤ t := by omega
      have hne2 : ¬ t = n + 1 := by omega
      rw [if_neg hne, if_neg hne2]
      rw [show stB A'.recs (baseA A.baks t).2 = stB A.recs (baseA A.baks t).2 from ?_]
      · exact h.st t h1
      · rcases base_mem A.baks t with e | e
        · rw [e]; rfl
        · exact (hf.old _ e).1
  · have hl : ∀ c, A.chgs.getLast? = some c → c.time ≤ n := fun c hg => (h.ct c (List.mem_of_getLast? hg)).2
    unfold latA
    rw [hb, hc, List.getLastD_concat]
    cases hg : A.chgs.getLast? with
    | none => push_cast; rfl
    | some c =>
      have := hl c hg
      show (if (n : Int) + 1 < c.time then c.time else (n : Int) + 1) = _
      rw [if_neg (by omega)]; push_cast; rfl
  · rw [hb] at hm
    rcases List.mem_append.1 hm with hm | hm
    · have := h.bt b hm; push_cast; omega
    · rw [List.mem_singleton.1 hm]; show (0 : Int) ≤ n + 1 ∧ (n : Int) + 1 ≤ _; push_cast; omega
  · rw [hb]
    refine List.pairwise_append.2 ⟨h.bs, List.pairwise_singleton _ _, fun a ha b hm => ?_⟩
    rw [List.mem_singleton.1 hm]
    have := (h.bt a ha).2
    show a.1 < (n : Int) + 1
    omega
  · rw [hc] at hm; have := h.ct c hm; push_cast; omega
  · have h1 := hf.big
    have h2 := h.rn
    rw [h.now, h.st n (Nat.le_refl _)] at h1
    omega
  · rcases List.mem_append.1 hs with hs | hs
    · exact h.ky s hs
    · rw [List.mem_singleton.1 hs]; exact h.ky _ h.cur
/-- Prune leaves the later states. -/
theorem st_prune {A A' : Ar} {p t : Int} {n : Nat} (hb : A.baks.Pairwise fun a b => a.1 < b.1) (h : PrA A A' p n) (ht : p ≤ t) (h0 : ∀ b ∈ A.baks, 0 ≤ b.1) (ht0 : 0 ≤ t) (hz : (A.baks.getD 0 (0, [])).1 ≤ t) : stA A' t = stA A t := by
  have hn := h.nl
  have hgn : A.baks.getD n (0, []) = A.baks[n] := by simp [List.getD, hn]
  have hle : A.baks[n].1 ≤ t := by
    rcases h.nt with e | e
    · subst e; rw [hgn] at hz; exact hz
    · rw [hgn] at e; omega
  -- the base is the same
  have hbase : baseA (A.baks.drop n) t = baseA A.baks t := by
    conv => rhs; rw [← List.take_append_drop n A.baks]
    unfold baseA
    rw [List.foldl_append, List.drop_eq_getElem_cons hn, List.foldl_cons, List.foldl_cons, if_pos hle, if_pos hle]
  have hmem : baseA (A.baks.drop n) t ∈ A.baks.drop n := by
    rw [List.drop_eq_getElem_cons hn]
    unfold baseA
    rw [List.foldl_cons, if_pos hle]
    have key : ∀ (l : List Ba) (d : Ba), l.foldl (fun b x => if x.1 ≤ t then x else b) d ∈ d :: l := fun l => by
      induction l with
      | nil => intro d; exact List.mem_cons_self ..
      | cons x l ih =>
        intro d
        rw [List.foldl_cons]
        split
        · exact List.mem_cons_of_mem _ (ih x)
        · rcases List.mem_cons.1 (ih d) with e | e
          · rw [e]; exact List.mem_cons_self ..
          · exact List.mem_cons_of_mem _ (List.mem_cons_of_mem _ e)
    exact key _ _
  have hge : A.baks[n].1 ≤ (baseA (A.baks.drop n) t).1 := by
    have hp := List.Pairwise.sublist (List.drop_sublist n A.baks) hb
    rw [List.drop_eq_getElem_cons hn] at hp
    have h2 := hmem
    rw [List.drop_eq_getElem_cons hn] at h2
    rcases List.mem_cons.1 h2 with e | e
    · rw [List.drop_eq_getElem_cons hn, e]; exact Int.le_refl _
    · rw [List.drop_eq_getElem_cons hn]; exact Int.le_of_lt ((List.pairwise_cons.1 hp).1 _ e)
  unfold stA
  rw [h.baks, hbase, h.st _ (by rw [h.baks, ← hbase]; exact hmem), h.chgs]
  refine foldC_filter fun c hc hp => ?_
  rw [hgn] at hp
  rw [hbase] at hge
  simp only [Bool.not_eq_false', decide_eq_true_eq] at hp
  omega
end Go.Proofs.Ytdaehidbeleblaa.Bk
