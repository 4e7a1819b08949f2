/- The archive: FullBackup, the plain part. -/
import Derived.Test.YtdaehidbeleblaaBkg
namespace Go.Proofs.Ytdaehidbeleblaa.Bk
open Go Go.RowKit Hp
open Mv (Val rowC rowC_len rowC_one rowC_get RM rmC rmC1 rmC_len rmC_get erR RecsR RecsS Srt pos has pos_le has_pos fm_len fm_take fm_drop fm_get fm_set fm_one cloneR)
set_option linter.unusedVariables false

theorem getD_set {α : Type} (l : List α) (i j : Nat) (x d : α) (h : i < l.length) : (l.set i x).getD j d = if j = i then x else l.getD j d := by
  simp only [List.getD, List.getElem?_set]
  by_cases e : i = j
  · subst e; simp [h]
  · have : ¬ j = i := fun h => e h.symm
    simp [e, this]
theorem getD_append {α : Type} (l : List α) (j : Nat) (x d : α) (h : j ≤ l.length) : (l ++ [x]).getD j d = if j = l.length then x else l.getD j d := by
  simp only [List.getD]
  rcases Nat.lt_or_ge j l.length with h1 | h1
  · rw [List.getElem?_append_left h1, if_neg (by omega)]
  · obtain rfl : j = l.length := by omega
    simp
theorem stB_congr {recs recs' : Recs} {idx : List Nat} (h : ∀ i ∈ idx, recD recs' i = recD recs i) : stB recs' idx = stB recs idx := List.map_congr_left h
/-- Every record of the state is found in the archive. -/
def AllIn (A : Ar) (S : Recs) : Prop := ∀ r ∈ S, ∃ i, i < A.recs.length ∧ 0 < A.refs.getD i 0 ∧ recD A.recs i = r
structure FB (A : Ar) (S : Recs) (j : Nat) (recs : Recs) (refs : List Nat) (idx : List Nat) (st : Int) : Prop where
  rl : refs.length = recs.length
  big : recs.length ≤ A.recs.length + j
  rr : ∀ r ∈ recs, r.1.size ≤ 24 ∧ r.2.length ≤ 6
  cnt : ∀ i, i < refs.length → refs.getD i 0 = (A.baks.flatMap Prod.snd ++ idx).count i
  old : ∀ b ∈ A.baks, stB recs b.2 = stB A.recs b.2 ∧ ∀ i ∈ b.2, i < recs.length
  new : stB recs idx = S.take j ∧ ∀ i ∈ idx, i < recs.length
  il : idx.length = j
  all : AllIn A S → st = 0 ∧ recs = A.recs ∧ ∀ i, (0 < refs.getD i 0 ↔ 0 < A.refs.getD i 0)
  st0 : 0 ≤ st ∧ st ≤ j
theorem fb_zero {A : Ar} (ok : AOk A) (S : Recs) : FB A S 0 A.recs A.refs [] 0 :=
  ⟨ok.rl, Nat.le_refl _, ok.rr, fun i hi => by rw [List.append_nil]; exact ok.cnt i hi, fun b hb => ⟨rfl, ok.ilt b hb⟩, ⟨rfl, fun i hi => by cases hi⟩, rfl, fun _ => ⟨rfl, rfl, fun _ => Iff.rfl⟩, by omega, by omega⟩
theorem count_snoc (l idx : List Nat) (i z : Nat) : (l ++ (idx ++ [z])).count i = (l ++ idx).count i + if z = i then 1 else 0 := by
  rw [← List.append_assoc, List.count_append (l₁ := l ++ idx), List.count_singleton]
  by_cases e : z = i
  · subst e; simp
  · simp [e]
theorem new_snoc {S recs : Recs} {idx : List Nat} {j z : Nat} (hj : j < S.length) (h : stB recs idx = S.take j) (hz : recD recs z = S[j]) : stB recs (idx ++ [z]) = S.take (j + 1) := by
  rw [List.take_succ_eq_append_getElem hj, ← h, ← hz]
  simp [stB]
theorem fb_hit {A : Ar} {S : Recs} {j : Nat} {recs : Recs} {refs idx : List Nat} {st : Int} (h : FB A S j recs refs idx st) (hj : j < S.length) {i n : Nat} (hi : i < recs.length) (hn : refs.getD i 0 = n) (hp : 0 < n) (hr : recD recs i = S[j]) :
    FB A S (j + 1) recs (refs.set i (n + 1)) (idx ++ [i]) st := by
  have hi' : i < refs.length := by rw [h.rl]; exact hi
  refine ⟨by rw [List.length_set]; exact h.rl, by have := h.big; omega, h.rr, fun k hk => ?_, h.old, ⟨new_snoc hj h.new.1 hr, fun k hk => ?_⟩, by simp [h.il], fun ha => ?_, by have := h.st0; omega, by have := h.st0; omega⟩
  · rw [List.length_set] at hk
    rw [count_snoc, getD_set _ _ _ _ _ hi', ← h.cnt k hk]
    by_cases e : k = i
    · subst e; rw [if_pos rfl, if_pos rfl, hn]
    · rw [if_neg e, if_neg fun e2 => e e2.symm, Nat.add_zero]
  · rcases List.mem_append.1 hk with hk | hk
    · exact h.new.2 k hk
    · rw [List.mem_singleton.1 hk]; exact hi
  · obtain ⟨h1, h2, h3⟩ := h.all ha
    refine ⟨h1, h2, fun k => ?_⟩
    rw [getD_set _ _ _ _ _ hi', ← h3]
    split
    · rename_i e; subst e; rw [hn]; omega
    · rfl
theorem miss_not_all {A : Ar} {S : Recs} {j : Nat} {recs : Recs} {refs idx : List Nat} {st : Int} (h : FB A S j recs refs idx st) (hj : j < S.length) (hm : ∀ i, i < recs.length → 0 < refs.getD i 0 → recD recs i ≠ S[j]) : ¬ AllIn A S := fun ha => by
  obtain ⟨_, h2, h3⟩ := h.all ha
  obtain ⟨i, hi, hp, hr⟩ := ha _ (List.getElem_mem hj)
  subst h2
  exact hm i hi ((h3 i).2 hp) hr
theorem fb_old {A : Ar} {S : Recs} {j : Nat} {recs recs' : Recs} {refs idx : List Nat} {st : Int} (h : FB A S j recs refs idx st) {z : Nat} (hz : z < refs.length → refs.getD z 0 = 0) (hzl : z ≤ refs.length) (he : ∀ i, i < recs.length → i ≠ z → recD recs' i = recD recs i) (hl : recs.length ≤ recs'.length) :
    (∀ b ∈ A.baks, stB recs' b.2 = stB A.recs b.2 ∧ ∀ i ∈ b.2, i < recs'.length) ∧ stB recs' idx = stB recs idx := by
  have nz : ∀ i, i < recs.length → i ∈ A.baks.flatMap Prod.snd ++ idx → i ≠ z := fun i hi hm e => by
    subst e
    have h1 := h.cnt i (by rw [h.rl]; exact hi)
    rw [hz (by rw [h.rl]; exact hi)] at h1
    exact absurd (List.count_pos_iff.2 hm) (by omega)
  refine ⟨fun b hb => ⟨?_, fun i hi => Nat.lt_of_lt_of_le ((h.old b hb).2 i hi) hl⟩, stB_congr fun i hi => he i (h.new.2 i hi) (nz i (h.new.2 i hi) (List.mem_append.2 (.inr hi)))⟩
  rw [← (h.old b hb).1]
  exact stB_congr fun i hi => he i ((h.old b hb).2 i hi) (nz i ((h.old b hb).2 i hi) (List.mem_append.2 (.inl (List.mem_flatMap.2 ⟨b, hb, hi⟩))))
theorem fb_slot {A : Ar} {S : Recs} {j : Nat} {recs : Recs} {refs idx : List Nat} {st : Int} (h : FB A S j recs refs idx st) (hj : j < S.length) (hs : S[j].1.size ≤ 24 ∧ S[j].2.length ≤ 6) {z : Nat} (hz : z < recs.length) (h0 : refs.getD z 0 = 0)
    (hm : ∀ i, i < recs.length → 0 < refs.getD i 0 → recD recs i ≠ S[j]) : FB A S (j + 1) (recs.set z S[j]) (refs.set z 1) (idx ++ [z]) (st + 1) := by
  have hz' : z < refs.length := by rw [h.rl]; exact hz
  have hrd : ∀ i, recD (recs.set z S[j]) i = if i = z then S[j] else recD recs i := fun i => getD_set _ _ _ _ _ hz
  obtain ⟨o1, o2⟩ := fb_old (recs' := recs.set z S[j]) h (fun _ => h0) (Nat.le_of_lt hz') (fun i hi hne => by rw [hrd, if_neg hne]) (by simp)
  refine ⟨by rw [List.length_set, List.length_set]; exact h.rl, by rw [List.length_set]; have := h.big; omega, fun r hr => ?_, fun k hk => ?_, o1, ⟨new_snoc hj (by rw [o2]; exact h.new.1) (by rw [hrd, if_pos rfl]), fun k hk => ?_⟩, by simp [h.il], fun ha => absurd ha (miss_not_all h hj hm), by have := h.st0; omega, by have := h.st0; omega⟩
  · rcases List.mem_or_eq_of_mem_set hr with hr | rfl
    · exact h.rr r hr
    · exact hs
  · rw [List.length_set] at hk
    rw [count_snoc, getD_set _ _ _ _ _ hz', ← h.cnt k hk]
    by_cases e : k = z
    · subst e; rw [if_pos rfl, if_pos rfl, h0]
    · rw [if_neg e, if_neg fun e2 => e e2.symm, Nat.add_zero]
  · rw [List.length_set]
    rcases List.mem_append.1 hk with hk | hk
    · exact h.new.2 k hk
    · rw [List.mem_singleton.1 hk]; exact hz
theorem fb_grow {A : Ar} {S : Recs} {j : Nat} {recs : Recs} {refs idx : List Nat} {st : Int} (h : FB A S j recs refs idx st) (hj : j < S.length) (hs : S[j].1.size ≤ 24 ∧ S[j].2.length ≤ 6)
    (hm : ∀ i, i < recs.length → 0 < refs.getD i 0 → recD recs i ≠ S[j]) : FB A S (j + 1) (recs ++ [S[j]]) (refs ++ [1]) (idx ++ [recs.length]) (st + 1) := by
  have hrd : ∀ i, i ≤ recs.length → recD (recs ++ [S[j]]) i = if i = recs.length then S[j] else recD recs i := fun i hi => getD_append _ _ _ _ hi
  obtain ⟨o1, o2⟩ := fb_old (recs' := recs ++ [S[j]]) (z := recs.length) h (fun hlt => by rw [h.rl] at hlt; omega) (by rw [h.rl]; exact Nat.le_refl _) (fun i hi hne => by rw [hrd i (by omega), if_neg hne]) (by simp)
  refine ⟨by simp [h.rl], by have := h.big; simp; omega, fun r hr => ?_, fun k hk => ?_, o1, ⟨new_snoc hj (by rw [o2]; exact h.new.1) (by rw [hrd _ (Nat.le_refl _), if_pos rfl]), fun k hk => ?_⟩, by simp [h.il], fun ha => absurd ha (miss_not_all h hj hm), by have := h.st0; omega, by have := h.st0; omega⟩
  · rcases List.mem_append.1 hr with hr | hr
    · exact h.rr r hr
    · rw [List.mem_singleton.1 hr]; exact hs
  · have hk' : k ≤ refs.length := by simp at hk; omega
    rw [count_snoc, getD_append _ _ _ _ hk', ← h.rl]
    by_cases e : k = refs.length
    · subst e
      rw [if_pos rfl, if_pos rfl]
      have : (A.baks.flatMap Prod.snd ++ idx).count refs.length = 0 := List.count_eq_zero.2 fun hmem => by
        rcases List.mem_append.1 hmem with hmem | hmem
        · obtain ⟨b, hb, hi⟩ := List.mem_flatMap.1 hmem
          have := (h.old b hb).2 _ hi
          rw [h.rl] at this; omega
        · have := h.new.2 _ hmem
          rw [h.rl] at this; omega
      rw [this]
    · rw [if_neg e, if_neg fun e2 => e e2.symm, Nat.add_zero, h.cnt k (by omega)]
  · rcases List.mem_append.1 hk with hk | hk
    · have := h.new.2 k hk; simp; omega
    · rw [List.mem_singleton.1 hk]; simp
theorem flat_len {l : List Ba} (h : ∀ b ∈ l, b.2.length ≤ 40) : (l.flatMap Prod.snd).length ≤ l.length * 40 := by
  induction l with
  | nil => simp
  | cons b l ih =>
    have h1 := h b (List.mem_cons_self ..)
    have h2 := ih fun x hx => h x (List.mem_cons_of_mem _ hx)
    rw [List.flatMap_cons, List.length_append, List.length_cons]
    omega
theorem fb_small {A : Ar} {S : Recs} {j : Nat} {recs : Recs} {refs idx : List Nat} {st : Int} (ok : AOk A) (h : FB A S j recs refs idx st) (hj : j ≤ 40) {i : Nat} (hi : i < refs.length) : refs.getD i 0 ≤ 1000 := by
  rw [h.cnt i hi]
  have h1 := List.count_le_length (a := i) (l := A.baks.flatMap Prod.snd ++ idx)
  rw [List.length_append, h.il] at h1
  have h2 := flat_len ok.il
  have h3 := ok.bl
  omega
end Go.Proofs.Ytdaehidbeleblaa.Bk
