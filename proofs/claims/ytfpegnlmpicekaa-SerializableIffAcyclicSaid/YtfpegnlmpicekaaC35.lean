/- cycleFrom: the search, in plain words. -/
import Derived.Test.YtfpegnlmpicekaaC34
namespace Go.Proofs.Ytfpegnlmpicekaa.C
open Go Go.RowKit Hp
set_option linter.unusedVariables false

def updI (f : Nat → Int) (a : Nat) (x : Int) : Nat → Int := fun v => if v = a then x else f v
theorem updI_same (f : Nat → Int) (a : Nat) (x : Int) : updI f a x a = x := by simp [updI]
theorem updI_ne (f : Nat → Int) {a v : Nat} (x : Int) (h : v ≠ a) : updI f a x v = f v := by simp [updI, h]
def neg (f : Nat → Int) : Nat := ((List.range 20).filter fun v => f v == -1).length
theorem neg_upd_aux (f : Nat → Int) (a : Nat) (x : Int) (ha : f a = -1) (hx : x ≠ -1) : ∀ n, ((List.range n).filter fun v => f v == -1).length = ((List.range n).filter fun v => updI f a x v == -1).length + if a < n then 1 else 0
  | 0 => by simp
  | n + 1 => by
    rw [List.range_succ, List.filter_append, List.filter_append, List.length_append, List.length_append, neg_upd_aux f a x ha hx n]
    by_cases e : n = a
    · subst e
      simp [updI, ha, hx]
    · by_cases hn : f n = -1
      · simp [updI, e, hn]; split <;> split <;> omega
      · simp [updI, e, hn]; split <;> split <;> omega
theorem neg_upd (f : Nat → Int) {a : Nat} (x : Int) (h20 : a < 20) (ha : f a = -1) (hx : x ≠ -1) : neg f = neg (updI f a x) + 1 := by
  have := neg_upd_aux f a x ha hx 20
  rw [if_pos h20] at this
  exact this
theorem neg_le (f : Nat → Int) : neg f ≤ 20 := by
  unfold neg; exact Nat.le_trans (List.length_filter_le _ _) (by simp)

structure Bfs (M : Nat → Bool) (s d : Nat) (f : Nat → Int) (fr : List Nat) : Prop where
  pos : 1 ≤ d
  val : ∀ v, v < 20 → f v = -1 ∨ (1 ≤ f v ∧ f v < d ∧ s ≤ v)
  one : ∀ v, v < 20 → f v = 1 → M (v * 20 + s) = true
  dn : ∀ v, v < 20 → 2 ≤ f v → ∃ u, u < 20 ∧ s < u ∧ M (v * 20 + u) = true ∧ f u = f v - 1
  cl : ∀ u a, u < 20 → a < 20 → s ≤ a → M (a * 20 + u) = true → (u = s ∧ 2 ≤ d) ∨ (1 ≤ f u ∧ f u + 1 < d) → 1 ≤ f a
  fr1 : d = 1 → fr = [s]
  fr2 : 2 ≤ d → ∀ u, u ∈ fr ↔ u < 20 ∧ f u = (d : Int) - 1

structure Mid (M : Nat → Bool) (s d : Nat) (f : Nat → Int) (fr nx : List Nat) (i a U : Nat) : Prop where
  pos : 1 ≤ d
  val : ∀ v, v < 20 → f v = -1 ∨ (1 ≤ f v ∧ f v ≤ d ∧ s ≤ v)
  one : ∀ v, v < 20 → f v = 1 → M (v * 20 + s) = true
  dn : ∀ v, v < 20 → 2 ≤ f v → ∃ u, u < 20 ∧ s < u ∧ M (v * 20 + u) = true ∧ f u = f v - 1
  cl : ∀ u a, u < 20 → a < 20 → s ≤ a → M (a * 20 + u) = true → (u = s ∧ 2 ≤ d) ∨ (1 ≤ f u ∧ f u + 1 < d) → 1 ≤ f a
  fr1 : d = 1 → fr = [s]
  fr2 : 2 ≤ d → ∀ u, u ∈ fr ↔ u < 20 ∧ f u = (d : Int) - 1
  nxm : ∀ u, u ∈ nx ↔ u < 20 ∧ f u = d
  pr : ∀ j, j < i → ∀ a', a' < 20 → s ≤ a' → M (a' * 20 + fr.getD j 0) = true → 1 ≤ f a'
  pa : ∀ a', s ≤ a' → a' < a → a' < 20 → M (a' * 20 + fr.getD i 0) = true → 1 ≤ f a'
  cnt : nx.length + neg f = U

theorem Bfs.init (M : Nat → Bool) (s : Nat) : Bfs M s 1 (fun _ => -1) [s] :=
  ⟨by omega, fun v _ => .inl rfl, fun v _ h => by simp at h, fun v _ h => by simp at h, fun u a _ _ _ _ h => by simp at h, fun _ => rfl, fun h => by omega⟩
theorem Bfs.fr_bd {M : Nat → Bool} {s d : Nat} {f : Nat → Int} {fr : List Nat} (h : Bfs M s d f fr) (hs : s < 20) : ∀ u ∈ fr, u < 20 := fun u hu => by
  by_cases e : d = 1
  · rw [h.fr1 e] at hu; simp at hu; omega
  · exact ((h.fr2 (by have := h.pos; omega) u).1 hu).1
theorem Bfs.start {M : Nat → Bool} {s d : Nat} {f : Nat → Int} {fr : List Nat} (h : Bfs M s d f fr) : Mid M s d f fr [] 0 s (neg f) :=
  ⟨h.pos, fun v hv => (h.val v hv).imp id fun ⟨a, b, c⟩ => ⟨a, by omega, c⟩, h.one, h.dn, h.cl, h.fr1, h.fr2, fun u => ⟨fun h => (by cases h), fun ⟨hu, e⟩ => by
      rcases h.val u hu with e2 | ⟨a, b, c⟩
      · omega
      · omega⟩, fun j hj => by omega, fun a' h1 h2 => by omega, by simp⟩
theorem Mid.next {M : Nat → Bool} {s d : Nat} {f : Nat → Int} {fr nx : List Nat} {i U : Nat} (h : Mid M s d f fr nx i 20 U) : Mid M s d f fr nx (i + 1) s U :=
  ⟨h.pos, h.val, h.one, h.dn, h.cl, h.fr1, h.fr2, h.nxm, fun j hj a' h1 h2 h3 => by
      by_cases e : j = i
      · subst e; exact h.pa a' h2 h1 h1 h3
      · exact h.pr j (by omega) a' h1 h2 h3, fun a' h1 h2 => by omega, h.cnt⟩
theorem Mid.miss {M : Nat → Bool} {s d : Nat} {f : Nat → Int} {fr nx : List Nat} {i a U : Nat} (h : Mid M s d f fr nx i a U) (ha : a < 20) (hm : M (a * 20 + fr.getD i 0) = true → 0 ≤ f a) : Mid M s d f fr nx i (a + 1) U :=
  ⟨h.pos, h.val, h.one, h.dn, h.cl, h.fr1, h.fr2, h.nxm, h.pr, fun a' h1 h2 h3 h4 => by
      by_cases e : a' = a
      · subst e
        have := hm h4
        rcases h.val a' h3 with e | ⟨q, _, _⟩
        · omega
        · exact q
      · exact h.pa a' h1 (by omega) h3 h4, h.cnt⟩
theorem Mid.hit {M : Nat → Bool} {s d : Nat} {f : Nat → Int} {fr nx : List Nat} {i a U : Nat} (h : Mid M s d f fr nx i a U) (hs : s < 20) (ha : a < 20) (hsa : s ≤ a) (hi : i < fr.length) (hm : M (a * 20 + fr.getD i 0) = true) (hf : f a < 0) :
    Mid M s d (updI f a d) fr (nx ++ [a]) i (a + 1) U := by
  have hpos := h.pos
  have hfa : f a = -1 := by rcases h.val a ha with e | ⟨q, _, _⟩; exact e; omega
  have hbm : fr.getD i 0 ∈ fr := by simp [List.getD, hi]
  have up : ∀ v, v < 20 → 1 ≤ f v → updI f a d v = f v := fun v hv h1 => updI_ne f _ (fun e => by subst e; omega)
  have mono : ∀ v, 1 ≤ f v → 1 ≤ updI f a d v := fun v h1 => by
    unfold updI; split <;> omega
  refine ⟨hpos, fun v hv => ?_, fun v hv he => ?_, fun v hv he => ?_, fun u b hu hb hsb hmb hc => ?_, h.fr1, fun h2 u => ?_, fun u => ?_, fun j hj b hb hsb hmb => mono b (h.pr j hj b hb hsb hmb), fun b h1 h2 h3 h4 => ?_, ?_⟩
  · by_cases e : v = a
    · subst e; rw [updI_same]; exact .inr ⟨by omega, by omega, hsa⟩
    · rw [updI_ne f _ e]; exact h.val v hv
  · by_cases e : v = a
    · subst e
      rw [updI_same] at he
      have hd1 : d = 1 := by omega
      rw [h.fr1 hd1] at hm hi
      have : i = 0 := by simp at hi; omega
      subst this
      simpa using hm
    · rw [updI_ne f _ e] at he; exact h.one v hv he
  · by_cases e : v = a
    · subst e
      rw [updI_same] at he ⊢
      have hd2 : 2 ≤ d := by omega
      obtain ⟨hb20, hfb⟩ := (h.fr2 hd2 _).1 hbm
      have hb1 : 1 ≤ f (fr.getD i 0) := by omega
      have hsb : s ≤ fr.getD i 0 := by
        rcases h.val _ hb20 with e | ⟨_, _, c⟩
        · omega
        · exact c
      have hne : fr.getD i 0 ≠ s := fun e => by
        have := h.cl _ v hb20 hv hsa hm (.inl ⟨e, hd2⟩)
        omega
      exact ⟨_, hb20, by omega, hm, by rw [up _ hb20 hb1]; exact hfb⟩
    · rw [updI_ne f _ e] at he ⊢
      obtain ⟨u, hu, h1, h2, h3⟩ := h.dn v hv he
      exact ⟨u, hu, h1, h2, by rw [up u hu (by omega)]; exact h3⟩
  · refine mono b (h.cl u b hu hb hsb hmb ?_)
    rcases hc with hc | ⟨c1, c2⟩
    · exact .inl hc
    · by_cases e : u = a
      · subst e; rw [updI_same] at c2; omega
      · rw [updI_ne f _ e] at c1 c2; exact .inr ⟨c1, c2⟩
  · rw [h.fr2 h2 u]
    by_cases e : u = a
    · subst e; rw [updI_same]; constructor <;> intro ⟨q1, q2⟩ <;> omega
    · rw [updI_ne f _ e]
  · rw [List.mem_append, List.mem_singleton, h.nxm u]
    by_cases e : u = a
    · subst e; rw [updI_same]; simp [ha]
    · rw [updI_ne f _ e]; simp [e]
  · by_cases e : b = a
    · subst e; rw [updI_same]; omega
    · exact mono b (h.pa b h1 (by omega) h3 h4)
  · have := neg_upd f (d : Int) ha hfa (by omega)
    have := h.cnt
    simp only [List.length_append, List.length_singleton]
    omega
theorem Mid.done {M : Nat → Bool} {s d : Nat} {f : Nat → Int} {fr nx : List Nat} {U : Nat} (h : Mid M s d f fr nx fr.length s U) : Bfs M s (d + 1) f nx := by
  have hpos := h.pos
  refine ⟨by omega, fun v hv => ?_, h.one, h.dn, fun u a hu ha hsa hm hc => ?_, fun h1 => by omega, fun _ u => ?_⟩
  · rcases h.val v hv with e | ⟨q1, q2, q3⟩
    · exact .inl e
    · exact .inr ⟨q1, by omega, q3⟩
  · have hfr : u ∈ fr → 1 ≤ f a := fun hm' => by
      obtain ⟨j, hj, he⟩ := List.mem_iff_getElem.1 hm'
      exact h.pr j hj a ha hsa (by simpa [List.getD, hj, he] using hm)
    rcases hc with ⟨e, _⟩ | ⟨c1, c2⟩
    · by_cases hd : d = 1
      · exact hfr (by rw [h.fr1 hd, e]; simp)
      · exact h.cl u a hu ha hsa hm (.inl ⟨e, by omega⟩)
    · by_cases hd : f u + 1 < d
      · exact h.cl u a hu ha hsa hm (.inr ⟨c1, hd⟩)
      · exact hfr ((h.fr2 (by omega) u).2 ⟨hu, by omega⟩)
  · rw [h.nxm u]; constructor <;> intro ⟨q1, q2⟩ <;> exact ⟨q1, by omega⟩
/-- When the frontier is empty, all that leads to s is found. -/
theorem Bfs.found {M : Nat → Bool} {s d : Nat} {f : Nat → Int} (h : Bfs M s d f []) {a : Nat} (p : Path (fun u v => u < 20 ∧ v < 20 ∧ M (u * 20 + v) = true) s a s) : 1 ≤ f a := by
  have hd : 2 ≤ d := by
    rcases Nat.lt_or_ge d 2 with hlt | hge
    · have := h.fr1 (by have := h.pos; omega); simp at this
    · exact hge
  have cl : ∀ u a, u < 20 → a < 20 → s ≤ a → M (a * 20 + u) = true → (u = s ∨ 1 ≤ f u) → 1 ≤ f a := fun u a hu ha hsa hm hc => by
    rcases hc with e | e
    · exact h.cl u a hu ha hsa hm (.inl ⟨e, hd⟩)
    · rcases h.val u hu with e2 | ⟨_, q2, _⟩
      · omega
      · have : f u ≠ (d : Int) - 1 := fun e3 => by have := (h.fr2 hd u).2 ⟨hu, e3⟩; cases this
        exact h.cl u a hu ha hsa hm (.inr ⟨e, by omega⟩)
  generalize hx : s = x at p
  revert hx
  have key : ∀ x y, Path (fun u v => u < 20 ∧ v < 20 ∧ M (u * 20 + v) = true) s y x → x = s → 1 ≤ f y := fun x y p => by
    induction p with
    | one h1 h2 h3 => intro e; subst e; exact cl _ _ h1.2.1 h1.1 h2 h1.2.2 (.inl rfl)
    | cons h1 h2 _ ih => intro e; exact cl _ _ h1.2.1 h1.1 h2 h1.2.2 (.inr (ih e))
  intro hx
  subst hx
  exact key s a p rfl
end Go.Proofs.Ytfpegnlmpicekaa.C
