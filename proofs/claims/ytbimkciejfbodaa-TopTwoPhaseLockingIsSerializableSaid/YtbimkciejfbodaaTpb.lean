/- Strict two-phase locking in plain words: the scheduler's invariant. -/
import Derived.Test.YtbimkciejfbodaaTpa
import Derived.Test.YtbimkciejfbodaaTsd
namespace Go.Proofs.Ytbimkciejfbodaa.Lk
open Go Go.RowKit Hp
open In (Hop)
set_option linter.unusedVariables false

/-! ### Sums over the transactions -/
def sumN : Nat → (Nat → Nat) → Nat
  | 0, _ => 0
  | n + 1, f => sumN n f + f n
theorem sumN_congr : ∀ {n : Nat} {f g : Nat → Nat}, (∀ t, t < n → f t = g t) → sumN n f = sumN n g
  | 0, _, _, _ => rfl
  | n + 1, f, g, h => by
    unfold sumN
    rw [sumN_congr (n := n) (fun t ht => h t (by omega)), h n (by omega)]
theorem sumN_upd : ∀ {n : Nat} {f g : Nat → Nat} {t : Nat}, t < n → (∀ u, u < n → u ≠ t → g u = f u) → sumN n g + f t = sumN n f + g t
  | 0, _, _, _, h, _ => by omega
  | n + 1, f, g, t, ht, he => by
    unfold sumN
    by_cases e : t = n
    · subst e
      rw [sumN_congr (n := t) (f := g) (g := f) fun u hu => he u (by omega) (by omega)]
      omega
    · have ih := sumN_upd (n := n) (f := f) (g := g) (t := t) (by omega) fun u hu hne => he u (by omega) hne
      have := he n (by omega) (by omega)
      omega
theorem sumN_le {B : Nat} : ∀ {n : Nat} {f : Nat → Nat}, (∀ t, t < n → f t ≤ B) → sumN n f ≤ n * B
  | 0, _, _ => by simp [sumN]
  | n + 1, f, h => by
    have ih := sumN_le (n := n) (f := f) fun t ht => h t (by omega)
    have := h n (by omega)
    unfold sumN
    rw [Nat.add_mul]; omega
theorem sumN_lt : ∀ {n : Nat} {f : Nat → Nat}, sumN n f < n → ∃ t, t < n ∧ f t = 0
  | 0, _, h => by simp [sumN] at h
  | n + 1, f, h => by
    by_cases e : f n = 0
    · exact ⟨n, by omega, e⟩
    · unfold sumN at h
      obtain ⟨t, h1, h2⟩ := sumN_lt (n := n) (f := f) (by omega)
      exact ⟨t, by omega, h2⟩
theorem sumN_all : ∀ {n : Nat} {f : Nat → Nat}, (∀ t, t < n → f t ≤ 1) → n ≤ sumN n f → ∀ t, t < n → f t = 1
  | 0, _, _, _, t, ht => by omega
  | n + 1, f, h, hs, t, ht => by
    have h1 := h n (by omega)
    have h2 := sumN_le (n := n) (B := 1) (f := f) fun t ht => h t (by omega)
    unfold sumN at hs
    by_cases e : t = n
    · subst e; omega
    · exact sumN_all (n := n) (fun t ht => h t (by omega)) (by omega) t (by omega)

/-! ### The invariant -/
/-- The request for x of t waits or has been granted. -/
def Has (M : Mg) (t : Int) (x : Int × ByteArray) : Prop := (∃ q ∈ M.qu, q.tx = t ∧ q.key = x.2 ∧ cov q.mode x.1 = true) ∨ ∃ g ∈ M.gr, g.tx = t ∧ g.key = x.2 ∧ cov g.mode x.1 = true
structure Kp (P : Int → Prop) (M M' : Mg) : Prop where
  g : ∀ x ∈ M.gr, P x.tx → ∃ y ∈ M'.gr, sameL y x = true ∧ cov y.mode x.mode = true
  q : ∀ x ∈ M.qu, P x.tx → x ∈ M'.qu ∨ ∃ y ∈ M'.gr, sameL y x = true ∧ cov y.mode x.mode = true
theorem Has.kp {P : Int → Prop} {M M' : Mg} (k : Kp P M M') {t : Int} (hP : P t) {x : Int × ByteArray} (h : Has M t x) : Has M' t x := by
  rcases h with ⟨q, hq, h1, h2, h3⟩ | ⟨g, hg, h1, h2, h3⟩
  · rcases k.q q hq (by rw [h1]; exact hP) with e | ⟨y, hy, s, c⟩
    · exact .inl ⟨q, e, h1, h2, h3⟩
    · obtain ⟨a, b, d⟩ := same_iff.1 s
      exact .inr ⟨y, hy, a.trans h1, d.trans h2, cov_trans c h3⟩
  · obtain ⟨y, hy, s, c⟩ := k.g g hg (by rw [h1]; exact hP)
    obtain ⟨a, b, d⟩ := same_iff.1 s
    exact .inr ⟨y, hy, a.trans h1, d.trans h2, cov_trans c h3⟩
def phiv (l : Nat) (v : Int) (b : Bool) : Nat := if v = -1 then 0 else 2 * (l - v.toNat) + 1 - (if b = true then 1 else 0)
def Ord (ab : List Bool) (co : List Int) (a b : Hop) : Prop := In.confl a b = true → ab.getD a.tx false = false → ab.getD b.tx false = false → (a.tx : Int) ∈ co ∧ ((b.tx : Int) ∈ co → co.idxOf (a.tx : Int) < co.idxOf (b.tx : Int))
structure TI (n : Nat) (pr : Nat → List (Int × ByteArray)) (M : Mg) (ng : Nat) (nx : List Int) (ab : List Bool) (hi : List Hop) (co : List Int) (s : Nat) : Prop where
  good : Good M ng
  shp : Shp M
  nl : nx.length = n
  al : ab.length = n
  rng : ∀ t, t < n → nx.getD t 0 = -1 ∨ ∃ j : Nat, nx.getD t 0 = (j : Int) ∧ j ≤ (pr t).length
  act : ∀ x ∈ M.gr ++ M.qu, ∃ t : Nat, x.tx = (t : Int) ∧ t < n ∧ 0 ≤ nx.getD t 0
  pot : ∃ tr : Nat → Bool, s + sumN n (fun t => phiv (pr t).length (nx.getD t 0) (tr t)) ≤ 65 ∧ ∀ t, t < n → tr t = true → ∃ j : Nat, nx.getD t 0 = (j : Int) ∧ ∃ h : j < (pr t).length, Has M (t : Int) (pr t)[j]
  al2 : ∀ t, t < n → ab.getD t false = true → nx.getD t 0 = -1
  com : ∀ c ∈ co, ∃ t : Nat, c = (t : Int) ∧ t < n ∧ nx.getD t 0 = -1
  fin : ∀ t : Nat, t < n → nx.getD t 0 = -1 → ab.getD t false = false → (t : Int) ∈ co
  hok : ∀ x ∈ hi, x.tx < n ∧ (x.kind = 1 ∨ x.kind = 2) ∧ x.key.size = 1
  hl : hi.length ≤ s
  lk : ∀ x ∈ hi, 0 ≤ nx.getD x.tx 0 → ∃ g ∈ M.gr, g.tx = (x.tx : Int) ∧ g.tab = tT ∧ g.key = x.key ∧ cov g.mode x.kind = true
  ord : hi.Pairwise (Ord ab co)
theorem getD_rep {α : Type} (n t : Nat) (a : α) : (List.replicate n a).getD t a = a := by
  rcases Nat.lt_or_ge t n with h | h
  · simp [List.getD, h]
  · simp [List.getD, h]
theorem getD_put {α : Type} {l : List α} {t : Nat} (h : t < l.length) (v : α) (u : Nat) (d : α) : (l.set t v).getD u d = if t = u then v else l.getD u d := by
  simp only [List.getD]
  rw [List.getElem?_set]
  split
  · rename_i e; subst e; simp
  · rfl
theorem TI.start {n : Nat} (hn : n ≤ 5) {pr : Nat → List (Int × ByteArray)} (hp : ∀ t, t < n → (pr t).length ≤ 6) : TI n pr ⟨[], []⟩ 0 (List.replicate n 0) (List.replicate n false) [] [] 0 := by
  have e0 : ∀ t, (List.replicate n (0 : Int)).getD t 0 = 0 := fun t => getD_rep n t 0
  have e1 : ∀ t, (List.replicate n false).getD t false = false := fun t => getD_rep n t false
  refine ⟨Good.nil, ⟨fun x h => (by simp at h), fun x h => (by cases h), fun x h => (by cases h)⟩, by simp, by simp, fun t ht => .inr ⟨0, e0 t, by omega⟩, fun x h => (by simp at h), ⟨fun _ => false, ?_, fun t _ h => (by cases h)⟩, fun t _ h => (by rw [e1] at h; cases h), fun c h => (by cases h), fun t _ h => (by rw [e0] at h; omega), fun x h => (by cases h), by simp, fun x h => (by cases h), List.Pairwise.nil⟩
  have := sumN_le (n := n) (B := 13) (f := fun t => phiv (pr t).length ((List.replicate n (0 : Int)).getD t 0) false) fun t ht => by
    have := hp t ht
    show phiv (pr t).length ((List.replicate n (0 : Int)).getD t 0) false ≤ 13
    rw [e0]
    simp [phiv]
    omega
  show 0 + sumN n (fun t => phiv (pr t).length ((List.replicate n (0 : Int)).getD t 0) false) ≤ 65
  omega
/-- Some transaction that has not ended does not wait. -/
theorem TI.free {n : Nat} {pr : Nat → List (Int × ByteArray)} {M : Mg} {ng : Nat} {nx : List Int} {ab : List Bool} {hi : List Hop} {co : List Int} {s : Nat} (h : TI n pr M ng nx ab hi co s) {t0 : Nat} (ht0 : t0 < n) (ha : 0 ≤ nx.getD t0 0) : ∃ t, t < n ∧ 0 ≤ nx.getD t 0 ∧ ¬ Waits M (t : Int) := by
  by_cases hw : Waits M (t0 : Int)
  · obtain ⟨rank, hr⟩ := h.good.inv.rk
    obtain ⟨q0, hq0, _⟩ := hw
    obtain ⟨q, hq, hmin⟩ := least rank M.qu (fun e => by rw [e] at hq0; cases hq0)
    obtain ⟨A, B, e⟩ := List.append_of_mem hq
    obtain ⟨x, hx, hc⟩ := h.good.blk A q B e
    have hx' : x ∈ M.gr ++ M.qu := by
      rcases List.mem_append.1 hx with k | k
      · exact List.mem_append_left _ k
      · exact List.mem_append_right _ (by rw [e]; exact List.mem_append_left _ k)
    have hlt := hr q.tx x.tx ⟨A, q, B, e, rfl, x, hx, hc, rfl⟩
    obtain ⟨t, h1, h2, h3⟩ := h.act x hx'
    refine ⟨t, h2, h3, fun ⟨r, hr1, hr2⟩ => ?_⟩
    have := hmin r hr1
    rw [hr2, ← h1] at this
    omega
  · exact ⟨t0, ht0, ha, hw⟩
theorem idx_app {co : List Int} {a : Int} (ha : a ∈ co) (l : List Int) : (co ++ l).idxOf a = co.idxOf a := by
  rw [List.idxOf_append, if_pos ha]
/-- One step, in general. -/
theorem TI.gen {n : Nat} {pr : Nat → List (Int × ByteArray)} {M M' : Mg} {ng ng' : Nat} {nx : List Int} {ab : List Bool} {hi : List Hop} {co co' : List Int} {s : Nat} (h : TI n pr M ng nx ab hi co s) {t : Nat} (ht : t < n) (hact : 0 ≤ nx.getD t 0)
    (hg : Good M' ng') (hs : Shp M') {v : Int} (hv : v = -1 ∨ ∃ j : Nat, v = (j : Int) ∧ j ≤ (pr t).length)
    (kp : Kp (fun u => u ≠ (t : Int) ∨ 0 ≤ v) M M')
    (mem : ∀ x ∈ M'.gr ++ M'.qu, (x ∈ M.gr ++ M.qu ∧ (x.tx = (t : Int) → 0 ≤ v)) ∨ (x.tx = (t : Int) ∧ 0 ≤ v))
    {b' : Bool} (hb : b' = true → v = -1) (hco : (co' = co ∧ (v = -1 → b' = true)) ∨ (co' = co ++ [(t : Int)] ∧ v = -1 ∧ b' = false))
    {new : List Hop} (hnew : new = [] ∨ ∃ x : Hop, new = [x] ∧ x.tx = t ∧ 0 ≤ v ∧ (x.kind = 1 ∨ x.kind = 2) ∧ x.key.size = 1 ∧ ∃ g ∈ M'.gr, g.tx = (t : Int) ∧ g.tab = tT ∧ g.key = x.key ∧ cov g.mode x.kind = true)
    (hpot : ∀ tr0 : Bool, (tr0 = true → ∃ j : Nat, nx.getD t 0 = (j : Int) ∧ ∃ h : j < (pr t).length, Has M (t : Int) (pr t)[j]) → ∃ tr' : Bool, (tr' = true → ∃ j : Nat, v = (j : Int) ∧ ∃ h : j < (pr t).length, Has M' (t : Int) (pr t)[j]) ∧ phiv (pr t).length v tr' < phiv (pr t).length (nx.getD t 0) tr0) :
    TI n pr M' ng' (nx.set t v) (ab.set t b') (hi ++ new) co' (s + 1) := by
  have hnx : ∀ u, (nx.set t v).getD u 0 = if t = u then v else nx.getD u 0 := fun u => getD_put (by rw [h.nl]; exact ht) v u 0
  have hab : ∀ u, (ab.set t b').getD u false = if t = u then b' else ab.getD u false := fun u => getD_put (by rw [h.al]; exact ht) b' u false
  have habt : ab.getD t false = false := by
    cases e : ab.getD t false with
    | false => rfl
    | true => have := h.al2 t ht e; omega
  have hcos : ∀ c ∈ co, c ∈ co' := fun c hc => by
    rcases hco with ⟨e, _⟩ | ⟨e, _⟩
    · rw [e]; exact hc
    · rw [e]; exact List.mem_append_left _ hc
  have htco : (t : Int) ∉ co := fun hm => by
    obtain ⟨u, h1, _, h3⟩ := h.com _ hm
    have : u = t := by omega
    subst this
    omega
  -- a's lock, where a has not ended
  have hlk : ∀ x ∈ hi, 0 ≤ (nx.set t v).getD x.tx 0 → ∃ g ∈ M'.gr, g.tx = (x.tx : Int) ∧ g.tab = tT ∧ g.key = x.key ∧ cov g.mode x.kind = true := fun x hx hx0 => by
    have hold : 0 ≤ nx.getD x.tx 0 ∧ ((x.tx : Int) ≠ (t : Int) ∨ 0 ≤ v) := by
      rw [hnx] at hx0
      by_cases e : t = x.tx
      · rw [if_pos e] at hx0
        exact ⟨by rw [← e]; exact hact, .inr hx0⟩
      · rw [if_neg e] at hx0
        exact ⟨hx0, .inl (by omega)⟩
    obtain ⟨g, hgm, g1, g2, g3, g4⟩ := h.lk x hx hold.1
    obtain ⟨y, hy, sy, cy⟩ := kp.g g hgm (by rw [g1]; exact hold.2)
    obtain ⟨a, b, d⟩ := same_iff.1 sy
    exact ⟨y, hy, a.trans g1, b.trans g2, d.trans g3, cov_trans cy g4⟩
  refine ⟨hg, hs, by simpa using h.nl, by simpa using h.al, fun u hu => ?_, fun x hx => ?_, ?_, fun u hu hau => ?_, fun c hc => ?_, fun u hu hn1 ha1 => ?_, fun x hx => ?_, ?_, fun x hx hx0 => ?_, ?_⟩
  · rw [hnx]
    split
    · rename_i e; subst e; exact hv
    · exact h.rng u hu
  · rcases mem x hx with ⟨hm, hm2⟩ | ⟨h1, h2⟩
    · obtain ⟨u, h1, h2, h3⟩ := h.act x hm
      refine ⟨u, h1, h2, ?_⟩
      rw [hnx]
      split
      · rename_i e; exact hm2 (by rw [h1, e])
      · exact h3
    · exact ⟨t, h1, ht, by rw [hnx, if_pos rfl]; exact h2⟩
  · obtain ⟨tr, hsum, htr⟩ := h.pot
    obtain ⟨tr', h1, h2⟩ := hpot (tr t) (htr t ht)
    refine ⟨fun u => if t = u then tr' else tr u, ?_, fun u hu hu1 => ?_⟩
    · have e2 : phiv (pr t).length ((nx.set t v).getD t 0) (if t = t then tr' else tr t) = phiv (pr t).length v tr' := by rw [hnx, if_pos rfl, if_pos rfl]
      have key : sumN n (fun u => phiv (pr u).length ((nx.set t v).getD u 0) (if t = u then tr' else tr u)) + phiv (pr t).length (nx.getD t 0) (tr t) = sumN n (fun t => phiv (pr t).length (nx.getD t 0) (tr t)) + phiv (pr t).length v tr' := by
        rw [← e2]
        refine sumN_upd (n := n) (f := fun t => phiv (pr t).length (nx.getD t 0) (tr t)) (g := fun u => phiv (pr u).length ((nx.set t v).getD u 0) (if t = u then tr' else tr u)) ht fun u hu hne => ?_
        show phiv (pr u).length ((nx.set t v).getD u 0) (if t = u then tr' else tr u) = phiv (pr u).length (nx.getD u 0) (tr u)
        rw [hnx, if_neg (Ne.symm hne), if_neg (Ne.symm hne)]
      show s + 1 + sumN n (fun u => phiv (pr u).length ((nx.set t v).getD u 0) (if t = u then tr' else tr u)) ≤ 65
      omega
    · by_cases e : t = u
      · subst e
        simp only [if_true] at hu1
        rw [hnx, if_pos rfl]
        exact h1 hu1
      · simp only [if_neg e] at hu1
        rw [hnx, if_neg e]
        obtain ⟨j, a, b, d⟩ := htr u hu hu1
        exact ⟨j, a, b, d.kp kp (.inl (by omega))⟩
  · rw [hab] at hau
    rw [hnx]
    split
    · rename_i e; rw [if_pos e] at hau; exact hb hau
    · rename_i e; rw [if_neg e] at hau; exact h.al2 u hu hau
  · have hcc : c ∈ co ∨ (c = (t : Int) ∧ v = -1) := by
      rcases hco with ⟨e, _⟩ | ⟨e, e2, _⟩
      · rw [e] at hc; exact .inl hc
      · rw [e] at hc
        rcases List.mem_append.1 hc with k | k
        · exact .inl k
        · exact .inr ⟨List.mem_singleton.1 k, e2⟩
    rcases hcc with k | ⟨k, k2⟩
    · obtain ⟨u, h1, h2, h3⟩ := h.com c k
      refine ⟨u, h1, h2, ?_⟩
      rw [hnx, if_neg (fun e => by subst e; omega)]
      exact h3
    · exact ⟨t, k, ht, by rw [hnx, if_pos rfl]; exact k2⟩
  · rw [hnx] at hn1
    rw [hab] at ha1
    by_cases e : t = u
    · subst e
      rw [if_pos rfl] at hn1 ha1
      rcases hco with ⟨_, e2⟩ | ⟨e2, _⟩
      · rw [e2 hn1] at ha1; cases ha1
      · rw [e2]; simp
    · rw [if_neg e] at hn1 ha1
      exact hcos _ (h.fin u hu hn1 ha1)
  · rcases List.mem_append.1 hx with k | k
    · exact h.hok x k
    · rcases hnew with e | ⟨y, e, h1, h2, h3, h4, _⟩
      · rw [e] at k; cases k
      · rw [e] at k
        rw [List.mem_singleton.1 k]
        exact ⟨by omega, h3, h4⟩
  · have h1 := h.hl
    have h2 : new.length ≤ 1 := by
      rcases hnew with e | ⟨y, e, _⟩ <;> rw [e] <;> simp
    rw [List.length_append]
    omega
  · rcases List.mem_append.1 hx with k | k
    · exact hlk x k hx0
    · rcases hnew with e | ⟨y, e, h1, h2, h3, h4, g, hgm, g1, g2⟩
      · rw [e] at k; cases k
      · rw [e] at k
        rw [List.mem_singleton.1 k]
        exact ⟨g, hgm, by rw [h1]; exact g1, g2⟩
  · rw [List.pairwise_append]
    refine ⟨h.ord.imp fun {a b} ho hc ha hbb => ?_, ?_, fun a ha x hx => ?_⟩
    · rw [hab] at ha hbb
      have hold : ab.getD a.tx false = false ∧ ab.getD b.tx false = false := by
        constructor
        · by_cases e : t = a.tx
          · rw [← e]; exact habt
          · rw [if_neg e] at ha; exact ha
        · by_cases e : t = b.tx
          · rw [← e]; exact habt
          · rw [if_neg e] at hbb; exact hbb
      obtain ⟨k1, k2⟩ := ho hc hold.1 hold.2
      refine ⟨hcos _ k1, fun hbm => ?_⟩
      rcases hco with ⟨e, _⟩ | ⟨e, _⟩
      · rw [e] at hbm ⊢; exact k2 hbm
      · rw [e] at hbm ⊢
        rw [idx_app k1]
        rcases List.mem_append.1 hbm with k | k
        · rw [idx_app k]; exact k2 k
        · have hbt := List.mem_singleton.1 k
          rw [hbt, List.idxOf_append, if_neg htco]
          have := List.idxOf_lt_length_of_mem k1
          omega
    · rcases hnew with e | ⟨y, e, _⟩ <;> rw [e]
      · exact List.Pairwise.nil
      · exact List.pairwise_singleton _ _
    · rcases hnew with e | ⟨y, e, h1, h2, h3, h4, g, hgm, g1, g2, g3, g4⟩
      · rw [e] at hx; cases hx
      · rw [e] at hx
        rw [List.mem_singleton.1 hx]
        intro hc ha1 hb1
        have hcoe : co' = co := by
          rcases hco with ⟨k, _⟩ | ⟨_, k, _⟩
          · exact k
          · omega
        have hne : a.tx ≠ t := by rw [← h1]; exact In.conf_tx hc
        rw [hab, if_neg (Ne.symm hne)] at ha1
        rw [hcoe]
        refine ⟨?_, fun hm => absurd (by rw [h1] at hm; exact hm) htco⟩
        have hok := h.hok a ha
        rcases h.rng a.tx hok.1 with k | ⟨j, k, _⟩
        · exact h.fin a.tx hok.1 k ha1
        · exfalso
          obtain ⟨g', hgm', a1, a2, a3, a4⟩ := hlk a ha (by rw [hnx, if_neg (Ne.symm hne)]; omega)
          have hgc := hg.inv.gc g' hgm' g hgm
          have hcf : confl g' g = true := by
            rw [confl_iff]
            have hk : a.key = y.key ∧ (a.kind = 2 ∨ y.kind = 2) := by
              unfold In.confl at hc
              simp only [Bool.and_eq_true, Bool.or_eq_true, beq_iff_eq] at hc
              exact ⟨tl_iff.1 hc.2.1, hc.2.2⟩
            refine ⟨by rw [a1, g1]; omega, by rw [a2, g2], by rw [a3, g3]; exact hk.1, ?_⟩
            refine cov_compat a4 (compat_symm (cov_compat g4 ?_))
            rw [compat_iff]
            rcases hk.2 with k | k
            · exact .inr (.inl k)
            · exact .inl k
          rw [hgc] at hcf; cases hcf
end Go.Proofs.Ytbimkciejfbodaa.Lk
