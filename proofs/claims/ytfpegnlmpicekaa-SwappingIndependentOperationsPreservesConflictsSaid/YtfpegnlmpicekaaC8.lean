/- The drawn transactions, altered in place; the plain laws of admission. -/
import Derived.Test.YtfpegnlmpicekaaC7
namespace Go.Proofs.Ytfpegnlmpicekaa.C
open Go Go.RowKit Hp
set_option linter.unusedVariables false

theorem EncT.setStart {W : World} {xs : List Value} {l : List Tx} (h : EncT W xs l) (i : Nat) (hi : i < l.length) (s : Int) :
    EncT W (xs.set (i * 4) (.int .i64 s)) (l.set i { l[i] with start := s }) := by
  obtain ⟨h1, h2⟩ := h
  refine ⟨by simp [h1], fun j hj => ?_⟩
  have hj' : j < l.length := by simpa using hj
  obtain ⟨rv, wv, a, b, c, d, e, f⟩ := h2 j hj'
  by_cases hij : i = j
  · subst hij
    refine ⟨rv, wv, ?_, ?_, ?_, ?_, by simpa using e, by simpa using f⟩
    · rw [List.getElem?_set_self (by omega)]; simp
    · rw [List.getElem?_set_ne (by omega)]; simpa using b
    · rw [List.getElem?_set_ne (by omega)]; exact c
    · rw [List.getElem?_set_ne (by omega)]; exact d
  · have e1 : (l.set i { l[i] with start := s })[j]'(by simpa using hj) = l[j] := by rw [List.getElem_set_ne hij]
    rw [e1]
    refine ⟨rv, wv, ?_, ?_, ?_, ?_, e, f⟩ <;> rw [List.getElem?_set_ne (by omega)] <;> assumption

theorem own_shape {w : World} {base : Nat} {E : TypeId} {size : Nat} {v : Value} {n : Nat} {xs : List Value} (h : w.ownsRow base E size v n xs) (hn : 0 < n) : ∃ g cap, v = .slice (some ⟨g, 0, none⟩) n cap ∧ base ≤ g ∧ Ty w g E := by
  rcases h.2 with ⟨_, h0⟩ | ⟨g, cap, cur, rfl, hb, hg, _⟩
  · omega
  · exact ⟨g, cap, rfl, hb, cur, (0, 0), hg⟩
theorem own_len {w : World} {base : Nat} {E : TypeId} {size : Nat} {v : Value} {n : Nat} {xs : List Value} (h : w.ownsRow base E size v n xs) : ∃ a cap, v = .slice a n cap := by
  rcases h.2 with ⟨rfl, h0⟩ | ⟨g, cap, cur, rfl, hb, hg, _⟩
  · exact ⟨none, 0, by rw [h0]⟩
  · exact ⟨_, cap, rfl⟩

/-- Nobody stands in anybody's way: all are admitted. -/
theorem admit_all {l : List Tx} (hc : ∀ i j, i < l.length → j < l.length → i ≠ j → (conc (l.getD i tx0) (l.getD j tx0) && inter (l.getD i tx0).writes (l.getD j tx0).writes) = false)
    (ha : ∀ i j, i < l.length → j < l.length → i ≠ j → anti (l.getD i tx0) (l.getD j tx0) = false) : ∀ k, k ≤ l.length → ∀ i, i < k → (admN l k).getD i false = true := by
  intro k
  induction k with
  | zero => intro _ i hi; omega
  | succ k ih =>
    intro hk i hi
    have ih' := ih (by omega)
    rw [admN_succ]
    have hL := admN_length l k
    have w1 : (List.range k).any (wcAt l ((admN l k).set k true) k) = false := by
      rw [List.any_eq_false]
      intro j hj
      simp at hj
      unfold wcAt
      rw [hc j k (by omega) (by omega) (by omega)]
      simp
    have w2 : ((List.range (k + 1)).any fun p => inK l ((admN l k).set k true) p (k + 1) && outK l ((admN l k).set k true) p (k + 1)) = false := by
      rw [List.any_eq_false]
      intro p hp
      simp at hp
      have : inK l ((admN l k).set k true) p (k + 1) = false := by
        unfold inK
        rw [List.any_eq_false]
        intro j hj
        simp at hj
        by_cases e : j = p
        · subst e; simp [okk]
        · rw [ha j p (by omega) (by omega) e]; simp
      rw [this]; simp
    unfold admStep
    rw [w1, w2]
    by_cases e : i = k
    · subst e
      rw [List.getD_eq_getElem?_getD, List.getElem?_set_self (by rw [List.length_set, hL]; omega)]; rfl
    · have := ih' i (by omega)
      rw [List.getD_eq_getElem?_getD] at this ⊢
      rw [List.getElem?_set_ne (by omega), List.getElem?_set_ne (by omega)]
      exact this
theorem admit_true {l : List Tx} (h : ∀ i, i < l.length → (admN l l.length).getD i false = true) : admV l = List.replicate l.length true := by
  have hL := admN_length l l.length
  refine List.ext_getElem (by simp [admV, hL]) fun i h1 h2 => ?_
  have := h i (by simpa [admV, hL] using h1)
  simp only [admV] at h1 ⊢
  simpa [List.getD, h1] using this
theorem any_false_replicate (n : Nat) : (List.replicate n true).any (false == ·) = false := by
  rw [List.any_eq_false]; intro x hx; simp [List.mem_replicate] at hx; simp [hx.2]

/-- The first k transactions begin three ticks before they commit. -/
def ser (l : List Tx) (k : Nat) : List Tx := l.mapIdx fun i t => if i < k then { t with start := t.commit - 3 } else t
theorem ser_length (l : List Tx) (k : Nat) : (ser l k).length = l.length := by simp [ser]
theorem ser_zero (l : List Tx) : ser l 0 = l := by
  refine List.ext_getElem (by simp [ser]) fun i h1 h2 => by simp [ser]
theorem ser_succ (l : List Tx) (k : Nat) (hk : k < l.length) : ser l (k + 1) = (ser l k).set k { (ser l k)[k]'(by simpa [ser] using hk) with start := (l[k]).commit - 3 } := by
  refine List.ext_getElem (by simp [ser]) fun i h1 h2 => ?_
  by_cases e : i = k
  · subst e; simp [ser]
  · rw [List.getElem_set_ne (by omega)]
    simp only [ser, List.getElem_mapIdx]
    by_cases h : i < k
    · rw [if_pos h, if_pos (by omega)]
    · rw [if_neg h, if_neg (by omega)]
theorem ser_commit (l : List Tx) (k i : Nat) (h : i < (ser l k).length) : ((ser l k)[i]).commit = (l[i]'(by simpa [ser] using h)).commit := by
  simp only [ser, List.getElem_mapIdx]; split <;> rfl

theorem getD_lt {l : List Tx} {i : Nat} (h : i < l.length) : l.getD i tx0 = l[i] := by simp [List.getD, h]
theorem ser_at {l : List Tx} (hd : Drawn l) {i : Nat} (h : i < l.length) : ((ser l l.length).getD i tx0).start = 3 * (i : Int) ∧ ((ser l l.length).getD i tx0).commit = 3 * ((i : Int) + 1) ∧ ((ser l l.length).getD i tx0).reads = l[i].reads ∧ ((ser l l.length).getD i tx0).writes = l[i].writes := by
  rw [getD_lt (by simpa [ser] using h)]
  have := (hd i h).1
  simp only [ser, List.getElem_mapIdx, if_pos h]
  exact ⟨by rw [this]; omega, this, trivial, trivial⟩
theorem ser_valid {l : List Tx} (hd : Drawn l) (hl : l.length ≤ 20) : Valid (ser l l.length) := by
  have hL := ser_length l l.length
  refine ⟨by omega, ?_, ?_, ?_, ?_, ?_, ?_⟩ <;> intro i hi <;> rw [hL] at hi
  · have := (ser_at hd hi).1; omega
  · have := (ser_at hd hi); omega
  · have := (ser_at hd hi); omega
  · rw [(ser_at hd hi).2.2.1]; have := (hd i hi); omega
  · rw [(ser_at hd hi).2.2.2]; have := (hd i hi); omega
  · have a := (ser_at hd (i := i) (by omega)); have b := (ser_at hd (i := i + 1) hi); rw [a.2.1, b.2.1]; omega
theorem ser_conc {l : List Tx} (hd : Drawn l) {i j : Nat} (hi : i < l.length) (hj : j < l.length) (hne : i ≠ j) : conc ((ser l l.length).getD i tx0) ((ser l l.length).getD j tx0) = false := by
  have a := ser_at hd hi; have b := ser_at hd hj
  unfold conc
  rw [a.1, b.1, a.2.1, b.2.1]
  rw [Bool.and_eq_false_iff, decide_eq_false_iff_not, decide_eq_false_iff_not]
  omega
theorem ser_admit {l : List Tx} (hd : Drawn l) : admV (ser l l.length) = List.replicate l.length true := by
  have hL := ser_length l l.length
  have := admit_true (l := ser l l.length) (admit_all (fun i j hi hj hne => by rw [ser_conc hd (by omega) (by omega) hne]; rfl) (fun i j hi hj hne => by unfold anti; rw [ser_conc hd (by omega) (by omega) hne]; rfl) _ (Nat.le_refl _))
  rwa [hL] at this
end Go.Proofs.Ytfpegnlmpicekaa.C
