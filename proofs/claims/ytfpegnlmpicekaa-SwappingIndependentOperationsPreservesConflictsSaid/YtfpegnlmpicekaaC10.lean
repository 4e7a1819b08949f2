/- The laws SSIAdmitsDisjointTransactions and SSIDecisionsDependOnlyOnThePast: the plain parts. -/
import Derived.Test.YtfpegnlmpicekaaC9
namespace Go.Proofs.Ytfpegnlmpicekaa.C
open Go Go.RowKit Hp
set_option linter.unusedVariables false

theorem EncT.setRW {W : World} {xs : List Value} {l : List Tx} (h : EncT W xs l) (i : Nat) (hi : i < l.length) {sv : Value} {own : List ByteArray} (hs : Strs W sv own) :
    EncT W ((xs.set (i * 4 + 2) sv).set (i * 4 + 3) sv) (l.set i { l[i] with reads := own, writes := own }) := by
  obtain ⟨h1, h2⟩ := h
  refine ⟨by simp [h1], fun j hj => ?_⟩
  have hj' : j < l.length := by simpa using hj
  obtain ⟨rv, wv, a, b, c, d, e, f⟩ := h2 j hj'
  by_cases hij : i = j
  · subst hij
    refine ⟨sv, sv, ?_, ?_, ?_, ?_, by simpa using hs, by simpa using hs⟩
    · rw [List.getElem?_set_ne (by omega), List.getElem?_set_ne (by omega)]; simpa using a
    · rw [List.getElem?_set_ne (by omega), List.getElem?_set_ne (by omega)]; simpa using b
    · rw [List.getElem?_set_ne (by omega), List.getElem?_set_self (by omega)]
    · rw [List.getElem?_set_self (by rw [List.length_set]; omega)]
  · have e1 : (l.set i { l[i] with reads := own, writes := own })[j]'(by simpa using hj') = l[j] := by rw [List.getElem_set_ne hij]
    rw [e1]
    refine ⟨rv, wv, ?_, ?_, ?_, ?_, e, f⟩ <;> rw [List.getElem?_set_ne (by omega), List.getElem?_set_ne (by omega)] <;> assumption

def own1 (i : Nat) : List ByteArray := [one (65 + (i : Int))]
def dis (l : List Tx) (k : Nat) : List Tx := l.mapIdx fun i t => if i < k then { t with reads := own1 i, writes := own1 i } else t
theorem dis_length (l : List Tx) (k : Nat) : (dis l k).length = l.length := by simp [dis]
theorem dis_zero (l : List Tx) : dis l 0 = l := by
  refine List.ext_getElem (by simp [dis]) fun i h1 h2 => by simp [dis]
theorem dis_succ (l : List Tx) (k : Nat) (hk : k < l.length) : dis l (k + 1) = (dis l k).set k { (dis l k)[k]'(by simpa [dis] using hk) with reads := own1 k, writes := own1 k } := by
  refine List.ext_getElem (by simp [dis]) fun i h1 h2 => ?_
  by_cases e : i = k
  · subst e; simp [dis]
  · rw [List.getElem_set_ne (by omega)]
    simp only [dis, List.getElem_mapIdx]
    by_cases h : i < k
    · rw [if_pos h, if_pos (by omega)]
    · rw [if_neg h, if_neg (by omega)]
theorem dis_at {l : List Tx} (hd : Drawn l) {i : Nat} (h : i < l.length) : ((dis l l.length).getD i tx0).start = l[i].start ∧ ((dis l l.length).getD i tx0).commit = 3 * ((i : Int) + 1) ∧ ((dis l l.length).getD i tx0).reads = own1 i ∧ ((dis l l.length).getD i tx0).writes = own1 i := by
  rw [getD_lt (by simpa [dis] using h)]
  have := (hd i h).1
  simp only [dis, List.getElem_mapIdx, if_pos h]
  exact ⟨trivial, this, trivial, trivial⟩
theorem dis_valid {l : List Tx} (hd : Drawn l) (hl : l.length ≤ 20) : Valid (dis l l.length) := by
  have hL := dis_length l l.length
  refine ⟨by omega, ?_, ?_, ?_, ?_, ?_, ?_⟩ <;> intro i hi <;> rw [hL] at hi
  · have := (dis_at hd hi).1; have := (hd i hi); omega
  · have a := (dis_at hd hi); have := (hd i hi); rw [a.1, a.2.1]; omega
  · have := (dis_at hd hi); omega
  · rw [(dis_at hd hi).2.2.1]; simp [own1]
  · rw [(dis_at hd hi).2.2.2]; simp [own1]
  · have a := (dis_at hd (i := i) (by omega)); have b := (dis_at hd (i := i + 1) hi); rw [a.2.1, b.2.1]; omega
theorem one_ne : ∀ i j : Fin 20, i ≠ j → eqS (one (65 + ((i.val : Nat) : Int))) (one (65 + ((j.val : Nat) : Int))) = false := by decide +kernel
theorem own1_inter {i j : Nat} (hi : i < 20) (hj : j < 20) (hne : i ≠ j) : inter (own1 i) (own1 j) = false := by
  have := one_ne ⟨i, hi⟩ ⟨j, hj⟩ (fun h => hne (by simpa using h))
  simp only [inter, own1, List.any_cons, List.any_nil, Bool.or_false]
  exact this
theorem dis_admit {l : List Tx} (hd : Drawn l) (hl : l.length ≤ 20) : admV (dis l l.length) = List.replicate l.length true := by
  have hL := dis_length l l.length
  have := admit_true (l := dis l l.length) (admit_all (fun i j hi hj hne => by
      rw [(dis_at hd (i := i) (by omega)).2.2.2, (dis_at hd (i := j) (by omega)).2.2.2, own1_inter (by omega) (by omega) hne, Bool.and_false])
    (fun i j hi hj hne => by
      unfold anti; rw [(dis_at hd (i := i) (by omega)).2.2.1, (dis_at hd (i := j) (by omega)).2.2.2, own1_inter (by omega) (by omega) hne, Bool.and_false]) _ (Nat.le_refl _))
  rwa [hL] at this

/-! The past alone decides. -/
theorem getD_take {α : Type} (l : List α) (d : α) {n i : Nat} (h : i < n) : (l.take n).getD i d = l.getD i d := by
  simp [List.getD, h]
theorem any_congr {f g : Nat → Bool} {n : Nat} (h : ∀ i, i < n → f i = g i) : (List.range n).any f = (List.range n).any g := by
  induction n with
  | zero => rfl
  | succ n ih => rw [any_succ, any_succ, ih (fun i hi => h i (by omega)), h n (by omega)]
theorem wcAt_take (l : List Tx) (adm : List Bool) {n i k : Nat} (hi : i < n) (hk : k < i) : wcAt (l.take n) (adm.take n) i k = wcAt l adm i k := by
  unfold wcAt; rw [getD_take _ _ (by omega), getD_take _ _ (by omega), getD_take _ _ hi]
theorem inK_take (l : List Tx) (adm : List Bool) {n p m : Nat} (hp : p < n) (hm : m ≤ n) : inK (l.take n) (adm.take n) p m = inK l adm p m := by
  unfold inK; refine any_congr fun i hi => ?_
  unfold okk; rw [getD_take _ _ (by omega), getD_take _ _ (by omega), getD_take _ _ (by omega), getD_take _ _ (by omega)]
theorem outK_take (l : List Tx) (adm : List Bool) {n p m : Nat} (hp : p < n) (hm : m ≤ n) : outK (l.take n) (adm.take n) p m = outK l adm p m := by
  unfold outK; refine any_congr fun i hi => ?_
  unfold okk; rw [getD_take _ _ (by omega), getD_take _ _ (by omega), getD_take _ _ (by omega), getD_take _ _ (by omega)]
theorem admStep_take (l : List Tx) (adm : List Bool) {n i : Nat} (hi : i < n) : admStep (l.take n) (adm.take n) i = (admStep l adm i).take n := by
  unfold admStep
  rw [← List.take_set, any_congr (f := wcAt (l.take n) ((adm.set i true).take n) i) (g := wcAt l (adm.set i true) i) (fun k hk => wcAt_take l _ hi hk),
    any_congr (f := fun p => inK (l.take n) ((adm.set i true).take n) p (i + 1) && outK (l.take n) ((adm.set i true).take n) p (i + 1)) (g := fun p => inK l (adm.set i true) p (i + 1) && outK l (adm.set i true) p (i + 1))
      (fun p hp => by rw [inK_take l _ (by omega) (by omega), outK_take l _ (by omega) (by omega)]), ← List.take_set]
theorem admN_take (l : List Tx) {n : Nat} (hn : n ≤ l.length) : ∀ k, k ≤ n → admN (l.take n) k = (admN l k).take n := by
  intro k
  induction k with
  | zero => intro _; simp [admN, List.take_replicate]
  | succ k ih => intro hk; rw [admN_succ, admN_succ, ih (by omega), admStep_take l _ (by omega)]
theorem admN_past (l : List Tx) {n : Nat} : ∀ d, (admN l (n + d)).take n = (admN l n).take n := by
  intro d
  induction d with
  | zero => rfl
  | succ d ih =>
    rw [show n + (d + 1) = (n + d) + 1 by omega, admN_succ, ← ih]
    unfold admStep
    rw [List.take_set_of_le (by omega), List.take_set_of_le (by omega)]
theorem admit_take (l : List Tx) {n : Nat} (hn : n ≤ l.length) : admV (l.take n) = (admV l).take n := by
  unfold admV
  rw [List.length_take, Nat.min_eq_left hn, admN_take l hn n (Nat.le_refl _), show l.length = n + (l.length - n) by omega, admN_past]
theorem valid_take {l : List Tx} (h : Valid l) (n : Nat) : Valid (l.take n) := by
  have hle : (l.take n).length ≤ l.length := List.length_take_le' ..
  have hb : ∀ i, i < (l.take n).length → i < n := fun i hi => by simp at hi; omega
  refine ⟨by have := h.len; omega, ?_, ?_, ?_, ?_, ?_, ?_⟩ <;> intro i hi <;> have hn := hb _ hi <;> (try rw [getD_take _ _ (by omega)])
  · exact h.start i (by omega)
  · exact h.live i (by omega)
  · exact h.last i (by omega)
  · exact h.rd i (by omega)
  · exact h.wr i (by omega)
  · rw [getD_take _ _ (by omega)]; exact h.asc i (by omega)
theorem drawn_valid {l : List Tx} (hd : Drawn l) (hl : l.length ≤ 20) : Valid l := by
  refine ⟨by omega, ?_, ?_, ?_, ?_, ?_, ?_⟩ <;> intro i hi <;> rw [getD_lt (by omega)]
  · exact (hd i hi).2.1
  · exact (hd i hi).2.2.1
  · have := (hd i hi).1; omega
  · have := (hd i hi).2.2.2.1; omega
  · have := (hd i hi).2.2.2.2; omega
  · rw [getD_lt hi]; have a := (hd i (by omega)).1; have b := (hd (i + 1) hi).1; omega
theorem arr_take {α : Type} {R : World → Nat → Nat → α → Prop} {size : Nat} {w : World} {a : Option Addr} {n cap m : Nat} {l : List α} (h : Arr R size w (.slice a n cap) l) (hm : m ≤ n) : Arr R size w (.slice a m cap) (l.take m) := by
  obtain ⟨a', cap', he, h1, h2, h3, h4⟩ := h
  simp only [Value.slice.injEq] at he
  obtain ⟨rfl, rfl, rfl⟩ := he
  have hl : (l.take m).length = m := by simp; omega
  refine ⟨a, cap, by rw [hl], by omega, h2, h3, fun i hi => ?_⟩
  obtain ⟨b, off, ha, hr⟩ := h4 i (by omega)
  exact ⟨b, off, ha, by simpa using hr⟩
theorem arr_len {α : Type} {R : World → Nat → Nat → α → Prop} {size : Nat} {w : World} {a : Option Addr} {n cap : Nat} {l : List α} (h : Arr R size w (.slice a n cap) l) : n = l.length := by
  obtain ⟨a', cap', he, _⟩ := h
  simp only [Value.slice.injEq] at he
  exact he.2.1
end Go.Proofs.Ytfpegnlmpicekaa.C
