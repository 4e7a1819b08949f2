/- The write-ahead log across a crash, in plain words: numbers, sectors, blocks. -/
import Derived.Test.YtmaeeidaegigcaaWlj
namespace Go.Proofs.Ytmaeeidaegigcaa.Wl
open Go Go.RowKit Hp
open Dk (Dsk DOk pad applyW surv)
set_option linter.unusedVariables false

theorem un32_be32 (n : Nat) (h : n < 4294967296) : un32 (be32 n) = (n : Int) := by
  simp only [un32, be32, List.getD_cons_zero, List.getD_cons_succ]
  omega
theorem getD_app (a b : List Int) (i : Nat) (h : i < a.length) : (a ++ b).getD i 0 = a.getD i 0 := by
  rw [List.getD_eq_getElem?_getD, List.getElem?_append_left h, ← List.getD_eq_getElem?_getD]
theorem getD_app2 (a b : List Int) (i : Nat) (h : a.length ≤ i) : (a ++ b).getD i 0 = b.getD (i - a.length) 0 := by
  rw [List.getD_eq_getElem?_getD, List.getElem?_append_right h, ← List.getD_eq_getElem?_getD]
theorem getD_drop (a : List Int) (k i : Nat) : (a.drop k).getD i 0 = a.getD (k + i) 0 := by
  rw [List.getD_eq_getElem?_getD, List.getElem?_drop, ← List.getD_eq_getElem?_getD]
theorem getD_take (a : List Int) (k i : Nat) (h : i < k) : (a.take k).getD i 0 = a.getD i 0 := by
  rw [List.getD_eq_getElem?_getD, List.getElem?_take, if_pos h, ← List.getD_eq_getElem?_getD]
theorem getD_le (a : List Int) (i : Nat) (h : a.length ≤ i) : a.getD i 0 = 0 := by
  rw [List.getD_eq_getElem?_getD, List.getElem?_eq_none h]; rfl
theorem getD_rep (n i : Nat) : (List.replicate n (0 : Int)).getD i 0 = 0 := by
  rw [List.getD_eq_getElem?_getD, List.getElem?_replicate]
  split <;> rfl
theorem un32_app (a b : List Int) (h : 4 ≤ a.length) : un32 (a ++ b) = un32 a := by
  unfold un32
  rw [getD_app _ _ _ (by omega), getD_app _ _ _ (by omega), getD_app _ _ _ (by omega), getD_app _ _ _ (by omega)]
theorem drop_app (a b : List Int) (k : Nat) (h : a.length = k) : (a ++ b).drop k = b := by
  subst h; exact List.drop_left
theorem ext0 {a b : List Int} (hl : a.length = b.length) (h : ∀ i, i < a.length → a.getD i 0 = b.getD i 0) : a = b := by
  refine List.ext_getElem hl fun i h1 h2 => ?_
  have := h i h1
  rw [List.getD_eq_getElem?_getD, List.getD_eq_getElem?_getD, List.getElem?_eq_getElem h1, List.getElem?_eq_getElem h2] at this
  exact this
/-- A sector that holds a block's bytes up to h, of incarnation c. -/
structure Rt (st : Nat) (dat : List Int) (b h c : Nat) (s : List Int) : Prop where
  num : un32 s = (b : Int)
  inc : un32 (s.drop 4) = (c : Int)
  used : s.getD 8 0 = ((h - b * 20 : Nat) : Int)
  len : s.length = 32
  lo : b * 20 ≤ h
  hi : h ≤ b * 20 + 20
  en : h ≤ st + dat.length
  byt : ∀ o, b * 20 ≤ o → st ≤ o → o < h → s.getD (9 + (o - b * 20)) 0 = dat.getD (o - st) 0
section
variable {st b h c : Nat} {dat : List Int} {s : List Int}
theorem Rt.app (r : Rt st dat b h c s) (d : List Int) : Rt st (dat ++ d) b h c s :=
  ⟨r.num, r.inc, r.used, r.len, r.lo, r.hi, by have := r.en; rw [List.length_append]; omega, fun o h1 h2 h3 => by rw [r.byt o h1 h2 h3, getD_app]; have := r.en; omega⟩
theorem Rt.cut (r : Rt st dat b h c s) (m : Nat) (hm : m ≤ dat.length) : Rt (st + m) (dat.drop m) b h c s :=
  ⟨r.num, r.inc, r.used, r.len, r.lo, r.hi, by have := r.en; rw [List.length_drop]; omega, fun o h1 h2 h3 => by rw [r.byt o h1 (by omega) h3, getD_drop, show m + (o - (st + m)) = o - st by omega]⟩
theorem Rt.take (r : Rt st dat b h c s) (k : Nat) (hk : h ≤ st + k) : Rt st (dat.take k) b h c s :=
  ⟨r.num, r.inc, r.used, r.len, r.lo, r.hi, by have := r.en; rw [List.length_take]; omega, fun o h1 h2 h3 => by rw [r.byt o h1 h2 h3, getD_take]; omega⟩
/-- What readBlocks makes of such a sector. -/
theorem Rt.acc (r : Rt st dat b h c s) (hb : st < b * 20 + 20) : accB s st b (dat.take (max (b * 20) st - st)) = dat.take (max h (max (b * 20) st) - st) := by
  have h1 := r.lo
  have h2 := r.en
  have h3 := r.hi
  unfold accB
  rw [r.used]
  by_cases hc : max (b * 20) st - b * 20 < h - b * 20
  · rw [if_pos (by omega)]
    have hx : max h (max (b * 20) st) = h := by omega
    rw [hx, Int.toNat_natCast]
    obtain ⟨mx, hmx⟩ : ∃ mx, mx = max (b * 20) st := ⟨_, rfl⟩
    rw [← hmx] at hc ⊢
    have e : (s.take (9 + (h - b * 20))).drop (9 + (mx - b * 20)) = (dat.take (h - st)).drop (mx - st) := by
      refine ext0 (by rw [List.length_drop, List.length_take, List.length_drop, List.length_take, r.len]; omega) fun i hi => ?_
      rw [List.length_drop, List.length_take, r.len] at hi
      rw [getD_drop, getD_take _ _ _ (by omega), getD_drop, getD_take _ _ _ (by omega)]
      have := r.byt (mx + i) (by omega) (by omega) (by omega)
      rw [show 9 + (mx - b * 20) + i = 9 + (mx + i - b * 20) by omega, this, show mx - st + i = mx + i - st by omega]
    rw [e]
    have e2 : dat.take (mx - st) = (dat.take (h - st)).take (mx - st) := by rw [List.take_take, show min (mx - st) (h - st) = mx - st by omega]
    rw [e2, List.take_append_drop]
  · rw [if_neg (by omega), show max h (max (b * 20) st) = max (b * 20) st by omega]
end
/-- What writeBlock writes. -/
theorem blk_right (L : Log) (b : Nat) (h1 : b * 20 ≤ L.en) (h2 : L.st < b * 20 + 20) (hb : b < 4294967296) (hi : L.inc < 4294967296) : Rt L.st L.dat b (L.high b) L.inc (pad (L.blk b)) := by
  have e : L.en = L.st + L.dat.length := rfl
  have hh : L.high b = min (b * 20 + 20) L.en := by unfold Log.high; rw [Nat.add_mul]
  have hlo : L.low b = max (b * 20) L.st := rfl
  obtain ⟨hg, hhg⟩ : ∃ hg, hg = L.high b := ⟨_, rfl⟩
  obtain ⟨lo, hhlo⟩ : ∃ lo, lo = L.low b := ⟨_, rfl⟩
  have hB : L.blk b = be32 b ++ be32 L.inc ++ [((hg - b * 20 : Nat) : Int)] ++ (if lo < hg then List.replicate (lo - b * 20) 0 ++ (L.dat.take (hg - L.st)).drop (lo - L.st) else []) := by
    unfold Log.blk
    rw [← hhg, ← hhlo]
  rw [← hhg] at hh ⊢
  rw [← hhlo] at hlo
  obtain ⟨t, ht⟩ : ∃ t, t = (if lo < hg then List.replicate (lo - b * 20) 0 ++ (L.dat.take (hg - L.st)).drop (lo - L.st) else []) := ⟨_, rfl⟩
  rw [← ht] at hB
  have htl : t.length ≤ 20 := by
    rw [ht]
    split
    · rw [List.length_append, List.length_replicate, List.length_drop, List.length_take]; omega
    · exact Nat.zero_le _
  obtain ⟨z, hz⟩ : ∃ z, z = List.replicate (32 - (L.blk b).length) (0 : Int) := ⟨_, rfl⟩
  have hP : pad (L.blk b) = be32 b ++ (be32 L.inc ++ ([((hg - b * 20 : Nat) : Int)] ++ (t ++ z))) := by
    unfold pad
    rw [← hz, hB]
    simp only [List.append_assoc]
  refine ⟨?_, ?_, ?_, ?_, by omega, by omega, by omega, ?_⟩
  · rw [hP, un32_app _ _ (by rw [be32_len]; exact Nat.le_refl _), un32_be32 b hb]
  · rw [hP, drop_app _ _ 4 rfl, un32_app _ _ (by rw [be32_len]; exact Nat.le_refl _), un32_be32 _ hi]
  · rw [hP, getD_app2 _ _ _ (by rw [be32_len]; decide), getD_app2 _ _ _ (by rw [be32_len, be32_len]; decide)]
    rfl
  · refine Dk.pad_len ?_
    rw [hB]
    simp only [List.length_append, be32_len, List.length_cons, List.length_nil]
    omega
  · intro o o1 o2 o3
    have hlt : lo < hg := by omega
    rw [if_pos hlt] at ht
    rw [hP, getD_app2 _ _ _ (by rw [be32_len]; omega), getD_app2 _ _ _ (by rw [be32_len, be32_len]; omega), getD_app2 _ _ _ (by rw [be32_len, be32_len, List.length_singleton]; omega), be32_len, be32_len, List.length_singleton, show 9 + (o - b * 20) - 4 - 4 - 1 = o - b * 20 by omega]
    rw [getD_app _ _ _ (by rw [ht, List.length_append, List.length_replicate, List.length_drop, List.length_take]; omega), ht]
    rw [getD_app2 _ _ _ (by rw [List.length_replicate]; omega), List.length_replicate, getD_drop, getD_take _ _ _ (by omega)]
    congr 1
    omega
end Go.Proofs.Ytmaeeidaegigcaa.Wl
