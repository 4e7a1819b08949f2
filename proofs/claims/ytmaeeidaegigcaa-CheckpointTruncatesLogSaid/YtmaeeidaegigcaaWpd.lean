/- The write-ahead log: each operation keeps the invariant. -/
import Derived.Test.YtmaeeidaegigcaaWpc
import Derived.Test.YtmaeeidaegigcaaWln
namespace Go.Proofs.Ytmaeeidaegigcaa.Wl
open Go Go.RowKit Hp
open Dk (Dsk DOk pad applyW surv)
set_option linter.unusedVariables false

/-! ### Bytes -/
theorem IsB.app {a b : List Int} (h1 : IsB a) (h2 : IsB b) : IsB (a ++ b) := fun x hx => (List.mem_append.1 hx).elim (h1 x) (h2 x)
theorem IsB.rep (n : Nat) : IsB (List.replicate n 0) := fun x hx => by rw [List.eq_of_mem_replicate hx]; omega
theorem IsB.take {a : List Int} (h : IsB a) (k : Nat) : IsB (a.take k) := fun x hx => h x (List.mem_of_mem_take hx)
theorem IsB.drop {a : List Int} (h : IsB a) (k : Nat) : IsB (a.drop k) := fun x hx => h x (List.mem_of_mem_drop hx)
theorem IsB.be {n : Nat} (h : n < 4294967296) : IsB (be32 n) := fun x hx => by
  simp only [be32, List.mem_cons, List.not_mem_nil, or_false] at hx
  omega
theorem IsB.pad {a : List Int} (h : IsB a) : IsB (pad a) := h.app (IsB.rep _)
theorem blk_isB (L : Log) (b : Nat) (hb : b < 4294967296) (hi : L.inc < 4294967296) (hd : IsB L.dat) : IsB (L.blk b) := by
  unfold Log.blk
  refine IsB.app (IsB.app (IsB.app (IsB.be hb) (IsB.be hi)) ?_) ?_
  · intro x hx
    rw [List.mem_singleton.1 hx]
    have : L.high b ≤ (b + 1) * 20 := Nat.min_le_left _ _
    rw [Nat.add_mul] at this
    omega
  · split
    · exact (IsB.rep _).app ((hd.take _).drop _)
    · intro x hx; cases hx
theorem blk_len (L : Log) (b : Nat) : (L.blk b).length ≤ 32 := by
  unfold Log.blk
  have h1 : L.high b ≤ (b + 1) * 20 := Nat.min_le_left _ _
  have h2 : b * 20 ≤ L.low b := Nat.le_max_left _ _
  rw [Nat.add_mul] at h1
  split
  · simp only [List.length_append, be32_len, List.length_cons, List.length_nil, List.length_replicate, List.length_drop, List.length_take]
    omega
  · simp only [List.length_append, be32_len, List.length_cons, List.length_nil]
    omega
/-- Sectors and writes are rows of 32 bytes. -/
structure BytD (d : Dsk) : Prop where
  dur : ∀ r ∈ d.dur, r.length = 32 ∧ IsB r
  pend : ∀ x ∈ d.pend, x.1 < d.dur.length ∧ x.2.length = 32 ∧ IsB x.2
theorem applyW_all {P : List Int → Prop} : ∀ (l : List (Nat × List Int)) (dur : List (List Int)), (∀ r ∈ dur, P r) → (∀ x ∈ l, P x.2) → ∀ r ∈ applyW dur l, P r
  | [], dur, h, _ => h
  | x :: l, dur, h, hl => applyW_all l (dur.set x.1 x.2) (fun r hr => by
      rcases List.mem_or_eq_of_mem_set hr with hr | rfl
      · exact h r hr
      · exact hl x (List.mem_cons_self ..)) fun y hy => hl y (List.mem_cons_of_mem _ hy)
theorem BytD.flush {d : Dsk} (h : BytD d) : BytD d.flush := ⟨applyW_all _ _ h.dur fun x hx => (h.pend x hx).2, fun x hx => by cases hx⟩
theorem BytD.crash {d : Dsk} (h : BytD d) (sv : List Bool) : BytD (d.crash sv) := ⟨applyW_all _ _ h.dur fun x hx => (h.pend x (surv_sub sv _ x hx)).2, fun x hx => by cases hx⟩
theorem BytD.write {d : Dsk} (h : BytD d) {s : Nat} {data : List Int} (hs : s < d.dur.length) (hd : data.length ≤ 32) (hb : IsB data) : BytD (d.write s data) :=
  ⟨h.dur, fun x hx => by
    rcases List.mem_append.1 hx with hx | hx
    · exact h.pend x hx
    · rw [List.mem_singleton.1 hx]; exact ⟨hs, Dk.pad_len hd, hb.pad⟩⟩
theorem BytD.read {d : Dsk} (h : BytD d) {s : Nat} (hs : s < d.dur.length) : (d.read s).length = 32 ∧ IsB (d.read s) := by
  unfold Dsk.read
  have := Dk.applyW_len d.dur d.pend
  simp only [List.getD]
  rw [List.getElem?_eq_getElem (by omega)]
  exact applyW_all (P := fun r => r.length = 32 ∧ IsB r) _ _ h.dur (fun x hx => (h.pend x hx).2) _ (List.getElem_mem _)
theorem BytD.new (n : Nat) : BytD (.new n) := ⟨fun r hr => by rw [List.eq_of_mem_replicate hr]; exact ⟨List.length_replicate .., IsB.rep _⟩, fun x hx => by cases hx⟩
theorem BytD.wb {L : Log} (h : BytD L.dsk) (b : Nat) (hs : L.sec b < L.dsk.dur.length) (hb : b < 4294967296) (hi : L.inc < 4294967296) (hd : IsB L.dat) : BytD (L.wb b).dsk := by
  unfold Log.wb
  show BytD ((if L.dsk.pend.length = 1000 then L.dsk.flush else L.dsk).write (L.sec b) (L.blk b))
  split
  · exact h.flush.write (by show _ < (applyW _ _).length; rw [Dk.applyW_len]; exact hs) (blk_len L b) (blk_isB L b hb hi hd)
  · exact h.write hs (blk_len L b) (blk_isB L b hb hi hd)
theorem BytD.head {L : Log} (h : BytD L.dsk) (h2 : 2 ≤ L.dsk.dur.length) (h3 : L.hd + 1 < 4294967296) (h4 : L.st < 4294967296) (h5 : L.inc < 4294967296) : BytD L.head.dsk :=
  (h.flush.write (by show _ < (applyW _ _).length; rw [Dk.applyW_len]; omega) (by show 12 ≤ 32; decide) (IsB.app (IsB.app (IsB.be h3) (IsB.be h4)) (IsB.be h5))).flush

/-! ### The headers -/
def Hdr (L : Log) : Prop := un32 (L.dsk.dur.getD (L.hd % 2) []) = (L.hd : Int) ∧ un32 ((L.dsk.dur.getD (L.hd % 2) []).drop 4) = (L.st : Int) ∧ un32 ((L.dsk.dur.getD (L.hd % 2) []).drop 8) = (L.inc : Int) ∧ un32 (L.dsk.dur.getD ((L.hd + 1) % 2) []) < (L.hd : Int)
theorem head_dur_eq (L : Log) : L.head.dsk = ⟨L.dsk.flush.dur.set ((L.hd + 1) % 2) (pad (be32 (L.hd + 1) ++ be32 L.st ++ be32 L.inc)), []⟩ := rfl
theorem getD_set2 (l : List (List Int)) (i j : Nat) (x : List Int) (h : i ≠ j) : (l.set i x).getD j [] = l.getD j [] := by rw [Dk.getD_set, if_neg fun e => h e.1]
theorem getD_set1 (l : List (List Int)) (i : Nat) (x : List Int) (h : i < l.length) : (l.set i x).getD i [] = x := by rw [Dk.getD_set, if_pos ⟨rfl, h⟩]
/-- A header written over a disk whose other header is older. -/
theorem head_hdr (L : Log) (k : Nat) (h2 : 2 ≤ L.dsk.dur.length) (h3 : L.hd + 1 < 4294967296) (h4 : L.st < 4294967296) (h5 : L.inc < 4294967296) (ho : un32 (L.dsk.flush.dur.getD (L.hd % 2) []) ≤ (L.hd : Int)) : Hdr L.head := by
  have hl : L.dsk.flush.dur.length = L.dsk.dur.length := Dk.applyW_len _ _
  have hd : L.head.dsk.dur = L.dsk.flush.dur.set ((L.hd + 1) % 2) (pad (be32 (L.hd + 1) ++ be32 L.st ++ be32 L.inc)) := rfl
  have hh : L.head.hd = L.hd + 1 := rfl
  have hp : pad (be32 (L.hd + 1) ++ be32 L.st ++ be32 L.inc) = be32 (L.hd + 1) ++ (be32 L.st ++ (be32 L.inc ++ List.replicate 20 0)) := by
    unfold pad
    simp only [List.append_assoc]
    rfl
  unfold Hdr
  rw [hd, hh, getD_set1 _ _ _ (by omega), getD_set2 _ _ _ _ (by omega), hp]
  refine ⟨?_, ?_, ?_, ?_⟩
  · rw [un32_app _ _ (by rw [be32_len]; exact Nat.le_refl _), un32_be32 _ h3]
  · rw [drop_app _ _ 4 rfl, un32_app _ _ (by rw [be32_len]; exact Nat.le_refl _), un32_be32 _ h4]
    rfl
  · rw [← List.append_assoc, drop_app _ _ 8 rfl, un32_app _ _ (by rw [be32_len]; exact Nat.le_refl _), un32_be32 _ h5]
    rfl
  · rw [show (L.hd + 1 + 1) % 2 = L.hd % 2 by omega]
    omega
/-- Sectors from 2 on are what they were. -/
theorem Inv.same {L L' : Log} {R S : Nat} (h : Inv L R S) (h1 : L'.st = L.st) (h2 : L'.dat = L.dat) (h3 : L'.inc = L.inc) (h4 : L'.dsk.pend = L.dsk.pend) (h5 : L'.dsk.dur.length = L.dsk.dur.length) (h6 : ∀ s, 2 ≤ s → L'.dsk.dur.getD s [] = L.dsk.dur.getD s []) : Inv L' R S := by
  have hbl : L'.bl = L.bl := by unfold Log.bl; rw [h5]
  have hsec : ∀ b, L'.sec b = L.sec b := fun b => by unfold Log.sec; rw [hbl]
  have hfst : L'.fst = L.fst := by unfold Log.fst; rw [h1]
  have hen : L'.en = L.en := by unfold Log.en; rw [h1, h2]
  have hV : ∀ b, L'.V b = L.V b := fun b => by unfold Log.V; rw [hsec]; exact h6 _ (Nat.le_add_right _ _)
  have hG : ∀ b s, Good L S b s → Good L' S b s := fun b s g => good_same g h1 h2 h3
  refine ⟨by rw [hbl, h5]; exact h.dl, by rw [hbl]; exact h.bl2, by rw [h1]; exact h.S1, by rw [hen]; exact h.S2, by rw [hen, hfst, hbl]; exact h.fit, by rw [hfst]; exact h.R1, by rw [hen]; exact h.R2, ?_, ?_, ?_, ?_, ?_⟩
  · intro b g1 g2
    rw [hV, h1, h2, h3]
    exact h.full b (by rw [← hfst]; exact g1) g2
  · intro b b' g1 g2 g3
    rw [hV, hV]
    exact h.mono b b' (by rw [← hfst]; exact g1) g2 g3
  · intro x hx
    obtain ⟨b, g1, g2, g3, g4⟩ := h.pen x (by rw [← h4]; exact hx)
    exact ⟨b, g1, by rw [hfst, hbl]; exact g2, by rw [hsec]; exact g3, hG _ _ g4⟩
  · intro b g1 g2
    rw [hV, h3]
    rw [hfst, hbl] at g2
    exact (h.tail b g1 g2).imp (hG _ _) id
  · intro s g1 g2
    rw [h6 s g1, hfst, hbl]
    exact h.num s g1 (by rw [← h5]; exact g2)
theorem Inv.head {L : Log} {R S : Nat} (h : Inv L R S) : Inv L.head R S :=
  h.flush.same rfl rfl rfl rfl (by rw [head_dur_eq]; exact List.length_set ..) fun s hs => by
    rw [head_dur_eq]
    exact getD_set2 _ _ _ _ (by omega)
theorem Inv.low {L : Log} {R S : Nat} (h : Inv L R S) (l : List (Nat × List Int)) (hl : ∀ x ∈ l, x ∈ L.dsk.pend) (s : Nat) (hs : s < 2) : (applyW L.dsk.dur l).getD s [] = L.dsk.dur.getD s [] :=
  Dk.applyW_miss _ _ _ fun x hx e => by
    obtain ⟨b, _, _, g, _⟩ := h.pen x (hl x hx)
    have : 2 ≤ L.sec b := Nat.le_add_right _ _
    omega
theorem Hdr.flush {L : Log} {R S : Nat} (hh : Hdr L) (h : Inv L R S) : Hdr { L with dsk := L.dsk.flush } := by
  have h0 : ∀ s, s < 2 → L.dsk.flush.dur.getD s [] = L.dsk.dur.getD s [] := h.low _ fun x hx => hx
  unfold Hdr at *
  show un32 (L.dsk.flush.dur.getD (L.hd % 2) []) = (L.hd : Int) ∧ un32 ((L.dsk.flush.dur.getD (L.hd % 2) []).drop 4) = _ ∧ un32 ((L.dsk.flush.dur.getD (L.hd % 2) []).drop 8) = _ ∧ un32 (L.dsk.flush.dur.getD ((L.hd + 1) % 2) []) < _
  rw [h0 _ (by omega), h0 _ (by omega)]
  exact hh
end Go.Proofs.Ytmaeeidaegigcaa.Wl
