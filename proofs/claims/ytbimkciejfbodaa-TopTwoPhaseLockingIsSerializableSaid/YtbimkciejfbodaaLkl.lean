/- Locks: a row of ints at an offset (pending = pending[1:]), and what append does to it. -/
import Derived.Test.YtbimkciejfbodaaLkk
import Derived.ArgAppend
namespace Go.Proofs.Ytbimkciejfbodaa.Lk
open Go Go.RowKit Hp
set_option linter.unusedVariables false

def OffR (w : World) (B : Nat) (v : Value) (l : List Int) : Prop :=
  (v = .slice none 0 0 ∧ l = []) ∨ ∃ g off cap, v = .slice (some ⟨g, off, none⟩) l.length cap ∧ B ≤ g ∧ g < w.heap.size ∧ l.length ≤ cap ∧ cap ≤ maxLen ∧ (∀ j, j < cap → (w.cell? ⟨g, off + j, none⟩).isSome = true) ∧ (∀ j, w.frozen? ⟨g, j, none⟩ = false) ∧ ∀ j (h : j < l.length), w.cell? ⟨g, off + j, none⟩ = some (.int .i64 l[j])
theorem OffR.of_own {w : World} {B : Nat} {v : Value} {l : List Int} (h : w.ownsRow B 3 1 v l.length (icI l)) : OffR w B v l := by
  rcases Nat.eq_zero_or_pos l.length with h0 | h0
  · obtain ⟨hx, h⟩ := h
    rcases h with ⟨h1, _⟩ | ⟨g, cap, cur, hv, hb, hg, hn, hc, hcs, ht⟩
    · exact .inl ⟨h1, List.length_eq_zero_iff.1 h0⟩
    · refine .inr ⟨g, 0, cap, hv, hb, Ty.lt ⟨cur, (0, 0), hg⟩, hn, hc, fun j hj => ?_, fun j => by simp [World.frozen?, hg], fun j hj => by omega⟩
      have : j < cur.size := by omega
      simp [World.cell?, hg, this]
  · obtain ⟨hx, h⟩ := h
    rcases h with ⟨h1, h2⟩ | ⟨g, cap, cur, hv, hb, hg, hn, hc, hcs, ht⟩
    · omega
    · refine .inr ⟨g, 0, cap, hv, hb, Ty.lt ⟨cur, (0, 0), hg⟩, hn, hc, fun j hj => ?_, fun j => by simp [World.frozen?, hg], fun j hj => ?_⟩
      · have : j < cur.size := by omega
        simp [World.cell?, hg, this]
      · have e := icI_get l j hj
        rw [← ht, List.getElem?_take] at e
        split at e
        · simpa [World.cell?, hg] using e
        · cases e
theorem OffR.chg {S : Nat → Prop} {w w' : World} {B : Nat} {v : Value} {l : List Int} (h : OffR w B v l) (hc : Chg S w w') (hS : ∀ k, B ≤ k → k < w.heap.size → ¬ S k) : OffR w' B v l := by
  rcases h with h | ⟨g, off, cap, hv, hb, hg, hn, hcm, hs, hf, hl⟩
  · exact .inl h
  · have hk := hc.block g hg (hS g hb hg)
    have e : ∀ j, w'.cell? ⟨g, j, none⟩ = w.cell? ⟨g, j, none⟩ := fun j => by simp [World.cell?, hk]
    exact .inr ⟨g, off, cap, hv, hb, Nat.lt_of_lt_of_le hg hc.size, hn, hcm, fun j hj => by rw [e]; exact hs j hj, fun j => by rw [← hf j]; simp [World.frozen?, hk], fun j hj => by rw [e]; exact hl j hj⟩
theorem OffR.up {w w' : World} {B : Nat} {v : Value} {l : List Int} (h : OffR w B v l) (hu : Up w w') : OffR w' B v l := h.chg (Below.chg (fun _ => False) hu) fun _ _ _ e => e
theorem OffR.form {w : World} {B : Nat} {v : Value} {l : List Int} (h : OffR w B v l) : ∃ a c, v = .slice a l.length c := by
  rcases h with ⟨rfl, rfl⟩ | ⟨g, off, cap, rfl, _⟩
  · exact ⟨_, _, rfl⟩
  · exact ⟨_, _, rfl⟩
theorem OffR.cons {w : World} {B : Nat} {v : Value} {t : Int} {l : List Int} (h : OffR w B v (t :: l)) : ∃ g off cap, v = .slice (some ⟨g, off, none⟩) (l.length + 1) cap ∧ w.cell? ⟨g, off, none⟩ = some (.int .i64 t) ∧ g < w.heap.size ∧ l.length + 1 ≤ cap ∧ cap ≤ maxLen ∧
    (cap = 1 → OffR w B (.slice (some ⟨g, off, none⟩) l.length (cap - 1)) l) ∧ (cap ≠ 1 → OffR w B (.slice (some ⟨g, off + 1, none⟩) l.length (cap - 1)) l) := by
  rcases h with ⟨_, h⟩ | ⟨g, off, cap, hv, hb, hg, hn, hcm, hs, hf, hl⟩
  · cases h
  · simp only [List.length_cons] at hv hn
    refine ⟨g, off, cap, hv, by have := hl 0 (by simp); simpa using this, hg, hn, hcm, fun e => ?_, fun e => ?_⟩
    · subst e
      obtain rfl : l = [] := List.length_eq_zero_iff.1 (by omega)
      exact .inr ⟨g, off, 0, rfl, hb, hg, Nat.le_refl _, by omega, fun j hj => by omega, hf, fun j hj => by simp at hj⟩
    · refine .inr ⟨g, off + 1, cap - 1, rfl, hb, hg, by omega, by omega, fun j hj => ?_, hf, fun j hj => ?_⟩
      · rw [show off + 1 + j = off + (j + 1) by omega]; exact hs _ (by omega)
      · rw [show off + 1 + j = off + (j + 1) by omega]; have := hl (j + 1) (by simpa using hj); simpa using this
theorem setCells_below (b B : Nat) (hb : B ≤ b) : ∀ (vs : List Value) (o : Nat) (w : World), Below B w (w.setCells b o vs)
  | [], _, w => Below.refl _ _
  | v :: r, o, w => (Below.setCell (p := ⟨b, o, none⟩) (Below.refl B w) hb v).trans (setCells_below b B hb r (o + 1) _)
theorem run_append_off {w : World} {B : Nat} {v : Value} {l u : List Int} {x : Option Addr} {m c : Nat} (h : OffR w B v l) (hB : B ≤ w.heap.size) (hm : u.length = m) (hs : Src w 1 (.slice x m c) m (icI u)) (hbig : l.length + m ≤ 100000000) (ty : TypeId) :
    ∃ v' w', (Builtin.append_ #[23, 23] ty #[v, .slice x m c]).run Try.prog w = .ok v' w' ∧ OffR w' B v' (l ++ u) ∧ Below B w w' := by
  subst hm
  obtain ⟨i0, hi, hz0, hz1, hz2⟩ := info_parts Try.infoI
  obtain ⟨hp1, hp2⟩ := src_parts hs
  have hone := icI_one u
  have hul : (icI u).length = u.length * 1 := by rw [icI_len]; omega
  cases x with
  | none =>
    obtain ⟨h0, rfl⟩ := hp1 rfl
    obtain rfl : u = [] := List.length_eq_zero_iff.1 h0
    refine ⟨v, w, ?_, by simpa using h, Below.refl _ _⟩
    rcases h with ⟨rfl, rfl⟩ | ⟨g, off, cap, rfl, hb, hg, hn, hcm, hsm, hf, hl⟩
    · simp [Builtin.append_, run_underlying Try.underlying23, sizeOf, typeInfo, hi, Builtin.lenOf, Builtin.firstCells]
    · simp [Builtin.append_, run_underlying Try.underlying23, sizeOf, typeInfo, hi, Builtin.lenOf, Builtin.firstCells, hn, storeCells]
  | some y =>
    have hnew := hp2 y rfl
    rcases h with ⟨rfl, rfl⟩ | ⟨g, off, cap, rfl, hb, hg, hn, hcm, hsm, hf, hl⟩
    · obtain ⟨v', w', r1, r2, r3, _⟩ := run_append_own (P := Try.prog) w B 23 ty 3 i0 (.int .i64 0) 1 8 Try.underlying23 hi hz0 hz1 hz2 rfl (by decide) (.slice none 0 0) 0 [] (World.ownsRow_nil _ _ _ _) y u.length c (icI u) hul hnew hone (by unfold maxLen; simp at hbig; omega) (by simp at hbig; omega) hB
      refine ⟨v', w', r1, ?_, Below.grown (Below.refl B w) r3 hB fun k hk => by cases hk⟩
      refine .of_own ?_
      simpa using r2
    · by_cases hroom : l.length + u.length ≤ cap
      · have r := run_append_room_cells (P := Try.prog) (w := w) 23 ty 3 i0 Try.underlying23 hi g off l.length cap y u.length c (icI u) (by rw [hz1]; exact hul) hnew hone hroom (fun j hj => by rw [hz1, Nat.mul_one, Nat.add_assoc]; exact hsm _ (by rw [icI_len] at hj; omega)) (fun j hj => hf _)
        rw [hz1, Nat.mul_one] at r
        refine ⟨_, _, r, ?_, setCells_below g B hb _ _ _⟩
        have hsz := (setCells_below g B hb (icI u) (off + l.length) w).size
        have hcell := World.cell?_setCells_in g (icI u) (off + l.length) w (fun j hj => by rw [Nat.add_assoc]; exact hsm _ (by rw [icI_len] at hj; omega))
        refine .inr ⟨g, off, cap, by rw [List.length_append], hb, Nat.lt_of_lt_of_le hg hsz, by rw [List.length_append]; exact hroom, hcm, fun j hj => ?_, fun j => by rw [World.frozen?_setCells]; exact hf j, fun j hj => ?_⟩
        · by_cases h1 : l.length ≤ j ∧ j < l.length + u.length
          · have := hcell (j - l.length) (by rw [icI_len]; omega)
            rw [show off + l.length + (j - l.length) = off + j by omega] at this
            rw [this]; rfl
          · rw [World.cell?_setCells_out g _ _ _ _ (fun _ _ => by rw [icI_len]; show off + j < _ ∨ _ ≤ off + j; omega)]
            exact hsm j hj
        · by_cases h1 : j < l.length
          · rw [World.cell?_setCells_out g _ _ _ _ (fun _ _ => by rw [icI_len]; show off + j < _ ∨ _ ≤ off + j; omega), hl j h1, List.getElem_append_left h1]
          · have hju : j - l.length < u.length := by rw [List.length_append] at hj; omega
            have := hcell (j - l.length) (by rw [icI_len]; exact hju)
            rw [show off + l.length + (j - l.length) = off + j by omega] at this
            rw [this, List.getElem_append_right (by omega)]
            simp [icI]
      · obtain ⟨v', w', r1, r2, r3⟩ := run_append_arg_grows (P := Try.prog) (w := w) 23 ty 3 i0 (.int .i64 0) 1 8 Try.underlying23 hi hz0 hz1 hz2 rfl (by decide) ⟨g, off, none⟩ l.length cap (icI l) (by rw [icI_len]; omega) (fun j z hj => by
            have hjl : j < l.length := by
              rcases Nat.lt_or_ge j l.length with h1 | h1
              · exact h1
              · rw [List.getElem?_eq_none (by rw [icI_len]; exact h1)] at hj; cases hj
            rw [icI_get l j hjl] at hj
            cases hj
            rw [Addr.add_lit]
            exact hl j hjl) y u.length c (icI u) hul hnew (by omega) (by unfold maxLen; omega) (by omega)
        refine ⟨v', w', r1, ?_, Below.grown (Below.refl B w) r3 hB fun k hk => by cases hk⟩
        refine .of_own ?_
        have := own_base' (base' := B) r2 (fun k hk => Nat.le_trans hB ((own_ty r2) k hk).2)
        rw [List.length_append, show icI (l ++ u) = icI l ++ icI u by simp [icI]]
        exact this
end Go.Proofs.Ytbimkciejfbodaa.Lk
