/- A law's own list of records: a row at an offset, append and reslicing. -/
import Derived.Test.YtmaeeidaegigcaaWlq
import Derived.ArgAppend
namespace Go.Proofs.Ytmaeeidaegigcaa.Wl
open Go Go.RowKit Hp
open Dk (Dsk DiskR bc DOk Bytes)
set_option linter.unusedVariables false

/-- The block of a slice. -/
def blkOf : Value → Option Nat
  | .slice (some a) _ _ => some a.block
  | _ => none
def OffV (w : World) (v : Value) (xs : List Value) : Prop :=
  (v = .slice none 0 0 ∧ xs = []) ∨ ∃ g off cap, v = .slice (some ⟨g, off, none⟩) xs.length cap ∧ g < w.heap.size ∧ xs.length ≤ cap ∧ cap ≤ maxLen ∧ (∀ j, j < cap → (w.cell? ⟨g, off + j, none⟩).isSome = true) ∧ (∀ j, w.frozen? ⟨g, j, none⟩ = false) ∧ ∀ (j : Nat) u, xs[j]? = some u → w.cell? ⟨g, off + j, none⟩ = some u
theorem OffV.of_own {w : World} {B : Nat} {v : Value} {xs : List Value} {n : Nat} (h : w.ownsRow B 28 1 v n xs) : OffV w v xs := by
  obtain ⟨hx, h⟩ := h
  rw [Nat.mul_one] at hx
  subst hx
  rcases h with ⟨h1, h2⟩ | ⟨g, cap, cur, hv, hb, hg, hn, hc, hcs, ht⟩
  · exact .inl ⟨h1, List.length_eq_zero_iff.1 h2⟩
  · refine .inr ⟨g, 0, cap, hv, Ty.lt ⟨cur, (0, 0), hg⟩, hn, hc, fun j hj => ?_, fun j => by simp [World.frozen?, hg], fun j u hj => ?_⟩
    · have : j < cur.size := by omega
      simp [World.cell?, hg, this]
    · rw [← ht, List.getElem?_take] at hj
      split at hj
      · simpa [World.cell?, hg] using hj
      · cases hj
theorem OffV.chg {S : Nat → Prop} {w w' : World} {v : Value} {xs : List Value} (h : OffV w v xs) (hc : Chg S w w') (hS : ∀ k, blkOf v = some k → ¬ S k) : OffV w' v xs := by
  rcases h with h | ⟨g, off, cap, rfl, hg, hn, hcm, hs, hf, hl⟩
  · exact .inl h
  · have hk := hc.block g hg (hS g rfl)
    have e : ∀ j, w'.cell? ⟨g, j, none⟩ = w.cell? ⟨g, j, none⟩ := fun j => by simp [World.cell?, hk]
    exact .inr ⟨g, off, cap, rfl, Nat.lt_of_lt_of_le hg hc.size, hn, hcm, fun j hj => by rw [e]; exact hs j hj, fun j => by rw [← hf j]; simp [World.frozen?, hk], fun j u hj => by rw [e]; exact hl j u hj⟩
theorem OffV.form {w : World} {v : Value} {xs : List Value} (h : OffV w v xs) : ∃ a c, v = .slice a xs.length c ∧ xs.length ≤ c ∧ c ≤ 9223372036854775807 ∧ (a = none → c = 0) ∧ ∀ b, a = some b → b.block < w.heap.size ∧ b = ⟨b.block, b.off, none⟩ := by
  rcases h with ⟨rfl, rfl⟩ | ⟨g, off, cap, rfl, hg, hn, hc, _⟩
  · exact ⟨none, 0, rfl, Nat.le_refl _, by omega, fun _ => rfl, fun b e => (by cases e)⟩
  · exact ⟨_, _, rfl, hn, by unfold maxLen at hc; exact hc, fun e => (by cases e), fun b e => by cases e; exact ⟨hg, rfl⟩⟩
theorem OffV.src {w : World} {v : Value} {xs : List Value} (h : OffV w v xs) : Dk.Src w 1 v xs.length xs := by
  refine ⟨by rw [Nat.mul_one], ?_⟩
  rcases h with ⟨rfl, rfl⟩ | ⟨g, off, cap, rfl, hg, hn, hcm, hs, hf, hl⟩
  · exact .inl ⟨rfl, rfl⟩
  · exact .inr ⟨g, off, cap, rfl, hn, by unfold maxLen at hcm; exact hcm, fun j u hj => ⟨hg, hl j u hj⟩⟩
/-- v[:n:n]. -/
theorem OffV.take {w : World} {a : Option Addr} {c : Nat} {xs : List Value} (h : OffV w (.slice a xs.length c) xs) (n : Nat) (hn : n ≤ xs.length) : OffV w (.slice a n n) (xs.take n) := by
  have hl : (xs.take n).length = n := by rw [List.length_take]; omega
  rcases h with ⟨e, rfl⟩ | ⟨g, off, cap, e, hg, hc, hcm, hs, hf, hcell⟩
  · cases e
    obtain rfl : n = 0 := by simpa using hn
    exact .inl ⟨rfl, rfl⟩
  · cases e
    refine .inr ⟨g, off, n, by rw [hl], hg, by rw [hl]; exact Nat.le_refl _, by omega, fun j hj => hs j (by omega), hf, fun j u hj => hcell j u ?_⟩
    rw [List.getElem?_take] at hj
    split at hj
    · exact hj
    · cases hj
/-- v[n:]. -/
theorem OffV.drop {w : World} {g off c : Nat} {xs : List Value} (h : OffV w (.slice (some ⟨g, off, none⟩) xs.length c) xs) (n : Nat) (hn : n ≤ xs.length) : OffV w (.slice (if c = n then some ⟨g, off, none⟩ else some ⟨g, off + n, none⟩) (xs.length - n) (c - n)) (xs.drop n) := by
  have hl : (xs.drop n).length = xs.length - n := List.length_drop ..
  rcases h with ⟨e, rfl⟩ | ⟨g', off', cap, e, hg, hc, hcm, hs, hf, hcell⟩
  · cases e
  · cases e
    by_cases hcn : c = n
    · rw [if_pos hcn]
      refine .inr ⟨g, off, c - n, by rw [hl], hg, by rw [hl]; omega, by omega, fun j hj => by omega, hf, fun j u hj => ?_⟩
      have := (List.getElem?_eq_some_iff.1 hj).1
      omega
    · rw [if_neg hcn]
      refine .inr ⟨g, off + n, c - n, by rw [hl], hg, by rw [hl]; omega, by omega, fun j hj => ?_, hf, fun j u hj => ?_⟩
      · rw [Nat.add_assoc]; exact hs (n + j) (by omega)
      · rw [List.getElem?_drop] at hj
        rw [Nat.add_assoc]; exact hcell (n + j) u hj
theorem setCells_chg (g : Nat) : ∀ (vs : List Value) (o : Nat) (w : World), Chg (· = g) w (w.setCells g o vs)
  | [], _, w => Chg.refl _ _
  | v :: r, o, w => (chg_set w g o none v).trans (setCells_chg g r (o + 1) _) fun _ _ e => e
/-- append(v, u) for one element. -/
theorem run_append_one {w : World} {v u : Value} {xs : List Value} {y : Addr} {c : Nat} (h : OffV w v xs) (hu : u.oneCell' = true) (hone : ∀ z ∈ xs, z.oneCell' = true) (hy : w.cell? y = some u) (hbig : xs.length ≤ 100000) (ty : TypeId) :
    ∃ v' w', (Builtin.append_ #[48, 48] ty #[v, .slice (some y) 1 1]).run Try.prog w = .ok v' w' ∧ OffV w' v' (xs ++ [u]) ∧ Chg (fun k => blkOf v = some k) w w' ∧ (blkOf v' = blkOf v ∨ ∃ k, blkOf v' = some k ∧ w.heap.size ≤ k) := by
  obtain ⟨i0, hi, hz0, hz1, hz2⟩ := info_parts Try.infoS
  have hnew : ∀ (j : Nat) z, [u][j]? = some z → w.cell? (y.add j) = some z := fun j z hj => by
    match j, hj with
    | 0, hj => cases hj; simpa [Addr.add] using hy
    | j + 1, hj => simp at hj
  have hone1 : ∀ z ∈ [u], z.oneCell' = true := fun z hz => by rw [List.mem_singleton.1 hz]; exact hu
  have hul : [u].length = 1 * 1 := rfl
  rcases h with ⟨rfl, rfl⟩ | ⟨g, off, cap, rfl, hg, hn, hcm, hsm, hf, hl⟩
  · obtain ⟨v', w', r1, r2, r3, r4⟩ := run_append_own (P := Try.prog) w w.heap.size 48 ty 28 i0 (.slice none 0 0) 1 24 Try.underlying48 hi hz0 hz1 hz2 rfl (by decide) (.slice none 0 0) 0 [] (World.ownsRow_nil _ _ _ _) y 1 1 [u] hul hnew hone1 (by unfold maxLen; omega) (by omega) (Nat.le_refl _)
    obtain ⟨g9, c9, rfl, _, _, _, _, _⟩ := own_some r2 (by omega)
    refine ⟨_, w', r1, .of_own r2, Below.chg _ (Below.grown (Up.refl w) r3 (Nat.le_refl _) fun k hk => by cases hk), .inr ⟨g9, rfl, ((own_ty r2) g9 rfl).2⟩⟩
  · by_cases hroom : xs.length + 1 ≤ cap
    · have r := run_append_room_cells (P := Try.prog) (w := w) 48 ty 28 i0 Try.underlying48 hi g off xs.length cap y 1 1 [u] (by rw [hz1]; rfl) hnew hone1 hroom (fun j hj => by rw [hz1, Nat.mul_one, Nat.add_assoc]; exact hsm _ (by simp at hj; omega)) (fun j hj => hf _)
      rw [hz1, Nat.mul_one] at r
      have hC := setCells_chg g [u] (off + xs.length) w
      have hcell := World.cell?_setCells_in g [u] (off + xs.length) w (fun j hj => by rw [Nat.add_assoc]; exact hsm _ (by simp at hj; omega))
      refine ⟨_, _, r, ?_, hC.mono fun k _ e => by rw [e]; rfl, .inl rfl⟩
      refine .inr ⟨g, off, cap, by rw [List.length_append]; rfl, Nat.lt_of_lt_of_le hg hC.size, by rw [List.length_append]; exact hroom, hcm, fun j hj => ?_, fun j => by rw [World.frozen?_setCells]; exact hf j, fun j z hj => ?_⟩
      · by_cases h1 : j = xs.length
        · have := hcell 0 Nat.one_pos
          rw [h1]
          rw [Nat.add_zero] at this
          rw [this]; rfl
        · rw [World.cell?_setCells_out g _ _ _ _ (fun _ _ => by show off + j < _ ∨ _ ≤ off + j; simp only [List.length_cons, List.length_nil]; omega)]
          exact hsm j hj
      · by_cases h1 : j < xs.length
        · rw [List.getElem?_append_left h1] at hj
          rw [World.cell?_setCells_out g _ _ _ _ (fun _ _ => by show off + j < _ ∨ _ ≤ off + j; omega)]
          exact hl j z hj
        · have hjl := (List.getElem?_eq_some_iff.1 hj).1
          rw [List.length_append, List.length_singleton] at hjl
          obtain rfl : j = xs.length := by omega
          have := hcell 0 Nat.one_pos
          rw [Nat.add_zero] at this
          rw [this, ← hj]
          simp
    · obtain ⟨v', w', r1, r2, r3⟩ := run_append_arg_grows (P := Try.prog) (w := w) 48 ty 28 i0 (.slice none 0 0) 1 24 Try.underlying48 hi hz0 hz1 hz2 rfl (by decide) ⟨g, off, none⟩ xs.length cap xs (by omega) (fun j z hj => by rw [Addr.add_lit]; exact hl j z hj) y 1 1 [u] hul hnew (by omega) (by unfold maxLen; omega) (by omega)
      obtain ⟨g9, c9, rfl, _, _, _, _, _⟩ := own_some r2 (by omega)
      exact ⟨_, w', r1, .of_own r2, Below.chg _ (Below.grown (Up.refl w) r3 (Nat.le_refl _) fun k hk => by cases hk), .inr ⟨g9, rfl, ((own_ty r2) g9 rfl).2⟩⟩
/-- The records that a law has appended, none of them in blocks of F. -/
structure HeldR (w : World) (av : Value) (xs : List Value) (rs : List (List Int)) (F : Nat → Prop) : Prop where
  off : OffV w av xs
  nf : ∀ k, blkOf av = some k → ¬ F k
  len : xs.length = rs.length
  pcs : ∀ (j : Nat) (h : j < rs.length), ∃ g c, xs[j]? = some (.slice (some ⟨g, 0, none⟩) rs[j].length rs[j].length) ∧ ¬ F g ∧ blkOf av ≠ some g ∧ rs[j].length ≤ 1000000 ∧ Blk w g (bc rs[j] ++ c) 5
theorem HeldR.bs {w : World} {av : Value} {xs : List Value} {rs : List (List Int)} {F : Nat → Prop} (h : HeldR w av xs rs F) : BsR w av rs := by
  refine ⟨xs, by rw [← h.len]; exact h.off.src, fun j hj => ?_⟩
  obtain ⟨g, c, h1, _, _, h4, h5⟩ := h.pcs j hj
  exact ⟨_, h1, bytes_blk h5 h4⟩
theorem HeldR.chg {S F' : Nat → Prop} {w w' : World} {av : Value} {xs : List Value} {rs : List (List Int)} {F : Nat → Prop} (h : HeldR w av xs rs F) (hc : Chg S w w') (hS : ∀ k, k < w.heap.size → ¬ F k → ¬ S k) (hF : ∀ k, k < w.heap.size → ¬ F k → ¬ F' k) : HeldR w' av xs rs F' := by
  have hlt : ∀ k, blkOf av = some k → k < w.heap.size := fun k hk => by
    rcases h.off with ⟨rfl, _⟩ | ⟨g, off, cap, rfl, hg, _⟩
    · cases hk
    · cases hk; exact hg
  refine ⟨h.off.chg hc fun k hk => hS k (hlt k hk) (h.nf k hk), fun k hk => hF k (hlt k hk) (h.nf k hk), h.len, fun j hj => ?_⟩
  obtain ⟨g, c, h1, h2, h3, h4, h5⟩ := h.pcs j hj
  exact ⟨g, c, h1, hF g h5.lt h2, h3, h4, h5.chg hc (hS g h5.lt h2)⟩
theorem HeldR.up {w w' : World} {av : Value} {xs : List Value} {rs : List (List Int)} {F : Nat → Prop} (h : HeldR w av xs rs F) (hu : Up w w') : HeldR w' av xs rs F :=
  h.chg (Below.chg (fun _ => False) hu) (fun _ _ _ e => e) fun _ _ h => h
theorem HeldR.post {w w' : World} {av : Value} {xs : List Value} {rs : List (List Int)} {F : Nat → Prop} {p : Nat} {L : Log} (h : HeldR w av xs rs F) (hP : LogPost p L F w w') : HeldR w' av xs rs (Fx F w w') :=
  h.chg hP.2 (fun _ _ h => h) fun k hk hn e => e.elim hn fun e => by omega
theorem held_one {w : World} {av : Value} {xs : List Value} {rs : List (List Int)} {F : Nat → Prop} (h : HeldR w av xs rs F) : ∀ z ∈ xs, z.oneCell' = true := fun z hz => by
  obtain ⟨j, hj⟩ := List.getElem?_of_mem hz
  have hl := (List.getElem?_eq_some_iff.1 hj).1
  obtain ⟨g, c, h1, _⟩ := h.pcs j (by rw [← h.len]; exact hl)
  rw [h1] at hj
  cases hj
  rfl
theorem HeldR.take {w : World} {a : Option Addr} {c : Nat} {xs : List Value} {rs : List (List Int)} {F : Nat → Prop} (h : HeldR w (.slice a rs.length c) xs rs F) (n : Nat) (hn : n ≤ rs.length) : HeldR w (.slice a n n) (xs.take n) (rs.take n) F := by
  have hl : (rs.take n).length = n := by rw [List.length_take]; omega
  have hb : ∀ m c', blkOf (.slice a m c') = blkOf (.slice a rs.length c) := fun m c' => by cases a <;> rfl
  have ho := h.off
  rw [← h.len] at ho
  refine ⟨ho.take n (by rw [h.len]; exact hn), fun k hk => h.nf k ((hb n n).symm.trans hk), by rw [hl, List.length_take, h.len]; omega, fun j hj => ?_⟩
  rw [hl] at hj
  obtain ⟨g, c, h1, h2, h3, h4, h5⟩ := h.pcs j (by omega)
  have e : (rs.take n)[j]'(by rw [hl]; exact hj) = rs[j] := List.getElem_take ..
  rw [e]
  exact ⟨g, c, by rw [List.getElem?_take, if_pos hj]; exact h1, h2, by rw [hb]; exact h3, h4, h5⟩
theorem HeldR.drop {w : World} {g off c : Nat} {xs : List Value} {rs : List (List Int)} {F : Nat → Prop} (h : HeldR w (.slice (some ⟨g, off, none⟩) rs.length c) xs rs F) (n : Nat) (hn : n ≤ rs.length) : HeldR w (.slice (if c = n then some ⟨g, off, none⟩ else some ⟨g, off + n, none⟩) (rs.length - n) (c - n)) (xs.drop n) (rs.drop n) F := by
  have hl : (rs.drop n).length = rs.length - n := List.length_drop ..
  have hb : ∀ m c', blkOf (.slice (if c = n then some ⟨g, off, none⟩ else some ⟨g, off + n, none⟩) m c') = some g := fun m c' => by split <;> rfl
  have ho := h.off
  rw [← h.len] at ho
  have ho2 := ho.drop n (by rw [h.len]; exact hn)
  rw [h.len] at ho2
  refine ⟨ho2, fun k hk => h.nf k (by rw [← hk, hb]; rfl), by rw [hl, List.length_drop, h.len], fun j hj => ?_⟩
  rw [hl] at hj
  obtain ⟨g', c', h1, h2, h3, h4, h5⟩ := h.pcs (n + j) (by omega)
  have e : (rs.drop n)[j]'(by rw [hl]; exact hj) = rs[n + j] := List.getElem_drop ..
  rw [e]
  exact ⟨g', c', by rw [List.getElem?_drop]; exact h1, h2, by rw [hb]; exact h3, h4, h5⟩
/-- appended = append(appended, r). -/
theorem held_append {w W : World} {av : Value} {xs : List Value} {rs : List (List Int)} {F : Nat → Prop} {g : Nat} {r : List Int} {c : List Value} {y : Addr} (h : HeldR w av xs rs F) (hF : ∀ k, F k → k < w.heap.size) (hg : ¬ F g) (hga : blkOf av ≠ some g) (hr : r.length ≤ 1000000) (hb : Blk w g (bc r ++ c) 5) (hW : Up w W) (hy : W.cell? y = some (.slice (some ⟨g, 0, none⟩) r.length r.length)) (hbig : rs.length ≤ 100000) (ty : TypeId) :
    ∃ a c' w', (Builtin.append_ #[48, 48] ty #[av, .slice (some y) 1 1]).run Try.prog W = .ok (.slice a (rs.length + 1) c') w' ∧ HeldR w' (.slice a (rs.length + 1) c') (xs ++ [.slice (some ⟨g, 0, none⟩) r.length r.length]) (rs ++ [r]) F ∧ Chg (fun k => ¬ F k ∧ blkOf av = some k) w w' ∧ ∀ k, blkOf (.slice a (rs.length + 1) c') = some k → blkOf av = some k ∨ w.heap.size ≤ k := by
  obtain ⟨v', w', r1, r2, r3, r4⟩ := run_append_one (c := 1) (h.up hW).off rfl (held_one h) hy (by rw [h.len]; exact hbig) ty
  have hlen : (xs ++ [Value.slice (some ⟨g, 0, none⟩) r.length r.length]).length = rs.length + 1 := by rw [List.length_append, h.len]; rfl
  obtain ⟨a, c', rfl, _⟩ := r2.form
  rw [hlen] at r1 r2 r4
  have hs := hW.size
  have hltb : ∀ k, blkOf av = some k → k < w.heap.size := fun k hk => by
    rcases h.off with ⟨rfl, _⟩ | ⟨g, off, cap, rfl, hg, _⟩
    · cases hk
    · cases hk; exact hg
  have hnew : ∀ k, blkOf (.slice a (rs.length + 1) c') = some k → blkOf av = some k ∨ w.heap.size ≤ k := fun k hk => by
    rcases r4 with e | ⟨k', e, hk'⟩
    · exact .inl (e ▸ hk)
    · rw [hk] at e; cases e; exact .inr (by omega)
  have key : ∀ (g' : Nat) (l : List Value), Blk w g' l 5 → blkOf av ≠ some g' → Blk w' g' l 5 ∧ blkOf (.slice a (rs.length + 1) c') ≠ some g' := fun g' l hb' hn => by
    refine ⟨(hb'.up hW).chg r3 hn, fun e => ?_⟩
    rcases hnew g' e with e | e
    · exact hn e
    · have := hb'.lt; omega
  refine ⟨a, c', w', r1, ⟨r2, fun k hk e => ?_, by rw [hlen, List.length_append]; rfl, fun j hj => ?_⟩, ?_⟩
  · rcases hnew k hk with e2 | e2
    · exact h.nf k e2 e
    · have := hF k e; omega
  · rw [List.length_append, List.length_singleton] at hj
    by_cases hlt : j < rs.length
    · obtain ⟨g', c2, h1, h2, h3, h4, h5⟩ := h.pcs j hlt
      obtain ⟨k1, k2⟩ := key g' _ h5 h3
      have e : (rs ++ [r])[j]'(by rw [List.length_append, List.length_singleton]; exact hj) = rs[j] := List.getElem_append_left hlt
      rw [e]
      exact ⟨g', c2, by rw [List.getElem?_append_left (by rw [h.len]; exact hlt)]; exact h1, h2, k2, h4, k1⟩
    · obtain rfl : j = rs.length := by omega
      obtain ⟨k1, k2⟩ := key g _ hb hga
      have e : (rs ++ [r])[rs.length]'(by rw [List.length_append, List.length_singleton]; exact hj) = r := by simp
      rw [e]
      exact ⟨g, c, by rw [← h.len]; simp, hg, k2, hr, k1⟩
  · exact ⟨(Below.chg _ hW).trans r3 fun k hk e => ⟨h.nf k e, e⟩, hnew⟩
end Go.Proofs.Ytmaeeidaegigcaa.Wl
