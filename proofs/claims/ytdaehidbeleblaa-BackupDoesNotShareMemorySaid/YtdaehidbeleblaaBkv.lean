/- BackupDoesNotShareMemory: the plain part, and what is scribbled on. -/
import Derived.Test.YtdaehidbeleblaaBks
import Derived.Test.YtdaehidbeleblaaRwg
namespace Go.Proofs.Ytdaehidbeleblaa.Bk
open Go Go.RowKit Hp
open Mv (Val rowC rowC_len rowC_one rowC_get RM rmC rmC1 rmC_len rmC_get erR RecsR RecsS Srt pos has pos_le has_pos fm_len fm_take fm_drop fm_get fm_set fm_one cloneR rowV row_any Raw own_raw scribble_any wl_append_run app_row)
open So (slt)
set_option linter.unusedVariables false

def S34 (zs : List Int) (k : Nat) : Recs := (List.range k).map fun i : Nat => (keyB i, rowV (zs.getD i 0))
def mem34 (zs : List Int) : Nat → Ar
  | 0 => ar0
  | k + 1 => { mem34 zs k with chgs := (mem34 zs k).chgs ++ [⟨(k : Int) + 1, keyB k, rowV (zs.getD k 0)⟩] }
theorem S34_len (zs : List Int) (k : Nat) : (S34 zs k).length = k := by simp [S34]
theorem S34_get (zs : List Int) (k i : Nat) (h : i < (S34 zs k).length) : (S34 zs k)[i] = (keyB i, rowV (zs.getD i 0)) := by simp [S34]
theorem S34_srt (zs : List Int) (k : Nat) (hk : k ≤ 6) : Srt (S34 zs k) := by
  unfold S34 Srt
  rw [List.pairwise_map]
  refine List.Pairwise.imp_of_mem (fun {a b} ha hb hab => ?_) List.pairwise_lt_range
  have h1 := List.mem_range.1 ha
  have h2 := List.mem_range.1 hb
  exact keyB_nat (by omega) (by omega) hab
theorem S34_succ (zs : List Int) (k : Nat) : S34 zs (k + 1) = S34 zs k ++ [(keyB k, rowV (zs.getD k 0))] := by simp [S34, List.range_succ]
theorem S34_key {zs : List Int} {k : Nat} (hk : k < 6) : ∀ y ∈ S34 zs k, y.1 ≠ keyB k := fun y hy e => by
  obtain ⟨i, hi, rfl⟩ := List.mem_map.1 hy
  have h1 := List.mem_range.1 hi
  have := keyB_inj (by omega) hk e
  omega
theorem arc34 (zs : List Int) : ∀ k, k ≤ 6 → ∃ sts, Arc (mem34 zs k) sts k 0 ∧ sts.getD k [] = S34 zs k
  | 0, _ => ⟨[[]], arc0, rfl⟩
  | k + 1, hk => by
    obtain ⟨sts, hA, hs⟩ := arc34 zs k (by omega)
    obtain ⟨h1, h2⟩ := arc_rec hA (k : Int) (row := rowV (zs.getD k 0)) (by rw [rowV_len]; exact Nat.le_refl _)
    refine ⟨_, h1, ?_⟩
    rw [getD_snoc, if_pos hA.sl.symm, hs]
    rw [hs] at h2
    refine srt_ext (chStep_ok (S34_srt zs k (by omega)) _).1 (S34_srt zs (k + 1) hk) fun y => ?_
    rw [h2 y, S34_succ, List.mem_append, List.mem_singleton]
    constructor
    · rintro (⟨e1, _, e2⟩ | ⟨_, h⟩)
      · exact .inr (Prod.ext e1 e2)
      · exact .inl h
    · rintro (h | rfl)
      · exact .inr ⟨S34_key (by omega) y h, h⟩
      · exact .inl ⟨rfl, by rw [rowV_len]; decide, rfl⟩
theorem st_late {A : Ar} {sts : List Recs} {n nb : Nat} (h : Arc A sts n nb) {t : Int} (ht : (n : Int) ≤ t) : stA A t = sts.getD n [] := by
  rw [← h.st n (Nat.le_refl _)]
  unfold stA
  have e : baseA A.baks t = baseA A.baks n := base_congr fun b hb => by have := (h.bt b hb).2; omega
  rw [e]
  exact foldC_congr fun c hc => by have := (h.ct c hc).2; omega
theorem full_late {A A' : Ar} {sts : List Recs} {n nb : Nat} {idx : List Nat} {st t t' : Int} (h : Arc A sts n nb) (hf : FB A (stA A t) (stA A t).length A'.recs A'.refs idx st) (hb : A'.baks = A.baks ++ [(t, idx)]) (hc : A'.chgs = A.chgs) (ht : (n : Int) ≤ t) (ht' : t ≤ t') : stA A' t' = sts.getD n [] := by
  have hidx : stB A'.recs idx = sts.getD n [] := by rw [hf.new.1, List.take_length, st_late h ht]
  unfold stA
  rw [hb, hc, base_snoc, if_pos ht', hidx]
  exact foldC_none fun c hm => by have := h.ct c hm; show ¬ (t < c.time ∧ c.time ≤ t'); omega
/-- The law's archive at round q of the second loop. -/
def T34 (zs : List Int) (k : Nat) (A : Ar) (q : Nat) : Prop := (q = 0 → A = mem34 zs k) ∧ (q = 1 → A.earl = 0 ∧ stA A 60 = S34 zs k)
theorem t34_state {zs : List Int} {k q : Nat} {A : Ar} (hk : k ≤ 6) (hq : q < 2) (h : T34 zs k A q) : A.earl ≤ (if q = 0 then 50 else 60) ∧ stA A (if q = 0 then 50 else 60) = S34 zs k := by
  rcases Nat.eq_zero_or_pos q with h0 | h0
  · obtain ⟨sts, hA, hs⟩ := arc34 zs k hk
    rw [h.1 h0]
    simp only [h0, if_true]
    exact ⟨by rw [hA.earl]; decide, by rw [st_late hA (by omega), hs]⟩
  · have h1 : q = 1 := by omega
    obtain ⟨h2, h3⟩ := h.2 h1
    rw [if_neg (by omega)]
    exact ⟨by rw [h2]; decide, h3⟩
theorem t34_bd (zs : List Int) {k : Nat} (hk : k ≤ 6) : latA (mem34 zs k) < 50 ∧ (mem34 zs k).baks.length < 20 ∧ (stA (mem34 zs k) 50).length ≤ 40 ∧ (mem34 zs k).earl ≤ 50 ∧ (mem34 zs k).recs.length ≤ 99000 ∧ (mem34 zs k).chgs.length < 200 ∧ latA (mem34 zs k) < (k : Int) + 1 := by
  obtain ⟨sts, hA, hs⟩ := arc34 zs k hk
  have h1 := hA.lat
  have h2 := hA.bn
  have h3 := hA.earl
  have h4 := hA.rn
  have h5 := hA.cn
  have h6 : (stA (mem34 zs k) 50).length = k := by rw [st_late hA (by omega), hs, S34_len]
  exact ⟨by omega, by omega, by omega, by omega, by omega, by omega, by omega⟩
theorem t34_next {zs : List Int} {k : Nat} {A' : Ar} {idx : List Nat} {st : Int} (hk : k ≤ 6) (hf : FB (mem34 zs k) (stA (mem34 zs k) 50) (stA (mem34 zs k) 50).length A'.recs A'.refs idx st) (hb : A'.baks = (mem34 zs k).baks ++ [(50, idx)]) (hc : A'.chgs = (mem34 zs k).chgs) (he : A'.earl = (mem34 zs k).earl) : T34 zs k A' 1 := by
  obtain ⟨sts, hA, hs⟩ := arc34 zs k hk
  exact ⟨fun e => (by cases e), fun _ => ⟨by rw [he, hA.earl], by rw [full_late hA hf hb hc (by omega) (by omega), hs]⟩⟩
/-- A kept block is scribbled on. -/
theorem Own.scrib {w0 w w' : World} {K : Nat → Prop} {p g : Nat} {A : Ar} (h : Own w0 K w p A) (hc : Chg (fun j => j = g) w w') (hg : K g) (hg0 : w0.heap.size ≤ g) : Own w0 K w' p A := by
  obtain ⟨F, h1, h2, h3, h4⟩ := h
  exact ⟨F, h1.chg hc fun k hk e => (h2 k hk).2 (by rw [e]; exact hg), h2, fun k hk => Nat.lt_of_lt_of_le (h3 k hk) hc.size, ((Below.chg (fun _ => False) h4).trans hc (S' := fun j => j = g) fun j hj e => by omega).up fun _ _ e => e⟩
/-- The records that have not been scribbled on: from j on. -/
structure RestC (wr : World) (B j : Nat) (v : Value) (rs : List RM) : Prop where
  own : wr.ownsRow B 40 2 v rs.length (rmC rs)
  row : ∀ i (h : i < rs.length), j ≤ i → wr.ownsRow B 34 3 rs[i].rv rs[i].row.length (rowC rs[i].row)
  dis : ∀ i k (hi : i < rs.length) (hk : k < rs.length), i < k → ∀ g, rs[i].rv.ownBlock = some g → rs[k].rv.ownBlock ≠ some g
theorem RestC.start {w : World} {B : Nat} {v : Value} {l : Recs} (h : RecsR w B v l) : ∃ rs : List RM, rs.map erR = l ∧ RestC w B 0 v rs := by
  obtain ⟨rs, e, h2, h3, h4⟩ := h
  exact ⟨rs, e, h2, fun i hi _ => h3 _ (List.getElem_mem hi), fun i k hi hk hik => List.pairwise_iff_getElem.1 h4 i k hi hk hik⟩
theorem RestC.up {wr w2 : World} {B j : Nat} {v : Value} {rs : List RM} (h : RestC wr B j v rs) (hu : Up wr w2) : RestC w2 B j v rs := ⟨own_up h.own hu, fun i hi hk => own_up (h.row i hi hk) hu, h.dis⟩
theorem RestC.step {wr w2 : World} {B j g : Nat} {v : Value} {rs : List RM} (h : RestC wr B j v rs) (hj : j < rs.length) (hg : rs[j].rv.ownBlock = some g) (hc : Chg (fun k => k = g) wr w2) : RestC w2 B (j + 1) v rs := by
  have ht := (own_ty (h.row j hj (Nat.le_refl _))) g hg
  refine ⟨own_chg h.own hc fun k hk e => ?_, fun i hi hk => own_chg (h.row i hi (by omega)) hc fun k hk2 e => ?_, h.dis⟩
  · subst e; exact ht.1.ne (by decide) ((own_ty h.own) _ hk).1
  · subst e; exact h.dis j i hj hi (by omega) _ hg hk2
theorem rest_at {rs : List RM} {zs : List Int} {k j : Nat} (e : rs.map erR = S34 zs k) (hj : j < rs.length) : rs[j].key = keyB j ∧ rs[j].row = rowV (zs.getD j 0) := by
  have h1 : (rs.map erR)[j]? = some (keyB j, rowV (zs.getD j 0)) := by
    have hl : j < (S34 zs k).length := by rw [← e, List.length_map]; exact hj
    rw [e, List.getElem?_eq_getElem hl, S34_get]
  rw [List.getElem?_map, List.getElem?_eq_getElem hj] at h1
  simp only [Option.map_some, Option.some.injEq, erR, Prod.mk.injEq] at h1
  exact h1
def over : ByteArray := { data := #[111, 118, 101, 114, 119, 114, 105, 116, 116, 101, 110] }
end Go.Proofs.Ytdaehidbeleblaa.Bk
