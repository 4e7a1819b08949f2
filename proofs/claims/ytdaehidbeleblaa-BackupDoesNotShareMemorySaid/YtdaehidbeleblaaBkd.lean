/- The archive: StateAt, the plain part. -/
import Derived.Test.YtdaehidbeleblaaBkc
namespace Go.Proofs.Ytdaehidbeleblaa.Bk
open Go Go.RowKit Hp
open Mv (Val rowC rowC_len rowC_one rowC_get RM rmC rmC1 rmC_len rmC_get erR RecsR RecsS Srt pos has pos_le has_pos fm_len fm_take fm_drop fm_get fm_set fm_one cloneR)
set_option linter.unusedVariables false

theorem base_take (l : List Ba) (t : Int) (k : Nat) (h : k < l.length) : baseA (l.take (k + 1)) t = if l[k].1 ≤ t then l[k] else baseA (l.take k) t := by
  unfold baseA
  rw [List.take_succ_eq_append_getElem h, List.foldl_append]
  rfl
/-- The first loop: the variable base, a block that is new since w. -/
def BaseI (w wr : World) (t : Int) (l : List Ba) (k : Nat) : Prop := ∃ bt bv idx, Blk wr w.heap.size [.int .i64 bt, bv] 55 ∧ Up w wr ∧ baseA (l.take k) t = (bt, idx) ∧ w.ownsRow 0 3 1 bv idx.length (icN idx)
theorem base_zero (w : World) (t : Int) (l : List Ba) : BaseI w (w.alloc (.cells #[.int .i64 0, .slice none 0 0] 55)) t l 0 :=
  ⟨0, .slice none 0 0, [], Blk.new _ _ _, (Up.refl w).alloc _, rfl, World.ownsRow_nil _ _ _ _⟩
theorem base_hit {w wr : World} {t : Int} {l : List Ba} {k : Nat} {x bt : Int} {xv bv : Value} {xi : List Nat} {o : Obj} (hl : k < l.length) (he : l[k] = (x, xi)) (hx : x ≤ t) (hB : Blk wr w.heap.size [.int .i64 bt, bv] 55) (hu : Up w wr) (ho : w.ownsRow 0 3 1 xv xi.length (icN xi)) :
    BaseI w (((wr.setCell ⟨w.heap.size, 0, none⟩ (.int .i64 x)).setCell ⟨w.heap.size, 1, none⟩ xv).alloc o) t l (k + 1) :=
  ⟨x, xv, xi, (((hB.set 0 (.int .i64 x)).set 1 xv).below ((Up.refl _).alloc o) (by have := hB.lt; simpa [World.setCell] using this)), ((hu.set (Nat.le_refl _) _ _ _).set (Nat.le_refl _) _ _ _).alloc o, by rw [base_take _ _ _ hl, he, if_pos hx], ho⟩
theorem base_miss {w wr : World} {t : Int} {l : List Ba} {k : Nat} {x bt : Int} {bv : Value} {xi idx : List Nat} {o : Obj} (hl : k < l.length) (he : l[k] = (x, xi)) (hx : ¬ x ≤ t) (hB : Blk wr w.heap.size [.int .i64 bt, bv] 55) (hu : Up w wr)
    (hq : baseA (l.take k) t = (bt, idx)) (ho : w.ownsRow 0 3 1 bv idx.length (icN idx)) : BaseI w (wr.alloc o) t l (k + 1) :=
  ⟨bt, bv, idx, hB.below ((Up.refl wr).alloc o) hB.lt, hu.alloc o, by rw [base_take _ _ _ hl, he, if_neg hx, hq], ho⟩
theorem base_mem (l : List Ba) (t : Int) : baseA l t = (0, []) ∨ baseA l t ∈ l := by
  unfold baseA
  have : ∀ (l : List Ba) (b : Ba), l.foldl (fun b x => if x.1 ≤ t then x else b) b = b ∨ l.foldl (fun b x => if x.1 ≤ t then x else b) b ∈ l := by
    intro l
    induction l with
    | nil => exact fun b => .inl rfl
    | cons a l ih =>
      intro b
      rw [List.foldl_cons]
      rcases ih (if a.1 ≤ t then a else b) with h | h
      · rw [h]
        split
        · exact .inr (List.mem_cons_self ..)
        · exact .inl rfl
      · exact .inr (List.mem_cons_of_mem _ h)
  exact this l _
theorem base_info {A : Ar} (ok : AOk A) {bs : List BM} (e2 : bs.map erB = A.baks) {t bt : Int} {idx : List Nat} (hq : baseA ((bs.map erB).take bs.length) t = (bt, idx)) : baseA A.baks t = (bt, idx) ∧ idx.length ≤ 40 ∧ (∀ i ∈ idx, i < A.recs.length) ∧ Srt (stB A.recs idx) := by
  rw [show bs.length = (bs.map erB).length by simp, List.take_length, e2] at hq
  refine ⟨hq, ?_⟩
  rcases base_mem A.baks t with h | h
  · rw [hq] at h
    obtain ⟨_, rfl⟩ := Prod.mk.inj h
    exact ⟨by decide, (fun i hi => by cases hi), List.Pairwise.nil⟩
  · rw [hq] at h
    exact ⟨ok.il _ h, ok.ilt _ h, ok.srt _ h⟩
theorem stB_take (recs : Recs) (idx : List Nat) (k : Nat) (h : k < idx.length) : stB recs (idx.take (k + 1)) = stB recs (idx.take k) ++ [recD recs idx[k]] := by
  unfold stB
  rw [List.take_succ_eq_append_getElem h, List.map_append]
  rfl
theorem chStep_ok {s : Recs} (hs : Srt s) (c : Ch) : Srt (chStep s c) ∧ (chStep s c).length ≤ s.length + 1 := by
  have hp := pos_le s c.key
  unfold chStep
  split
  · rename_i hh
    obtain ⟨hp2, he⟩ := has_pos hh
    split
    · rw [← List.eraseIdx_eq_take_drop_succ]
      exact ⟨hs.sublist (List.eraseIdx_sublist _ _), Nat.le_succ_of_le (List.eraseIdx_sublist _ _).length_le⟩
    · refine ⟨?_, by simp⟩
      have := hs.set (pos s c.key) hp2 c.row
      rwa [he] at this
  · rename_i hh
    split
    · exact ⟨hs, Nat.le_succ _⟩
    · refine ⟨hs.ins c.key c.row (by simpa using hh), ?_⟩
      simp only [List.length_append, List.length_take, List.length_cons, List.length_drop]
      omega
theorem foldC_take (s : Recs) (b t : Int) (l : List Ch) (k : Nat) (h : k < l.length) : foldC s b t (l.take (k + 1)) = if b < l[k].time ∧ l[k].time ≤ t then chStep (foldC s b t (l.take k)) l[k] else foldC s b t (l.take k) := by
  unfold foldC
  rw [List.take_succ_eq_append_getElem h, List.foldl_append]
  rfl
theorem foldC_ok {s : Recs} (hs : Srt s) (b t : Int) (l : List Ch) : Srt (foldC s b t l) ∧ (foldC s b t l).length ≤ s.length + l.length := by
  induction l generalizing s with
  | nil => exact ⟨hs, Nat.le_refl _⟩
  | cons c l ih =>
    show Srt (foldC (if b < c.time ∧ c.time ≤ t then chStep s c else s) b t l) ∧ _
    obtain ⟨h1, h2⟩ := chStep_ok hs c
    have : Srt (if b < c.time ∧ c.time ≤ t then chStep s c else s) ∧ (if b < c.time ∧ c.time ≤ t then chStep s c else s).length ≤ s.length + 1 := by
      split
      · exact ⟨h1, h2⟩
      · exact ⟨hs, Nat.le_succ _⟩
    obtain ⟨h3, h4⟩ := ih this.1
    refine ⟨h3, ?_⟩
    show (foldC (if b < c.time ∧ c.time ≤ t then chStep s c else s) b t l).length ≤ _
    rw [List.length_cons]
    have := this.2
    omega
/-! ### The records that are gathered -/
theorem row_keep {w w2 : World} {B n size m : Nat} {v rv : Value} {xs ys : List Value} (h2 : w.ownsRow B 40 size v n xs) (hr : w.ownsRow B 34 3 rv m ys) (hc : Chg (fun j => v.ownBlock = some j) w w2) : w2.ownsRow B 34 3 rv m ys :=
  own_chg hr hc fun k hk e => ((own_ty hr) k hk).1.ne (by decide) ((own_ty h2) k e).1
/-- A fresh row's block is no other row's. -/
theorem row_new {w w1 : World} {B : Nat} {rs : List RM} {rv : Value} {row : List Val} (h3 : ∀ r ∈ rs, w.ownsRow B 34 3 r.rv r.row.length (rowC r.row)) (hown : w1.ownsRow w.heap.size 34 3 rv row.length (rowC row)) : ∀ r ∈ rs, ∀ k, r.rv.ownBlock = some k → rv.ownBlock ≠ some k := fun r hr k hk e => by
  have := own_lt (h3 r hr) k hk
  have := ((own_ty hown) k e).2
  omega
def RowsD (rs : List RM) : Prop := rs.Pairwise fun a b => ∀ k, a.rv.ownBlock = some k → b.rv.ownBlock ≠ some k
theorem RowsD.put {rs : List RM} (h : RowsD rs) {x : RM} (hx : ∀ r ∈ rs, ∀ k, r.rv.ownBlock = some k → x.rv.ownBlock ≠ some k) (i : Nat) : RowsD (rs.take i ++ x :: rs.drop i) := by
  refine List.pairwise_append.2 ⟨h.sublist (List.take_sublist _ _), List.pairwise_cons.2 ⟨fun b hb k hk e => hx b (List.mem_of_mem_drop hb) k e hk, h.sublist (List.drop_sublist _ _)⟩, fun a ha b hb => ?_⟩
  rcases List.mem_cons.1 hb with rfl | hb
  · exact hx a (List.mem_of_mem_take ha)
  · have h2 := h
    rw [← List.take_append_drop i rs] at h2
    exact (List.pairwise_append.1 h2).2.2 a ha b hb
theorem RowsD.set {rs : List RM} (h : RowsD rs) {x : RM} (hx : ∀ r ∈ rs, ∀ k, r.rv.ownBlock = some k → x.rv.ownBlock ≠ some k) (i : Nat) : RowsD (rs.set i x) := by
  refine List.pairwise_iff_getElem.2 fun a b ha hb hab => ?_
  have ha' : a < rs.length := by simpa using ha
  have hb' : b < rs.length := by simpa using hb
  rw [List.getElem_set, List.getElem_set]
  split <;> split
  · omega
  · exact fun k hk e => hx _ (List.getElem_mem hb') k e hk
  · exact hx _ (List.getElem_mem ha')
  · exact List.pairwise_iff_getElem.1 h a b ha' hb' hab
theorem RecsR.put {w w1 w2 : World} {B i : Nat} {v v' rv : Value} {rs : List RM} {key : ByteArray} {row : List Val} (h2 : w.ownsRow B 40 2 v rs.length (rmC rs)) (h3 : ∀ r ∈ rs, w.ownsRow B 34 3 r.rv r.row.length (rowC r.row)) (h4 : RowsD rs)
    (hB : B ≤ w.heap.size) (hown : w1.ownsRow w.heap.size 34 3 rv row.length (rowC row)) (hu : Up w w1) (ho2 : w2.ownsRow B 40 2 v' (rs.length + 1) ((rmC rs).take (i * 2) ++ [.string key, rv] ++ (rmC rs).drop (i * 2))) (hi : i ≤ rs.length) (hc : Chg (fun j => v.ownBlock = some j) w1 w2) :
    RecsR w2 B v' ((rs.map erR).take i ++ (key, row) :: (rs.map erR).drop i) := by
  have h2' := own_up h2 hu
  have hn : w1.ownsRow B 34 3 rv row.length (rowC row) := own_base' hown fun k hk => by have := ((own_ty hown) k hk).2; omega
  refine ⟨rs.take i ++ ⟨key, rv, row⟩ :: rs.drop i, by simp [erR], ?_, fun r hr => ?_, h4.put (row_new h3 hown) i⟩
  · have e : (rs.take i ++ (⟨key, rv, row⟩ : RM) :: rs.drop i).length = rs.length + 1 := by simp; omega
    rw [e]
    have e2 : rmC (rs.take i ++ (⟨key, rv, row⟩ : RM) :: rs.drop i) = (rmC rs).take (i * 2) ++ [.string key, rv] ++ (rmC rs).drop (i * 2) := by
      unfold rmC
      rw [fm_take (k := 2) (fun _ => rfl), fm_drop (k := 2) (fun _ => rfl), List.flatMap_append, List.flatMap_cons]
      simp [rmC1]
    rw [e2]
    exact ho2
  · rcases List.mem_append.1 hr with hr | hr
    · exact row_keep h2' (own_up (h3 r (List.mem_of_mem_take hr)) hu) hc
    · rcases List.mem_cons.1 hr with rfl | hr
      · exact row_keep h2' hn hc
      · exact row_keep h2' (own_up (h3 r (List.mem_of_mem_drop hr)) hu) hc
theorem RecsR.cut {w w2 : World} {B i : Nat} {v v' : Value} {rs : List RM} (h2 : w.ownsRow B 40 2 v rs.length (rmC rs)) (h3 : ∀ r ∈ rs, w.ownsRow B 34 3 r.rv r.row.length (rowC r.row)) (h4 : RowsD rs)
    (ho2 : w2.ownsRow B 40 2 v' (rs.length - 1) ((rmC rs).take (i * 2) ++ (rmC rs).drop ((i + 1) * 2))) (hi : i < rs.length) (hc : Chg (fun j => v.ownBlock = some j) w w2) : RecsR w2 B v' ((rs.map erR).take i ++ (rs.map erR).drop (i + 1)) := by
  refine ⟨rs.take i ++ rs.drop (i + 1), by simp, ?_, fun r hr => ?_, by rw [← List.eraseIdx_eq_take_drop_succ]; exact h4.sublist (List.eraseIdx_sublist _ _)⟩
  · have e : (rs.take i ++ rs.drop (i + 1)).length = rs.length - 1 := by simp; omega
    have e2 : rmC (rs.take i ++ rs.drop (i + 1)) = (rmC rs).take (i * 2) ++ (rmC rs).drop ((i + 1) * 2) := by
      unfold rmC
      rw [fm_take (k := 2) (fun _ => rfl), fm_drop (k := 2) (fun _ => rfl), List.flatMap_append]
    rw [e, e2]
    exact ho2
  · rcases List.mem_append.1 hr with hr | hr
    · exact row_keep h2 (h3 r (List.mem_of_mem_take hr)) hc
    · exact row_keep h2 (h3 r (List.mem_of_mem_drop hr)) hc
theorem RecsR.rowSet {w w1 : World} {B i g c : Nat} {rv : Value} {rs : List RM} {row : List Val} (h2 : w.ownsRow B 40 2 (.slice (some ⟨g, 0, none⟩) rs.length c) rs.length (rmC rs)) (h3 : ∀ r ∈ rs, w.ownsRow B 34 3 r.rv r.row.length (rowC r.row)) (h4 : RowsD rs)
    (hB : B ≤ w.heap.size) (hown : w1.ownsRow w.heap.size 34 3 rv row.length (rowC row)) (hu : Up w w1) (hi : i < rs.length) (k : ByteArray) (hk : rs[i].key = k) :
    RecsR (w1.setCell ⟨g, i * 2 + 1, none⟩ rv) B (.slice (some ⟨g, 0, none⟩) rs.length c) ((rs.map erR).set i (k, row)) := by
  have h2' := own_up h2 hu
  have hC := chg_set w1 g (i * 2 + 1) none rv
  have hC' : Chg (fun j => (Value.slice (some ⟨g, 0, none⟩) rs.length c).ownBlock = some j) w1 (w1.setCell ⟨g, i * 2 + 1, none⟩ rv) := hC.mono fun j _ e => by rw [e]; rfl
  have hn : w1.ownsRow B 34 3 rv row.length (rowC row) := own_base' hown fun k hk => by have := ((own_ty hown) k hk).2; omega
  refine ⟨rs.set i ⟨k, rv, row⟩, by rw [List.map_set]; rfl, ?_, fun r hr => ?_, h4.set (row_new h3 hown) i⟩
  · rw [List.length_set]
    have := own_set h2' (i * 2 + 1) (by rw [rmC_len]; omega) rv
    rwa [show (rmC rs).set (i * 2 + 1) rv = rmC (rs.set i ⟨k, rv, row⟩) from fm_set (f := rmC1) (k := 2) (fun _ => rfl) rs i 1 hi (by omega) rv _ (by rw [← hk]; rfl)] at this
  · rcases List.mem_or_eq_of_mem_set hr with hr | rfl
    · exact row_keep h2' (own_up (h3 r hr) hu) hC'
    · exact row_keep h2' hn hC'
/-- The second loop: what is gathered, beside the variable base. -/
def StI (w wq : World) (bt : Int) (bv sv : Value) (l : Recs) : Prop := RecsR wq w.heap.size sv l ∧ Up w wq ∧ Blk wq w.heap.size [.int .i64 bt, bv] 55
/-- Behind a step that has written into the gathered slice alone. -/
theorem sti_of {w wr w2 w3 : World} {bt : Int} {bv sv v' : Value} {n : Nat} {xs : List Value} {l : Recs} (hu : Up w wr) (hB : Blk wr w.heap.size [.int .i64 bt, bv] 55) (g2 : wr.ownsRow w.heap.size 40 2 sv n xs) (hu2 : Up wr w2) (hc : Chg (fun j => sv.ownBlock = some j) w2 w3) (hR : RecsR w3 w.heap.size v' l) : StI w w3 bt bv v' l := by
  have C : Chg (fun j => sv.ownBlock = some j) wr w3 := (Below.chg _ hu2).trans hc fun _ _ e => e
  refine ⟨hR, ((Below.chg (fun _ => False) hu).trans C (S' := fun j => sv.ownBlock = some j) fun j hj e => ?_).up fun _ _ e => e, hB.chg C fun e => ?_⟩
  · have := ((own_ty g2) j e).2; omega
  · exact ((own_ty g2) _ e).1.ne (E' := 55) (by decide) (blk_ty hB)
theorem sti_snoc {w wr w2 w3 : World} {bt : Int} {bv sv v' rv : Value} {gs : List RM} {key : ByteArray} {row : List Val} {o : Obj} {l : Recs} (hu : Up w wr) (hB : Blk wr w.heap.size [.int .i64 bt, bv] 55) (g1 : gs.map erR = l) (g2 : wr.ownsRow w.heap.size 40 2 sv gs.length (rmC gs))
    (g3 : ∀ r ∈ gs, wr.ownsRow w.heap.size 34 3 r.rv r.row.length (rowC r.row)) (g4 : RowsD gs) (h2 : w2.ownsRow wr.heap.size 34 3 rv row.length (rowC row)) (h3 : Up wr w2) (hown : w3.ownsRow w.heap.size 40 2 v' (gs.length + 1) (rmC gs ++ [.string key, rv])) (hg : (w2.alloc o).grownBy w3 sv.ownBlock) :
    StI w w3 bt bv v' (l ++ [(key, row)]) := by
  have hc : Chg (fun j => sv.ownBlock = some j) w2 w3 := ((Chg.refl _ w2).alloc o).grown hg fun k hk => .inl hk
  subst g1
  exact sti_of hu hB g2 h3 hc (RecsR.snoc g2 g3 g4 hu.size (Up.refl wr) h2 h3 hown hc)
theorem search_any {B : Nat} (v : Value) (gs : List RM) (l : Recs) (t : ByteArray) (w : World) (h1 : gs.map erR = l) (h2 : w.ownsRow B 40 2 v gs.length (rmC gs)) (hs : Srt l) (hlen : gs.length ≤ 1000) :
    Calls Try.prog 23 #[v, .string t, .func (.func 24) #[] #[]] w fun e w' => e = .returned (.tuple #[.int .i64 (pos l t : Nat), .bool (has l t)]) ∧ Up w w' := by
  subst h1
  refine (Mv.bs_any v gs.length (rmC gs) (fun i => ((gs.map erR).getD i (t, [])).1) (fun i => (gs.map (·.rv)).getD i undef) t w (own_base' h2 fun _ _ => Nat.zero_le _) (by omega) (fun i hi => ?_) (fun a b h1 h2 h3 => Mv.mono_scmp hs t (t, []) a b h1 (by rw [List.length_map]; exact h2) h3)).mono ?_
  · have := rmC_get gs i hi
    simp only [List.getD, List.getElem?_map, List.getElem?_eq_getElem hi, Option.map_some, Option.getD_some]
    exact this
  · rintro e w' ⟨i, h1, h2, h3, rfl, h4⟩
    obtain ⟨a1, a2⟩ := Mv.pos_get (l := gs.map erR) (t := t) (x := []) (i := i) (by rw [List.length_map]; exact h1) h2 (fun j hj hl => h3 j hj (by rw [List.length_map] at hl; exact hl))
    rw [List.length_map] at a2
    rw [a1, ← a2]
    exact ⟨rfl, h4⟩
theorem rmC_one {w : World} {B : Nat} (l : List RM) (h : ∀ r ∈ l, w.ownsRow B 34 3 r.rv r.row.length (rowC r.row)) : ∀ u ∈ rmC l, u.oneCell' = true := fun u hu => by
  obtain ⟨r, hr, hm⟩ := List.mem_flatMap.1 hu
  obtain ⟨a, c, e, _⟩ := own_form (h r hr)
  unfold rmC1 at hm
  rw [e] at hm
  simp at hm
  rcases hm with rfl | rfl <;> rfl
theorem sti_cut {w wr w2 w3 : World} {bt : Int} {bv sv v3 : Value} {qs : List RM} {S : Recs} {i : Nat} (hu : Up w wr) (hB : Blk wr w.heap.size [.int .i64 bt, bv] 55) (g1 : qs.map erR = S) (g2 : wr.ownsRow w.heap.size 40 2 sv qs.length (rmC qs))
    (g3 : ∀ r ∈ qs, wr.ownsRow w.heap.size 34 3 r.rv r.row.length (rowC r.row)) (g4 : RowsD qs) (h4 : Up wr w2) (h5 : w3.ownsRow 0 40 2 v3 (qs.length - 1) ((rmC qs).take (i * 2) ++ (rmC qs).drop ((i + 1) * 2))) (h6 : w2.grownBy w3 sv.ownBlock) (h7 : v3.ownBlock = sv.ownBlock) (hi : i < qs.length) :
    StI w w3 bt bv v3 (S.take i ++ S.drop (i + 1)) := by
  have hc : Chg (fun j => sv.ownBlock = some j) w2 w3 := (Chg.refl _ w2).grown h6 fun k hk => .inl hk
  subst g1
  exact sti_of hu hB g2 h4 hc (RecsR.cut (own_up g2 h4) (fun r hr => own_up (g3 r hr) h4) g4 (own_base' h5 fun k hk => ((own_ty g2) k (h7 ▸ hk)).2) hi hc)
theorem sti_set {w wr w2 w3 : World} {bt : Int} {bv rv : Value} {qs : List RM} {S : Recs} {i g c : Nat} {row : List Val} {key : ByteArray} (hu : Up w wr) (hB : Blk wr w.heap.size [.int .i64 bt, bv] 55) (g1 : qs.map erR = S) (g2 : wr.ownsRow w.heap.size 40 2 (.slice (some ⟨g, 0, none⟩) qs.length c) qs.length (rmC qs))
    (g3 : ∀ r ∈ qs, wr.ownsRow w.heap.size 34 3 r.rv r.row.length (rowC r.row)) (g4 : RowsD qs) (h4 : Up wr w2) (h5 : w3.ownsRow w2.heap.size 34 3 rv row.length (rowC row)) (h6 : Up w2 w3) (hi : i < qs.length) (hk : qs[i].key = key) :
    StI w (w3.setCell ⟨g, i * 2 + 1, none⟩ rv) bt bv (.slice (some ⟨g, 0, none⟩) qs.length c) (S.set i (key, row)) := by
  have hc : Chg (fun j => (Value.slice (some ⟨g, 0, none⟩) qs.length c).ownBlock = some j) w3 (w3.setCell ⟨g, i * 2 + 1, none⟩ rv) := (chg_set w3 g (i * 2 + 1) none rv).mono fun j _ e => by rw [e]; rfl
  subst g1
  exact sti_of hu hB g2 (h4.trans h6) hc (RecsR.rowSet (own_up g2 h4) (fun r hr => own_up (g3 r hr) h4) g4 (Nat.le_trans hu.size h4.size) h5 h6 hi key hk)
theorem sti_put {w wr w2 w3 w4 : World} {bt : Int} {bv sv v4 rv : Value} {qs : List RM} {S : Recs} {i : Nat} {row : List Val} {key : ByteArray} {o : Obj} (hu : Up w wr) (hB : Blk wr w.heap.size [.int .i64 bt, bv] 55) (g1 : qs.map erR = S) (g2 : wr.ownsRow w.heap.size 40 2 sv qs.length (rmC qs))
    (g3 : ∀ r ∈ qs, wr.ownsRow w.heap.size 34 3 r.rv r.row.length (rowC r.row)) (g4 : RowsD qs) (h4 : Up wr w2) (h5 : w3.ownsRow w2.heap.size 34 3 rv row.length (rowC row)) (h6 : Up w2 w3) (h7 : w4.ownsRow 0 40 2 v4 (qs.length + 1) ((rmC qs).take (i * 2) ++ [.string key, rv] ++ (rmC qs).drop (i * 2)))
    (h8 : (w3.alloc o).grownBy w4 sv.ownBlock) (h9 : v4.ownBlock = sv.ownBlock ∨ ∃ g, v4.ownBlock = some g ∧ w3.heap.size ≤ g) (hi : i ≤ qs.length) : StI w w4 bt bv v4 (S.take i ++ (key, row) :: S.drop i) := by
  have hc : Chg (fun j => sv.ownBlock = some j) w3 w4 := ((Chg.refl _ w3).alloc o).grown h8 fun k hk => .inl hk
  subst g1
  refine sti_of hu hB g2 (h4.trans h6) hc (RecsR.put (own_up g2 h4) (fun r hr => own_up (g3 r hr) h4) g4 (Nat.le_trans hu.size h4.size) h5 h6 (own_base' h7 fun k hk => ?_) hi hc)
  rcases h9 with e | ⟨g, e, hg⟩
  · exact ((own_ty g2) k (e ▸ hk)).2
  · rw [e] at hk
    cases hk
    have := hu.size; have := h4.size; have := h6.size; omega
end Go.Proofs.Ytdaehidbeleblaa.Bk
