/- The simulated disk in plain words; how it lies in memory. -/
import Derived.Test.YtmaeeidaegigcaaFr
namespace Go.Proofs.Ytmaeeidaegigcaa.Dk
open Go Go.RowKit Hp
set_option linter.unusedVariables false

/-! ### In plain words -/
structure Dsk where
  dur : List (List Int)
  pend : List (Nat × List Int)
def pad (d : List Int) : List Int := d ++ List.replicate (32 - d.length) 0
theorem pad_len {d : List Int} (h : d.length ≤ 32) : (pad d).length = 32 := by simp [pad]; omega
def applyW (dur : List (List Int)) (l : List (Nat × List Int)) : List (List Int) := l.foldl (fun m x => m.set x.1 x.2) dur
theorem applyW_len (dur : List (List Int)) (l : List (Nat × List Int)) : (applyW dur l).length = dur.length := by
  induction l generalizing dur with
  | nil => rfl
  | cons x l ih => show (applyW (dur.set x.1 x.2) l).length = _; rw [ih]; simp
theorem applyW_snoc (dur : List (List Int)) (l : List (Nat × List Int)) (x : Nat × List Int) : applyW dur (l ++ [x]) = (applyW dur l).set x.1 x.2 := by
  unfold applyW; rw [List.foldl_append]; rfl
theorem applyW_append (dur : List (List Int)) (l l' : List (Nat × List Int)) : applyW dur (l ++ l') = applyW (applyW dur l) l' := by
  unfold applyW; rw [List.foldl_append]
def Dsk.new (n : Nat) : Dsk := ⟨List.replicate n (List.replicate 32 0), []⟩
def Dsk.write (d : Dsk) (s : Nat) (data : List Int) : Dsk := { d with pend := d.pend ++ [(s, pad data)] }
def Dsk.flush (d : Dsk) : Dsk := ⟨applyW d.dur d.pend, []⟩
def Dsk.read (d : Dsk) (s : Nat) : List Int := (applyW d.dur d.pend).getD s []
/-- What survives: sv says of each pending write whether. -/
def surv (sv : List Bool) (l : List (Nat × List Int)) (m : Nat) : List (Nat × List Int) := ((List.range m).filter fun i => sv.getD i false).map fun i => l.getD i (0, [])
def Dsk.crash (d : Dsk) (sv : List Bool) : Dsk := ⟨applyW d.dur (surv sv d.pend d.pend.length), []⟩
theorem surv_succ (sv : List Bool) (l : List (Nat × List Int)) (m : Nat) : surv sv l (m + 1) = surv sv l m ++ if sv.getD m false then [l.getD m (0, [])] else [] := by
  unfold surv; rw [List.range_succ, List.filter_append, List.map_append]
  cases h : sv.getD m false <;> simp only [List.filter_cons, List.filter_nil, h] <;> rfl
theorem getD_set (l : List (List Int)) (i j : Nat) (x : List Int) : (l.set i x).getD j [] = if i = j ∧ i < l.length then x else l.getD j [] := by
  simp only [List.getD]
  rw [List.getElem?_set]
  by_cases h : i = j
  · subst h
    by_cases h2 : i < l.length
    · simp [h2]
    · simp [h2]
  · simp [h]
/-- The write that a read finds: no later one is to the same sector. -/
theorem applyW_hit (dur : List (List Int)) (l1 l2 : List (Nat × List Int)) (s : Nat) (x : List Int) (hs : s < dur.length) (h : ∀ y ∈ l2, y.1 ≠ s) : (applyW dur (l1 ++ (s, x) :: l2)).getD s [] = x := by
  rw [applyW_append]
  show (applyW ((applyW dur l1).set s x) l2).getD s [] = x
  have key : ∀ (l : List (Nat × List Int)) (m : List (List Int)), (∀ y ∈ l, y.1 ≠ s) → (applyW m l).getD s [] = m.getD s [] := by
    intro l
    induction l with
    | nil => intro m _; rfl
    | cons y l ih =>
      intro m hm
      show (applyW (m.set y.1 y.2) l).getD s [] = _
      rw [ih _ (fun z hz => hm z (List.mem_cons_of_mem _ hz)), getD_set, if_neg (fun e => hm y (by simp) e.1)]
  rw [key l2 _ h, getD_set, if_pos ⟨rfl, by rw [applyW_len]; exact hs⟩]
theorem applyW_miss (dur : List (List Int)) (l : List (Nat × List Int)) (s : Nat) (h : ∀ y ∈ l, y.1 ≠ s) : (applyW dur l).getD s [] = dur.getD s [] := by
  induction l generalizing dur with
  | nil => rfl
  | cons y l ih =>
    show (applyW (dur.set y.1 y.2) l).getD s [] = _
    rw [ih _ (fun z hz => h z (List.mem_cons_of_mem _ hz)), getD_set, if_neg (fun e => h y (by simp) e.1)]
theorem read_write (d : Dsk) (s s' : Nat) (data : List Int) (h : s < d.dur.length) : (d.write s data).read s' = if s = s' then pad data else d.read s' := by
  unfold Dsk.read Dsk.write
  rw [applyW_snoc, getD_set, applyW_len]
  by_cases e : s = s'
  · rw [if_pos ⟨e, h⟩, if_pos e]
  · rw [if_neg (fun h => e h.1), if_neg e]
theorem read_flush (d : Dsk) (s : Nat) : d.flush.read s = d.read s := rfl

/-- A disk whose sectors and writes are whole. -/
structure DOk (d : Dsk) : Prop where
  dur : ∀ r ∈ d.dur, r.length = 32
  pend : ∀ x ∈ d.pend, x.1 < d.dur.length ∧ x.2.length = 32
theorem applyW_ok : ∀ (l : List (Nat × List Int)) (dur : List (List Int)), (∀ r ∈ dur, r.length = 32) → (∀ x ∈ l, x.2.length = 32) → ∀ r ∈ applyW dur l, r.length = 32
  | [], dur, h, _ => h
  | x :: l, dur, h, hl => applyW_ok l (dur.set x.1 x.2) (fun r hr => by
      rcases List.mem_or_eq_of_mem_set hr with hr | rfl
      · exact h r hr
      · exact hl x (by simp)) fun y hy => hl y (List.mem_cons_of_mem _ hy)
theorem DOk.new (n : Nat) : DOk (.new n) := ⟨fun r hr => by rw [List.eq_of_mem_replicate hr]; simp, fun x hx => by cases hx⟩
theorem DOk.write {d : Dsk} (h : DOk d) {s : Nat} {data : List Int} (hs : s < d.dur.length) (hd : data.length ≤ 32) : DOk (d.write s data) :=
  ⟨h.dur, fun x hx => by
    rcases List.mem_append.1 hx with hx | hx
    · exact h.pend x hx
    · rw [List.mem_singleton.1 hx]; exact ⟨hs, pad_len hd⟩⟩
theorem DOk.flush {d : Dsk} (h : DOk d) : DOk d.flush := ⟨applyW_ok _ _ h.dur fun x hx => (h.pend x hx).2, fun x hx => by cases hx⟩
theorem mem_surv {sv : List Bool} {l : List (Nat × List Int)} {m : Nat} (hm : m ≤ l.length) {x : Nat × List Int} (h : x ∈ surv sv l m) : x ∈ l := by
  unfold surv at h
  obtain ⟨i, hi, rfl⟩ := List.mem_map.1 h
  have := List.mem_range.1 (List.mem_filter.1 hi).1
  simp only [List.getD]
  rw [List.getElem?_eq_getElem (by omega)]
  exact List.getElem_mem _
theorem DOk.crash {d : Dsk} (h : DOk d) (sv : List Bool) : DOk (d.crash sv) := ⟨applyW_ok _ _ h.dur fun x hx => (h.pend x (mem_surv (Nat.le_refl _) hx)).2, fun x hx => by cases hx⟩
theorem read_len {d : Dsk} (h : DOk d) {s : Nat} (hs : s < d.dur.length) : (d.read s).length = 32 := by
  unfold Dsk.read
  have := applyW_len d.dur d.pend
  simp only [List.getD]
  rw [List.getElem?_eq_getElem (by omega)]
  exact applyW_ok _ _ h.dur (fun x hx => (h.pend x hx).2) _ (List.getElem_mem _)
theorem surv_all (sv : List Bool) (l : List (Nat × List Int)) (h : ∀ i, i < l.length → sv.getD i false = true) : ∀ m, m ≤ l.length → surv sv l m = l.take m
  | 0, _ => by simp [surv]
  | m + 1, hm => by
    rw [surv_succ, surv_all sv l h m (by omega), h m (by omega), if_pos rfl, List.take_succ_eq_append_getElem (by omega)]
    simp [List.getD, show m < l.length by omega]
theorem crash_all (d : Dsk) (sv : List Bool) (h : ∀ i, i < d.pend.length → sv.getD i false = true) : d.crash sv = d.flush := by
  unfold Dsk.crash Dsk.flush
  rw [surv_all sv _ h _ (Nat.le_refl _), List.take_length]

/-! ### In memory -/
abbrev bc (l : List Int) : List Value := l.map (Value.int .u8)
/-- A row of 32 bytes of its own. -/
def RowR (w : World) (F : Nat → Prop) (v : Value) (l : List Int) : Prop := ∃ g, v = .slice (some ⟨g, 0, none⟩) 32 32 ∧ F g ∧ Blk w g (bc l) 5
theorem RowR.mono {w : World} {F F' : Nat → Prop} {v : Value} {l : List Int} (h : RowR w F v l) (hF : ∀ k, k < w.heap.size → F k → F' k) : RowR w F' v l := by
  obtain ⟨g, hv, hg, hb⟩ := h
  exact ⟨g, hv, hF g hb.lt hg, hb⟩
/-- The rows stand, whatever was done to blocks that hold no bytes. -/
theorem RowR.chg {S : Nat → Prop} {w w' : World} {F : Nat → Prop} {v : Value} {l : List Int} (h : RowR w F v l) (hc : Chg S w w') (hS : ∀ k, F k → S k → ¬ Ty w k 5) : RowR w' F v l := by
  obtain ⟨g, hv, hg, hb⟩ := h
  exact ⟨g, hv, hg, hb.chg hc fun e => hS g hg e ⟨_, _, hb⟩⟩
/-- The cells of the pending writes. -/
def PendR (w : World) (F : Nat → Prop) (ys : List Value) (l : List (Nat × List Int)) : Prop :=
  ys.length = l.length * 2 ∧ ∀ i (h : i < l.length), ∃ v, ys[i * 2]? = some (.int .i64 (l[i].1 : Int)) ∧ ys[i * 2 + 1]? = some v ∧ RowR w F v l[i].2
def DurR (w : World) (F : Nat → Prop) (xs : List Value) (l : List (List Int)) : Prop := xs.length = l.length ∧ ∀ i (h : i < l.length), ∃ v, xs[i]? = some v ∧ RowR w F v l[i]
theorem PendR.same {w w' : World} {F F' : Nat → Prop} {ys : List Value} {l : List (Nat × List Int)} (h : PendR w F ys l) (hR : ∀ v r, RowR w F v r → RowR w' F' v r) : PendR w' F' ys l :=
  ⟨h.1, fun i hi => by obtain ⟨v, a, b, c⟩ := h.2 i hi; exact ⟨v, a, b, hR _ _ c⟩⟩
theorem DurR.same {w w' : World} {F F' : Nat → Prop} {xs : List Value} {l : List (List Int)} (h : DurR w F xs l) (hR : ∀ v r, RowR w F v r → RowR w' F' v r) : DurR w' F' xs l :=
  ⟨h.1, fun i hi => by obtain ⟨v, a, c⟩ := h.2 i hi; exact ⟨v, a, hR _ _ c⟩⟩
theorem PendR.snoc {w : World} {F : Nat → Prop} {ys : List Value} {l : List (Nat × List Int)} (h : PendR w F ys l) {s : Nat} {v : Value} {r : List Int} (hr : RowR w F v r) : PendR w F (ys ++ [.int .i64 (s : Int), v]) (l ++ [(s, r)]) := by
  obtain ⟨h1, h2⟩ := h
  refine ⟨by simp [h1]; omega, fun i hi => ?_⟩
  by_cases hl : i < l.length
  · obtain ⟨v', a, b, c⟩ := h2 i hl
    refine ⟨v', ?_, ?_, by simpa [List.getElem_append, hl] using c⟩ <;> rw [List.getElem?_append_left (by omega)] <;> simpa [List.getElem_append, hl] using by assumption
  · simp at hi
    obtain rfl : i = l.length := by omega
    refine ⟨v, ?_, ?_, by simpa using hr⟩ <;> rw [List.getElem?_append_right (by omega)] <;> simp [h1]
theorem DurR.set {w : World} {F : Nat → Prop} {xs : List Value} {l : List (List Int)} (h : DurR w F xs l) (s : Nat) {v : Value} {r : List Int} (hr : RowR w F v r) : DurR w F (xs.set s v) (l.set s r) := by
  obtain ⟨h1, h2⟩ := h
  refine ⟨by simp [h1], fun i hi => ?_⟩
  simp at hi
  by_cases e : s = i
  · subst e
    exact ⟨v, by rw [List.getElem?_set_self (by omega)], by simpa using hr⟩
  · obtain ⟨v', a, c⟩ := h2 i hi
    exact ⟨v', by rw [List.getElem?_set_ne e]; exact a, by simpa [List.getElem_set_ne e] using c⟩
theorem DurR.snoc {w : World} {F : Nat → Prop} {xs : List Value} {l : List (List Int)} (h : DurR w F xs l) {v : Value} {r : List Int} (hr : RowR w F v r) : DurR w F (xs ++ [v]) (l ++ [r]) := by
  obtain ⟨h1, h2⟩ := h
  refine ⟨by simp [h1], fun i hi => ?_⟩
  by_cases hl : i < l.length
  · obtain ⟨v', a, c⟩ := h2 i hl
    exact ⟨v', by rw [List.getElem?_append_left (by omega)]; exact a, by simpa [List.getElem_append, hl] using c⟩
  · simp at hi
    obtain rfl : i = l.length := by omega
    exact ⟨v, by rw [List.getElem?_append_right (by omega)]; simp [h1], by simpa using hr⟩
/-- The disk at block p, in the blocks of F. -/
structure DiskR (w : World) (p : Nat) (d : Dsk) (F : Nat → Prop) : Prop where
  ok : DOk d
  lt : ∀ k, F k → k < w.heap.size
  at' : ∃ dv pv xs ys, F p ∧ Blk w p [dv, pv] 74 ∧ w.ownsRow 0 28 1 dv d.dur.length xs ∧ (∀ k, dv.ownBlock = some k → F k) ∧ w.ownsRow 0 76 2 pv d.pend.length ys ∧ (∀ k, pv.ownBlock = some k → F k) ∧
    DurR w F xs d.dur ∧ PendR w F ys d.pend
theorem DiskR.mono {w : World} {p : Nat} {d : Dsk} {F F' : Nat → Prop} (h : DiskR w p d F) (hF : ∀ k, F k → F' k) (hl : ∀ k, F' k → k < w.heap.size) : DiskR w p d F' := by
  obtain ⟨ok, lt, dv, pv, xs, ys, hp, hb, hd, hdF, hq, hqF, hD, hP⟩ := h
  have hR : ∀ v r, RowR w F v r → RowR w F' v r := fun v r hr => hr.mono fun k _ hk => hF k hk
  exact ⟨ok, hl, dv, pv, xs, ys, hF p hp, hb, hd, fun k hk => hF k (hdF k hk), hq, fun k hk => hF k (hqF k hk), hD.same hR, hP.same hR⟩
/-- What another did, the disk does not feel. -/
theorem DiskR.chg {S : Nat → Prop} {w w' : World} {p : Nat} {d : Dsk} {F : Nat → Prop} (h : DiskR w p d F) (hc : Chg S w w') (hS : ∀ k, F k → ¬ S k) : DiskR w' p d F := by
  obtain ⟨ok, lt, dv, pv, xs, ys, hp, hb, hd, hdF, hq, hqF, hD, hP⟩ := h
  have hR : ∀ v r, RowR w F v r → RowR w' F v r := fun v r hr => hr.chg hc fun k a b => absurd b (hS k a)
  exact ⟨ok, fun k hk => Nat.lt_of_lt_of_le (lt k hk) hc.size, dv, pv, xs, ys, hp, hb.chg hc (hS p hp), own_chg hd hc fun k hk => hS k (hdF k hk), hdF, own_chg hq hc fun k hk => hS k (hqF k hk), hqF, hD.same hR, hP.same hR⟩
theorem DiskR.up {w w' : World} {p : Nat} {d : Dsk} {F : Nat → Prop} (h : DiskR w p d F) (hu : Up w w') : DiskR w' p d F := h.chg (hu.chg fun _ => False) fun _ _ e => e
end Go.Proofs.Ytmaeeidaegigcaa.Dk
