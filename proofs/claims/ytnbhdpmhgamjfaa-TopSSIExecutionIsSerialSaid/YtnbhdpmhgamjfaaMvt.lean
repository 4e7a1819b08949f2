/- joined: Mvq, Mvr, Mvs, Mvt -/
import Derived.Test.YtnbhdpmhgamjfaaMvm
import Derived.Test.YtnbhdpmhgamjfaaMvp
/- Rows, and lists of records, compared. -/
namespace Go.Proofs.Ytnbhdpmhgamjfaa.Mv
open Go Go.RowKit Hp So
set_option linter.unusedVariables false

theorem val_eq (W : World) (a b : Int) (s : ByteArray) : (Op.equalIn 10000 47 (.agg #[.int .i64 a, .int .i64 b, .string s]) (.agg #[.int .i64 a, .int .i64 b, .string s])).run Try.prog W = .ok true W := by
  rw [show (10000 : Nat) = 9999 + 1 from rfl, Op.equalIn]
  simp only [Sem.run_bind, run_underlying Try.underlying47, Result.andThen_ok]
  simp only [part]
  have ha : ∀ W : World, (isAgg 3).run Try.prog W = .ok false W := Try.isAgg3
  have ha2 : ∀ W : World, (isAgg 9).run Try.prog W = .ok false W := Try.isAgg9
  simp [ha, ha2, go_sem]
theorem guardV : Try.prog.eqGuardType Try.prog.depth 47 = false := by kernel_rfl
theorem rowC_get (l : List Val) (i : Nat) (h : i < l.length) : (rowC l)[i * 3]? = some (.int .i64 l[i].kind) ∧ (rowC l)[i * 3 + 1]? = some (.int .i64 l[i].int) ∧ (rowC l)[i * 3 + 2]? = some (.string l[i].text) :=
  ⟨by have := fm_get (f := valC) (k := 3) (fun _ => rfl) l i 0 h (by omega); simpa [rowC, valC] using this, by have := fm_get (f := valC) (k := 3) (fun _ => rfl) l i 1 h (by omega); simpa [rowC, valC] using this, by have := fm_get (f := valC) (k := 3) (fun _ => rfl) l i 2 h (by omega); simpa [rowC, valC] using this⟩
theorem src_at {w : World} {a : Option Addr} {n cap size : Nat} {xs : List Value} (h : Src w size (.slice a n cap) n xs) (hn : 0 < n) : ∃ b off, a = some ⟨b, off, none⟩ ∧ ∀ j u, xs[j]? = some u → At w b (off + j) u := by
  rcases h.2 with ⟨e, h0⟩ | ⟨b, off, c, e, _, _, hc⟩
  · omega
  · simp only [Value.slice.injEq] at e
    exact ⟨b, off, e.1, hc⟩
/-- A list of records that lies anywhere. -/
def RecsS (w : World) (v : Value) (l : List (ByteArray × List Val)) : Prop :=
  ∃ rs : List RM, rs.map erR = l ∧ Src w 2 v rs.length (rmC rs) ∧ ∀ r ∈ rs, Src w 3 r.rv r.row.length (rowC r.row) ∧ r.row.length ≤ 1000
theorem RecsS.up {w w' : World} {v : Value} {l : List (ByteArray × List Val)} (h : RecsS w v l) (hu : Up w w') : RecsS w' v l := by
  obtain ⟨rs, h1, h2, h3⟩ := h
  exact ⟨rs, h1, h2.up hu, fun r hr => ⟨(h3 r hr).1.up hu, (h3 r hr).2⟩⟩
theorem rmC_get (l : List RM) (i : Nat) (h : i < l.length) : (rmC l)[i * 2]? = some (.string l[i].key) ∧ (rmC l)[i * 2 + 1]? = some l[i].rv :=
  ⟨by have := fm_get (f := rmC1) (k := 2) (fun _ => rfl) l i 0 h (by omega); simpa [rmC, rmC1] using this, by have := fm_get (f := rmC1) (k := 2) (fun _ => rfl) l i 1 h (by omega); simpa [rmC, rmC1] using this⟩
/-! ### Row -/
def rowV (k : Int) : List Val := [⟨1, modV k 1000, ByteArray.empty⟩]

end Go.Proofs.Ytnbhdpmhgamjfaa.Mv

/- The multi-version store: the plain laws. -/
namespace Go.Proofs.Ytnbhdpmhgamjfaa.Mv
open Go Go.RowKit Hp So
set_option linter.unusedVariables false

def adL (l : List PC) (k : ByteArray) (v : PV) : List PC := if has l k = true then l.set (pos l k) (k, (l.getD (pos l k) (k, [])).2 ++ [v]) else l.take (pos l k) ++ (k, [v]) :: l.drop (pos l k)
theorem last_lt {l : List PV} {t : Int} (h0 : 0 < t) (h : ∀ v ∈ l, v.ts < t) : lastTs l < t := by
  unfold lastTs
  cases hl : l.getLast? with
  | none => rw [List.getLastD_eq_getLast?, hl]; exact h0
  | some v => rw [List.getLastD_eq_getLast?, hl]; exact h v (List.mem_of_getLast? hl)
theorem getD_mem {l : List PC} {k : ByteArray} (h : has l k = true) : ∃ hp : pos l k < l.length, l.getD (pos l k) (k, []) = l[pos l k] ∧ l[pos l k].1 = k := by
  obtain ⟨hp, he⟩ := has_pos h
  exact ⟨hp, by simp [List.getD, hp], he⟩
theorem addL_ok {l : List PC} {hz : Int} {k : ByteArray} {v : PV} (hk : k.size ≤ 24) (hr : v.row.length ≤ 6) (h1 : 1 ≤ v.ts) (h2 : v.ts ≤ 1099511627776) (hh : hz < v.ts) (hl : ∀ c ∈ l, ∀ u ∈ c.2, u.ts < v.ts) (hc : cnt l < 400) : addL l hz k v = (adL l k v, 0) := by
  unfold addL adL
  rw [if_neg (by omega), if_neg (by omega), if_neg (by omega), if_neg, if_neg (by omega)]
  · by_cases h : has l k = true
    · rw [if_pos h, if_pos h]
    · rw [if_neg h, if_neg h]
  · rintro ⟨h3, h4⟩
    obtain ⟨hp, e, _⟩ := getD_mem h3
    rw [e] at h4
    have := last_lt (t := v.ts) (by omega) (hl _ (List.getElem_mem hp))
    omega
theorem adL_mem {l : List PC} {k : ByteArray} {v : PV} {c : PC} (h : c ∈ adL l k v) : (∀ u ∈ c.2, u = v ∨ ∃ c0 ∈ l, u ∈ c0.2) ∧ (c.1 = k ∨ ∃ c0 ∈ l, c0.1 = c.1) := by
  unfold adL at h
  split at h
  · rename_i hh
    obtain ⟨hp, e, ek⟩ := getD_mem hh
    rw [e] at h
    rcases List.mem_or_eq_of_mem_set h with h1 | rfl
    · exact ⟨fun u hu => .inr ⟨c, h1, hu⟩, .inr ⟨c, h1, rfl⟩⟩
    · refine ⟨fun u hu => ?_, .inl rfl⟩
      rcases List.mem_append.1 hu with hu | hu
      · exact .inr ⟨_, List.getElem_mem hp, hu⟩
      · exact .inl (List.mem_singleton.1 hu)
  · rcases List.mem_append.1 h with h1 | h1
    · exact ⟨fun u hu => .inr ⟨c, List.mem_of_mem_take h1, hu⟩, .inr ⟨c, List.mem_of_mem_take h1, rfl⟩⟩
    · rcases List.mem_cons.1 h1 with rfl | h1
      · exact ⟨fun u hu => .inl (List.mem_singleton.1 hu), .inl rfl⟩
      · exact ⟨fun u hu => .inr ⟨c, List.mem_of_mem_drop h1, hu⟩, .inr ⟨c, List.mem_of_mem_drop h1, rfl⟩⟩
theorem cnt_ad (l : List PC) (k : ByteArray) (v : PV) : cnt (adL l k v) = cnt l + 1 := by
  unfold adL
  split
  · rename_i hh
    obtain ⟨hp, e, ek⟩ := getD_mem hh
    rw [e, cnt_set hp]
  · conv => rhs; rw [← List.take_append_drop (pos l k) l]
    rw [cnt_app, cnt_app]
    unfold cnt
    simp only [List.map_cons, List.sum_cons, List.length_cons, List.length_nil]
    omega
/-- The versions of a key. -/
def look (l : List PC) (k : ByteArray) : List PV := if has l k = true then (l.getD (pos l k) (k, [])).2 else []
theorem mem_has {l : List PC} (hs : Srt l) {k : ByteArray} {vs : List PV} (h : (k, vs) ∈ l) : has l k = true ∧ look l k = vs := by
  obtain ⟨i, hi, e⟩ := List.getElem_of_mem h
  have hp : pos l k = i := pos_eq (by omega) (fun j hj hji => by have := hs.get hji hi; rwa [e] at this) (fun h => by rw [e]; exact slt_irrefl _)
  have hh : has l k = true := decide_eq_true ⟨by rw [hp]; exact hi, by simp only [hp, e]⟩
  refine ⟨hh, ?_⟩
  unfold look
  rw [if_pos hh, hp]
  simp [List.getD, hi, e]
theorem has_mem {l : List PC} {k : ByteArray} (h : has l k = true) : (k, look l k) ∈ l := by
  obtain ⟨hp, e, ek⟩ := getD_mem h
  unfold look
  rw [if_pos h, e, show (k, l[pos l k].2) = l[pos l k] from Prod.ext ek.symm rfl]
  exact List.getElem_mem hp
theorem SOk.adL {l : List PC} {hz : Int} (h : SOk l hz) {k : ByteArray} {v : PV} (hk : k.size ≤ 24) (hr : v.row.length ≤ 6) (h1 : 1 ≤ v.ts) (h2 : v.ts ≤ 1099511627776) (hl : ∀ c ∈ l, ∀ u ∈ c.2, u.ts < v.ts) (hc : Mv.cnt l < 400) : SOk (Mv.adL l k v) hz := by
  unfold Mv.adL
  split
  · rename_i hh
    obtain ⟨hp, e, ek⟩ := getD_mem hh
    rw [e]
    exact h.set (fun _ => trivial) hp ek hr ⟨h1, h2⟩ (last_lt (by omega) (hl _ (List.getElem_mem hp))) (by omega)
  · rename_i hh
    exact h.ins hk (by simpa using hh) hr ⟨h1, h2⟩ (by omega)
theorem mem_ad {l : List PC} (hs : Srt l) (k : ByteArray) (v : PV) (c : PC) : c ∈ adL l k v ↔ c = (k, look l k ++ [v]) ∨ (c ∈ l ∧ c.1 ≠ k) := by
  unfold adL look
  split
  · rename_i hh
    obtain ⟨hp, e, ek⟩ := getD_mem hh
    rw [e, List.set_eq_take_append_cons_drop, if_pos hp]
    have el : l = l.take (pos l k) ++ l[pos l k] :: l.drop (pos l k + 1) := by rw [← List.drop_eq_getElem_cons hp, List.take_append_drop]
    have h2 : ∀ c ∈ l.take (pos l k), c.1 ≠ k := fun c hc e2 => by
      obtain ⟨j, hj, rfl⟩ := List.getElem_of_mem hc
      rw [List.length_take] at hj
      rw [List.getElem_take] at e2
      have := hs.get (i := j) (j := pos l k) (by omega) hp
      rw [e2, ek] at this
      exact slt_irrefl _ this
    have h3 : ∀ c ∈ l.drop (pos l k + 1), c.1 ≠ k := fun c hc e2 => by
      obtain ⟨j, hj, rfl⟩ := List.getElem_of_mem hc
      rw [List.length_drop] at hj
      rw [List.getElem_drop] at e2
      have := hs.get (i := pos l k) (j := pos l k + 1 + j) (by omega) (by omega)
      rw [e2, ek] at this
      exact slt_irrefl _ this
    constructor
    · intro h
      rcases List.mem_append.1 h with h | h
      · exact .inr ⟨List.mem_of_mem_take h, h2 c h⟩
      · rcases List.mem_cons.1 h with h | h
        · exact .inl h
        · exact .inr ⟨List.mem_of_mem_drop h, h3 c h⟩
    · rintro (rfl | ⟨h, hne⟩)
      · exact List.mem_append.2 (.inr (List.mem_cons_self ..))
      · rw [el] at h
        rcases List.mem_append.1 h with h | h
        · exact List.mem_append.2 (.inl h)
        · rcases List.mem_cons.1 h with h | h
          · rw [h] at hne; exact absurd ek hne
          · exact List.mem_append.2 (.inr (List.mem_cons_of_mem _ h))
  · rename_i hh
    have hne : ∀ c ∈ l, c.1 ≠ k := fun c hc e => hh (mem_has hs (k := k) (vs := c.2) (by rw [← e]; exact hc)).1
    rw [List.nil_append]
    constructor
    · intro h
      rcases List.mem_append.1 h with h | h
      · exact .inr ⟨List.mem_of_mem_take h, hne c (List.mem_of_mem_take h)⟩
      · rcases List.mem_cons.1 h with h | h
        · exact .inl h
        · exact .inr ⟨List.mem_of_mem_drop h, hne c (List.mem_of_mem_drop h)⟩
    · rintro (rfl | ⟨h, hne⟩)
      · exact List.mem_append.2 (.inr (List.mem_cons_self ..))
      · rw [← List.take_append_drop (pos l k) l] at h
        rcases List.mem_append.1 h with h | h
        · exact List.mem_append.2 (.inl h)
        · exact List.mem_append.2 (.inr (List.mem_cons_of_mem _ h))
theorem look_none {l : List PC} (hs : Srt l) {k : ByteArray} (h : ∀ vs, (k, vs) ∉ l) : look l k = [] := by
  unfold look
  split
  · rename_i hh
    exact absurd (has_mem hh) (h _)
  · rfl
theorem look_ad {l : List PC} {hz : Int} (hs : Srt l) (k : ByteArray) (v : PV) (hs2 : Srt (adL l k v)) (k' : ByteArray) : look (adL l k v) k' = if k' = k then look l k ++ [v] else look l k' := by
  by_cases e : k' = k
  · subst e
    rw [if_pos rfl]
    exact (mem_has hs2 ((mem_ad hs k' v _).2 (.inl rfl))).2
  · rw [if_neg e]
    by_cases hh : has l k' = true
    · exact (mem_has hs2 ((mem_ad hs k v _).2 (.inr ⟨has_mem hh, e⟩))).2
    · have e2 : look l k' = [] := by unfold look; rw [if_neg hh]
      rw [e2]
      refine look_none hs2 fun vs hv => ?_
      rcases (mem_ad hs k v _).1 hv with h | ⟨h, _⟩
      · exact e (Prod.mk.inj h).1
      · exact hh (mem_has hs h).1
theorem getL_look (l : List PC) (hz : Int) (k : ByteArray) (ts : Int) (h : ¬ ts < hz) : getL l hz k ts = match vis1 (look l k) ts with | some r => (r, 0) | none => ([], 4) := by
  unfold getL look
  rw [if_neg h]
  by_cases hh : has l k = true
  · rw [if_pos hh, if_pos hh]; rfl
  · rw [if_neg hh, if_neg hh]; rfl
theorem latL_look (l : List PC) (k : ByteArray) : latL l k = lastTs (look l k) := by
  unfold latL look
  by_cases hh : has l k = true
  · rw [if_pos hh, if_pos hh]
  · rw [if_neg hh, if_neg hh]; rfl
theorem vis_snoc {l : List PV} {v : PV} {ts : Int} (h : ts < v.ts) : vis1 (l ++ [v]) ts = vis1 l ts := by
  unfold vis1 visL
  rw [List.reverse_append, List.reverse_singleton, List.singleton_append, List.find?_cons]
  simp [show ¬ v.ts ≤ ts by omega]
/-- Lists that ascend and have the same members are one. -/
theorem srt_ext {α : Type} {a b : List (ByteArray × α)} (ha : Srt a) (hb : Srt b) (h : ∀ x, x ∈ a ↔ x ∈ b) : a = b := by
  induction a generalizing b with
  | nil => cases b with
    | nil => rfl
    | cons y b => exact absurd ((h y).2 (List.mem_cons_self ..)) (by simp)
  | cons x a ih =>
    cases b with
    | nil => exact absurd ((h x).1 (List.mem_cons_self ..)) (by simp)
    | cons y b =>
      obtain ⟨a1, a2⟩ := List.pairwise_cons.1 ha
      obtain ⟨b1, b2⟩ := List.pairwise_cons.1 hb
      have e : x = y := by
        rcases List.mem_cons.1 ((h x).1 (List.mem_cons_self ..)) with e | e
        · exact e
        · rcases List.mem_cons.1 ((h y).2 (List.mem_cons_self ..)) with e2 | e2
          · exact e2.symm
          · exact absurd (a1 y e2) (slt_asymm (b1 x e))
      subst e
      congr 1
      refine ih a2 b2 fun z => ⟨fun hz => ?_, fun hz => ?_⟩
      · rcases List.mem_cons.1 ((h z).1 (List.mem_cons_of_mem _ hz)) with e | e
        · subst e; exact absurd (a1 z hz) (slt_irrefl _)
        · exact e
      · rcases List.mem_cons.1 ((h z).2 (List.mem_cons_of_mem _ hz)) with e | e
        · subst e; exact absurd (b1 z hz) (slt_irrefl _)
        · exact e
theorem scan_srt {l : List PC} (hs : Srt l) (ts : Int) : Srt (scanL l ts) := by
  unfold Srt scanL
  rw [List.pairwise_filterMap]
  refine hs.imp fun {a b} hab c hc d hd => ?_
  obtain ⟨r, _, rfl⟩ := Option.map_eq_some_iff.1 hc
  obtain ⟨r', _, rfl⟩ := Option.map_eq_some_iff.1 hd
  exact hab
theorem mem_scan {l : List PC} (hs : Srt l) (ts : Int) (x : ByteArray × List Val) : x ∈ scanL l ts ↔ vis1 (look l x.1) ts = some x.2 := by
  unfold scanL
  rw [List.mem_filterMap]
  constructor
  · rintro ⟨c, hc, he⟩
    obtain ⟨r, hr, rfl⟩ := Option.map_eq_some_iff.1 he
    rw [(mem_has hs (k := c.1) (vs := c.2) hc).2]
    exact hr
  · intro h
    by_cases hh : has l x.1 = true
    · exact ⟨_, has_mem hh, by rw [h]; rfl⟩
    · unfold look at h
      rw [if_neg hh] at h
      cases h
theorem scan_ext {l l' : List PC} (hs : Srt l) (hs' : Srt l') (ts : Int) (h : ∀ k, vis1 (look l k) ts = vis1 (look l' k) ts) : scanL l ts = scanL l' ts :=
  srt_ext (scan_srt hs ts) (scan_srt hs' ts) fun x => by rw [mem_scan hs, mem_scan hs', h]
/-- A later write does not change what is seen earlier. -/
theorem scan_ad {l : List PC} (hs : Srt l) (k : ByteArray) (v : PV) (hs2 : Srt (adL l k v)) {ts : Int} (h : ts < v.ts) : scanL (adL l k v) ts = scanL l ts :=
  scan_ext hs2 hs ts fun k' => by
    rw [look_ad (hz := 0) hs k v hs2]
    split
    · rename_i e; rw [e, vis_snoc h]
    · rfl
theorem scan_row {l : List PC} {hz : Int} (h : SOk l hz) (ts : Int) : ∀ r ∈ scanL l ts, r.2.length ≤ 6 := fun r hr => by
  unfold scanL at hr
  obtain ⟨c, hc, he⟩ := List.mem_filterMap.1 hr
  obtain ⟨x, hx, rfl⟩ := Option.map_eq_some_iff.1 he
  unfold vis1 at hx
  cases hv : visL c.2 ts with
  | none => rw [hv] at hx; cases hx
  | some v =>
    rw [hv] at hx
    simp only at hx
    split at hx
    · cases hx
    · cases hx
      exact h.row c hc v (List.mem_reverse.1 (List.mem_of_find?_eq_some hv))

/-! ### The history -/
def hstep (l : List PC) (op : Int) (t : Int) : List PC := if modV op 4 = 0 then adL l (keyB (wrap64 (op.tdiv 4))) ⟨t, true, []⟩ else adL l (keyB (wrap64 (op.tdiv 4))) ⟨t, false, rowV (wrap64 (op.tdiv 32))⟩
def histL (zs : List Int) : Nat → List PC
  | 0 => []
  | k + 1 => hstep (histL zs k) (zs.getD k 0) ((k : Int) + 1)
/-- What a history keeps: n versions, all of at most n, keys of the six. -/
structure HOk (l : List PC) (n : Nat) : Prop where
  ok : SOk l 0
  cnt : cnt l = n
  le : ∀ c ∈ l, ∀ v ∈ c.2, v.ts ≤ n
  key : ∀ c ∈ l, ∃ j, c.1 = keyB j
theorem HOk.add {l : List PC} {n : Nat} (h : HOk l n) (hn : n < 400) (j : Int) (v : PV) (hr : v.row.length ≤ 6) (hv : v.ts = (n : Int) + 1) : HOk (adL l (keyB j) v) (n + 1) ∧ addL l 0 (keyB j) v = (adL l (keyB j) v, 0) := by
  have hl : ∀ c ∈ l, ∀ u ∈ c.2, u.ts < v.ts := fun c hc u hu => by have := h.le c hc u hu; omega
  have hk : (keyB j).size ≤ 24 := by rw [keyB_size]; omega
  have hc : Mv.cnt l < 400 := by rw [h.cnt]; exact hn
  refine ⟨⟨h.ok.adL hk hr (by omega) (by omega) hl hc, by rw [cnt_ad, h.cnt], fun c hc' u hu => ?_, fun c hc' => ?_⟩, addL_ok hk hr (by omega) (by omega) (by omega) hl hc⟩
  · rcases (adL_mem hc').1 u hu with e | ⟨c0, h0, h1⟩
    · subst e; omega
    · have := h.le c0 h0 u h1; omega
  · rcases (adL_mem hc').2 with e | ⟨c0, h0, h1⟩
    · exact ⟨j, e⟩
    · obtain ⟨i, hi⟩ := h.key c0 h0; exact ⟨i, h1.symm.trans hi⟩
theorem HOk.nil : HOk [] 0 := ⟨⟨List.Pairwise.nil, (fun c hc => by cases hc), by simp [Mv.cnt], (fun c hc => by cases hc), (fun c hc => by cases hc), (fun c hc => by cases hc), fun c hc => by cases hc⟩, rfl, (fun c hc => by cases hc), fun c hc => by cases hc⟩
theorem hist_ok (zs : List Int) (k : Nat) (hk : k ≤ 200) : HOk (histL zs k) k := by
  induction k with
  | zero => exact HOk.nil
  | succ k ih =>
    have h := ih (by omega)
    unfold histL hstep
    split
    · exact (h.add (by omega) _ _ (by simp) rfl).1
    · exact (h.add (by omega) _ _ (by simp [rowV]) rfl).1
end Go.Proofs.Ytnbhdpmhgamjfaa.Mv

/- mvccWorks, history. -/
namespace Go.Proofs.Ytnbhdpmhgamjfaa.Mv
open Go Go.RowKit Hp So
set_option linter.unusedVariables false

def kA : ByteArray := { data := #[97] }
theorem add_first (k : ByteArray) (v : PV) (hk : k.size ≤ 24) (hr : v.row.length ≤ 6) (h1 : 1 ≤ v.ts) (h2 : v.ts ≤ 1099511627776) : addL [] 0 k v = ([(k, [v])], 0) := by
  rw [addL_ok hk hr h1 h2 (by omega) (fun c hc => by cases hc) (by simp [cnt])]
  rfl
theorem get_first (k : ByteArray) (v : PV) (ts : Int) (h0 : 0 ≤ ts) (h : v.ts ≤ ts) (ht : v.tomb = false) : getL [(k, [v])] 0 k ts = (v.row, 0) := by
  rw [getL_look _ _ _ _ (by omega), (mem_has (l := [(k, [v])]) (List.pairwise_singleton ..) (List.mem_singleton.2 rfl)).2]
  unfold vis1 visL
  simp [h, ht]
theorem own_len1 {w : World} {B : Nat} {v : Value} {n : Nat} {xs : List Value} {E : TypeId} {size : Nat} (h : w.ownsRow B E size v n xs) : Src w size v n xs := own_src h
/-- What history hands back. -/
def HistPost (w : World) (l : List PC) (m : Nat) (e : Ending) (w' : World) : Prop := ∃ p F, e = .returned (.tuple #[.pointer (some ⟨p, 0, none⟩), .int .i64 (m : Nat), .bool true]) ∧ StR w' p l 0 F ∧ (∀ k, F k → w.heap.size ≤ k) ∧ Up w w'

end Go.Proofs.Ytnbhdpmhgamjfaa.Mv

/- The multi-version store: Vacuum's plain laws; the walks of the two laws on it. -/
namespace Go.Proofs.Ytnbhdpmhgamjfaa.Mv
open Go Go.RowKit Hp So
set_option linter.unusedVariables false

theorem visL_app (a b : List PV) (ts : Int) : visL (a ++ b) ts = (visL b ts).or (visL a ts) := by
  unfold visL
  rw [List.reverse_append, List.find?_append]
theorem findIdx_le {l : List PV} {hz : Int} {j : Nat} (h : j < l.findIdx fun v => decide (hz < v.ts)) (hj : j < l.length) : l[j].ts ≤ hz := by
  have := List.not_of_lt_findIdx h
  simp at this
  omega
theorem visL_last {l : List PV} {ts : Int} {x : PV} (h : x.ts ≤ ts) : visL (l ++ [x]) ts = some x := by
  unfold visL
  rw [List.reverse_append, List.reverse_singleton, List.singleton_append, List.find?_cons]
  simp [h]
theorem visL_some {l : List PV} {ts : Int} {x : PV} (hx : x ∈ l) (h : x.ts ≤ ts) : visL l ts ≠ none := by
  unfold visL
  rw [Ne, List.find?_eq_none]
  intro e
  have := e x (List.mem_reverse.2 hx)
  simp [h] at this
theorem vis_vac (l : List PV) {hz ts : Int} (h : hz ≤ ts) : vis1 (l.drop (vdrop l hz)) ts = vis1 l ts := by
  have e : visL l ts = (visL (l.drop (vdrop l hz)) ts).or (visL (l.take (vdrop l hz)) ts) := by
    rw [← visL_app, List.take_append_drop]
  unfold vis1
  rw [e]
  cases hv : visL (l.drop (vdrop l hz)) ts with
  | some v => rfl
  | none =>
    simp only [Option.none_or]
    have hcl : (l.findIdx fun v => decide (hz < v.ts)) ≤ l.length := List.findIdx_le_length
    unfold vdrop at hv ⊢
    split at hv
    · rename_i hc
      rw [if_pos hc]
      obtain ⟨c, hcc⟩ : ∃ c, (l.findIdx fun v => decide (hz < v.ts)) = c + 1 := ⟨_, (Nat.sub_add_cancel hc.1).symm⟩
      have hle := findIdx_le (l := l) (hz := hz) (j := c) (by omega) (by omega)
      rw [hcc] at hc ⊢
      have gd : l.getD (c + 1 - 1) ⟨0, false, []⟩ = l[c] := by simp [List.getD, show c < l.length by omega]
      rw [gd] at hc
      rw [List.take_succ_eq_append_getElem (by omega), visL_last (by omega)]
      simp [hc.2]
    · rename_i hc
      rw [if_neg hc]
      rcases Nat.eq_zero_or_pos ((l.findIdx fun v => decide (hz < v.ts)) - 1) with h0 | h0
      · rw [h0]; rfl
      · exfalso
        have hle := findIdx_le (l := l) (hz := hz) (j := (l.findIdx fun v => decide (hz < v.ts)) - 1) (by omega) (by omega)
        refine visL_some (x := l[(l.findIdx fun v => decide (hz < v.ts)) - 1]'(by omega)) ?_ (by omega) hv
        rw [List.drop_eq_getElem_cons (by omega)]
        exact List.mem_cons_self ..
theorem look_vac {l : List PC} {hz ts : Int} (h : SOk l hz) (k : ByteArray) : look (vacL l ts) k = (look l k).drop (vdrop (look l k) ts) := by
  have hs2 := (h.vac ts).srt
  by_cases hh : has l k = true
  · have hm := has_mem hh
    by_cases hd : vdrop (look l k) ts < (look l k).length
    · refine (mem_has hs2 (List.mem_filterMap.2 ⟨_, hm, ?_⟩)).2
      unfold vac1
      rw [if_pos hd]
    · rw [List.drop_eq_nil_of_le (by omega)]
      refine look_none hs2 fun vs hv => ?_
      obtain ⟨c0, h0, h1, h2, h3⟩ := vac_mem hv
      have e := (mem_has h.srt (k := k) (vs := c0.2) (by rw [show k = c0.1 from h1]; exact h0)).2
      rw [e] at hd
      exact h3 (h2.trans (List.drop_eq_nil_of_le (by omega)))
  · have e : look l k = [] := by unfold look; rw [if_neg hh]
    rw [e]
    refine (look_none hs2 fun vs hv => ?_).trans (by simp)
    obtain ⟨c0, h0, h1, _⟩ := vac_mem hv
    exact hh (mem_has h.srt (k := k) (vs := c0.2) (by rw [show k = c0.1 from h1]; exact h0)).1
theorem scan_vac {l : List PC} {hz t ts : Int} (h : SOk l hz) (ht : t ≤ ts) : scanL (vacL l t) ts = scanL l ts :=
  scan_ext (h.vac t).srt h.srt ts fun k => by rw [look_vac h, vis_vac _ ht]
theorem vac_one {l : List PC} {hz t : Int} (hl : ∀ c ∈ l, ∀ v ∈ c.2, v.ts ≤ t) (h : SOk l hz) : ∀ c ∈ vacL l t, c.2.length = 1 ∧ ∃ r, vis1 c.2 t = some r := fun c hc => by
  obtain ⟨c0, h0, h1, h2, h3⟩ := vac_mem hc
  have hlen : 0 < c0.2.length := List.length_pos_iff.2 (h.ne c0 h0)
  have hi : (c0.2.findIdx fun v => decide (t < v.ts)) = c0.2.length := by
    rw [List.findIdx_eq_length]
    intro v hv
    have := hl c0 h0 v hv
    simp; omega
  have hd : vdrop c0.2 t = c0.2.length - 1 ∧ c0.2[c0.2.length - 1].tomb = false := by
    have gd : c0.2.getD (c0.2.length - 1) ⟨0, false, []⟩ = c0.2[c0.2.length - 1] := by simp [List.getD, show c0.2.length - 1 < c0.2.length by omega]
    by_cases ht : c0.2[c0.2.length - 1].tomb = true
    · exfalso
      have : vdrop c0.2 t = c0.2.length := by
        unfold vdrop
        rw [hi, gd, if_pos ⟨hlen, ht⟩]
      rw [this, List.drop_length] at h2
      exact h3 h2
    · refine ⟨?_, by simpa using ht⟩
      unfold vdrop
      rw [hi, gd, if_neg (fun e => ht e.2)]
  have e : c.2 = [c0.2[c0.2.length - 1]] := by
    rw [h2, hd.1, List.drop_eq_getElem_cons (by omega), List.drop_eq_nil_of_le (by omega)]
  have hle := hl c0 h0 _ (List.getElem_mem (show c0.2.length - 1 < c0.2.length by omega))
  refine ⟨by rw [e]; rfl, c0.2[c0.2.length - 1].row, ?_⟩
  rw [e]
  unfold vis1 visL
  simp [hle, hd.2]
theorem cnt_ones {l : List PC} (h : ∀ c ∈ l, c.2.length = 1) : cnt l = l.length := by
  unfold cnt
  induction l with
  | nil => rfl
  | cons a l ih =>
    rw [List.map_cons, List.sum_cons, ih fun c hc => h c (List.mem_cons_of_mem _ hc), h a (List.mem_cons_self ..), List.length_cons]; omega
theorem scan_all {l : List PC} {ts : Int} (h : ∀ c ∈ l, ∃ r, vis1 c.2 ts = some r) : (scanL l ts).length = l.length := by
  unfold scanL
  induction l with
  | nil => rfl
  | cons a l ih =>
    obtain ⟨r, hr⟩ := h a (List.mem_cons_self ..)
    rw [List.filterMap_cons, hr]
    simp [ih fun c hc => h c (List.mem_cons_of_mem _ hc)]
theorem vac_complete {l : List PC} {n : Nat} (h : HOk l n) : cnt (vacuumL l 0 (n : Int)).1 = (scanL (vacuumL l 0 (n : Int)).1 (n : Int)).length ∧ (vacuumL l 0 (n : Int)).2 = ((n : Int), 0) ∨ n > 400 := by
  by_cases hn : n > 400
  · exact .inr hn
  left
  unfold vacuumL
  rw [if_neg (by omega)]
  by_cases h0 : (n : Int) ≤ 0
  · rw [if_pos h0]
    obtain rfl : n = 0 := by omega
    have : l = [] := by
      cases l with
      | nil => rfl
      | cons a l =>
        have h1 := h.cnt
        have h2 := len_le_cnt h.ok.ne
        rw [h1] at h2
        simp at h2
    subst this
    simp [cnt, scanL]
  · rw [if_neg h0]
    have ho := vac_one (t := (n : Int)) h.le h.ok
    exact ⟨by rw [cnt_ones fun c hc => (ho c hc).1, scan_all fun c hc => (ho c hc).2], rfl⟩
/-- Vacuum, whole. -/
theorem vacuum_any (p : Nat) (l : List PC) (hz : Int) (F : Nat → Prop) (ts : Int) (w : World) (h : StR w p l hz F) : Calls Try.prog 38 #[.pointer (some ⟨p, 0, none⟩), .int .i64 ts] w (VacPost p (vacuumL l hz ts).1 (vacuumL l hz ts).2.1 (vacuumL l hz ts).2.2 F w) := by
  by_cases h0 : ts < 0
  · exact vac_arg p l hz F ts w h (.inl h0)
  by_cases h1 : 1099511627776 < ts
  · exact vac_arg p l hz F ts w h (.inr h1)
  by_cases h2 : ts ≤ hz
  · exact vac_same p l hz F ts w h h0 h1 h2
  · exact vac_main p l hz F ts w h h0 h1 h2

/-- What a step keeps, seen from the law's start. -/
theorem seq_kept {w w1 w2 : World} {p : Nat} {l : List PC} {hz : Int} {F : Nat → Prop} (hF : ∀ k, F k → w.heap.size ≤ k) (hu : Up w w1) (h : StR w2 p l hz (Fx F w1 w2) ∧ Chg F w1 w2) :
    StR w2 p l hz (Fx F w1 w2) ∧ (∀ k, Fx F w1 w2 k → w.heap.size ≤ k) ∧ Up w w2 := by
  refine ⟨h.1, fun k hk => ?_, ((hu.chg fun _ => False).trans h.2 fun j hj e => absurd (hF j e) (by omega)).up fun _ _ e => e⟩
  rcases hk with hk | hk
  · exact hF k hk
  · have := hu.size; omega

end Go.Proofs.Ytnbhdpmhgamjfaa.Mv
