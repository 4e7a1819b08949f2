/- The multi-version store: the plain laws. -/
import Derived.Test.YtinmpodnfofmdaaMvq
namespace Go.Proofs.Ytinmpodnfofmdaa.Mv
open Go Go.RowKit Hp So
set_option linter.unusedVariables false

def adL (l : List PC) (k : ByteArray) (v : PV) : List PC := if has l k = true then l.set (pos l k) (k, (l.getD (pos l k) (k, [])).2 ++ [v]) else l.take (pos l k) ++ (k, [v]) :: l.drop (pos l k)
theorem last_lt {l : List PV} {t : Int} (h0 : 0 < t) (h : ∀ v ∈ l, v.ts < t) : lastTs l < t := by
  unfold lastTs
  cases hl : l.getLast? with
  | none => rw [List.getLastD_eq_getLast?, hl]; exact h0
  | some v => rw [List.getLastD_eq_getLast?, hl]; exact h v (List.mem_of_getLast? hl)
theorem getD_mem {l : List PC} {k : ByteArray} (h : has l k = true) : ∃ hp : pos l k < l.length, l.getD (pos l k) (k, []) = l[pos l k] ∧ l[pos l k].1 = k := by
  obtain ⟨hp, he⟩ := has_pos h
  exact ⟨hp, by simp [List.getD, hp], he⟩
theorem addL_ok {l : List PC} {hz : Int} {k : ByteArray} {v : PV} (hk : k.size ≤ 24) (hr : v.row.length ≤ 6) (h1 : 1 ≤ v.ts) (h2 : v.ts ≤ 1099511627776) (hh : hz < v.ts) (hl : ∀ c ∈ l, ∀ u ∈ c.2, u.ts < v.ts) (hc : cnt l < 400) : addL l hz k v = (adL l k v, 0) := by
  unfold addL adL
  rw [if_neg (by omega), if_neg (by omega), if_neg (by omega), if_neg, if_neg (by omega)]
  · by_cases h : has l k = true
    · rw [if_pos h, if_pos h]
    · rw [if_neg h, if_neg h]
  · rintro ⟨h3, h4⟩
    obtain ⟨hp, e, _⟩ := getD_mem h3
    rw [e] at h4
    have := last_lt (t := v.ts) (by omega) (hl _ (List.getElem_mem hp))
    omega
theorem adL_mem {l : List PC} {k : ByteArray} {v : PV} {c : PC} (h : c ∈ adL l k v) : (∀ u ∈ c.2, u = v ∨ ∃ c0 ∈ l, u ∈ c0.2) ∧ (c.1 = k ∨ ∃ c0 ∈ l, c0.1 = c.1) := by
  unfold adL at h
  split at h
  · rename_i hh
    obtain ⟨hp, e, ek⟩ := getD_mem hh
    rw [e] at h
    rcases List.mem_or_eq_of_mem_set h with h1 | rfl
    · exact ⟨fun u hu => .inr ⟨c, h1, hu⟩, .inr ⟨c, h1, rfl⟩⟩
    · refine ⟨fun u hu => ?_, .inl rfl⟩
      rcases List.mem_append.1 hu with hu | hu
      · exact .inr ⟨_, List.getElem_mem hp, hu⟩
      · exact .inl (List.mem_singleton.1 hu)
  · rcases List.mem_append.1 h with h1 | h1
    · exact ⟨fun u hu => .inr ⟨c, List.mem_of_mem_take h1, hu⟩, .inr ⟨c, List.mem_of_mem_take h1, rfl⟩⟩
    · rcases List.mem_cons.1 h1 with rfl | h1
      · exact ⟨fun u hu => .inl (List.mem_singleton.1 hu), .inl rfl⟩
      · exact ⟨fun u hu => .inr ⟨c, List.mem_of_mem_drop h1, hu⟩, .inr ⟨c, List.mem_of_mem_drop h1, rfl⟩⟩
theorem cnt_ad (l : List PC) (k : ByteArray) (v : PV) : cnt (adL l k v) = cnt l + 1 := by
  unfold adL
  split
  · rename_i hh
    obtain ⟨hp, e, ek⟩ := getD_mem hh
    rw [e, cnt_set hp]
  · conv => rhs; rw [← List.take_append_drop (pos l k) l]
    rw [cnt_app, cnt_app]
    unfold cnt
    simp only [List.map_cons, List.sum_cons, List.length_cons, List.length_nil]
    omega
/-- The versions of a key. -/
def look (l : List PC) (k : ByteArray) : List PV := if has l k = true then (l.getD (pos l k) (k, [])).2 else []
theorem mem_has {l : List PC} (hs : Srt l) {k : ByteArray} {vs : List PV} (h : (k, vs) ∈ l) : has l k = true ∧ look l k = vs := by
  obtain ⟨i, hi, e⟩ := List.getElem_of_mem h
  have hp : pos l k = i := pos_eq (by omega) (fun j hj hji => by have := hs.get hji hi; rwa [e] at this) (fun h => by rw [e]; exact slt_irrefl _)
  have hh : has l k = true := decide_eq_true ⟨by rw [hp]; exact hi, by simp only [hp, e]⟩
  refine ⟨hh, ?_⟩
  unfold look
  rw [if_pos hh, hp]
  simp [List.getD, hi, e]
theorem has_mem {l : List PC} {k : ByteArray} (h : has l k = true) : (k, look l k) ∈ l := by
  obtain ⟨hp, e, ek⟩ := getD_mem h
  unfold look
  rw [if_pos h, e, show (k, l[pos l k].2) = l[pos l k] from Prod.ext ek.symm rfl]
  exact List.getElem_mem hp
theorem SOk.adL {l : List PC} {hz : Int} (h : SOk l hz) {k : ByteArray} {v : PV} (hk : k.size ≤ 24) (hr : v.row.length ≤ 6) (h1 : 1 ≤ v.ts) (h2 : v.ts ≤ 1099511627776) (hl : ∀ c ∈ l, ∀ u ∈ c.2, u.ts < v.ts) (hc : Mv.cnt l < 400) : SOk (Mv.adL l k v) hz := by
  unfold Mv.adL
  split
  · rename_i hh
    obtain ⟨hp, e, ek⟩ := getD_mem hh
    rw [e]
    exact h.set (fun _ => trivial) hp ek hr ⟨h1, h2⟩ (last_lt (by omega) (hl _ (List.getElem_mem hp))) (by omega)
  · rename_i hh
    exact h.ins hk (by simpa using hh) hr ⟨h1, h2⟩ (by omega)
theorem mem_ad {l : List PC} (hs : Srt l) (k : ByteArray) (v : PV) (c : PC) : c ∈ adL l k v ↔ c = (k, look l k ++ [v]) ∨ (c ∈ l ∧ c.1 ≠ k) := by
  unfold adL look
  split
  · rename_i hh
    obtain ⟨hp, e, ek⟩ := getD_mem hh
    rw [e, List.set_eq_take_append_cons_drop, if_pos hp]
    have el : l = l.take (pos l k) ++ l[pos l k] :: l.drop (pos l k + 1) := by rw [← List.drop_eq_getElem_cons hp, List.take_append_drop]
    have h2 : ∀ c ∈ l.take (pos l k), c.1 ≠ k := fun c hc e2 => by
      obtain ⟨j, hj, rfl⟩ := List.getElem_of_mem hc
      rw [List.length_take] at hj
      rw [List.getElem_take] at e2
      have := hs.get (i := j) (j := pos l k) (by omega) hp
      rw [e2, ek] at this
      exact slt_irrefl _ this
    have h3 : ∀ c ∈ l.drop (pos l k + 1), c.1 ≠ k := fun c hc e2 => by
      obtain ⟨j, hj, rfl⟩ := List.getElem_of_mem hc
      rw [List.length_drop] at hj
      rw [List.getElem_drop] at e2
      have := hs.get (i := pos l k) (j := pos l k + 1 + j) (by omega) (by omega)
      rw [e2, ek] at this
      exact slt_irrefl _ this
    constructor
    · intro h
      rcases List.mem_append.1 h with h | h
      · exact .inr ⟨List.mem_of_mem_take h, h2 c h⟩
      · rcases List.mem_cons.1 h with h | h
        · exact .inl h
        · exact .inr ⟨List.mem_of_mem_drop h, h3 c h⟩
    · rintro (rfl | ⟨h, hne⟩)
      · exact List.mem_append.2 (.inr (List.mem_cons_self ..))
      · rw [el] at h
        rcases List.mem_append.1 h with h | h
        · exact List.mem_append.2 (.inl h)
        · rcases List.mem_cons.1 h with h | h
          · rw [h] at hne; exact absurd ek hne
          · exact List.mem_append.2 (.inr (List.mem_cons_of_mem _ h))
  · rename_i hh
    have hne : ∀ c ∈ l, c.1 ≠ k := fun c hc e => hh (mem_has hs (k := k) (vs := c.2) (by rw [← e]; exact hc)).1
    rw [List.nil_append]
    constructor
    · intro h
      rcases List.mem_append.1 h with h | h
      · exact .inr ⟨List.mem_of_mem_take h, hne c (List.mem_of_mem_take h)⟩
      · rcases List.mem_cons.1 h with h | h
        · exact .inl h
        · exact .inr ⟨List.mem_of_mem_drop h, hne c (List.mem_of_mem_drop h)⟩
    · rintro (rfl | ⟨h, hne⟩)
      · exact List.mem_append.2 (.inr (List.mem_cons_self ..))
      · rw [← List.take_append_drop (pos l k) l] at h
        rcases List.mem_append.1 h with h | h
        · exact List.mem_append.2 (.inl h)
        · exact List.mem_append.2 (.inr (List.mem_cons_of_mem _ h))
theorem look_none {l : List PC} (hs : Srt l) {k : ByteArray} (h : ∀ vs, (k, vs) ∉ l) : look l k = [] := by
  unfold look
  split
  · rename_i hh
    exact absurd (has_mem hh) (h _)
  · rfl
theorem look_ad {l : List PC} {hz : Int} (hs : Srt l) (k : ByteArray) (v : PV) (hs2 : Srt (adL l k v)) (k' : ByteArray) : look (adL l k v) k' = if k' = k then look l k ++ [v] else look l k' := by
  by_cases e : k' = k
  · subst e
    rw [if_pos rfl]
    exact (mem_has hs2 ((mem_ad hs k' v _).2 (.inl rfl))).2
  · rw [if_neg e]
    by_cases hh : has l k' = true
    · exact (mem_has hs2 ((mem_ad hs k v _).2 (.inr ⟨has_mem hh, e⟩))).2
    · have e2 : look l k' = [] := by unfold look; rw [if_neg hh]
      rw [e2]
      refine look_none hs2 fun vs hv => ?_
      rcases (mem_ad hs k v _).1 hv with h | ⟨h, _⟩
      · exact e (Prod.mk.inj h).1
      · exact hh (mem_has hs h).1
theorem getL_look (l : List PC) (hz : Int) (k : ByteArray) (ts : Int) (h : ¬ ts < hz) : getL l hz k ts = match vis1 (look l k) ts with | some r => (r, 0) | none => ([], 4) := by
  unfold getL look
  rw [if_neg h]
  by_cases hh : has l k = true
  · rw [if_pos hh, if_pos hh]; rfl
  · rw [if_neg hh, if_neg hh]; rfl
theorem latL_look (l : List PC) (k : ByteArray) : latL l k = lastTs (look l k) := by
  unfold latL look
  by_cases hh : has l k = true
  · rw [if_pos hh, if_pos hh]
  · rw [if_neg hh, if_neg hh]; rfl
theorem vis_snoc {l : List PV} {v : PV} {ts : Int} (h : ts < v.ts) : vis1 (l ++ [v]) ts = vis1 l ts := by
  unfold vis1 visL
  rw [List.reverse_append, List.reverse_singleton, List.singleton_append, List.find?_cons]
  simp [show ¬ v.ts ≤ ts by omega]
/-- Lists that ascend and have the same members are one. -/
theorem srt_ext {α : Type} {a b : List (ByteArray × α)} (ha : Srt a) (hb : Srt b) (h : ∀ x, x ∈ a ↔ x ∈ b) : a = b := by
  induction a generalizing b with
  | nil => cases b with
    | nil => rfl
    | cons y b => exact absurd ((h y).2 (List.mem_cons_self ..)) (by simp)
  | cons x a ih =>
    cases b with
    | nil => exact absurd ((h x).1 (List.mem_cons_self ..)) (by simp)
    | cons y b =>
      obtain ⟨a1, a2⟩ := List.pairwise_cons.1 ha
      obtain ⟨b1, b2⟩ := List.pairwise_cons.1 hb
      have e : x = y := by
        rcases List.mem_cons.1 ((h x).1 (List.mem_cons_self ..)) with e | e
        · exact e
        · rcases List.mem_cons.1 ((h y).2 (List.mem_cons_self ..)) with e2 | e2
          · exact e2.symm
          · exact absurd (a1 y e2) (slt_asymm (b1 x e))
      subst e
      congr 1
      refine ih a2 b2 fun z => ⟨fun hz => ?_, fun hz => ?_⟩
      · rcases List.mem_cons.1 ((h z).1 (List.mem_cons_of_mem _ hz)) with e | e
        · subst e; exact absurd (a1 z hz) (slt_irrefl _)
        · exact e
      · rcases List.mem_cons.1 ((h z).2 (List.mem_cons_of_mem _ hz)) with e | e
        · subst e; exact absurd (b1 z hz) (slt_irrefl _)
        · exact e
theorem scan_srt {l : List PC} (hs : Srt l) (ts : Int) : Srt (scanL l ts) := by
  unfold Srt scanL
  rw [List.pairwise_filterMap]
  refine hs.imp fun {a b} hab c hc d hd => ?_
  obtain ⟨r, _, rfl⟩ := Option.map_eq_some_iff.1 hc
  obtain ⟨r', _, rfl⟩ := Option.map_eq_some_iff.1 hd
  exact hab
theorem mem_scan {l : List PC} (hs : Srt l) (ts : Int) (x : ByteArray × List Val) : x ∈ scanL l ts ↔ vis1 (look l x.1) ts = some x.2 := by
  unfold scanL
  rw [List.mem_filterMap]
  constructor
  · rintro ⟨c, hc, he⟩
    obtain ⟨r, hr, rfl⟩ := Option.map_eq_some_iff.1 he
    rw [(mem_has hs (k := c.1) (vs := c.2) hc).2]
    exact hr
  · intro h
    by_cases hh : has l x.1 = true
    · exact ⟨_, has_mem hh, by rw [h]; rfl⟩
    · unfold look at h
      rw [if_neg hh] at h
      cases h
theorem scan_ext {l l' : List PC} (hs : Srt l) (hs' : Srt l') (ts : Int) (h : ∀ k, vis1 (look l k) ts = vis1 (look l' k) ts) : scanL l ts = scanL l' ts :=
  srt_ext (scan_srt hs ts) (scan_srt hs' ts) fun x => by rw [mem_scan hs, mem_scan hs', h]
/-- A later write does not change what is seen earlier. -/
theorem scan_ad {l : List PC} (hs : Srt l) (k : ByteArray) (v : PV) (hs2 : Srt (adL l k v)) {ts : Int} (h : ts < v.ts) : scanL (adL l k v) ts = scanL l ts :=
  scan_ext hs2 hs ts fun k' => by
    rw [look_ad (hz := 0) hs k v hs2]
    split
    · rename_i e; rw [e, vis_snoc h]
    · rfl
theorem scan_row {l : List PC} {hz : Int} (h : SOk l hz) (ts : Int) : ∀ r ∈ scanL l ts, r.2.length ≤ 6 := fun r hr => by
  unfold scanL at hr
  obtain ⟨c, hc, he⟩ := List.mem_filterMap.1 hr
  obtain ⟨x, hx, rfl⟩ := Option.map_eq_some_iff.1 he
  unfold vis1 at hx
  cases hv : visL c.2 ts with
  | none => rw [hv] at hx; cases hx
  | some v =>
    rw [hv] at hx
    simp only at hx
    split at hx
    · cases hx
    · cases hx
      exact h.row c hc v (List.mem_reverse.1 (List.mem_of_find?_eq_some hv))

/-! ### The history -/
def hstep (l : List PC) (op : Int) (t : Int) : List PC := if modV op 4 = 0 then adL l (keyB (wrap64 (op.tdiv 4))) ⟨t, true, []⟩ else adL l (keyB (wrap64 (op.tdiv 4))) ⟨t, false, rowV (wrap64 (op.tdiv 32))⟩
def histL (zs : List Int) : Nat → List PC
  | 0 => []
  | k + 1 => hstep (histL zs k) (zs.getD k 0) ((k : Int) + 1)
/-- What a history keeps: n versions, all of at most n, keys of the six. -/
structure HOk (l : List PC) (n : Nat) : Prop where
  ok : SOk l 0
  cnt : cnt l = n
  le : ∀ c ∈ l, ∀ v ∈ c.2, v.ts ≤ n
  key : ∀ c ∈ l, ∃ j, c.1 = keyB j
theorem HOk.add {l : List PC} {n : Nat} (h : HOk l n) (hn : n < 400) (j : Int) (v : PV) (hr : v.row.length ≤ 6) (hv : v.ts = (n : Int) + 1) : HOk (adL l (keyB j) v) (n + 1) ∧ addL l 0 (keyB j) v = (adL l (keyB j) v, 0) := by
  have hl : ∀ c ∈ l, ∀ u ∈ c.2, u.ts < v.ts := fun c hc u hu => by have := h.le c hc u hu; omega
  have hk : (keyB j).size ≤ 24 := by rw [keyB_size]; omega
  have hc : Mv.cnt l < 400 := by rw [h.cnt]; exact hn
  refine ⟨⟨h.ok.adL hk hr (by omega) (by omega) hl hc, by rw [cnt_ad, h.cnt], fun c hc' u hu => ?_, fun c hc' => ?_⟩, addL_ok hk hr (by omega) (by omega) (by omega) hl hc⟩
  · rcases (adL_mem hc').1 u hu with e | ⟨c0, h0, h1⟩
    · subst e; omega
    · have := h.le c0 h0 u h1; omega
  · rcases (adL_mem hc').2 with e | ⟨c0, h0, h1⟩
    · exact ⟨j, e⟩
    · obtain ⟨i, hi⟩ := h.key c0 h0; exact ⟨i, h1.symm.trans hi⟩
theorem HOk.nil : HOk [] 0 := ⟨⟨List.Pairwise.nil, (fun c hc => by cases hc), by simp [Mv.cnt], (fun c hc => by cases hc), (fun c hc => by cases hc), (fun c hc => by cases hc), fun c hc => by cases hc⟩, rfl, (fun c hc => by cases hc), fun c hc => by cases hc⟩
theorem hist_ok (zs : List Int) (k : Nat) (hk : k ≤ 200) : HOk (histL zs k) k := by
  induction k with
  | zero => exact HOk.nil
  | succ k ih =>
    have h := ih (by omega)
    unfold histL hstep
    split
    · exact (h.add (by omega) _ _ (by simp) rfl).1
    · exact (h.add (by omega) _ _ (by simp [rowV]) rfl).1
end Go.Proofs.Ytinmpodnfofmdaa.Mv
