/- joined: Tyg, Tyh, Tyi, Tyj -/
import Derived.Test.YtnbhdpmhgamjfaaTye
/- Top 16: what the law's loop keeps (plain). -/
namespace Go.Proofs.Ytnbhdpmhgamjfaa.Sn
open Go Go.RowKit Hp
open Mv (Val PC PV Srt SOk pos has cnt)
open C (Tx TxR Txs tx0 Valid admV admL cur wk cur_snoc)
set_option linter.unusedVariables false

theorem getD_app {α : Type} (l : List α) (x d : α) {i : Nat} (h : i < l.length) : (l ++ [x]).getD i d = l.getD i d := by
  rw [List.getD_eq_getElem?_getD, List.getElem?_append_left h, ← List.getD_eq_getElem?_getD]
theorem getD_last {α : Type} (l : List α) (x d : α) : (l ++ [x]).getD l.length d = x := by
  rw [List.getD_eq_getElem?_getD, List.getElem?_append_right (Nat.le_refl _)]
  simp
theorem txs_app (rs : List Rec) (x : Rec) : txs (rs ++ [x]) = txs rs ++ [x.tx] := by simp [txs]
theorem adm_app (rs : List Rec) (x : Rec) {i : Nat} (h : i < rs.length) : (admV (txs (rs ++ [x]))).getD i false = (admV (txs rs)).getD i false := by
  have e := C.admit_take (txs (rs ++ [x])) (n := rs.length) (by rw [txs_len]; simp)
  have e2 : (txs (rs ++ [x])).take rs.length = txs rs := by rw [txs_app, List.take_append_of_le_length (by rw [txs_len]; exact Nat.le_refl _), List.take_of_length_le (by rw [txs_len]; exact Nat.le_refl _)]
  rw [e2] at e
  rw [e, C.getD_take _ _ h]
theorem cur_congr {l l' : List Tx} {val val' : Nat → Int} {k : ByteArray} (L : List Nat) (h : ∀ i ∈ L, wk l k i = wk l' k i ∧ val i = val' i) : cur l val L k = cur l' val' L k := by
  have key : ∀ (L : List Nat) (s : Int), (∀ i ∈ L, wk l k i = wk l' k i ∧ val i = val' i) → L.foldl (fun s i => if wk l k i then val i else s) s = L.foldl (fun s i => if wk l' k i then val' i else s) s := fun L => by
    induction L with
    | nil => intro s _; rfl
    | cons x L ih =>
      intro s hL
      obtain ⟨e1, e2⟩ := hL x (List.mem_cons_self ..)
      rw [List.foldl_cons, List.foldl_cons, e1, e2]
      exact ih _ fun i hi => hL i (List.mem_cons_of_mem _ hi)
  exact key L 0 h
theorem stN_app (rs : List Rec) (x : Rec) {m : Nat} (hm : m ≤ rs.length) (k : ByteArray) : stN (rs ++ [x]) m k = stN rs m k := by
  unfold stN
  have e : admL (admV (txs (rs ++ [x]))) m = admL (admV (txs rs)) m := by
    unfold admL
    refine List.filter_congr fun i hi => ?_
    rw [List.mem_range] at hi
    exact adm_app rs x (by omega)
  rw [e]
  refine cur_congr _ fun i hi => ?_
  have hi2 : i < m := by
    unfold admL at hi
    exact List.mem_range.1 (List.mem_filter.1 hi).1
  unfold wk valR
  rw [txs_get, txs_get, getD_app rs x rec0 (by omega)]
  exact ⟨rfl, rfl⟩
theorem admL_snoc (adm : List Bool) (n : Nat) : admL adm (n + 1) = admL adm n ++ if adm.getD n false then [n] else [] := by
  unfold admL
  rw [List.range_succ, List.filter_append]
  congr 1
  cases h : adm.getD n false <;> simp only [List.filter, h] <;> rfl
theorem stN_last (rs : List Rec) (x : Rec) (k : ByteArray) : stN (rs ++ [x]) (rs.length + 1) k = if (admV (txs (rs ++ [x]))).getD rs.length false = true then (if x.tx.writes.any (C.eqS k) = true then resV x else stN rs rs.length k) else stN rs rs.length k := by
  have h := stN_app rs x (Nat.le_refl _) k
  unfold stN at h ⊢
  rw [admL_snoc]
  split
  · rename_i ha
    rw [cur_snoc, h]
    unfold wk valR
    rw [txs_get, getD_last]
  · rename_i ha
    rw [List.append_nil, h]
theorem Snap.app {rs : List Rec} {t : Rec} {m : Nat} (h : Snap rs t m) {x : Rec} (hx : t.tx.start < x.tx.commit) : Snap (rs ++ [x]) t m := by
  refine ⟨by have := h.le; simp; omega, fun j hj => ?_, fun j hj1 hj2 => ?_, ?_⟩
  · rw [getD_app rs x rec0 (by have := h.le; omega)]
    exact h.old j hj
  · rw [List.length_append, List.length_singleton] at hj2
    by_cases e : j = rs.length
    · subst e; rw [getD_last]; exact hx
    · rw [getD_app rs x rec0 (by omega)]
      exact h.new j hj1 (by omega)
  · rw [h.read]
    exact List.map_congr_left fun k _ => (stN_app rs x h.le k).symm
structure OpenT (d : Db) (rs : List Rec) (t : Rec) : Prop where
  ok : ROk t
  st : 0 ≤ t.tx.start
  rl : t.tx.reads.length ≤ 3
  wl : t.tx.writes.length ≤ 3
  snap : ∃ m, Snap rs t m
  tr : ∃ s, tr d t.id = some ⟨t.id, s, []⟩ ∧ ∀ k, ∀ u ∈ Mv.look d.st k, s < u.ts → ∃ j, j < rs.length ∧ (admV (txs rs)).getD j false = true ∧ k ∈ (rs.getD j rec0).tx.writes ∧ t.tx.start < (rs.getD j rec0).tx.commit
structure LInv (d : Db) (rs : List Rec) (os : List (Option Rec)) (n : Nat) : Prop where
  hv : Valid (txs rs)
  rd : Rd d (stN rs rs.length)
  ok : ∀ r ∈ rs, ROk r
  snap : ∀ i, i < rs.length → ∃ m, m ≤ i ∧ Snap rs (rs.getD i rec0) m
  len : os.length = 4
  act : d.act.length = os.countP Option.isSome
  last : d.last ≤ n
  clock : d.clock ≤ rs.length
  cnt : Mv.cnt d.st ≤ 3 * rs.length
  coms : ∀ i, i < rs.length → (rs.getD i rec0).tx.commit < n
  opn : ∀ (s : Nat) (t : Rec), os[s]? = some (some t) → OpenT d rs t ∧ t.tx.start < n ∧ 1 ≤ t.id ∧ t.id ≤ d.last
  ids : ∀ (s s' : Nat) (t t' : Rec), os[s]? = some (some t) → os[s']? = some (some t') → s ≠ s' → t.id ≠ t'.id
theorem LInv.act4 {d : Db} {rs : List Rec} {os : List (Option Rec)} {n : Nat} (h : LInv d rs os n) : d.act.length ≤ 4 := by
  rw [h.act, ← h.len]; exact List.countP_le_length
theorem LInv.fin {d : Db} {rs : List Rec} {os : List (Option Rec)} {n : Nat} (h : LInv d rs os n) (hn : n ≤ 60) : Fin d rs :=
  ⟨h.hv, h.rd, h.ok, h.snap, by have := h.act4; omega, by have := h.last; omega⟩
theorem inv0 : LInv db0 [] [none, none, none, none] 0 :=
  ⟨⟨by decide, fun i hi => (by simp [txs] at hi), fun i hi => (by simp [txs] at hi), fun i hi => (by simp [txs] at hi), fun i hi => (by simp [txs] at hi), fun i hi => (by simp [txs] at hi), fun i hi => (by simp [txs] at hi)⟩,
    rd0, fun r hr => (by cases hr), fun i hi => (by simp at hi), rfl, rfl, by decide, by decide, by simp [db0, Mv.cnt], fun i hi => (by simp at hi), fun s t h => by
      rcases s with _ | _ | _ | _ | s <;> simp at h, fun s s' t t' h => by
      rcases s with _ | _ | _ | _ | s <;> simp at h⟩
theorem set_cases {os : List (Option Rec)} {s s' : Nat} {o : Option Rec} {t : Rec} (h : (os.set s o)[s']? = some (some t)) : (s' = s ∧ o = some t) ∨ (s' ≠ s ∧ os[s']? = some (some t)) := by
  rw [List.getElem?_set] at h
  by_cases e : s = s'
  · subst e
    rw [if_pos rfl] at h
    split at h
    · exact .inl ⟨rfl, Option.some.inj h⟩
    · cases h
  · rw [if_neg e] at h
    exact .inr ⟨Ne.symm e, h⟩
/-- A transaction begins. -/
theorem LInv.beg {d : Db} {rs : List Rec} {os : List (Option Rec)} {n : Nat} (h : LInv d rs os n) (dk : DOk d) (hn : n < 60) {s : Nat} (hs : os[s]? = some none) {t : Rec} (hid : t.id = d.last + 1) (hst : t.tx.start = (n : Int))
    (hr : t.tx.reads.length ≤ 3) (hw : t.tx.writes.length ≤ 3) (hk : ∀ k, k ∈ t.tx.reads ∨ k ∈ t.tx.writes → k.size ≤ 24) (hrd : t.read = t.tx.reads.map (stN rs rs.length)) : LInv (begD d) rs (os.set s (some t)) (n + 1) := by
  have hsl : s < os.length := (List.getElem?_eq_some_iff.1 hs).1
  have hss : os[s] = none := (List.getElem?_eq_some_iff.1 hs).2
  have hl0 := dk.last
  have hlast := h.last
  refine ⟨h.hv, h.rd.beg, h.ok, h.snap, by rw [List.length_set]; exact h.len, ?_, by show d.last + 1 ≤ _; push_cast; omega, h.clock, h.cnt, fun i hi => by have := h.coms i hi; push_cast; omega, fun s' t' ht => ?_, fun s1 s2 t1 t2 h1 h2 hne => ?_⟩
  · show (d.act ++ [_]).length = _
    rw [List.length_append, h.act, List.countP_set hsl, hss]
    simp
  · rcases set_cases ht with ⟨_, e⟩ | ⟨_, e⟩
    · cases e
      refine ⟨⟨⟨by rw [hid]; omega, hk⟩, by rw [hst]; omega, hr, hw, ⟨rs.length, Nat.le_refl _, fun j hj => by rw [hst]; exact h.coms j hj, fun j h1 h2 => by omega, hrd⟩, d.clock, ?_, fun k u hu hlt => ?_⟩, by rw [hst]; push_cast; omega, by rw [hid]; omega, by rw [hid]; exact Int.le_refl _⟩
      · rw [hid, tr_beg dk, if_pos rfl]
      · obtain ⟨c, hc, hu2⟩ := look_mem hu
        have := dk.ts c hc u hu2
        omega
    · obtain ⟨o, h1, h2, h3⟩ := h.opn s' t' e
      obtain ⟨s0, h4, h5⟩ := o.tr
      exact ⟨⟨o.ok, o.st, o.rl, o.wl, o.snap, s0, by rw [tr_beg dk, if_neg (by omega)]; exact h4, h5⟩, by push_cast; omega, h2, by show _ ≤ d.last + 1; omega⟩
  · rcases set_cases h1 with ⟨e1, f1⟩ | ⟨e1, f1⟩
    · rcases set_cases h2 with ⟨e2, f2⟩ | ⟨e2, f2⟩
      · exact absurd (e1.trans e2.symm) hne
      · cases f1
        have := (h.opn s2 t2 f2).2.2
        rw [hid]; omega
    · rcases set_cases h2 with ⟨e2, f2⟩ | ⟨e2, f2⟩
      · cases f2
        have := (h.opn s1 t1 f1).2.2
        rw [hid]; omega
      · exact h.ids s1 s2 t1 t2 f1 f2 hne
end Go.Proofs.Ytnbhdpmhgamjfaa.Sn

/- Top 16: a transaction of the law's loop ends (plain). -/
namespace Go.Proofs.Ytnbhdpmhgamjfaa.Sn
open Go Go.RowKit Hp
open Mv (Val PC PV Srt SOk pos has cnt)
open C (Tx TxR Txs tx0 Valid admV admL cur wk cur_snoc)
set_option linter.unusedVariables false

theorem valid_app {rs : List Rec} (hv : Valid (txs rs)) {t : Rec} {n : Nat} (hl : rs.length ≠ 40) (hn : n ≤ 60) (h0 : 0 ≤ t.tx.start) (h1 : t.tx.start < n) (hc : t.tx.commit = (n : Int)) (hr : t.tx.reads.length ≤ 3) (hw : t.tx.writes.length ≤ 3)
    (coms : ∀ i, i < rs.length → (rs.getD i rec0).tx.commit < n) : Valid (txs (rs ++ [t])) := by
  have hlen := hv.len
  rw [txs_len] at hlen
  have L : (txs (rs ++ [t])).length = rs.length + 1 := by rw [txs_len]; simp
  have G : ∀ i, i < rs.length → (txs (rs ++ [t])).getD i tx0 = (txs rs).getD i tx0 := fun i hi => by rw [txs_get, txs_get, getD_app rs t rec0 hi]
  have E : (txs (rs ++ [t])).getD rs.length tx0 = t.tx := by rw [txs_get, getD_last]
  have K : ∀ (Q : Tx → Prop), (∀ i, i < (txs rs).length → Q ((txs rs).getD i tx0)) → Q t.tx → ∀ i, i < (txs (rs ++ [t])).length → Q ((txs (rs ++ [t])).getD i tx0) := fun Q h1 h2 i hi => by
    rw [L] at hi
    by_cases e : i = rs.length
    · subst e; rw [E]; exact h2
    · rw [G i (by omega)]; exact h1 i (by rw [txs_len]; omega)
  refine ⟨by rw [L]; omega, K (fun x => 0 ≤ x.start) hv.start h0, K (fun x => x.start < x.commit) hv.live (by rw [hc]; exact h1), K (fun x => x.commit ≤ 1099511627776) hv.last (by rw [hc]; omega), K (fun x => x.reads.length ≤ 12) hv.rd (by omega), K (fun x => x.writes.length ≤ 12) hv.wr (by omega), fun i hi => ?_⟩
  rw [L] at hi
  by_cases e : i + 1 = rs.length
  · rw [e, E, G i (by omega), txs_get, hc]
    exact coms i (by omega)
  · rw [G i (by omega), G (i + 1) (by omega)]
    exact hv.asc i (by rw [txs_len]; omega)
/-- The database while one transaction's writes are buffered. -/
structure Puts (d dm : Db) (id s n : Int) (ks : List ByteArray) : Prop where
  w : ∃ w, tr dm id = some ⟨id, s, w⟩ ∧ WOk w ks n
  st : dm.st = d.st
  clock : dm.clock = d.clock
  last : dm.last = d.last
  len : dm.act.length = d.act.length
  oth : ∀ id', id' ≠ id → tr dm id' = tr d id'
theorem puts0 {d : Db} {id s : Int} (n : Int) (h : tr d id = some ⟨id, s, []⟩) : Puts d d id s n [] := ⟨⟨[], h, wok0 n⟩, rfl, rfl, rfl, rfl, fun _ _ => rfl⟩
theorem Puts.step {d dm : Db} {id s n : Int} {ks : List ByteArray} (h : Puts d dm id s n ks) (dk : DOk dm) {k : ByteArray} (hk : k.size ≤ 24) (hl : ks.length < 40) : (bufP dm id k ⟨false, rowI n⟩).2 = 0 ∧ Puts d (bufP dm id k ⟨false, rowI n⟩).1 id s n (ks ++ [k]) := by
  obtain ⟨w, ht, hw⟩ := h.w
  have hwl := hw.len
  rw [buf_tr dk ht hk (by show 1 ≤ 6; decide), if_neg (by simp only; omega)]
  refine ⟨rfl, ⟨_, tr_put_same ht _, wok_put hw k⟩, h.st, h.clock, h.last, ?_, fun id' hne => (tr_put_other hne _).trans (h.oth id' hne)⟩
  show (dm.act.map _).length = _
  rw [List.length_map, h.len]
theorem fin_len {d : Db} {id : Int} {t : Tr} (h : tr d id = some t) : (finI d id).act.length + 1 = d.act.length := by
  obtain ⟨_, hi, _⟩ := tr_at h
  show (d.act.eraseIdx _).length + 1 = _
  rw [List.length_eraseIdx_of_lt hi]
  omega
theorem cnt_none {os : List (Option Rec)} {s : Nat} {t : Rec} (hs : os[s]? = some (some t)) : (os.set s none).countP Option.isSome + 1 = os.countP Option.isSome := by
  have hsl : s < os.length := (List.getElem?_eq_some_iff.1 hs).1
  have hss : os[s] = some t := (List.getElem?_eq_some_iff.1 hs).2
  rw [List.countP_set hsl, hss]
  have : 0 < os.countP Option.isSome := List.countP_pos_iff.2 ⟨some t, by rw [← hss]; exact List.getElem_mem hsl, rfl⟩
  simp
  omega
section
variable {d : Db} {rs : List Rec} {os : List (Option Rec)} {n : Nat} {s : Nat} {t t' : Rec}
/-- What both ends share. -/
theorem LInv.ends {d' : Db} (h : LInv d rs os n) (hn : n < 60) (hs : os[s]? = some (some t)) (hl : rs.length ≠ 40) (e1 : t'.id = t.id) (e2 : t'.tx.start = t.tx.start) (e3 : t'.tx.reads = t.tx.reads) (e4 : t'.tx.writes = t.tx.writes) (e5 : t'.read = t.read) (e6 : t'.tx.commit = (n : Int))
    (hrd : Rd d' (stN (rs ++ [t']) (rs.length + 1))) (hact : d'.act.length + 1 = d.act.length) (hlast : d'.last = d.last) (hclk : d'.clock ≤ d.clock + 1) (hcnt : Mv.cnt d'.st ≤ Mv.cnt d.st + 3)
    (htr : ∀ id', id' ≠ t.id → tr d' id' = tr d id')
    (hlk : ∀ k, ∀ u ∈ Mv.look d'.st k, u ∈ Mv.look d.st k ∨ (k ∈ t.tx.writes ∧ (admV (txs (rs ++ [t']))).getD rs.length false = true)) : LInv d' (rs ++ [t']) (os.set s none) (n + 1) := by
  obtain ⟨o, h1, h2, h3⟩ := h.opn s t hs
  have hv' : Valid (txs (rs ++ [t'])) := valid_app h.hv hl (by omega) (by rw [e2]; exact o.st) (by rw [e2]; exact h1) e6 (by rw [e3]; exact o.rl) (by rw [e4]; exact o.wl) h.coms
  have L : (rs ++ [t']).length = rs.length + 1 := by simp
  have live : ∀ i, i < rs.length → (rs.getD i rec0).tx.start < t'.tx.commit := fun i hi => by
    have a := h.hv.live i (by rw [txs_len]; exact hi)
    rw [txs_get] at a
    have b := h.coms i hi
    rw [e6]; omega
  refine ⟨hv', by rw [L]; exact hrd, fun r hr => ?_, fun i hi => ?_, by rw [List.length_set]; exact h.len, ?_, by rw [hlast]; have := h.last; push_cast; omega, by rw [L]; have := h.clock; push_cast; omega, by rw [L]; have := h.cnt; omega, fun i hi => ?_, fun s' u hu => ?_, fun s1 s2 t1 t2 f1 f2 hne => ?_⟩
  · rcases List.mem_append.1 hr with hr | hr
    · exact h.ok r hr
    · rw [List.mem_singleton.1 hr]
      exact ⟨by rw [e1]; exact o.ok.id, by rw [e3, e4]; exact o.ok.keys⟩
  · rw [L] at hi
    by_cases e : i = rs.length
    · subst e
      rw [getD_last]
      obtain ⟨m, hm⟩ := o.snap
      have hm' : Snap rs t' m := ⟨hm.le, by rw [e2]; exact hm.old, by rw [e2]; exact hm.new, by rw [e5, e3]; exact hm.read⟩
      exact ⟨m, hm.le, hm'.app (by rw [e2, e6]; exact h1)⟩
    · obtain ⟨m, hmi, hm⟩ := h.snap i (by omega)
      rw [getD_app rs t' rec0 (by omega)]
      exact ⟨m, hmi, hm.app (live i (by omega))⟩
  · have := cnt_none hs
    have := h.act
    omega
  · rw [L] at hi
    by_cases e : i = rs.length
    · subst e; rw [getD_last, e6]; push_cast; omega
    · rw [getD_app rs t' rec0 (by omega)]
      have := h.coms i (by omega)
      push_cast; omega
  · rcases set_cases hu with ⟨_, e⟩ | ⟨hne, e⟩
    · cases e
    · obtain ⟨p, q1, q2, q3⟩ := h.opn s' u e
      obtain ⟨s0, q4, q5⟩ := p.tr
      have hid := h.ids s' s u t e hs hne
      obtain ⟨m, hm⟩ := p.snap
      refine ⟨⟨p.ok, p.st, p.rl, p.wl, ⟨m, hm.app (by rw [e6]; exact q1)⟩, s0, by rw [htr _ hid]; exact q4, fun k v hv hlt => ?_⟩, by push_cast; omega, q2, by rw [hlast]; exact q3⟩
      rcases hlk k v hv with hv | ⟨hk, ha⟩
      · obtain ⟨j, j1, j2, j3, j4⟩ := q5 k v hv hlt
        exact ⟨j, by rw [L]; omega, by rw [adm_app rs t' j1]; exact j2, by rw [getD_app rs t' rec0 j1]; exact j3, by rw [getD_app rs t' rec0 j1]; exact j4⟩
      · exact ⟨rs.length, by rw [L]; omega, ha, by rw [getD_last, e4]; exact hk, by rw [getD_last, e6]; exact q1⟩
  · rcases set_cases f1 with ⟨_, e⟩ | ⟨_, g1⟩
    · cases e
    · rcases set_cases f2 with ⟨_, e⟩ | ⟨_, g2⟩
      · cases e
      · exact h.ids s1 s2 t1 t2 g1 g2 hne
/-- A rejected transaction is rolled back. -/
theorem LInv.rej (h : LInv d rs os n) (dk : DOk d) (hn : n < 60) (hs : os[s]? = some (some t)) (hl : rs.length ≠ 40) (e1 : t'.id = t.id) (e2 : t'.tx.start = t.tx.start) (e3 : t'.tx.reads = t.tx.reads) (e4 : t'.tx.writes = t.tx.writes) (e5 : t'.read = t.read) (e6 : t'.tx.commit = (n : Int))
    (ha : (admV (txs (rs ++ [t']))).getD rs.length false = false) : (rolP d t.id).2 = 0 ∧ LInv (rolP d t.id).1 (rs ++ [t']) (os.set s none) (n + 1) := by
  obtain ⟨o, h1, h2, h3⟩ := h.opn s t hs
  obtain ⟨s0, ht, _⟩ := o.tr
  rw [rol_tr ht]
  refine ⟨rfl, h.ends hn hs hl e1 e2 e3 e4 e5 e6 ?_ (fin_len ht) rfl (by show d.clock ≤ _; omega) (by have := (fin_ok dk (tidx d.act t.id).toNat).2; exact Nat.le_trans this (Nat.le_add_right _ _)) (fun id' hne => by rw [tr_fin dk ht, if_neg hne]) fun k u hu => ?_⟩
  · have : stN (rs ++ [t']) (rs.length + 1) = stN rs rs.length := by
      funext k
      rw [stN_last, if_neg (by rw [ha]; decide)]
    rw [this]
    exact h.rd.fin dk t.id
  · obtain ⟨m, e, _⟩ := fin_look dk t.id k
    rw [e] at hu
    exact .inl (List.mem_of_mem_drop hu)
/-- An admitted transaction commits without conflict. -/
theorem LInv.com {dm : Db} (h : LInv d rs os n) (hn : n < 60) (hs : os[s]? = some (some t)) (hl : rs.length ≠ 40) (e1 : t'.id = t.id) (e2 : t'.tx.start = t.tx.start) (e3 : t'.tx.reads = t.tx.reads) (e4 : t'.tx.writes = t.tx.writes) (e5 : t'.read = t.read) (e6 : t'.tx.commit = (n : Int))
    (ha : (admV (txs (rs ++ [t']))).getD rs.length false = true) (dm' : DOk dm) (s0 : Int) (ht0 : tr d t.id = some ⟨t.id, s0, []⟩) (P : Puts d dm t.id s0 (resV t') t.tx.writes) : (comP dm t.id).2.2 = 0 ∧ LInv (comP dm t.id).1 (rs ++ [t']) (os.set s none) (n + 1) := by
  obtain ⟨o, h1, h2, h3⟩ := h.opn s t hs
  obtain ⟨s1, ht1, hnew⟩ := o.tr
  have es : s1 = s0 := by rw [ht0] at ht1; simp only [Option.some.injEq, Tr.mk.injEq] at ht1; exact ht1.2.1.symm
  subst es
  obtain ⟨w, htw, hw⟩ := P.w
  have hcl := h.clock
  have hcn := h.cnt
  have hlen : rs.length ≤ 40 := by have := h.hv.len; rwa [txs_len] at this
  have hrd : Rd dm (stN rs rs.length) := fun k ts hts => by rw [P.st]; rw [P.clock] at hts; exact h.rd k ts hts
  obtain ⟨c1, c2, c3, c4, c5, c6, c7, c8⟩ := com_law dm' htw hw hrd (fun k hk u hu => by
    rw [P.st] at hu
    apply Int.not_lt.1
    intro hlt
    obtain ⟨j, j1, j2, j3, j4⟩ := hnew k u hu hlt
    have hc := C.no_ww (txs (rs ++ [t'])) (a := j) (b := rs.length) j1 (by rw [txs_len]; simp) (by rw [adm_app rs t' j1]; exact j2) ha (by
      rw [txs_get, txs_get, getD_last, getD_app rs t' rec0 j1, e4]
      exact C.inter_of (any_mem.2 j3) (any_mem.2 hk))
    rw [txs_get, txs_get, getD_last, getD_app rs t' rec0 j1] at hc
    have a1 := h.hv.live j (by rw [txs_len]; exact j1)
    rw [txs_get] at a1
    have a2 := h.coms j j1
    unfold C.conc at hc
    rw [decide_eq_true (by rw [e6]; omega), decide_eq_true (by rw [e2]; omega)] at hc
    cases hc) (by rw [P.st]; have := o.wl; omega)
  rw [P.clock] at c5 c6
  rw [P.st] at c7 c8
  refine ⟨c1, h.ends hn hs hl e1 e2 e3 e4 e5 e6 ?_ ?_ (c4.trans P.last) c6 (by have := o.wl; omega) (fun id' hne => ?_) fun k u hu => ?_⟩
  · have : stN (rs ++ [t']) (rs.length + 1) = fun k => if t.tx.writes.any (C.eqS k) = true then resV t' else stN rs rs.length k := by
      funext k
      rw [stN_last, if_pos ha, e4]
    rw [this]
    exact c2
  · rw [c3]
    have := fin_len htw
    rw [P.len] at this
    exact this
  · have : tr (comP dm t.id).1 id' = tr (finI dm t.id) id' := by unfold tr; rw [c3]
    rw [this, tr_fin dm' htw, if_neg hne]
    exact P.oth id' hne
  · rcases c8 k u hu with h | h
    · exact .inl h
    · exact .inr ⟨h, ha⟩
end
end Go.Proofs.Ytnbhdpmhgamjfaa.Sn

/- Top 16: the law's memory. -/
namespace Go.Proofs.Ytnbhdpmhgamjfaa.Sn
open Go Go.RowKit Hp
open Mv (Val PC PV Srt SOk pos has cnt fm_len fm_get)
open C (Tx TxR Txs tx0 Valid admV admL cur wk cur_snoc ic)
set_option linter.unusedVariables false

abbrev sc (l : List ByteArray) : List Value := l.map Value.string
/-- A record with its rows. -/
structure MRec where
  r : Rec
  rv : Value
  wv : Value
  xv : Value
def mrC1 (m : MRec) : List Value := [.int .i64 m.r.id, .int .i64 m.r.tx.start, .int .i64 m.r.tx.commit, m.rv, m.wv, m.xv]
def maC1 (m : MRec) : List Value := [.int .i64 m.r.tx.start, .int .i64 m.r.tx.commit, m.rv, m.wv]
structure MOk (B : Nat) (K : Nat → Prop) (w : World) (m : MRec) : Prop where
  rd : w.ownsRow B 9 1 m.rv m.r.tx.reads.length (sc m.r.tx.reads)
  wr : w.ownsRow B 9 1 m.wv m.r.tx.writes.length (sc m.r.tx.writes)
  xr : w.ownsRow B 3 1 m.xv m.r.read.length (ic m.r.read)
  kr : ∀ k, m.rv.ownBlock = some k → K k
  kw : ∀ k, m.wv.ownBlock = some k → K k
  kx : ∀ k, m.xv.ownBlock = some k → K k
section
variable {B : Nat} {K S : Nat → Prop} {w w' : World} {m : MRec}
theorem MOk.chg (h : MOk B K w m) (hc : Chg S w w') (hS : ∀ k, (Ty w k 9 ∨ Ty w k 3) → K k → ¬ S k) : MOk B K w' m :=
  ⟨own_chg h.rd hc fun k hk => hS k (.inl ((own_ty h.rd) k hk).1) (h.kr k hk), own_chg h.wr hc fun k hk => hS k (.inl ((own_ty h.wr) k hk).1) (h.kw k hk), own_chg h.xr hc fun k hk => hS k (.inr ((own_ty h.xr) k hk).1) (h.kx k hk), h.kr, h.kw, h.kx⟩
theorem MOk.up (h : MOk B K w m) (hu : Up w w') : MOk B K w' m := h.chg (Below.chg (fun _ => False) hu) fun _ _ _ e => e
theorem MOk.wide {K' : Nat → Prop} (h : MOk B K w m) (hK : ∀ k, K k → K' k) : MOk B K' w m := ⟨h.rd, h.wr, h.xr, fun k hk => hK k (h.kr k hk), fun k hk => hK k (h.kw k hk), fun k hk => hK k (h.kx k hk)⟩
end
theorem sc_strs {w : World} {B : Nat} {v : Value} {l : List ByteArray} (h : w.ownsRow B 9 1 v l.length (sc l)) : Strs w v l :=
  own_arr h fun g hg hc i hi => ⟨hg, by rw [Nat.mul_one]; exact hc i _ (by simp [sc, hi])⟩
theorem MOk.vals {B : Nat} {K : Nat → Prop} {w : World} {m : MRec} (h : MOk B K w m) : Strs w m.rv m.r.tx.reads ∧ Strs w m.wv m.r.tx.writes ∧ Ints w m.xv m.r.read := ⟨sc_strs h.rd, sc_strs h.wr, C.ints_own h.xr⟩
def ptrV : Option (Nat × MRec) → Value
  | none => .pointer none
  | some x => .pointer (some ⟨x.1, 0, none⟩)
/-- An open transaction's box. -/
structure BOk (w0 w : World) (K : Nat → Prop) (ve : Value) (q : Nat) (m : MRec) : Prop where
  blk : Blk w q (mrC1 m) 37
  k : K q
  ok : MOk w0.heap.size K w m
  ne : ve.ownBlock ≠ some q
structure SMm (w0 w : World) (K : Nat → Prop) (p b6 : Nat) (d : Db) (oms : List (Option (Nat × MRec))) (va ve : Value) (ms : List MRec) : Prop where
  own : Own w0 K w p d
  lo : ∀ k, K k → w0.heap.size ≤ k
  box : Blk w b6 (oms.map ptrV) 28
  kb : K b6
  att : w.ownsRow w0.heap.size 35 4 va ms.length (ms.flatMap maC1)
  ka : ∀ k, va.ownBlock = some k → K k
  fin : w.ownsRow w0.heap.size 37 6 ve ms.length (ms.flatMap mrC1)
  ke : ∀ k, ve.ownBlock = some k → K k
  recs : ∀ m ∈ ms, MOk w0.heap.size K w m
  opn : ∀ (s q : Nat) (m : MRec), oms[s]? = some (some (q, m)) → BOk w0 w K ve q m
  dis : ∀ (s s' q q' : Nat) (m m' : MRec), oms[s]? = some (some (q, m)) → oms[s']? = some (some (q', m')) → s ≠ s' → q ≠ q'
section
variable {w0 w w' : World} {K S : Nat → Prop} {p b6 : Nat} {d d' : Db} {oms : List (Option (Nat × MRec))} {va ve : Value} {ms : List MRec}
theorem Own.chgK (h : Own w0 K w p d) (hc : Chg S w w') (hS : ∀ k, S k → K k ∧ w0.heap.size ≤ k) : Own w0 K w' p d := by
  obtain ⟨F, h1, h2, h3, h4⟩ := h
  exact ⟨F, h1.chg hc fun k hk e => (h2 k hk).2 (hS k e).1, h2, fun k hk => Nat.lt_of_lt_of_le (h3 k hk) hc.size,
    ((Below.chg (fun k => w0.heap.size ≤ k) h4).trans hc fun i hi e => (hS i e).2).up fun k hk e => by omega⟩
theorem BOk.chg {q : Nat} {m : MRec} (h : BOk w0 w K ve q m) (hc : Chg S w w') (hq : ¬ S q) (hS : ∀ k, (Ty w k 9 ∨ Ty w k 3) → K k → ¬ S k) : BOk w0 w' K ve q m := ⟨h.blk.chg hc hq, h.k, h.ok.chg hc hS, h.ne⟩
theorem BOk.up {q : Nat} {m : MRec} (h : BOk w0 w K ve q m) (hu : Up w w') : BOk w0 w' K ve q m := h.chg (Below.chg (fun _ => False) hu) (fun e => e) fun _ _ _ e => e
theorem BOk.wide {q : Nat} {m : MRec} {K' : Nat → Prop} (h : BOk w0 w K ve q m) (hK : ∀ k, K k → K' k) : BOk w0 w K' ve q m := ⟨h.blk, hK _ h.k, h.ok.wide hK, h.ne⟩
theorem SMm.step (h : SMm w0 w K p b6 d oms va ve ms) (hO : OwnP w0 K p d' w w') : SMm w0 w' K p b6 d' oms va ve ms :=
  have nk : ∀ k, K k → ¬ (w0.heap.size ≤ k ∧ ¬ K k) := fun k hk e => e.2 hk
  ⟨hO.1, h.lo, h.box.chg hO.2 (nk _ h.kb), h.kb, own_chg h.att hO.2 fun k hk => nk k (h.ka k hk), h.ka, own_chg h.fin hO.2 fun k hk => nk k (h.ke k hk), h.ke, fun m hm => (h.recs m hm).chg hO.2 fun k _ hk => nk k hk,
    fun s q m hs => (h.opn s q m hs).chg hO.2 (nk _ (h.opn s q m hs).k) fun k _ hk => nk k hk, h.dis⟩
theorem BOk.step {q : Nat} {m : MRec} (h : BOk w0 w K ve q m) (hO : OwnP w0 K p d' w w') : BOk w0 w' K ve q m := h.chg hO.2 (fun e => e.2 h.k) fun k _ hk e => e.2 hk
theorem SMm.up (h : SMm w0 w K p b6 d oms va ve ms) (hu : Up w w') : SMm w0 w' K p b6 d oms va ve ms :=
  ⟨h.own.up hu, h.lo, h.box.up hu, h.kb, own_up h.att hu, h.ka, own_up h.fin hu, h.ke, fun m hm => (h.recs m hm).up hu, fun s q m hs => (h.opn s q m hs).up hu, h.dis⟩
theorem SMm.widen (h : SMm w0 w K p b6 d oms va ve ms) (hu : Up w w') : SMm w0 w' (fun k => K k ∨ (w.heap.size ≤ k ∧ k < w'.heap.size)) p b6 d oms va ve ms :=
  have hw : w0.heap.size ≤ w.heap.size := h.own.upw.size
  have wd : ∀ k, K k → K k ∨ (w.heap.size ≤ k ∧ k < w'.heap.size) := fun k hk => .inl hk
  ⟨h.own.widen hu, fun k hk => by rcases hk with hk | hk; exact h.lo k hk; omega, h.box.up hu, .inl h.kb, own_up h.att hu, fun k hk => .inl (h.ka k hk), own_up h.fin hu, fun k hk => .inl (h.ke k hk), fun m hm => ((h.recs m hm).up hu).wide wd,
    fun s q m hs => ((h.opn s q m hs).up hu).wide wd, h.dis⟩
/-- A slot of the open transactions is set. -/
theorem SMm.setBox (h : SMm w0 w K p b6 d oms va ve ms) {s : Nat} (hs : s < oms.length) {o : Option (Nat × MRec)} (ho : ∀ (q : Nat) (m : MRec), o = some (q, m) → BOk w0 w K ve q m ∧ ∀ (s' q' : Nat) (m' : MRec), s' ≠ s → oms[s']? = some (some (q', m')) → q ≠ q') :
    SMm w0 (w.setCell ⟨b6, s, none⟩ (ptrV o)) K p b6 d (oms.set s o) va ve ms := by
  have hc := chg_set w b6 s none (ptrV o)
  have tb := blk_ty h.box
  have rows : ∀ k, (Ty w k 9 ∨ Ty w k 3) → K k → ¬ k = b6 := fun k ht _ e => by
    subst e
    rcases ht with ht | ht
    · exact tb.ne (by decide) ht
    · exact tb.ne (by decide) ht
  have bx : ∀ q m, BOk w0 w K ve q m → BOk w0 (w.setCell ⟨b6, s, none⟩ (ptrV o)) K ve q m := fun q m hb => hb.chg hc (fun e => by have := blk_ty hb.blk; rw [e] at this; exact tb.ne (by decide) this) rows
  have hget : ∀ (s' q' : Nat) (m' : MRec), (oms.set s o)[s']? = some (some (q', m')) → (s' = s ∧ o = some (q', m')) ∨ (s' ≠ s ∧ oms[s']? = some (some (q', m'))) := fun s' q' m' hs' => by
    rw [List.getElem?_set] at hs'
    by_cases e : s = s'
    · subst e
      rw [if_pos rfl, if_pos hs] at hs'
      exact .inl ⟨rfl, Option.some.inj hs'⟩
    · rw [if_neg e] at hs'
      exact .inr ⟨Ne.symm e, hs'⟩
  refine ⟨h.own.chgK hc fun k e => by subst e; exact ⟨h.kb, h.lo _ h.kb⟩, h.lo, ?_, h.kb, own_chg h.att hc fun k hk e => ?_, h.ka, own_chg h.fin hc fun k hk e => ?_, h.ke, fun m hm => (h.recs m hm).chg hc rows, fun s' q m hs' => ?_, fun s1 s2 q1 q2 m1 m2 h1 h2 hne => ?_⟩
  · rw [List.map_set]
    exact h.box.set s (ptrV o)
  · subst e; exact tb.ne (by decide) ((own_ty h.att) k hk).1
  · subst e; exact tb.ne (by decide) ((own_ty h.fin) k hk).1
  · rcases hget s' q m hs' with ⟨_, e⟩ | ⟨_, e⟩
    · exact bx q m (ho q m e).1
    · exact bx q m (h.opn s' q m e)
  · rcases hget s1 q1 m1 h1 with ⟨e1, f1⟩ | ⟨e1, f1⟩
    · rcases hget s2 q2 m2 h2 with ⟨e2, f2⟩ | ⟨e2, f2⟩
      · exact absurd (e1.trans e2.symm) hne
      · exact (ho q1 m1 f1).2 s2 q2 m2 e2 f2
    · rcases hget s2 q2 m2 h2 with ⟨e2, f2⟩ | ⟨e2, f2⟩
      · exact Ne.symm ((ho q2 m2 f2).2 s1 q1 m1 e1 f1)
      · exact h.dis s1 s2 q1 q2 m1 m2 f1 f2 hne
def stamp (m : MRec) (n : Int) : MRec := { m with r := { m.r with tx := { m.r.tx with commit := n } } }
/-- The box of a transaction that ends gets its commit time. -/
theorem SMm.stamp (h : SMm w0 w K p b6 d oms va ve ms) {q : Nat} {m : MRec} (hb : BOk w0 w K ve q m) (hq : ∀ (s' q' : Nat) (m' : MRec), oms[s']? = some (some (q', m')) → q ≠ q') (n : Int) :
    SMm w0 (w.setCell ⟨q, 2, none⟩ (.int .i64 n)) K p b6 d oms va ve ms ∧ BOk w0 (w.setCell ⟨q, 2, none⟩ (.int .i64 n)) K ve q (Sn.stamp m n) := by
  have hc := chg_set w q 2 none (.int .i64 n)
  have tb := blk_ty hb.blk
  have rows : ∀ k, (Ty w k 9 ∨ Ty w k 3) → K k → ¬ k = q := fun k ht _ e => by
    subst e
    rcases ht with ht | ht
    · exact tb.ne (by decide) ht
    · exact tb.ne (by decide) ht
  refine ⟨⟨h.own.chgK hc fun k e => by subst e; exact ⟨hb.k, h.lo _ hb.k⟩, h.lo, h.box.chg hc fun e => ?_, h.kb, own_chg h.att hc fun k hk e => ?_, h.ka, own_chg h.fin hc fun k hk e => by subst e; exact hb.ne hk, h.ke, fun m hm => (h.recs m hm).chg hc rows, fun s' q' m' hs' => (h.opn s' q' m' hs').chg hc (fun e => hq s' q' m' hs' e.symm) rows, h.dis⟩,
    ⟨hb.blk.set 2 (.int .i64 n), hb.k, ?_, hb.ne⟩⟩
  · have := blk_ty h.box; rw [e] at this; exact tb.ne (by decide) this
  · subst e; exact tb.ne (by decide) ((own_ty h.att) k hk).1
  · have := hb.ok.chg hc rows
    exact ⟨this.rd, this.wr, this.xr, this.kr, this.kw, this.kx⟩
/-- An ended transaction is put down. -/
theorem SMm.app (h : SMm w0 w K p b6 d oms va ve ms) {m : MRec} (hm : MOk w0.heap.size K w m) {va' ve' : Value} (hc : Chg (fun k => va.ownBlock = some k ∨ ve.ownBlock = some k) w w')
    (hA : w'.ownsRow w0.heap.size 35 4 va' (ms.length + 1) (ms.flatMap maC1 ++ maC1 m)) (hAk : ∀ k, va'.ownBlock = some k → va.ownBlock = some k ∨ w.heap.size ≤ k)
    (hE : w'.ownsRow w0.heap.size 37 6 ve' (ms.length + 1) (ms.flatMap mrC1 ++ mrC1 m)) (hEk : ∀ k, ve'.ownBlock = some k → ve.ownBlock = some k ∨ w.heap.size ≤ k) :
    SMm w0 w' (fun k => K k ∨ (w.heap.size ≤ k ∧ k < w'.heap.size)) p b6 d oms va' ve' (ms ++ [m]) ∧ ∀ q m', BOk w0 w K ve q m' → BOk w0 w' (fun k => K k ∨ (w.heap.size ≤ k ∧ k < w'.heap.size)) ve' q m' := by
  have wd : ∀ k, K k → K k ∨ (w.heap.size ≤ k ∧ k < w'.heap.size) := fun k hk => .inl hk
  have hw : w0.heap.size ≤ w.heap.size := h.own.upw.size
  have SK : ∀ k, (va.ownBlock = some k ∨ ve.ownBlock = some k) → K k ∧ w0.heap.size ≤ k := fun k hk => by
    rcases hk with hk | hk
    · exact ⟨h.ka k hk, h.lo _ (h.ka k hk)⟩
    · exact ⟨h.ke k hk, h.lo _ (h.ke k hk)⟩
  have rows : ∀ k, (Ty w k 9 ∨ Ty w k 3) → K k → ¬ (va.ownBlock = some k ∨ ve.ownBlock = some k) := fun k ht _ e => by
    rcases e with e | e
    · have t := ((own_ty h.att) k e).1
      rcases ht with ht | ht
      · exact t.ne (by decide) ht
      · exact t.ne (by decide) ht
    · have t := ((own_ty h.fin) k e).1
      rcases ht with ht | ht
      · exact t.ne (by decide) ht
      · exact t.ne (by decide) ht
  have bx : ∀ q m', BOk w0 w K ve q m' → BOk w0 w' (fun k => K k ∨ (w.heap.size ≤ k ∧ k < w'.heap.size)) ve' q m' := fun q m' hb => by
    have nS : ¬ (va.ownBlock = some q ∨ ve.ownBlock = some q) := fun e => by
      rcases e with e | e
      · exact ((own_ty h.att) q e).1.ne (by decide) (blk_ty hb.blk)
      · exact hb.ne e
    have b1 := (hb.chg hc nS rows).wide wd
    refine ⟨b1.blk, b1.k, b1.ok, fun e => ?_⟩
    rcases hEk q e with e2 | e2
    · exact hb.ne e2
    · have := hb.blk.lt; omega
  have ow : Own w0 (fun k => K k ∨ (w.heap.size ≤ k ∧ k < w'.heap.size)) w' p d := by
    obtain ⟨F, h1, h2, h3, h4⟩ := h.own.chgK hc SK
    obtain ⟨F', g1, g2, g3, g4⟩ := h.own
    refine ⟨F', g1.chg hc fun k hk e => (g2 k hk).2 (SK k e).1, fun k hk => ⟨(g2 k hk).1, fun e => ?_⟩, fun k hk => ?_, h4⟩
    · rcases e with e | e
      · exact (g2 k hk).2 e
      · have := g1.lt k hk; omega
    · rcases hk with hk | hk
      · exact Nat.lt_of_lt_of_le (g3 k hk) hc.size
      · exact hk.2
  have e1 : (ms ++ [m]).length = ms.length + 1 := by simp
  refine ⟨⟨ow, fun k hk => by rcases hk with hk | hk; exact h.lo k hk; omega, h.box.chg hc fun e => ?_, .inl h.kb, by rw [e1, List.flatMap_append, List.flatMap_singleton]; exact hA, fun k hk => ?_, by rw [e1, List.flatMap_append, List.flatMap_singleton]; exact hE, fun k hk => ?_, fun x hx => ?_, fun s q x hs => bx q x (h.opn s q x hs), h.dis⟩, bx⟩
  · rcases e with e | e
    · exact ((own_ty h.att) b6 e).1.ne (by decide) (blk_ty h.box)
    · exact ((own_ty h.fin) b6 e).1.ne (by decide) (blk_ty h.box)
  · rcases hAk k hk with e | e
    · exact .inl (h.ka k e)
    · exact .inr ⟨e, own_lt hA k hk⟩
  · rcases hEk k hk with e | e
    · exact .inl (h.ke k e)
    · exact .inr ⟨e, own_lt hE k hk⟩
  · rcases List.mem_append.1 hx with hx | hx
    · exact ((h.recs x hx).chg hc rows).wide wd
    · rw [List.mem_singleton.1 hx]
      exact (hm.chg hc rows).wide wd
/-- What the callees read. -/
theorem SMm.txs (h : SMm w0 w K p b6 d oms va ve ms) : Txs w va (txs (ms.map MRec.r)) := by
  have ha := h.att
  rw [show ms.length = (Sn.txs (ms.map MRec.r)).length by simp [Sn.txs]] at ha
  refine own_arr ha fun g hg hc i hi => ?_
  have hi2 : i < ms.length := by simpa [Sn.txs] using hi
  have e : (Sn.txs (ms.map MRec.r))[i] = ms[i].r.tx := by simp [Sn.txs]
  rw [e]
  have G : ∀ j v, j < 4 → (maC1 ms[i])[j]? = some v → At w g (i * 4 + j) v := fun j v hj hv => hc _ _ (by rw [fm_get (f := maC1) (k := 4) (fun _ => rfl) ms i j hi2 hj]; exact hv)
  obtain ⟨v1, v2, v3⟩ := (h.recs _ (List.getElem_mem hi2)).vals
  exact ⟨_, _, G 0 _ (by decide) rfl, G 1 _ (by decide) rfl, G 2 _ (by decide) rfl, G 3 _ (by decide) rfl, v1, v2⟩
theorem SMm.arr (h : SMm w0 w K p b6 d oms va ve ms) : Arr RecR 6 w ve (ms.map MRec.r) := by
  have ha := h.fin
  rw [show ms.length = (ms.map MRec.r).length by simp] at ha
  refine own_arr ha fun g hg hc i hi => ?_
  have hi2 : i < ms.length := by simpa using hi
  have e : (ms.map MRec.r)[i] = ms[i].r := by simp
  rw [e]
  have G : ∀ j v, j < 6 → (mrC1 ms[i])[j]? = some v → At w g (i * 6 + j) v := fun j v hj hv => hc _ _ (by rw [fm_get (f := mrC1) (k := 6) (fun _ => rfl) ms i j hi2 hj]; exact hv)
  obtain ⟨v1, v2, v3⟩ := (h.recs _ (List.getElem_mem hi2)).vals
  exact ⟨_, _, _, G 0 _ (by decide) rfl, G 1 _ (by decide) rfl, G 2 _ (by decide) rfl, G 3 _ (by decide) rfl, G 4 _ (by decide) rfl, G 5 _ (by decide) rfl, v1, v2, v3⟩
end
/-- The transaction that begins: its box, its rows. -/
structure Cur (wb wr : World) (m : MRec) : Prop where
  up : Up wb wr
  blk : Blk wr wb.heap.size (mrC1 m) 37
  ok : MOk wb.heap.size (fun k => wb.heap.size ≤ k) wr m
  ne : ∀ k, m.rv.ownBlock = some k → m.wv.ownBlock ≠ some k
theorem Cur.new (wb : World) (r : Rec) (h1 : r.tx.reads = []) (h2 : r.tx.writes = []) (h3 : r.read = []) : Cur wb (wb.alloc (.cells #[.int .i64 r.id, .int .i64 r.tx.start, .int .i64 r.tx.commit, .slice none 0 0, .slice none 0 0, .slice none 0 0] 37)) ⟨r, .slice none 0 0, .slice none 0 0, .slice none 0 0⟩ := by
  refine ⟨(Up.refl wb).alloc _, Blk.new _ _ _, ⟨?_, ?_, ?_, fun k hk => (by cases hk), fun k hk => (by cases hk), fun k hk => (by cases hk)⟩, fun k hk => (by cases hk)⟩
  · rw [h1]; exact World.ownsRow_nil _ _ _ _
  · rw [h2]; exact World.ownsRow_nil _ _ _ _
  · rw [h3]; exact World.ownsRow_nil _ _ _ _
theorem Cur.grow {wb wr w' : World} {m : MRec} (h : Cur wb wr m) (hu : Up wr w') : Cur wb w' m := ⟨h.up.trans hu, h.blk.up hu, h.ok.up hu, h.ne⟩
def addRd (m : MRec) (s : ByteArray) (n : Int) (v1 v2 : Value) : MRec := ⟨⟨m.r.id, ⟨m.r.tx.start, m.r.tx.commit, m.r.tx.reads ++ [s], m.r.tx.writes⟩, m.r.read ++ [n]⟩, v1, m.wv, v2⟩
def addWr (m : MRec) (s : ByteArray) (v1 : Value) : MRec := ⟨⟨m.r.id, ⟨m.r.tx.start, m.r.tx.commit, m.r.tx.reads, m.r.tx.writes ++ [s]⟩, m.r.read⟩, m.rv, v1, m.xv⟩
theorem far_box {W : World} {B q : Nat} {E : TypeId} {v : Value} {n size : Nat} {xs ys : List Value} {T : TypeId} (h : W.ownsRow B E size v n xs) (hb : Blk W q ys T) (hne : E ≠ T) : ∀ k, v.ownBlock = some k → ¬ k = q := fun k hk e => by
  subst e
  exact ((own_ty h) k hk).1.ne hne (blk_ty hb)
theorem Cur.rd {wb W : World} {m : MRec} {s : ByteArray} {n : Int} {v1 v2 : Value} (hU : Up wb W) (hb : Blk W wb.heap.size (mrC1 m) 37) (h1 : W.ownsRow wb.heap.size 9 1 v1 (m.r.tx.reads.length + 1) (sc m.r.tx.reads ++ [.string s]))
    (h2 : W.ownsRow wb.heap.size 3 1 v2 (m.r.read.length + 1) (ic m.r.read ++ [.int .i64 n])) (hw : W.ownsRow wb.heap.size 9 1 m.wv m.r.tx.writes.length (sc m.r.tx.writes)) (hne : ∀ k, v1.ownBlock = some k → m.wv.ownBlock ≠ some k) :
    Cur wb ((W.setCell ⟨wb.heap.size, 3, none⟩ v1).setCell ⟨wb.heap.size, 5, none⟩ v2) (addRd m s n v1 v2) := by
  have hc := (chg_set W wb.heap.size 3 none v1).trans (chg_set _ wb.heap.size 5 none v2) fun _ _ e => e
  have lo : ∀ {E : TypeId} {v : Value} {n : Nat} {xs : List Value}, W.ownsRow wb.heap.size E 1 v n xs → ∀ k, v.ownBlock = some k → wb.heap.size ≤ k := fun h k hk => ((own_ty h) k hk).2
  refine ⟨(hU.set (Nat.le_refl _) _ _ _).set (Nat.le_refl _) _ _ _, (hb.set 3 v1).set 5 v2, ⟨?_, own_chg hw hc (far_box hw hb (by decide)), ?_, lo h1, lo hw, lo h2⟩, hne⟩
  · have := own_chg h1 hc (far_box h1 hb (by decide))
    simpa [addRd, sc] using this
  · have := own_chg h2 hc (far_box h2 hb (by decide))
    simpa [addRd, ic] using this
theorem Cur.wr {wb W : World} {m : MRec} {s : ByteArray} {v1 : Value} (hU : Up wb W) (hb : Blk W wb.heap.size (mrC1 m) 37) (h1 : W.ownsRow wb.heap.size 9 1 v1 (m.r.tx.writes.length + 1) (sc m.r.tx.writes ++ [.string s]))
    (h2 : W.ownsRow wb.heap.size 3 1 m.xv m.r.read.length (ic m.r.read)) (hr : W.ownsRow wb.heap.size 9 1 m.rv m.r.tx.reads.length (sc m.r.tx.reads)) (hne : ∀ k, m.rv.ownBlock = some k → v1.ownBlock ≠ some k) :
    Cur wb (W.setCell ⟨wb.heap.size, 4, none⟩ v1) (addWr m s v1) := by
  have hc := chg_set W wb.heap.size 4 none v1
  have lo : ∀ {E : TypeId} {v : Value} {n : Nat} {xs : List Value}, W.ownsRow wb.heap.size E 1 v n xs → ∀ k, v.ownBlock = some k → wb.heap.size ≤ k := fun h k hk => ((own_ty h) k hk).2
  refine ⟨hU.set (Nat.le_refl _) _ _ _, hb.set 4 v1, ⟨own_chg hr hc (far_box hr hb (by decide)), ?_, own_chg h2 hc (far_box h2 hb (by decide)), lo hr, lo h1, lo h2⟩, hne⟩
  have := own_chg h1 hc (far_box h1 hb (by decide))
  simpa [addWr, sc] using this
/-- Between the two appends of a read. -/
structure Mid (wb W : World) (m : MRec) (s : ByteArray) (x : Value) : Prop where
  up : Up wb W
  blk : Blk W wb.heap.size (mrC1 m) 37
  v1 : W.ownsRow wb.heap.size 9 1 x (m.r.tx.reads.length + 1) (sc m.r.tx.reads ++ [.string s])
  wv : W.ownsRow wb.heap.size 9 1 m.wv m.r.tx.writes.length (sc m.r.tx.writes)
  xv : W.ownsRow wb.heap.size 3 1 m.xv m.r.read.length (ic m.r.read)
  ne : ∀ k, x.ownBlock = some k → m.wv.ownBlock ≠ some k
theorem Cur.app {wb W w6 : World} {m : MRec} {s : ByteArray} {g c H : Nat} (h : Cur wb W m) (hown : w6.ownsRow wb.heap.size 9 1 (.slice (some ⟨g, 0, none⟩) (m.r.tx.reads.length + 1) c) (m.r.tx.reads.length + 1) (sc m.r.tx.reads ++ [.string s]))
    (hg : W.grownBy w6 m.rv.ownBlock) (hat : m.rv.ownBlock = some g ∨ g = H) (hH : W.heap.size ≤ H) : Mid wb w6 m s (.slice (some ⟨g, 0, none⟩) (m.r.tx.reads.length + 1) c) := by
  have hc : Chg (fun k => m.rv.ownBlock = some k) W w6 := (Chg.refl _ W).grown hg fun k hk => .inl hk
  refine ⟨Below.grown h.up hg h.up.size fun k hk => h.ok.kr k hk, h.blk.chg hc fun e => far_box h.ok.rd h.blk (by decide) _ e rfl, hown, own_chg h.ok.wr hc fun k hk e => h.ne k e hk, own_chg h.ok.xr hc fun k hk e => ((own_ty h.ok.xr) k hk).1.ne (by decide) ((own_ty h.ok.rd) k e).1, fun k hk e => ?_⟩
  obtain rfl : g = k := by simpa [Value.ownBlock] using hk
  rcases hat with hat | hat
  · exact h.ne g hat e
  · have := own_lt h.ok.wr g e; omega
theorem Mid.grow {wb W W' : World} {m : MRec} {s : ByteArray} {v1 : Value} (h : Mid wb W m s v1) (hu : Up W W') : Mid wb W' m s v1 := ⟨h.up.trans hu, h.blk.up hu, own_up h.v1 hu, own_up h.wv hu, own_up h.xv hu, h.ne⟩
theorem Mid.app {wb W w7 : World} {m : MRec} {s : ByteArray} {v1 v2 : Value} {n : Int} (h : Mid wb W m s v1) (hown : w7.ownsRow wb.heap.size 3 1 v2 (m.r.read.length + 1) (ic m.r.read ++ [.int .i64 n])) (hg : W.grownBy w7 m.xv.ownBlock) :
    Blk w7 wb.heap.size (mrC1 m) 37 ∧ Cur wb ((w7.setCell ⟨wb.heap.size, 3, none⟩ v1).setCell ⟨wb.heap.size, 5, none⟩ v2) (addRd m s n v1 v2) := by
  have hc : Chg (fun k => m.xv.ownBlock = some k) W w7 := (Chg.refl _ W).grown hg fun k hk => .inl hk
  have lo : ∀ k, m.xv.ownBlock = some k → wb.heap.size ≤ k := fun k hk => ((own_ty h.xv) k hk).2
  have hb := h.blk.chg hc fun e => far_box h.xv h.blk (by decide) _ e rfl
  have far : ∀ {v : Value} {n : Nat} {xs : List Value}, W.ownsRow wb.heap.size 9 1 v n xs → ∀ k, v.ownBlock = some k → ¬ m.xv.ownBlock = some k := fun hv k hk e => ((own_ty hv) k hk).1.ne (by decide) ((own_ty h.xv) k e).1
  exact ⟨hb, Cur.rd (Below.grown h.up hg h.up.size lo) hb (own_chg h.v1 hc (far h.v1)) hown (own_chg h.wv hc (far h.wv)) h.ne⟩
/-- One write's append. -/
theorem Cur.appw {wb W w6 : World} {m : MRec} {s : ByteArray} {g c H : Nat} (h : Cur wb W m) (hown : w6.ownsRow wb.heap.size 9 1 (.slice (some ⟨g, 0, none⟩) (m.r.tx.writes.length + 1) c) (m.r.tx.writes.length + 1) (sc m.r.tx.writes ++ [.string s]))
    (hg : W.grownBy w6 m.wv.ownBlock) (hat : m.wv.ownBlock = some g ∨ g = H) (hH : W.heap.size ≤ H) : Blk w6 wb.heap.size (mrC1 m) 37 ∧
    Cur wb (w6.setCell ⟨wb.heap.size, 4, none⟩ (.slice (some ⟨g, 0, none⟩) (m.r.tx.writes.length + 1) c)) (addWr m s (.slice (some ⟨g, 0, none⟩) (m.r.tx.writes.length + 1) c)) := by
  have hc : Chg (fun k => m.wv.ownBlock = some k) W w6 := (Chg.refl _ W).grown hg fun k hk => .inl hk
  have hb := h.blk.chg hc fun e => far_box h.ok.wr h.blk (by decide) _ e rfl
  refine ⟨hb, Cur.wr (Below.grown h.up hg h.up.size fun k hk => h.ok.kw k hk) hb hown (own_chg h.ok.xr hc fun k hk e => ((own_ty h.ok.xr) k hk).1.ne (by decide) ((own_ty h.ok.wr) k e).1) (own_chg h.ok.rd hc fun k hk e => h.ne k hk e) fun k hk e => ?_⟩
  obtain rfl : g = k := by simpa [Value.ownBlock] using e
  rcases hat with hat | hat
  · exact h.ne g hk hat
  · have := own_lt h.ok.rd g hk; omega
end Go.Proofs.Ytnbhdpmhgamjfaa.Sn

/- Top 16: what the law's loop keeps in memory, step by step. -/
namespace Go.Proofs.Ytnbhdpmhgamjfaa.Sn
open Go Go.RowKit Hp
open Mv (Val PC PV Srt SOk pos has cnt fm_len fm_get)
open C (Tx TxR Txs tx0 Valid admV admL cur wk cur_snoc ic)
set_option linter.unusedVariables false

def recO : Option (Nat × MRec) → Option Rec
  | none => none
  | some x => some x.2.r
/-- What the law's loop keeps. -/
def LST (w wr : World) (p b6 : Nat) (va ve : Value) (n : Nat) : Prop := ∃ K d oms ms, SMm w wr K p b6 d oms va ve ms ∧ LInv d (ms.map MRec.r) (oms.map recO) n
/-- The transaction that begins, with a reads' and b writes' room used. -/
structure CurI (wb wx : World) (M : MRec) (id st : Int) (g : ByteArray → Int) (a b : Nat) : Prop where
  cur : Cur wb wx M
  id : M.r.id = id
  st : M.r.tx.start = st
  com : M.r.tx.commit = 0
  rd : M.r.read = M.r.tx.reads.map g
  rl : M.r.tx.reads.length ≤ a
  wl : M.r.tx.writes.length ≤ b
  keys : ∀ y, y ∈ M.r.tx.reads ∨ y ∈ M.r.tx.writes → y.size ≤ 24
section
variable {w w3 wo wj : World} {K : Nat → Prop} {p b6 : Nat} {d d' : Db} {oms : List (Option (Nat × MRec))} {va ve : Value} {ms : List MRec} {M m : MRec} {i s q : Nat}
theorem lst_beg (hS : SMm w w3 K p b6 (begD d) oms va ve ms) (hI : LInv d (ms.map MRec.r) (oms.map recO) i) (dk : DOk d) (hi : i < 60) (ho : oms[s]? = some none)
    (hc : CurI w3 wj M (d.last + 1) (i : Int) (stN (ms.map MRec.r) (ms.map MRec.r).length) 3 3) : LST w (wj.setCell ⟨b6, s, none⟩ (.pointer (some ⟨w3.heap.size, 0, none⟩))) p b6 va ve (i + 1) := by
  have hs : s < oms.length := (List.getElem?_eq_some_iff.1 ho).1
  have h1 := hS.widen hc.cur.up
  have hlt : w3.heap.size < wj.heap.size := hc.cur.blk.lt
  have hw : w.heap.size ≤ w3.heap.size := hS.own.upw.size
  have ok := hc.cur.ok
  have h2 := h1.setBox (s := s) hs (o := some (w3.heap.size, M)) (fun q m e => by
    cases e
    refine ⟨⟨hc.cur.blk, .inr ⟨Nat.le_refl _, hlt⟩, ⟨own_base' ok.rd fun k hk => Nat.le_trans hw (ok.kr k hk), own_base' ok.wr fun k hk => Nat.le_trans hw (ok.kw k hk), own_base' ok.xr fun k hk => Nat.le_trans hw (ok.kx k hk),
      fun k hk => .inr ⟨ok.kr k hk, own_lt ok.rd k hk⟩, fun k hk => .inr ⟨ok.kw k hk, own_lt ok.wr k hk⟩, fun k hk => .inr ⟨ok.kx k hk, own_lt ok.xr k hk⟩⟩, fun e => ?_⟩, fun s' q' m' hne hs' e => ?_⟩
    · have := own_lt hS.fin _ e; omega
    · have := (hS.opn s' q' m' hs').blk.lt; omega)
  refine ⟨_, begD d, _, ms, h2, ?_⟩
  rw [List.map_set]
  exact hI.beg dk hi (by rw [List.getElem?_map, ho]; rfl) hc.id hc.st hc.rl hc.wl hc.keys hc.rd
theorem lst_end (h : SMm w wo K p b6 d' (oms.set s none) va ve (ms ++ [m])) (hI : LInv d' (ms.map MRec.r ++ [m.r]) ((oms.map recO).set s none) (i + 1)) : LST w wo p b6 va ve (i + 1) :=
  ⟨_, d', _, _, h, by rw [List.map_set, List.map_append]; exact hI⟩
/-- The transaction that ends leaves its slot and gets its commit time. -/
theorem SMm.leave (hS : SMm w wo K p b6 d oms va ve ms) (ho : oms[s]? = some (some (q, m))) (n : Int) :
    SMm w ((wo.setCell ⟨b6, s, none⟩ (.pointer none)).setCell ⟨q, 2, none⟩ (.int .i64 n)) K p b6 d (oms.set s none) va ve ms ∧ BOk w ((wo.setCell ⟨b6, s, none⟩ (.pointer none)).setCell ⟨q, 2, none⟩ (.int .i64 n)) K ve q (Sn.stamp m n) := by
  have hs : s < oms.length := (List.getElem?_eq_some_iff.1 ho).1
  have h1 := hS.setBox (s := s) hs (o := none) (fun q m e => by cases e)
  have hb := hS.opn s q m ho
  have tb := blk_ty hS.box
  have hb1 : BOk w (wo.setCell ⟨b6, s, none⟩ (.pointer none)) K ve q m := hb.chg (chg_set wo b6 s none (.pointer none)) (fun e => by have := blk_ty hb.blk; rw [e] at this; exact tb.ne (by decide) this) (fun k ht _ e => by
    subst e
    rcases ht with ht | ht
    · exact tb.ne (by decide) ht
    · exact tb.ne (by decide) ht)
  refine h1.stamp hb1 (fun s' q' m' hs' => ?_) n
  rw [List.getElem?_set] at hs'
  by_cases e : s = s'
  · subst e
    rw [if_pos rfl, if_pos hs] at hs'
    cases hs'
  · rw [if_neg e] at hs'
    exact hS.dis s s' q q' m m' ho hs' e
/-- The attempts' row has grown, the ended ones' not yet. -/
structure MidE (w W0 W : World) (va ve va' : Value) (ms : List MRec) (m : MRec) (q : Nat) : Prop where
  chg : Chg (fun k => va.ownBlock = some k) W0 W
  att : W.ownsRow w.heap.size 35 4 va' (ms.length + 1) (ms.flatMap maC1 ++ maC1 m)
  atk : ∀ k, va'.ownBlock = some k → va.ownBlock = some k ∨ W0.heap.size ≤ k
  fin : W.ownsRow w.heap.size 37 6 ve ms.length (ms.flatMap mrC1)
  blk : Blk W q (mrC1 m) 37
theorem MidE.up {W0 W W' : World} {va' : Value} (h : MidE w W0 W va ve va' ms m q) (hu : Up W W') : MidE w W0 W' va ve va' ms m q :=
  ⟨h.chg.trans (Below.chg (fun k => va.ownBlock = some k) hu) fun _ _ e => e, own_up h.att hu, h.atk, own_up h.fin hu, h.blk.up hu⟩
theorem SMm.att1 {W0 W1 W2 : World} {g c H : Nat} (hS : SMm w W0 K p b6 d oms va ve ms) (hb : BOk w W0 K ve q m) (hu : Up W0 W1)
    (hown : W2.ownsRow w.heap.size 35 4 (.slice (some ⟨g, 0, none⟩) (ms.length + 1) c) (ms.length + 1) (ms.flatMap maC1 ++ maC1 m)) (hg : W1.grownBy W2 va.ownBlock) (hat : va.ownBlock = some g ∨ g = H) (hH : W1.heap.size ≤ H) :
    MidE w W0 W2 va ve (.slice (some ⟨g, 0, none⟩) (ms.length + 1) c) ms m q := by
  have hc : Chg (fun k => va.ownBlock = some k) W1 W2 := (Chg.refl _ W1).grown hg fun k hk => .inl hk
  have hs := hu.size
  refine ⟨(Below.chg (fun k => va.ownBlock = some k) hu).trans hc fun _ _ e => e, hown, fun k hk => ?_, own_chg (own_up hS.fin hu) hc fun k hk e => ?_, (hb.blk.up hu).chg hc fun e => ?_⟩
  · obtain rfl : g = k := by simpa [Value.ownBlock] using hk
    rcases hat with hat | hat
    · exact .inl hat
    · exact .inr (by omega)
  · exact ((own_ty hS.fin) k hk).1.ne (by decide) ((own_ty hS.att) k e).1
  · exact ((own_ty hS.att) q e).1.ne (by decide) (blk_ty hb.blk)
theorem SMm.att2 {W0 W2 W3 W4 : World} {va' : Value} {g c H : Nat} (hS : SMm w W0 K p b6 d oms va ve ms) (hb : BOk w W0 K ve q m) (hM : MidE w W0 W2 va ve va' ms m q) (hu : Up W2 W3)
    (hown : W4.ownsRow w.heap.size 37 6 (.slice (some ⟨g, 0, none⟩) (ms.length + 1) c) (ms.length + 1) (ms.flatMap mrC1 ++ mrC1 m)) (hg : W3.grownBy W4 ve.ownBlock) (hat : ve.ownBlock = some g ∨ g = H) (hH : W3.heap.size ≤ H) :
    ∃ K', SMm w W4 K' p b6 d oms va' (.slice (some ⟨g, 0, none⟩) (ms.length + 1) c) (ms ++ [m]) ∧ BOk w W4 K' (.slice (some ⟨g, 0, none⟩) (ms.length + 1) c) q m := by
  have hc : Chg (fun k => ve.ownBlock = some k) W3 W4 := (Chg.refl _ W3).grown hg fun k hk => .inl hk
  have C : Chg (fun k => va.ownBlock = some k ∨ ve.ownBlock = some k) W0 W4 :=
    ((hM.chg.trans (Below.chg (fun k => va.ownBlock = some k) hu) fun _ _ e => e).or hc)
  have hs := hM.chg.size
  have hs2 := hu.size
  have a1 : ∀ k, va'.ownBlock = some k → ¬ ve.ownBlock = some k := fun k hk e => ((own_ty hM.att) k hk).1.ne (by decide) ((own_ty hM.fin) k e).1
  have a2 : ∀ k, (Value.slice (some ⟨g, 0, none⟩) (ms.length + 1) c).ownBlock = some k → ve.ownBlock = some k ∨ W0.heap.size ≤ k := fun k hk => by
    obtain rfl : g = k := by simpa [Value.ownBlock] using hk
    rcases hat with hat | hat
    · exact .inl hat
    · exact .inr (by omega)
  obtain ⟨h1, h2⟩ := hS.app hb.ok C (own_chg (own_up hM.att hu) hc a1) hM.atk hown a2
  exact ⟨_, h1, h2 q m hb⟩
end
/-- The six cells of an open transaction. -/
def Six (w : World) (q : Nat) (m : MRec) : Prop := w.cell? ⟨q, 0, none⟩ = some (.int .i64 m.r.id) ∧ w.cell? ⟨q, 1, none⟩ = some (.int .i64 m.r.tx.start) ∧ w.cell? ⟨q, 2, none⟩ = some (.int .i64 m.r.tx.commit) ∧ w.cell? ⟨q, 3, none⟩ = some m.rv ∧ w.cell? ⟨q, 4, none⟩ = some m.wv ∧ w.cell? ⟨q, 5, none⟩ = some m.xv
theorem six_of {w : World} {q : Nat} {m : MRec} (h : Blk w q (mrC1 m) 37) : Six w q m := ⟨h.cell 0, h.cell 1, h.cell 2, h.cell 3, h.cell 4, h.cell 5⟩
theorem row_one {w : World} {B : Nat} {E : TypeId} {k n : Nat} {v : Value} {l : List Value} (h : w.ownsRow B E k v n l) : v.oneCell' = true := by
  obtain ⟨a, c, rfl, _⟩ := own_form h
  rfl
end Go.Proofs.Ytnbhdpmhgamjfaa.Sn
