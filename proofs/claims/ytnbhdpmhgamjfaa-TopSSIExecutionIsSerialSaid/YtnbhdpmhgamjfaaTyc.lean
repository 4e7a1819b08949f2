/- joined: Tya, Tyb, Tyc -/
import Derived.Test.YtnbhdpmhgamjfaaOde
import Derived.Test.YtnbhdpmhgamjfaaSnw
/- Serial execution in plain words: the writers of a key are never concurrent; what a transaction reads in the serial order is what it read. -/
namespace Go.Proofs.Ytnbhdpmhgamjfaa.C
open Go Go.RowKit Hp
set_option linter.unusedVariables false

theorem no_ww (l : List Tx) {a b : Nat} (hab : a < b) (hb : b < l.length) (aa : (admV l).getD a false = true) (ab : (admV l).getD b false = true)
    (hi : inter (l.getD a tx0).writes (l.getD b tx0).writes = true) : conc (l.getD a tx0) (l.getD b tx0) = false := by
  have hL := admN_length l b
  have hstep := adm_final l (show b < b + 1 by omega) (show b + 1 ≤ l.length by omega)
  rw [ab, admN_succ] at hstep
  unfold admStep at hstep
  rw [List.getD_eq_getElem?_getD, List.getElem?_set_self (by rw [List.length_set]; omega)] at hstep
  have h3 := hstep.symm
  simp only [Option.getD_some, Bool.and_eq_true, Bool.not_eq_true'] at h3
  have h4 := h3.1
  rw [List.any_eq_false] at h4
  have h5 := h4 a (by simp; omega)
  have ha : ((admN l b).set b true).getD a false = true := by
    rw [List.getD_eq_getElem?_getD, List.getElem?_set_ne (by omega), ← List.getD_eq_getElem?_getD, ← adm_final l (by omega) (by omega)]
    exact aa
  unfold wcAt at h5
  rw [ha, hi] at h5
  simpa using h5
theorem asc_lt {l : List Tx} (hv : Valid l) {a : Nat} : ∀ d, a + d + 1 < l.length → (l.getD a tx0).commit < (l.getD (a + d + 1) tx0).commit
  | 0, h => hv.asc a h
  | d + 1, h => by
    have h1 := asc_lt hv d (by omega : a + d + 1 < l.length)
    have h2 := hv.asc (a + d + 1) (by omega)
    rw [show a + (d + 1) + 1 = a + d + 1 + 1 by omega]
    omega
theorem asc_of {l : List Tx} (hv : Valid l) {a b : Nat} (hab : a < b) (hb : b < l.length) : (l.getD a tx0).commit < (l.getD b tx0).commit := by
  have := asc_lt hv (a := a) (b - a - 1) (by omega)
  rwa [show a + (b - a - 1) + 1 = b by omega] at this
theorem ww_dep {l : List Tx} (hv : Valid l) {a b : Nat} (hab : a < b) (hb : b < l.length) (aa : (admV l).getD a false = true) (ab : (admV l).getD b false = true)
    (hi : inter (l.getD a tx0).writes (l.getD b tx0).writes = true) : dep l (admV l) a b = true := by
  have hc := no_ww l hab hb aa ab hi
  have h1 := asc_of hv hab hb
  have h2 := hv.live a (by omega)
  have h3 : (l.getD a tx0).commit ≤ (l.getD b tx0).start := by
    unfold conc at hc
    simp only [Bool.and_eq_false_iff, decide_eq_false_iff_not] at hc
    rcases hc with hc | hc <;> omega
  unfold dep prec
  rw [aa, ab, hi, decide_eq_true h3]
  simp
  omega
theorem dep_deps {l : List Tx} {adm : List Bool} {a b : Nat} (ha : a < l.length) (hb : b < l.length) (h : dep l adm a b = true) : ((a : Int), (b : Int)) ∈ deps l adm l.length := by
  unfold deps row
  exact List.mem_flatMap.2 ⟨a, by simpa using ha, List.mem_map.2 ⟨b, List.mem_filter.2 ⟨by simpa using hb, h⟩, rfl⟩⟩
/-- Two ascending rows with the same members are one. -/
theorem asc_ext : ∀ {a b : List Nat}, a.Pairwise (· < ·) → b.Pairwise (· < ·) → (∀ x, x ∈ a ↔ x ∈ b) → a = b
  | [], [], _, _, _ => rfl
  | [], y :: b, _, _, h => by have := (h y).2 (by simp); simp at this
  | x :: a, [], _, _, h => by have := (h x).1 (by simp); simp at this
  | x :: a, y :: b, ha, hb, h => by
    rw [List.pairwise_cons] at ha hb
    have e : x = y := by
      have h1 := (h x).1 (by simp)
      have h2 := (h y).2 (by simp)
      rw [List.mem_cons] at h1 h2
      rcases h1 with h1 | h1
      · exact h1
      · rcases h2 with h2 | h2
        · exact h2.symm
        · have := ha.1 y h2; have := hb.1 x h1; omega
    subst e
    rw [asc_ext ha.2 hb.2 fun z => ?_]
    constructor
    · intro hz
      have h1 := (h z).1 (List.mem_cons_of_mem _ hz)
      rw [List.mem_cons] at h1
      rcases h1 with h1 | h1
      · have := ha.1 z hz; omega
      · exact h1
    · intro hz
      have h1 := (h z).2 (List.mem_cons_of_mem _ hz)
      rw [List.mem_cons] at h1
      rcases h1 with h1 | h1
      · have := hb.1 z hz; omega
      · exact h1
theorem topo_nodup (fr : List Int → Int → Bool) : ∀ (n : Nat) (rem ord res : List Int), rem.length = n → topo fr n rem ord = some res → (ord ++ rem).Nodup → res.Nodup
  | 0, rem, ord, res, hn, h, hd => by
    have : rem = [] := List.length_eq_zero_iff.1 hn
    subst this
    simp only [topo, Option.some.injEq] at h
    subst h
    simpa using hd
  | n + 1, rem, ord, res, hn, h, hd => by
    rw [topo] at h
    cases hf : rem.findIdx? (fr rem) with
    | none => rw [hf] at h; cases h
    | some i =>
      rw [hf] at h
      have hil := (List.findIdx?_eq_some_iff_getElem.1 hf).1
      refine topo_nodup fr n (rem.eraseIdx i) (ord ++ [rem.getD i 0]) res (by rw [List.length_eraseIdx_of_lt hil, hn]; rfl) h ?_
      refine (List.Perm.nodup_iff ?_).2 hd
      rw [List.append_assoc]
      refine List.Perm.append_left ord ?_
      rw [List.getD_eq_getElem?_getD, List.getElem?_eq_getElem hil]
      have e : rem.take i ++ rem[i] :: rem.drop (i + 1) = rem := by rw [List.getElem_cons_drop, List.take_append_drop]
      rw [List.eraseIdx_eq_take_drop_succ, Option.getD_some]
      show (rem[i] :: (rem.take i ++ rem.drop (i + 1))).Perm rem
      exact List.perm_middle.symm.trans (.of_eq e)
theorem ids_nodup (adm : List Bool) (m : Nat) : (ids adm m).Nodup := by
  unfold ids
  refine List.Pairwise.map _ (fun a b h e => h (by omega)) ((List.nodup_range (n := m)).filter _)
theorem before_take {res : List Int} {u v : Int} (h : Before res u v) {p : Nat} (hp : res[p]? = some v) : u ∈ res.take p := by
  obtain ⟨l1, l2, rfl, hu, hv, hv2⟩ := h
  have hl : l1.length ≤ p := by
    apply Nat.le_of_not_lt
    intro hlt
    rw [List.getElem?_append_left hlt] at hp
    exact hv (List.mem_of_getElem? hp)
  rw [List.take_append, List.take_of_length_le hl]
  exact List.mem_append_left _ hu
theorem nodup_take {res : List Int} (hd : res.Nodup) {p : Nat} {v : Int} (hp : res[p]? = some v) : v ∉ res.take p := by
  intro hm
  obtain ⟨q, hq, e⟩ := List.mem_iff_getElem.1 hm
  rw [List.getElem_take] at e
  rw [List.length_take] at hq
  obtain ⟨hp1, hp2⟩ := List.getElem?_eq_some_iff.1 hp
  have := (List.getElem_inj (h₀ := by omega) (h₁ := hp1) hd).1 (e.trans hp2.symm)
  omega
theorem before_not {res : List Int} (hd : res.Nodup) {u v : Int} (h : Before res u v) {p : Nat} (hp : res[p]? = some u) : v ∉ res.take p := by
  intro hm
  obtain ⟨q, hq, e⟩ := List.mem_iff_getElem.1 hm
  rw [List.getElem_take] at e
  rw [List.length_take] at hq
  have h1 := before_take h (p := q) (by rw [List.getElem?_eq_getElem (by omega), e])
  have : u ∈ res.take p := by
    have := List.mem_of_mem_take (i := q) (l := res.take p) (by rw [List.take_take, Nat.min_eq_left (by omega)]; exact h1)
    exact this
  exact nodup_take hd hp this
end Go.Proofs.Ytnbhdpmhgamjfaa.C

/- Serial execution: the state behind a row of transactions, by key; the order's states. -/
namespace Go.Proofs.Ytnbhdpmhgamjfaa.C
open Go Go.RowKit Hp
set_option linter.unusedVariables false

/-- Does transaction i write the key? -/
def wk (txs : List Tx) (k : ByteArray) (i : Nat) : Bool := (txs.getD i tx0).writes.any (eqS k)
/-- The value of a key once the transactions of a row have run. -/
def cur (txs : List Tx) (val : Nat → Int) (L : List Nat) (k : ByteArray) : Int := L.foldl (fun s i => if wk txs k i then val i else s) 0
theorem cur_filter (txs : List Tx) (val : Nat → Int) (k : ByteArray) (L : List Nat) : cur txs val L k = cur txs val (L.filter (wk txs k)) k := by
  have h : ∀ (L : List Nat) (s : Int), L.foldl (fun s i => if wk txs k i then val i else s) s = (L.filter (wk txs k)).foldl (fun s i => if wk txs k i then val i else s) s := fun L => by
    induction L with
    | nil => intro s; rfl
    | cons i L ih =>
      intro s
      rw [List.foldl_cons, ih]
      cases hw : wk txs k i with
      | true => rw [List.filter_cons_of_pos hw, List.foldl_cons, hw]
      | false => rw [List.filter_cons_of_neg (by rw [hw]; decide)]; rfl
  exact h L 0
theorem cur_snoc (txs : List Tx) (val : Nat → Int) (L : List Nat) (i : Nat) (k : ByteArray) : cur txs val (L ++ [i]) k = if wk txs k i then val i else cur txs val L k := by
  unfold cur; rw [List.foldl_append]; rfl
/-- The admitted ones of the first n. -/
def admL (adm : List Bool) (n : Nat) : List Nat := (List.range n).filter fun i => adm.getD i false
theorem eqS_comm (a b : ByteArray) : eqS a b = eqS b a := by
  unfold eqS
  rw [Bool.eq_iff_iff, beq_iff_eq, beq_iff_eq]
  exact ⟨fun h => h.symm, fun h => h.symm⟩
theorem eqS_trans {a b c : ByteArray} (h1 : eqS a b = true) (h2 : eqS a c = true) : eqS b c = true := by
  unfold eqS at *
  rw [beq_iff_eq] at *
  exact h1.symm.trans h2
theorem inter_of {k : ByteArray} {a b : List ByteArray} (ha : a.any (eqS k) = true) (hb : b.any (eqS k) = true) : inter a b = true := by
  obtain ⟨x, hx, e1⟩ := List.any_eq_true.1 ha
  obtain ⟨y, hy, e2⟩ := List.any_eq_true.1 hb
  unfold inter
  exact List.any_eq_true.2 ⟨x, hx, List.any_eq_true.2 ⟨y, hy, eqS_trans e1 e2⟩⟩
section
variable {l : List Tx} (hv : Valid l) {res : List Int} (hr : topo (free (deps l (admV l) l.length)) (ids (admV l) (admV l).length).length (ids (admV l) (admV l).length) [] = some res)
include hv hr
theorem ord_mem (x : Int) : x ∈ res ↔ ∃ i : Nat, x = (i : Int) ∧ i < l.length ∧ (admV l).getD i false = true := by
  have _ := hv
  have hL : (admV l).length = l.length := by simp [admV, admN_length]
  obtain ⟨tail, e, hm⟩ := topo_tail _ _ _ _ _ rfl hr
  rw [List.nil_append] at e
  subst e
  rw [hm]
  constructor
  · intro h
    unfold ids at h
    obtain ⟨i, hi, e⟩ := List.mem_map.1 h
    obtain ⟨h1, h2⟩ := List.mem_filter.1 hi
    exact ⟨i, e.symm, by simpa [hL] using h1, h2⟩
  · rintro ⟨i, rfl, h1, h2⟩
    exact mem_ids (by omega) h2
theorem ord_nodup : res.Nodup := have _ := hv; topo_nodup _ _ _ _ _ rfl hr (by simpa using ids_nodup _ _)
theorem ord_before {a b : Nat} (ha : a < l.length) (hb : b < l.length) (h : dep l (admV l) a b = true) : Before res (a : Int) (b : Int) := by
  have _ := hv
  have hL : (admV l).length = l.length := by simp [admV, admN_length]
  have hd := h
  unfold dep at hd
  simp only [Bool.and_eq_true, Bool.not_eq_true', beq_eq_false_iff_ne] at hd
  obtain ⟨hne, aa, ab, _⟩ := hd
  exact topo_before _ _ _ _ _ rfl hr _ _ (dep_deps ha hb h) (mem_ids (by omega) aa) (mem_ids (by omega) ab) (fun e => hne (by omega)) (by simp)
theorem ord_len : res.length = (admL (admV l) l.length).length := by
  have _ := hv
  have hL : (admV l).length = l.length := by simp [admV, admN_length]
  have h1 := topo_len _ _ _ _ _ rfl hr
  rw [h1]
  unfold ids admL
  rw [List.length_map, hL]
  simp
/-- The writers of a key go in the order of their commits. -/
theorem ord_asc (k : ByteArray) (p : Nat) : (((res.take p).map Int.toNat).filter (wk l k)).Pairwise (· < ·) := by
  have hd := ord_nodup hv hr
  rw [List.pairwise_filter, List.pairwise_map]
  refine List.Pairwise.sublist (List.take_sublist p res) ?_
  rw [List.pairwise_iff_getElem]
  intro q s hq hs hqs wa wb
  obtain ⟨a, ea, ha, aa⟩ := (ord_mem hv hr res[q]).1 (List.getElem_mem hq)
  obtain ⟨b, eb, hb, ab⟩ := (ord_mem hv hr res[s]).1 (List.getElem_mem hs)
  rw [ea, Int.toNat_natCast] at wa
  rw [eb, Int.toNat_natCast] at wb
  rw [ea, eb, Int.toNat_natCast, Int.toNat_natCast]
  apply Nat.lt_of_not_le
  intro hle
  rcases Nat.lt_or_ge b a with hlt | hge
  · have hB := ord_before hv hr hb ha (ww_dep hv hlt ha ab aa (inter_of wb wa))
    have h1 := before_take hB (p := q) (by rw [List.getElem?_eq_getElem hq, ea])
    have h2 : (b : Int) ∈ res.take s := by
      have := List.mem_of_mem_take (i := q) (l := res.take s) (by rw [List.take_take, Nat.min_eq_left (by omega)]; exact h1)
      exact this
    exact nodup_take hd (by rw [List.getElem?_eq_getElem hs, eb]) h2
  · have : a = b := by omega
    subst this
    have h2 : (a : Int) ∈ res.take s := by
      rw [← ea]
      exact List.mem_iff_getElem.2 ⟨q, by rw [List.length_take]; omega, by rw [List.getElem_take]⟩
    exact nodup_take hd (by rw [List.getElem?_eq_getElem hs, eb]) h2
omit hv hr in
theorem adm_asc (adm : List Bool) (n : Nat) (f : Nat → Bool) : ((admL adm n).filter f).Pairwise (· < ·) := by
  unfold admL
  exact ((List.pairwise_lt_range (n := n)).filter _).filter _
/-- What a transaction reads in the order is what it read when it began. -/
theorem ord_read (val : Nat → Int) {p i n : Nat} (hp : res[p]? = some (i : Int)) (hn : n ≤ i) (h1 : ∀ j, j < n → (l.getD j tx0).commit < (l.getD i tx0).start) (h2 : ∀ j, n ≤ j → j < l.length → (l.getD i tx0).start < (l.getD j tx0).commit)
    {k : ByteArray} (hk : (l.getD i tx0).reads.any (eqS k) = true) : cur l val ((res.take p).map Int.toNat) k = cur l val (admL (admV l) n) k := by
  have hd := ord_nodup hv hr
  obtain ⟨i', ei, hi, ai⟩ := (ord_mem hv hr (i : Int)).1 (List.mem_of_getElem? hp)
  have : i' = i := by omega
  subst this
  clear ei
  rw [cur_filter, cur_filter l val k (admL (admV l) n)]
  congr 1
  refine asc_ext (ord_asc hv hr k p) (adm_asc _ _ _) fun j => ?_
  rw [List.mem_filter, List.mem_filter]
  constructor
  · rintro ⟨hj, hw⟩
    obtain ⟨x, hx, e⟩ := List.mem_map.1 hj
    obtain ⟨j', ej, hjl, aj⟩ := (ord_mem hv hr x).1 (List.mem_of_mem_take hx)
    subst ej
    rw [Int.toNat_natCast] at e
    subst e
    refine ⟨?_, hw⟩
    unfold admL
    refine List.mem_filter.2 ⟨?_, aj⟩
    rw [List.mem_range]
    apply Nat.lt_of_not_le
    intro hge
    by_cases hji : j' = i'
    · subst hji
      exact nodup_take hd hp hx
    · have hc := h2 j' hge hjl
      refine before_not hd (ord_before hv hr hi hjl ?_) hp hx
      unfold dep prec anti
      rw [ai, aj, inter_of hk hw]
      unfold conc
      rw [decide_eq_true hc]
      by_cases hcc : (l.getD j' tx0).start < (l.getD i' tx0).commit
      · rw [decide_eq_true hcc]; simp; omega
      · rw [decide_eq_true (show (l.getD i' tx0).commit ≤ (l.getD j' tx0).start by omega)]; simp; omega
  · rintro ⟨hj, hw⟩
    unfold admL at hj
    obtain ⟨hjn, aj⟩ := List.mem_filter.1 hj
    rw [List.mem_range] at hjn
    have hc := h1 j hjn
    refine ⟨List.mem_map.2 ⟨(j : Int), ?_, by simp⟩, hw⟩
    refine before_take (ord_before hv hr (by omega) hi ?_) hp
    unfold dep prec
    rw [ai, aj, inter_of hw hk, decide_eq_true (show (l.getD j tx0).commit ≤ (l.getD i' tx0).start by omega)]
    simp
    omega
/-- The last state of the order is the last committed one. -/
theorem ord_last (val : Nat → Int) (k : ByteArray) : cur l val (res.map Int.toNat) k = cur l val (admL (admV l) l.length) k := by
  rw [cur_filter, cur_filter l val k (admL (admV l) l.length)]
  congr 1
  have ha := ord_asc hv hr k res.length
  rw [List.take_length] at ha
  refine asc_ext ha (adm_asc _ _ _) fun j => ?_
  rw [List.mem_filter, List.mem_filter]
  refine and_congr_left fun _ => ?_
  unfold admL
  rw [List.mem_map, List.mem_filter, List.mem_range]
  constructor
  · rintro ⟨x, hx, rfl⟩
    obtain ⟨j', rfl, hjl, aj⟩ := (ord_mem hv hr x).1 hx
    rw [Int.toNat_natCast]
    exact ⟨hjl, aj⟩
  · rintro ⟨h1, h2⟩
    exact ⟨(j : Int), (ord_mem hv hr _).2 ⟨j, rfl, h1, h2⟩, by simp⟩
end
end Go.Proofs.Ytnbhdpmhgamjfaa.C

/- The snapshot database under SSI (plain): what a reader at the newest time sees; the puts of a commit. -/
namespace Go.Proofs.Ytnbhdpmhgamjfaa.Sn
open Go Go.RowKit Hp So
open Mv (Val PC PV fm_len Srt SOk pos has has_pos pos_le cnt addL adL latL vacuumL vacL vac_mem cnt_vac lastTs getD_mem mem_has has_mem look_ad look_vac vis1 vis_vac visL visL_last getL_look latL_look last_lt cnt_ad look_none)
set_option linter.unusedVariables false

def rowI (n : Int) : List Val := [⟨1, n, ByteArray.empty⟩]
/-- A reader at the newest time, or later, sees the values of g (a missing key is zero). -/
def Rd (d : Db) (g : ByteArray → Int) : Prop := ∀ k ts, d.clock ≤ ts → (vis1 (Mv.look d.st k) ts = none ∧ g k = 0) ∨ vis1 (Mv.look d.st k) ts = some (rowI (g k))
theorem rd0 : Rd db0 fun _ => 0 := fun k ts _ => .inl ⟨by rw [look_none (l := db0.st) List.Pairwise.nil (fun vs h => by cases h)]; rfl, rfl⟩
theorem Rd.beg {d : Db} {g : ByteArray → Int} (h : Rd d g) : Rd (begD d) g := h
theorem Rd.put {d : Db} {g : ByteArray → Int} (h : Rd d g) (id : Int) (l : WL) : Rd (putW d id l) g := h
/-- What a vacuum leaves is a tail of what was there. -/
theorem fin_look {d : Db} (ok : DOk d) (id : Int) (k : ByteArray) : ∃ m, Mv.look (finI d id).st k = (Mv.look d.st k).drop m ∧ ∀ ts, d.clock ≤ ts → vis1 ((Mv.look d.st k).drop m) ts = vis1 (Mv.look d.st k) ts := by
  obtain ⟨h1, h2, h3, h4⟩ := fin_hz ok (tidx d.act id).toNat
  have e : (finI d id).st = (vacuumL d.st d.hz (oldL d.clock (d.act.eraseIdx (tidx d.act id).toNat))).1 := rfl
  rcases h4 with h4 | h4
  · exact ⟨0, by rw [e, h4, List.drop_zero], fun ts _ => by rw [List.drop_zero]⟩
  · refine ⟨_, by rw [e, h4]; exact look_vac ok.st k, fun ts hts => vis_vac _ (by omega)⟩
theorem Rd.fin {d : Db} {g : ByteArray → Int} (h : Rd d g) (ok : DOk d) (id : Int) : Rd (finI d id) g := fun k ts hts => by
  obtain ⟨m, e, hv⟩ := fin_look ok id k
  rw [e, hv ts hts]
  exact h k ts hts
theorem get_rd {d : Db} {g : ByteArray → Int} (h : Rd d g) (ok : DOk d) {t : Tr} (hw : t.w = []) (hs : t.start = d.clock) (k : ByteArray) : (getT d t k = ([], 4) ∧ g k = 0) ∨ getT d t k = (rowI (g k), 0) := by
  unfold getT
  rw [hw, if_neg (by simp [has]), getL_look _ _ _ _ (by have := ok.hz; omega), hs]
  rcases h k d.clock (Int.le_refl _) with ⟨e, e2⟩ | e
  · exact .inl ⟨by rw [e], e2⟩
  · exact .inr (by rw [e])
/-! ### The puts of one commit -/
theorem put1 {l : List PC} {hz : Int} (h : SOk l hz) {k : ByteArray} {v : PV} (hk : k.size ≤ 24) (hr : v.row.length ≤ 6) (h1 : 1 ≤ v.ts) (h2 : v.ts ≤ 1099511627776) (hh : hz < v.ts) (hl : ∀ u ∈ Mv.look l k, u.ts < v.ts) (hc : cnt l < 400) :
    (addL l hz k v).1 = adL l k v ∧ SOk (adL l k v) hz := by
  have hl2 : ∀ hh : has l k = true, ∀ u ∈ (l.getD (pos l k) (k, [])).2, u.ts < v.ts := fun hh u hu => hl u (by unfold Mv.look; rw [if_pos hh]; exact hu)
  constructor
  · unfold addL adL
    rw [if_neg (by omega), if_neg (by omega), if_neg (by omega), if_neg, if_neg (by omega)]
    · by_cases h : has l k = true
      · rw [if_pos h, if_pos h]
      · rw [if_neg h, if_neg h]
    · rintro ⟨h3, h4⟩
      have := last_lt (t := v.ts) (by omega) (hl2 h3)
      omega
  · unfold adL
    split
    · rename_i hh2
      obtain ⟨hp, e, ek⟩ := getD_mem hh2
      have := hl2 hh2
      rw [e] at this ⊢
      exact h.set (fun _ => trivial) hp ek hr ⟨h1, h2⟩ (last_lt (by omega) this) (by omega)
    · rename_i hh2
      exact h.ins hk (by simpa using hh2) hr ⟨h1, h2⟩ (by omega)
theorem eqS_iff {a b : ByteArray} : C.eqS a b = true ↔ a = b := by
  unfold C.eqS
  rw [beq_iff_eq, tl, tl]
  exact ⟨fun h => ba_inj h, fun h => by rw [h]⟩
theorem any_mem {k : ByteArray} {ks : List ByteArray} : ks.any (C.eqS k) = true ↔ k ∈ ks := by
  rw [List.any_eq_true]
  constructor
  · rintro ⟨x, hx, e⟩
    rw [eqS_iff.1 e]; exact hx
  · intro h
    exact ⟨k, h, eqS_iff.2 rfl⟩
def wfind (l : WL) (k : ByteArray) (ts : Int) : List PV := match l.find? fun x => decide (x.1 = k) with | some x => [wrV x.2 ts] | none => []
theorem wrV_ts (x : Wr) (ts : Int) : (wrV x ts).ts = ts := by unfold wrV; split <;> rfl
theorem putAll_look (hz ts : Int) (h1 : 1 ≤ ts) (h2 : ts ≤ 1099511627776) (hh : hz < ts) : ∀ (l : WL) (st : List PC), SOk st hz → Srt l → (∀ x ∈ l, x.1.size ≤ 24 ∧ x.2.row.length ≤ 6) → (∀ x ∈ l, ∀ u ∈ Mv.look st x.1, u.ts < ts) → cnt st + l.length ≤ 400 →
    SOk (putAll st hz ts l) hz ∧ ∀ k, Mv.look (putAll st hz ts l) k = Mv.look st k ++ wfind l k ts
  | [], st, ok, _, _, _, _ => ⟨ok, fun k => by rw [show wfind [] k ts = [] from rfl, List.append_nil]; rfl⟩
  | x :: l, st, ok, hs, hk, hl, hc => by
    obtain ⟨hs1, hs2⟩ := List.pairwise_cons.1 hs
    obtain ⟨hx1, hx2⟩ := hk x (List.mem_cons_self ..)
    rw [List.length_cons] at hc
    have hr : (wrV x.2 ts).row.length ≤ 6 := by
      unfold wrV
      split
      · exact Nat.zero_le _
      · exact hx2
    obtain ⟨e1, ok1⟩ := put1 (v := wrV x.2 ts) ok hx1 hr (by rw [wrV_ts]; exact h1) (by rw [wrV_ts]; exact h2) (by rw [wrV_ts]; exact hh) (by rw [wrV_ts]; exact hl x (List.mem_cons_self ..)) (by omega)
    have lk := look_ad (hz := hz) ok.srt x.1 (wrV x.2 ts) ok1.srt
    have hne : ∀ y ∈ l, y.1 ≠ x.1 := fun y hy e => by
      have := hs1 y hy
      rw [e] at this
      exact So.slt_irrefl _ this
    have es : putAll st hz ts (x :: l) = putAll (adL st x.1 (wrV x.2 ts)) hz ts l := by
      show putAll (addL st hz x.1 (wrV x.2 ts)).1 hz ts l = _
      rw [e1]
    obtain ⟨i1, i2⟩ := putAll_look hz ts h1 h2 hh l _ ok1 hs2 (fun y hy => hk y (List.mem_cons_of_mem _ hy)) (fun y hy u hu => by
      rw [lk, if_neg (hne y hy)] at hu
      exact hl y (List.mem_cons_of_mem _ hy) u hu) (by rw [cnt_ad]; omega)
    rw [es]
    refine ⟨i1, fun k => ?_⟩
    rw [i2, lk]
    by_cases e : k = x.1
    · subst e
      have en : l.find? (fun y => decide (y.1 = x.1)) = none := List.find?_eq_none.2 fun y hy => by simpa using hne y hy
      unfold wfind
      rw [if_pos rfl, en, List.find?_cons_of_pos (by simp)]
      simp
    · rw [if_neg e]
      unfold wfind
      rw [List.find?_cons_of_neg (by simp; exact fun h => e h.symm)]
/-- The buffered writes of one value. -/
structure WOk (w : WL) (ks : List ByteArray) (n : Int) : Prop where
  val : ∀ x ∈ w, x.2 = ⟨false, rowI n⟩ ∧ x.1 ∈ ks
  all : ∀ k ∈ ks, ∃ x ∈ w, x.1 = k
  len : w.length ≤ ks.length
theorem wok0 (n : Int) : WOk [] [] n := ⟨fun x hx => (by cases hx), fun k hk => (by cases hk), Nat.le_refl _⟩
theorem wput_keep {l : WL} {k : ByteArray} {x : Wr} : (k, x) ∈ wput l k x ∧ ∀ y ∈ l, y.1 ≠ k → y ∈ wput l k x := by
  unfold wput
  split
  · rename_i hh
    obtain ⟨hp, ek⟩ := has_pos hh
    refine ⟨List.mem_set hp _, fun y hy hne => ?_⟩
    obtain ⟨j, hj, rfl⟩ := List.getElem_of_mem hy
    have : pos l k ≠ j := fun e => by subst e; exact hne ek
    exact List.mem_iff_getElem.2 ⟨j, by simpa using hj, by rw [List.getElem_set_ne this]⟩
  · refine ⟨by simp, fun y hy hne => ?_⟩
    rw [← List.take_append_drop (pos l k) l] at hy
    rcases List.mem_append.1 hy with h | h
    · exact List.mem_append.2 (.inl h)
    · exact List.mem_append.2 (.inr (List.mem_cons_of_mem _ h))
theorem wok_put {w : WL} {ks : List ByteArray} {n : Int} (h : WOk w ks n) (k : ByteArray) : WOk (wput w k ⟨false, rowI n⟩) (ks ++ [k]) n := by
  refine ⟨fun x hx => ?_, fun k' hk => ?_, ?_⟩
  · rcases wput_mem hx with hx | rfl
    · exact ⟨(h.val x hx).1, List.mem_append_left _ (h.val x hx).2⟩
    · exact ⟨rfl, by simp⟩
  · by_cases e : k' = k
    · subst e; exact ⟨_, wput_keep.1, rfl⟩
    · rcases List.mem_append.1 hk with hk | hk
      · obtain ⟨y, hy, rfl⟩ := h.all k' hk
        exact ⟨y, wput_keep.2 y hy e, rfl⟩
      · exact absurd (List.mem_singleton.1 hk) e
  · have := (wput_pos w k ⟨false, rowI n⟩).2
    have := h.len
    simp; omega
theorem wok_find {w : WL} {ks : List ByteArray} {n : Int} (h : WOk w ks n) (k : ByteArray) (ts : Int) : wfind w k ts = if ks.any (C.eqS k) = true then [⟨ts, false, rowI n⟩] else [] := by
  unfold wfind
  cases hf : w.find? fun x => decide (x.1 = k) with
  | none =>
    rw [List.find?_eq_none] at hf
    rw [if_neg]
    intro hk
    obtain ⟨y, hy, e⟩ := h.all k (any_mem.1 hk)
    have := hf y hy
    simp [e] at this
  | some x =>
    have hm := List.mem_of_find?_eq_some hf
    have he := List.find?_some hf
    simp only [decide_eq_true_eq] at he
    obtain ⟨e2, hk⟩ := h.val x hm
    rw [he] at hk
    rw [if_pos (any_mem.2 hk)]
    show [wrV x.2 ts] = _
    rw [e2]
    rfl
theorem look_mem {l : List PC} {k : ByteArray} {u : PV} (h : u ∈ Mv.look l k) : ∃ c ∈ l, u ∈ c.2 := by
  by_cases hh : has l k = true
  · exact ⟨_, has_mem hh, h⟩
  · unfold Mv.look at h
    rw [if_neg hh] at h
    cases h
theorem vis_one {l : List PV} {ts : Int} {v : PV} (h : v.ts ≤ ts) (ht : v.tomb = false) : vis1 (l ++ [v]) ts = some v.row := by
  unfold vis1
  rw [visL_last h]
  simp [ht]
theorem com_law {d : Db} (ok : DOk d) {id : Int} {t : Tr} (ht : tr d id = some t) {ks : List ByteArray} {n : Int} (hw : WOk t.w ks n) {g : ByteArray → Int} (hR : Rd d g) (hnc : ∀ k ∈ ks, ∀ u ∈ Mv.look d.st k, u.ts ≤ t.start)
    (hc : cnt d.st + ks.length ≤ 400) :
    (comP d id).2.2 = 0 ∧ Rd (comP d id).1 (fun k => if ks.any (C.eqS k) = true then n else g k) ∧ (comP d id).1.act = (finI d id).act ∧ (comP d id).1.last = d.last ∧ d.clock ≤ (comP d id).1.clock ∧ (comP d id).1.clock ≤ d.clock + 1 ∧
      cnt (comP d id).1.st ≤ cnt d.st + ks.length ∧ ∀ k, ∀ u ∈ Mv.look (comP d id).1.st k, u ∈ Mv.look d.st k ∨ k ∈ ks := by
  obtain ⟨_, hi, e0, _, hm⟩ := tr_at ht
  have hlen := hw.len
  have hst := ok.start t hm
  have hz := ok.hz
  have hcl := ok.clock
  obtain ⟨fok, fcnt⟩ := fin_ok ok (tidx d.act id).toNat
  have ncf : conf d t = false := by
    unfold conf
    rw [List.any_eq_false]
    intro x hx
    obtain ⟨_, hk⟩ := hw.val x hx
    have : latL d.st x.1 ≤ t.start := by
      rw [latL_look]
      unfold lastTs
      rw [List.getLastD_eq_getLast?]
      cases hl : (Mv.look d.st x.1).getLast? with
      | none => show (0 : Int) ≤ _; omega
      | some v => exact hnc _ hk v (List.mem_of_getLast? hl)
    simp; omega
  have fsub : ∀ k, ∀ u ∈ Mv.look (finI d id).st k, u ∈ Mv.look d.st k := fun k u hu => by
    obtain ⟨m, e, _⟩ := fin_look ok id k
    rw [e] at hu
    exact List.mem_of_mem_drop hu
  rw [com_tr ht, if_neg (by rw [ncf]; decide), if_neg (by omega)]
  by_cases hw0 : t.w.length = 0
  · have ks0 : ks = [] := by
      apply List.eq_nil_iff_forall_not_mem.2
      intro k hk
      obtain ⟨x, hx, _⟩ := hw.all k hk
      rw [List.length_eq_zero_iff.1 hw0] at hx
      cases hx
    subst ks0
    rw [if_pos hw0]
    refine ⟨rfl, fun k ts hts => ?_, rfl, rfl, Int.le_refl _, by show d.clock ≤ _; omega, by show cnt (finI d id).st ≤ _; exact Nat.le_trans fcnt (Nat.le_add_right _ _), fun k u hu => .inl (fsub k u hu)⟩
    simpa using hR.fin ok id k ts hts
  · rw [if_neg hw0]
    have fhz : (finI d id).hz ≤ d.clock := by have := fok.hz; exact this.2
    obtain ⟨_, hpl⟩ := putAll_look (finI d id).hz (d.clock + 1) (by omega) (by omega) (by omega) t.w (finI d id).st fok.st (ok.srt t hm) (ok.key t hm) (fun x hx u hu => by
      obtain ⟨c, hc, hu2⟩ := look_mem (fsub _ u hu)
      have := ok.ts c hc u hu2
      omega) (by have : cnt (finI d id).st ≤ cnt d.st := fcnt; omega)
    refine ⟨rfl, fun k ts hts => ?_, rfl, rfl, by show d.clock ≤ d.clock + 1; omega, Int.le_refl _, ?_, fun k u hu => ?_⟩
    · show (vis1 (Mv.look (putAll (finI d id).st (finI d id).hz (d.clock + 1) t.w) k) ts = none ∧ _) ∨ vis1 (Mv.look (putAll (finI d id).st (finI d id).hz (d.clock + 1) t.w) k) ts = _
      have hts' : d.clock + 1 ≤ ts := hts
      rw [hpl, wok_find hw]
      by_cases hk : ks.any (C.eqS k) = true
      · rw [if_pos hk]
        exact .inr (by rw [vis_one hts' rfl]; simp only [hk, if_true])
      · rw [if_neg hk, List.append_nil]
        simp only [hk]
        exact hR.fin ok id k ts (by show d.clock ≤ ts; omega)
    · refine Nat.le_trans (putAll_cnt (finI d id).hz (d.clock + 1) t.w (finI d id).st) ?_
      have : cnt (finI d id).st ≤ cnt d.st := fcnt
      omega
    · have hu' : u ∈ Mv.look (putAll (finI d id).st (finI d id).hz (d.clock + 1) t.w) k := hu
      rw [hpl, wok_find hw] at hu'
      rcases List.mem_append.1 hu' with h | h
      · exact .inl (fsub k u h)
      · by_cases hk : ks.any (C.eqS k) = true
        · exact .inr (any_mem.1 hk)
        · rw [if_neg hk] at h; cases h
end Go.Proofs.Ytnbhdpmhgamjfaa.Sn
