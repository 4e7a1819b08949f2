/- SnapshotFirstCommitterWins: the plain part. -/
import Derived.Test.YtinmpodnfofmdaaSnv
import Derived.Test.YtinmpodnfofmdaaSnw
import Derived.Test.YtinmpodnfofmdaaDli
namespace Go.Proofs.Ytinmpodnfofmdaa.Sn
open Go Go.RowKit Hp
open Mv (Val PC PV rowC rowC_one fm_len fm_take fm_drop fm_get fm_set fm_one RowIn StR Srt SOk pos has fx_lt fx_up ty_chg has_pos pos_le vacuumL cloneR latL cnt addL adL rowV kA row_any getL GetPost lastTs vdrop vacL vis1 visL)
set_option linter.unusedVariables false

theorem put_tr {d : Db} (ok : DOk d) {id : Int} {t : Tr} (ht : tr d id = some t) (hw : t.w = []) {k : ByteArray} {x : Wr} (hk : k.size ≤ 24) (hr : x.row.length ≤ 6) : bufP d id k x = (putW d id [(k, x)], 0) := by
  rw [buf_tr ok ht hk hr, hw, if_neg (by simp)]
  rfl
theorem add_st {d : Db} (ok : DOk d) (hc : cnt d.st < 400) (hcl : d.clock < 1000000) {k : ByteArray} {x : Wr} (hk : k.size ≤ 24) (hr : x.row.length ≤ 6) :
    (addL d.st d.hz k (wrV x (d.clock + 1))).1 = adL d.st k (wrV x (d.clock + 1)) ∧ SOk (adL d.st k (wrV x (d.clock + 1))) d.hz := by
  have h1 := ok.clock
  have h2 := ok.hz
  have e : (wrV x (d.clock + 1)).ts = d.clock + 1 := by unfold wrV; split <;> rfl
  have er : (wrV x (d.clock + 1)).row.length ≤ 6 := by unfold wrV; split <;> simp <;> exact hr
  have hl : ∀ c ∈ d.st, ∀ u ∈ c.2, u.ts < (wrV x (d.clock + 1)).ts := fun c hc u hu => by have := ok.ts c hc u hu; rw [e]; omega
  refine ⟨?_, ok.st.adL hk er (by rw [e]; omega) (by rw [e]; omega) hl hc⟩
  rw [Mv.addL_ok hk er (by rw [e]; omega) (by rw [e]; omega) (by rw [e]; omega) hl hc]
def kK : ByteArray := { data := #[107] }
theorem rowV_len (x : Int) : (rowV x).length ≤ 6 := by simp [rowV]
structure J (d : Db) (c f : Int) (n : Nat) : Prop where
  clock : d.clock = c
  c0 : 0 ≤ c ∧ c ≤ 150
  last : d.last + 1 = f + n
  f1 : 1 ≤ f ∧ f ≤ 151
  cnt : Mv.cnt d.st ≤ 150
  act : d.act.length ≤ 4 + n
  tr : ∀ j : Nat, j < n → tr d (f + j) = some ⟨f + j, c, [(kK, ⟨false, rowV (100 + j)⟩)]⟩
theorem j_zero {d : Db} (ok : DOk d) (h1 : d.act.length ≤ 4) (hm : mass d ≤ 150) (hc : d.clock ≤ 150) (hl : d.last ≤ 150) : J d d.clock (d.last + 1) 0 :=
  ⟨rfl, ⟨ok.clock.1, hc⟩, by simp, by have := ok.last; omega, by unfold mass at hm; omega, h1, fun j hj => by omega⟩
theorem j_beg {d : Db} {c f : Int} {n : Nat} (ok : DOk d) (h : J d c f n) : tr (begD d) (d.last + 1) = some ⟨d.last + 1, c, []⟩ := by rw [tr_beg ok, if_pos rfl, h.clock]
theorem j_put {d : Db} {c f : Int} {n : Nat} (ok : DOk d) (ok1 : DOk (begD d)) (h : J d c f n) : (bufP (begD d) (d.last + 1) kK ⟨false, rowV (100 + n)⟩).2 = 0 ∧ J (bufP (begD d) (d.last + 1) kK ⟨false, rowV (100 + n)⟩).1 c f (n + 1) := by
  have hl := h.last
  rw [put_tr ok1 (j_beg ok h) rfl (by decide) (rowV_len _)]
  refine ⟨rfl, ⟨h.clock, h.c0, by show d.last + 1 + 1 = _; omega, h.f1, h.cnt, ?_, fun j hj => ?_⟩⟩
  · show ((d.act ++ [_]).map _).length ≤ _
    rw [List.length_map, List.length_append]
    have := h.act
    simp; omega
  · rcases Nat.lt_or_ge j n with hj | hj
    · rw [tr_put_other (by omega), tr_beg ok, if_neg (by omega)]
      exact h.tr j hj
    · obtain rfl : j = n := by omega
      rw [show f + (j : Int) = d.last + 1 by omega]
      exact tr_put_same (j_beg ok h) _
/-- The writers' numbers. -/
def idl (f : Int) (n : Nat) : List Int := (List.range n).map fun (j : Nat) => f + j
theorem idl_succ (f : Int) (n : Nat) : idl f (n + 1) = idl f n ++ [f + n] := by unfold idl; rw [List.range_succ, List.map_append]; rfl
theorem idl_len (f : Int) (n : Nat) : (idl f n).length = n := by unfold idl; simp
theorem idl_get (f : Int) (n j : Nat) (h : j < (idl f n).length) : (idl f n)[j] = f + j := by simp [idl]
theorem idl_srt (f : Int) (n : Nat) : (idl f n).Pairwise (· < ·) := by
  refine List.pairwise_iff_getElem.2 fun i j hi hj hij => ?_
  rw [idl_get, idl_get]; omega
structure Q (d : Db) (c : Int) (x : List Val) (L : List Int) : Prop where
  clock : d.clock = c + 1
  c0 : 0 ≤ c ∧ c ≤ 150
  last : d.last ≤ 1000
  act : d.act.length ≤ 10
  srt : L.Pairwise (· < ·)
  tr : ∀ id ∈ L, ∃ r, tr d id = some ⟨id, c, [(kK, r)]⟩
  lk : ∃ pre, Mv.look d.st kK = pre ++ [⟨c + 1, false, x⟩]
theorem fin_act (d : Db) (id : Int) : (finI d id).act.length ≤ d.act.length := (List.eraseIdx_sublist _ _).length_le
theorem keep_tr {d : Db} (ok : DOk d) {id : Int} {t : Tr} (h : tr d id = some t) {L : List Int} (hs : L.Pairwise (· < ·)) {k : Nat} (hk : k < L.length) (he : L[k] = id) {c : Int} (hL : ∀ i ∈ L, ∃ r, tr d i = some ⟨i, c, [(kK, r)]⟩) : ∀ i ∈ L.eraseIdx k, ∃ r, tr (finI d id) i = some ⟨i, c, [(kK, r)]⟩ := fun i hi => by
  have hne : i ≠ id := fun e => by
    rw [e, ← he] at hi
    obtain ⟨j, hj, e2⟩ := List.getElem_of_mem hi
    rw [List.getElem_eraseIdx] at e2
    have hlen : (L.eraseIdx k).length = L.length - 1 := List.length_eraseIdx_of_lt hk
    split at e2
    · rename_i h1
      have := List.pairwise_iff_getElem.1 hs j k (by omega) hk h1
      omega
    · rename_i h1
      have := List.pairwise_iff_getElem.1 hs k (j + 1) hk (by omega) (by omega)
      omega
  rw [tr_fin ok h, if_neg hne]
  exact hL i (List.mem_of_mem_eraseIdx hi)
theorem drop_last {l : List PV} {pre : List PV} {v : PV} (h : l = pre ++ [v]) (ht : v.tomb = false) (ts : Int) : ∃ pre', l.drop (vdrop l ts) = pre' ++ [v] := by
  have hl : l.length = pre.length + 1 := by rw [h]; simp
  have hle : vdrop l ts ≤ pre.length := by
    have hf : l.findIdx (fun v => decide (ts < v.ts)) ≤ l.length := List.findIdx_le_length
    unfold vdrop
    split
    · rename_i hc
      rcases Nat.lt_or_ge (l.findIdx (fun v => decide (ts < v.ts))) l.length with h1 | h1
      · omega
      · exfalso
        have e : l.findIdx (fun v => decide (ts < v.ts)) - 1 = pre.length := by omega
        rw [e] at hc
        have : l.getD pre.length ⟨0, false, []⟩ = v := by rw [h]; simp [List.getD]
        rw [this, ht] at hc
        exact absurd hc.2 (by decide)
    · omega
  exact ⟨pre.drop (vdrop l ts), by rw [h] at hle ⊢; rw [List.drop_append_of_le_length hle]⟩
theorem fin_look {d : Db} (ok : DOk d) (i : Nat) {k : ByteArray} {pre : List PV} {v : PV} (h : Mv.look d.st k = pre ++ [v]) (ht : v.tomb = false) : ∃ pre', Mv.look (finD d i).st k = pre' ++ [v] := by
  obtain ⟨_, _, _, h4⟩ := fin_hz ok i
  unfold finD
  rcases h4 with h4 | h4 <;> rw [h4]
  · exact ⟨pre, h⟩
  · show ∃ pre', Mv.look (vacL d.st _) k = _
    rw [Mv.look_vac ok.st, h]
    exact drop_last rfl ht _
theorem q_first {d : Db} {c f : Int} {n : Nat} (ok : DOk d) (h : J d c f n) (hn : n ≤ 6) {k : Nat} (hk : k < n) :
    (comP d (f + k)).2 = (c + 1, 0) ∧ Q (comP d (f + k)).1 c (rowV (100 + k)) ((idl f n).eraseIdx k) := by
  have hc := h.cnt
  have hcl := h.clock
  have hc0 := h.c0
  have hl := h.last
  have hf1 := h.f1
  have ht := h.tr k hk
  obtain ⟨ok1, hcn⟩ := fin_ok ok (tidx d.act (f + k)).toNat
  have hcn2 : Mv.cnt (finI d (f + k)).st ≤ Mv.cnt d.st := hcn
  have ok1' : DOk (finI d (f + k)) := ok1
  have hc1 : (finI d (f + k)).clock = d.clock := rfl
  rw [com_tr ht, conf_solo ok (by rw [hcl]; exact Int.le_refl _), if_neg (by decide), if_neg (by simp; omega), if_neg (by simp)]
  obtain ⟨e, o⟩ := add_st (k := kK) (x := ⟨false, rowV (100 + k)⟩) ok1' (by omega) (by omega) (by decide) (rowV_len _)
  have hki : k < (idl f n).length := by rw [idl_len]; exact hk
  refine ⟨by rw [hcl], ⟨by show d.clock + 1 = _; rw [hcl], hc0, by show d.last ≤ _; omega, by have := fin_act d (f + k); have := h.act; show (finI d (f + k)).act.length ≤ _; omega, (idl_srt f n).sublist (List.eraseIdx_sublist _ _), ?_, ?_⟩⟩
  · refine keep_tr ok ht (idl_srt f n) hki (idl_get _ _ _ _) (c := c) fun i hi => ?_
    obtain ⟨j, hj, rfl⟩ := List.getElem_of_mem hi
    rw [idl_get]
    rw [idl_len] at hj
    exact ⟨_, h.tr j hj⟩
  · show ∃ pre, Mv.look (putAll (finI d (f + k)).st (finI d (f + k)).hz (d.clock + 1) [(kK, ⟨false, rowV (100 + k)⟩)]) kK = _
    have E2 : putAll (finI d (f + k)).st (finI d (f + k)).hz (d.clock + 1) [(kK, ⟨false, rowV (100 + k)⟩)] = (addL (finI d (f + k)).st (finI d (f + k)).hz kK (wrV ⟨false, rowV (100 + k)⟩ ((finI d (f + k)).clock + 1))).1 := rfl
    rw [E2, e, Mv.look_ad (hz := (finI d (f + k)).hz) ok1'.st.srt kK _ o.srt, if_pos rfl, hc1, hcl]
    exact ⟨_, rfl⟩
theorem q_next {d : Db} {c : Int} {x : List Val} {L : List Int} (ok : DOk d) (h : Q d c x L) {k : Nat} (hk : k < L.length) : (comP d L[k]).2 = (0, 13) ∧ Q (comP d L[k]).1 c x (L.eraseIdx k) := by
  obtain ⟨r, ht⟩ := h.tr _ (List.getElem_mem hk)
  obtain ⟨pre, hp⟩ := h.lk
  have hcf : conf d ⟨L[k], c, [(kK, r)]⟩ = true := by
    unfold conf
    rw [List.any_eq_true]
    refine ⟨_, List.mem_singleton.2 rfl, decide_eq_true ?_⟩
    show c < latL d.st kK
    rw [Mv.latL_look, hp]
    unfold lastTs
    simp
    omega
  rw [com_tr ht, hcf, if_pos rfl]
  exact ⟨rfl, ⟨h.clock, h.c0, h.last, Nat.le_trans (fin_act d _) h.act, h.srt.sublist (List.eraseIdx_sublist _ _), keep_tr ok ht h.srt hk rfl h.tr, fin_look ok _ hp rfl⟩⟩
theorem q_get {d : Db} {c : Int} {x : List Val} {L : List Int} (ok : DOk d) (ok1 : DOk (begD d)) (h : Q d c x L) : tr (begD d) (d.last + 1) = some ⟨d.last + 1, c + 1, []⟩ ∧ getT (begD d) ⟨d.last + 1, c + 1, []⟩ kK = (x, 0) := by
  obtain ⟨pre, hp⟩ := h.lk
  have hz := ok.hz
  refine ⟨by rw [tr_beg ok, if_pos rfl, h.clock], ?_⟩
  unfold getT
  rw [if_neg (by simp [has, pos])]
  show getL d.st d.hz kK (c + 1) = _
  rw [Mv.getL_look _ _ _ _ (by have := h.clock; omega), hp]
  have : vis1 (pre ++ [⟨c + 1, false, x⟩]) (c + 1) = some x := by unfold vis1; rw [Mv.visL_last (Int.le_refl _)]; rfl
  rw [this]
end Go.Proofs.Ytinmpodnfofmdaa.Sn
