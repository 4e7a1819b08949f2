/- joined: Tyd, Tye -/
import Derived.Test.YtnbhdpmhgamjfaaTyc
import Derived.Maps.Own
import Derived.Maps.OwnSet
import Derived.Maps.Views
import Derived.StringKeys
/- Top 16: contracts of the law's small functions. -/
namespace Go.Proofs.Ytnbhdpmhgamjfaa.Sn
open Go Go.RowKit Hp So
open Mv (Val PC PV fm_len Srt SOk pos has cnt rowC valC)
set_option linter.unusedVariables false

theorem rvmod_any (k m : Int) (w : World) (h0 : 0 < m) (h1 : m ≤ 1000000) : Calls Try.prog 5 #[.int .i64 k, .int .i64 m] w fun e w' => e = .returned (.int .i64 (modV k m)) ∧ w = w' := by
  have HD := Lib.hid (mod_eq k m h0 h1)
  go_enter Try.func5, Try.ntmps5
  go_wp2
  go_ret
  exact ⟨by simp [HD.out], rfl⟩
theorem Try.strV : (Try.prog.underlying 47).map (fun d => match d with | .struct _ => true | _ => false) = some true := by kernel_rfl
theorem Try.sizeV : (Try.prog.info? 47).map (·.size) = some 3 := by kernel_rfl
theorem rvint_any (k : Int) (w : World) : Calls Try.prog 11 #[.int .i64 k] w fun e w' => e = .returned (.agg #[.int .i64 1, .int .i64 k, .string ByteArray.empty]) ∧ Up w w' := by
  obtain ⟨fs, hd⟩ : ∃ fs, Try.prog.underlying 47 = some (.struct fs) := by
    have := Try.strV
    cases h : Try.prog.underlying 47 with
    | none => rw [h] at this; cases this
    | some d => rw [h] at this; cases d <;> first | exact ⟨_, rfl⟩ | cases this
  have HD := Lib.hid hd
  clear hd
  go_enter Try.func11, Try.ntmps11
  go_wp2
  have hend := Blk.new w #[.int .i64 1, .int .i64 k, .string ByteArray.empty] 47
  refine bodyPost_ret (results_cell_row rfl _ _ w.heap.size 47 #[.int .i64 1, .int .i64 k, .string ByteArray.empty] (0, 0) (.struct fs) rfl hend HD.out rfl Try.sizeV) rfl ?_
  exact ⟨rfl, (Up.refl w).alloc _⟩
set_option maxHeartbeats 1000000 in
theorem sumof_any (v : Value) (n : Int) (w : World) (hs : w.ownsRow 0 47 3 v (rowI n).length (rowC (rowI n))) (h0 : -1000 ≤ n) (h1 : n ≤ 1000) : Calls Try.prog 17 #[v] w fun e w' => e = .returned (.int .i64 n) ∧ Up w w' := by
  obtain ⟨a, c, rfl, hc1, hc2, hc3⟩ := own_form hs
  have hsrc := own_src hs
  obtain ⟨b, off, rfl, hat⟩ := Mv.src_at hsrc Nat.zero_lt_one
  have k0 := (hat 0 (.int .i64 1) rfl).2
  have k1 := (hat 1 (.int .i64 n) rfl).2
  have k2 := (hat 2 (.string ByteArray.empty) rfl).2
  have hb := (hat 0 (.int .i64 1) rfl).1
  rw [Nat.add_zero] at k0
  have hl : (rowI n).length = 1 := rfl
  rw [hl] at hc1 ⊢
  clear hs hsrc hat hc3
  go_enter Try.func17, Try.ntmps17
  go_wp2
  go_loopw [3, 8] (fun sv iv wr => Up w wr ∧ ((sv = .int .i64 0 ∧ iv = .int .i64 0) ∨ (sv = .int .i64 n ∧ iv = .int .i64 1))) (fun _ iv _ => 1 - (intOf iv).toNat)
  case atStart => exact ⟨Up.refl w, .inl ⟨rfl, rfl⟩⟩
  case round =>
    obtain ⟨hu, hst⟩ := hrel
    rcases hst with ⟨rfl, rfl⟩ | ⟨rfl, rfl⟩
    · have k0' := (show At w b (off) _ from ⟨hb, k0⟩).grow hu
      have k1' := (show At w b (off + 1) _ from ⟨hb, k1⟩).grow hu
      have k2' := (show At w b (off + 2) _ from ⟨hb, k2⟩).grow hu
      have k0 := k0'.2
      have k1 := k1'.2
      have k2 := k2'.2
      have hb2 := k0'.1
      clear k0' k1' k2'
      go_wp2
      go_roundw
      case rel => exact ⟨hu.alloc _, .inr ⟨by go_num, rfl⟩⟩
      case measure => simp [intOf]
    · go_wp2
      go_ret
      exact ⟨rfl, hu⟩
/-- One ended transaction: its number, its times and keys, the values it read. -/
structure Rec where
  id : Int
  tx : C.Tx
  read : List Int
def rvF (n r : Int) : Int := (wrap64 (wrap64 (n * 7) + r)).tmod 1000
def resV (r : Rec) : Int := r.read.foldl rvF r.id
def RecV (w : World) (v : Value) (r : Rec) : Prop := ∃ rv wv xv, v = .agg #[.int .i64 r.id, .int .i64 r.tx.start, .int .i64 r.tx.commit, rv, wv, xv] ∧ Strs w rv r.tx.reads ∧ Strs w wv r.tx.writes ∧ Ints w xv r.read
set_option maxHeartbeats 1000000 in
theorem result_any (v : Value) (r : Rec) (w : World) (h : RecV w v r) : Calls Try.prog 12 #[v] w fun e w' => e = .returned (.int .i64 (resV r)) ∧ Up w w' := by
  obtain ⟨rv, wv, xv, rfl, _, _, hx⟩ := h
  obtain ⟨a, c, rfl, h1, h2, h0, h3⟩ := hx
  have H3 := Lib.hid h3
  have H0 := Lib.hid h0
  clear h3 h0
  go_enter Try.func12, Try.ntmps12
  go_wp2
  go_loopw [3, 11] (fun nv iv wr => ∃ k : Nat, k ≤ r.read.length ∧ iv = .int .i64 k ∧ nv = .int .i64 ((r.read.take k).foldl rvF r.id) ∧ Up w wr) (fun _ iv _ => r.read.length - (intOf iv).toNat)
  case atStart => exact ⟨0, by omega, rfl, rfl, (Up.refl w).alloc _⟩
  case round =>
    obtain ⟨k, hk, rfl, rfl, hu⟩ := hrel
    by_cases hlt : k < r.read.length
    · obtain ⟨b', off', rfl, h4'⟩ := C.arr_at (n := 0) (cap := 0) 0 H3.out (by omega)
      obtain ⟨hbb, e0⟩ := (intR_grows _ _ _ _ _ (h4' k (by omega)) hu)
      rw [Nat.mul_one] at e0
      obtain ⟨x, hx⟩ : ∃ x, x = r.read.getD k 0 := ⟨_, rfl⟩
      rw [← hx] at e0
      have HX : Hid ((r.read.take (k + 1)).foldl rvF r.id = rvF ((r.read.take k).foldl rvF r.id) x) := by
        unfold Hid
        rw [List.take_succ_eq_append_getElem hlt, List.foldl_append, hx]
        simp [List.getD, hlt]
      generalize (r.read.take k).foldl rvF r.id = y at HX ⊢
      clear hx h4'
      go_wp2
      go_roundw
      case rel => exact ⟨k + 1, by omega, by go_num, by rw [HX.out]; rfl, hu⟩
      case measure => simp [intOf]; omega
    · obtain rfl : k = r.read.length := by omega
      rw [List.take_length]
      go_wp2
      go_ret
      exact ⟨rfl, hu⟩
set_option maxHeartbeats 1000000 in
theorem rvread_any {w0 w : World} {K : Nat → Prop} {p : Nat} {d : Db} (h : Own w0 K w p d) {id : Int} {t : Tr} (ht : tr d id = some t) {k : ByteArray} {n : Int} (hg : (getT d t k = ([], 4) ∧ n = 0) ∨ getT d t k = (rowI n, 0)) (h0 : -1000 ≤ n) (h1 : n ≤ 1000) :
    Calls Try.prog 7 #[.pointer (some ⟨p, 0, none⟩), .int .i64 id, .string k] w fun e w' => e = .returned (.tuple #[.int .i64 n, .bool true]) ∧ Up w w' := by
  have HG : Hid (Calls Try.prog 16 #[.pointer (some ⟨p, 0, none⟩), .int .i64 id, .string k] w (Mv.GetPost w (getT d t k).1 (getT d t k).2)) := getO h ht k
  clear h ht
  rcases hg with ⟨e, rfl⟩ | e
  · rw [e] at HG
    go_enter Try.func7, Try.ntmps7
    go_wp2_with (go_at_call 16; refine HG.out.mono ?_; rintro e w1 ⟨v, rfl, _, hu⟩; have HU := Lib.hid hu; clear hu)
    go_ret2
    exact ⟨rfl, HU.out⟩
  · rw [e] at HG
    go_enter Try.func7, Try.ntmps7
    go_wp2_with (go_at_call 16; refine HG.out.mono ?_; rintro e w1 ⟨v, rfl, ho, hu⟩; have HU := Lib.hid hu; have HO := Lib.hid ho; obtain ⟨a, c, rfl, hc1, hc2, _⟩ := own_form ho; clear hu ho)
    go_wp2_with (go_at_call 17; refine (sumof_any _ n _ (own_base' HO.out fun _ _ => Nat.zero_le _) h0 h1).mono ?_; rintro e w2 ⟨rfl, hu2⟩; have HU2 := Lib.hid hu2; clear hu2)
    go_ret2
    exact ⟨rfl, HU.out.trans HU2.out⟩
end Go.Proofs.Ytnbhdpmhgamjfaa.Sn

/- Top 16: the ended transactions, plain and in memory; the map of the serial execution. -/
namespace Go.Proofs.Ytnbhdpmhgamjfaa.Sn
open Go Go.RowKit Hp
open Mv (Val PC PV Srt SOk pos has cnt)
open C (Tx TxR Txs tx0 Valid admV admL cur wk cur_snoc)
set_option linter.unusedVariables false

/-! ### Plain -/
def rec0 : Rec := ⟨0, tx0, []⟩
def txs (rs : List Rec) : List Tx := rs.map Rec.tx
def valR (rs : List Rec) (i : Nat) : Int := resV (rs.getD i rec0)
theorem txs_len (rs : List Rec) : (txs rs).length = rs.length := List.length_map ..
theorem txs_get (rs : List Rec) (i : Nat) : (txs rs).getD i tx0 = (rs.getD i rec0).tx := by
  unfold txs
  rw [List.getD_eq_getElem?_getD, List.getElem?_map, List.getD_eq_getElem?_getD]
  cases rs[i]? <;> rfl
/-- The state behind the admitted ones of the first n. -/
def stN (rs : List Rec) (n : Nat) (k : ByteArray) : Int := cur (txs rs) (valR rs) (admL (admV (txs rs)) n) k
structure Snap (rs : List Rec) (t : Rec) (n : Nat) : Prop where
  le : n ≤ rs.length
  old : ∀ j, j < n → (rs.getD j rec0).tx.commit < t.tx.start
  new : ∀ j, n ≤ j → j < rs.length → t.tx.start < (rs.getD j rec0).tx.commit
  read : t.read = t.tx.reads.map (stN rs n)
structure ROk (t : Rec) : Prop where
  id : 1 ≤ t.id ∧ t.id ≤ 100
  keys : ∀ k, k ∈ t.tx.reads ∨ k ∈ t.tx.writes → k.size ≤ 24
structure Fin (d : Db) (rs : List Rec) : Prop where
  hv : Valid (txs rs)
  rd : Rd d (stN rs rs.length)
  ok : ∀ r ∈ rs, ROk r
  snap : ∀ i, i < rs.length → ∃ n, n ≤ i ∧ Snap rs (rs.getD i rec0) n
  act : d.act.length ≠ 60
  last : d.last < 1000000
theorem rvF_bd (n x : Int) : -1000 ≤ rvF n x ∧ rvF n x ≤ 1000 := by
  unfold rvF
  have h1 := Int.tmod_lt_of_pos (wrap64 (wrap64 (n * 7) + x)) (show (0 : Int) < 1000 by decide)
  have h2 := Int.lt_tmod_of_pos (wrap64 (wrap64 (n * 7) + x)) (show (0 : Int) < 1000 by decide)
  omega
theorem resV_bd {r : Rec} (h : ROk r) : -1000 ≤ resV r ∧ resV r ≤ 1000 := by
  have key : ∀ (l : List Int) (n : Int), -1000 ≤ n ∧ n ≤ 1000 → -1000 ≤ l.foldl rvF n ∧ l.foldl rvF n ≤ 1000 := fun l => by
    induction l with
    | nil => intro n hn; exact hn
    | cons x l ih => intro n hn; exact ih _ (rvF_bd _ _)
  have := h.id
  exact key _ _ (by omega)
theorem cur_bd (l : List Tx) (val : Nat → Int) (k : ByteArray) (L : List Nat) (h : ∀ i ∈ L, -1000 ≤ val i ∧ val i ≤ 1000) : -1000 ≤ cur l val L k ∧ cur l val L k ≤ 1000 := by
  have key : ∀ (L : List Nat) (s : Int), (∀ i ∈ L, -1000 ≤ val i ∧ val i ≤ 1000) → -1000 ≤ s ∧ s ≤ 1000 → -1000 ≤ L.foldl (fun s i => if wk l k i then val i else s) s ∧ L.foldl (fun s i => if wk l k i then val i else s) s ≤ 1000 := fun L => by
    induction L with
    | nil => intro s _ hs; exact hs
    | cons x L ih =>
      intro s hL hs
      refine ih _ (fun i hi => hL i (List.mem_cons_of_mem _ hi)) ?_
      show -1000 ≤ (if wk l k x then val x else s) ∧ (if wk l k x then val x else s) ≤ 1000
      split
      · exact hL x (List.mem_cons_self ..)
      · exact hs
  exact key L 0 h (by decide)
theorem getD_mem' {rs : List Rec} {i : Nat} (h : i < rs.length) : rs.getD i rec0 ∈ rs := by
  rw [List.getD_eq_getElem?_getD, List.getElem?_eq_getElem h]
  exact List.getElem_mem h
theorem stN_bd {rs : List Rec} (h : ∀ r ∈ rs, ROk r) {n : Nat} (hn : n ≤ rs.length) (k : ByteArray) : -1000 ≤ stN rs n k ∧ stN rs n k ≤ 1000 :=
  cur_bd _ _ _ _ fun i hi => resV_bd (h _ (getD_mem' (by
    unfold admL at hi
    have := (List.mem_filter.1 hi).1
    rw [List.mem_range] at this
    omega)))
/-- In the serial order every transaction reads what it has read. -/
theorem Fin.read {d : Db} {rs : List Rec} (h : Fin d rs) {res : List Int} (hr : C.topo (C.free (C.deps (txs rs) (admV (txs rs)) (txs rs).length)) (C.ids (admV (txs rs)) (admV (txs rs)).length).length (C.ids (admV (txs rs)) (admV (txs rs)).length) [] = some res)
    {p i : Nat} (hp : res[p]? = some (i : Int)) (hi : i < rs.length) {k : Nat} (hk : k < (rs.getD i rec0).tx.reads.length) :
    k < (rs.getD i rec0).read.length ∧ cur (txs rs) (valR rs) ((res.take p).map Int.toNat) ((rs.getD i rec0).tx.reads.getD k ByteArray.empty) = (rs.getD i rec0).read.getD k 0 := by
  obtain ⟨n, hn, s⟩ := h.snap i hi
  have hl : (rs.getD i rec0).read.length = (rs.getD i rec0).tx.reads.length := by rw [s.read, List.length_map]
  refine ⟨by omega, ?_⟩
  have e := C.ord_read h.hv hr (valR rs) hp hn (fun j hj => by rw [txs_get, txs_get]; exact s.old j hj) (fun j hj1 hj2 => by rw [txs_get, txs_get]; exact s.new j hj1 (by rwa [txs_len] at hj2))
    (k := (rs.getD i rec0).tx.reads.getD k ByteArray.empty) (by
      rw [txs_get, any_mem]
      generalize (rs.getD i rec0).tx.reads = l at hk ⊢
      rw [List.getD_eq_getElem?_getD, List.getElem?_eq_getElem hk]
      exact List.getElem_mem hk)
  rw [e, s.read]
  generalize (rs.getD i rec0).tx.reads = l at hk ⊢
  rw [List.getD_eq_getElem?_getD (l := List.map _ _), List.getElem?_map, List.getD_eq_getElem?_getD, List.getElem?_eq_getElem hk]
  rfl
/-! ### In memory -/
theorem Own.widen {w0 w w' : World} {K : Nat → Prop} {p : Nat} {d : Db} (h : Own w0 K w p d) (hu : Up w w') : Own w0 (fun k => K k ∨ (w.heap.size ≤ k ∧ k < w'.heap.size)) w' p d := by
  obtain ⟨F, h1, h2, h3, h4⟩ := h
  refine ⟨F, h1.up hu, fun k hk => ⟨(h2 k hk).1, fun e => ?_⟩, fun k hk => ?_, h4.trans hu⟩
  · rcases e with e | e
    · exact (h2 k hk).2 e
    · have := h1.lt k hk; omega
  · rcases hk with hk | hk
    · exact Nat.lt_of_lt_of_le (h3 k hk) hu.size
    · exact hk.2
def RecR (w : World) (b o : Nat) (r : Rec) : Prop := ∃ rv wv xv, At w b o (.int .i64 r.id) ∧ At w b (o + 1) (.int .i64 r.tx.start) ∧ At w b (o + 2) (.int .i64 r.tx.commit) ∧ At w b (o + 3) rv ∧ At w b (o + 4) wv ∧ At w b (o + 5) xv ∧ Strs w rv r.tx.reads ∧ Strs w wv r.tx.writes ∧ Ints w xv r.read
theorem recR_grows : Grows RecR := fun _ _ _ _ _ ⟨rv, wv, xv, h1, h2, h3, h4, h5, h6, h7, h8, h9⟩ hu => ⟨rv, wv, xv, h1.grow hu, h2.grow hu, h3.grow hu, h4.grow hu, h5.grow hu, h6.grow hu, h7.grow strR_grows hu, h8.grow strR_grows hu, h9.grow intR_grows hu⟩
theorem RecR.val {w : World} {b o : Nat} {r : Rec} (h : RecR w b o r) : ∃ ra rc wa wc xa xc, Strs w (.slice ra r.tx.reads.length rc) r.tx.reads ∧ Strs w (.slice wa r.tx.writes.length wc) r.tx.writes ∧ Ints w (.slice xa r.read.length xc) r.read ∧ b < w.heap.size ∧
    w.cell? ⟨b, o, none⟩ = some (.int .i64 r.id) ∧ w.cell? ⟨b, o + 1, none⟩ = some (.int .i64 r.tx.start) ∧ w.cell? ⟨b, o + 2, none⟩ = some (.int .i64 r.tx.commit) ∧ w.cell? ⟨b, o + 3, none⟩ = some (.slice ra r.tx.reads.length rc) ∧ w.cell? ⟨b, o + 4, none⟩ = some (.slice wa r.tx.writes.length wc) ∧ w.cell? ⟨b, o + 5, none⟩ = some (.slice xa r.read.length xc) := by
  obtain ⟨rv, wv, xv, h1, h2, h3, h4, h5, h6, h7, h8, h9⟩ := h
  obtain ⟨a, c, rfl, e⟩ := id h7
  obtain ⟨a', c', rfl, e'⟩ := id h8
  obtain ⟨a'', c'', rfl, e''⟩ := id h9
  exact ⟨_, _, _, _, _, _, h7, h8, h9, h1.1, h1.2, h2.2, h3.2, h4.2, h5.2, h6.2⟩
def keyL (k : ByteArray) : Lit := .string k.data.toList
theorem keyL_inj {a b : ByteArray} (h : keyL a = keyL b) : a = b := by
  unfold keyL at h
  simp only [Lit.string.injEq] at h
  exact ByteArray.ext (Array.toList_inj.1 h)
theorem keyL_key (k : ByteArray) : WideAt.IsKeyLit (keyL k) := trivial
theorem key_of {k : ByteArray} (hk : k.size ≤ 24) : keyOf Try.prog 9 (.string k) = some (keyL k) := WideMaps.keyOf_string_mk Try.underlying9 (by unfold maxLen; omega)
def RI (v : Value) : Option (DataW Value × List MemPlace) := some (.held v, [])
def nilI : DataW Value := .held (.int .i64 0)
structure MI (w : World) (b n : Nat) (g : ByteArray → Int) (D : DataW Value) : Prop where
  own : w.ownsMap Try.prog 9 RI b n D
  rows : ∀ k, D.atKey (keyL k) nilI = .held (.int .i64 (g k))
theorem MI.zero (w : World) : MI (w.alloc (.map #[] 0)) w.heap.size 0 (fun _ => 0) (.map []) := ⟨World.ownsMap_made _ _ _ _, fun k => rfl⟩
theorem MI.up {w w' : World} {b n : Nat} {g : ByteArray → Int} {D : DataW Value} (h : MI w b n g D) (hu : Up w w') : MI w' b n g D := by
  refine ⟨?_, h.rows⟩
  have hlt := h.own.lt
  obtain ⟨es, clock, hb, F, hs, hD⟩ := h.own
  exact ⟨es, clock, (hu.block b hlt).trans hb, F, hs, hD⟩
theorem MI.put {W w' : World} {b n : Nat} {g : ByteArray → Int} {D : DataW Value} {k : ByteArray} {x : Int} (h : MI W b n g D) (hown : w'.ownsMap Try.prog 9 RI b (n + 1) (D.put (keyL k) (.held (.int .i64 x)))) :
    MI w' b (n + 1) (fun k' => if C.eqS k' k = true then x else g k') (D.put (keyL k) (.held (.int .i64 x))) := by
  have T := h.own.tidy (Maps.string_keyed Try.underlying9)
  refine ⟨hown, fun k' => ?_⟩
  by_cases e : k' = k
  · subst e
    rw [Maps.atKey_put_same T.isMap (keyL_key k'), if_pos (eqS_iff.2 rfl)]
  · rw [Maps.atKey_put_other (fun e2 => e (keyL_inj e2)), h.rows, if_neg (fun e2 => e (eqS_iff.1 e2))]
theorem MI.congr {w : World} {b n : Nat} {g g' : ByteArray → Int} {D : DataW Value} (h : MI w b n g D) (e : ∀ k, g k = g' k) : MI w b n g' D := ⟨h.own, fun k => by rw [h.rows, e]⟩
theorem MI.mono {w : World} {b n n' : Nat} {g : ByteArray → Int} {D : DataW Value} (h : MI w b n g D) (hn : n ≤ n') : MI w b n' g D := ⟨h.own.mono hn, h.rows⟩
theorem zeroI (w : World) : (zeroValue 3).run Try.prog w = .ok (.int .i64 0) w := by kernel_rfl
theorem MI.look {w : World} {b n : Nat} {g : ByteArray → Int} {D : DataW Value} (h : MI w b n g D) {k : ByteArray} (hk : k.size ≤ 24) : ∀ w', Up w w' → Sem.run Try.prog (Instr.lookup 80 (.map (some b)) (.string k) false) w' = .ok (.int .i64 (g k)) w' := fun w' hu => by
  obtain ⟨v', ps, hr, hR⟩ := (h.up hu).own.lookup (Maps.string_keyed Try.underlying9) Try.underlying80 (zeroI w') (zd := nilI) (zp := []) rfl (key_of hk)
  rw [h.rows] at hR
  unfold RI at hR
  simp only [Option.some.injEq, Prod.mk.injEq, DataW.held.injEq] at hR
  rw [hr, hR.1]
/-- The state once the first m keys of a row have been written. -/
def upG (g : ByteArray → Int) (ws : List ByteArray) (m : Nat) (x : Int) (k : ByteArray) : Int := if (ws.take m).any (C.eqS k) = true then x else g k
theorem upG_zero (g : ByteArray → Int) (ws : List ByteArray) (x : Int) (k : ByteArray) : g k = upG g ws 0 x k := by unfold upG; simp
theorem upG_succ (g : ByteArray → Int) (ws : List ByteArray) {m : Nat} (hm : m < ws.length) (x : Int) (k : ByteArray) : (if C.eqS k ws[m] = true then x else upG g ws m x k) = upG g ws (m + 1) x k := by
  unfold upG
  rw [List.take_succ_eq_append_getElem hm, List.any_append]
  rw [show [ws[m]].any (C.eqS k) = C.eqS k ws[m] by simp]
  generalize C.eqS k ws[m] = b1
  generalize (ws.take m).any (C.eqS k) = b2
  cases b1 <;> cases b2 <;> rfl
theorem upG_all (rs : List Rec) (L : List Nat) (i : Nat) (k : ByteArray) : upG (cur (txs rs) (valR rs) L) (rs.getD i rec0).tx.writes (rs.getD i rec0).tx.writes.length (valR rs i) k = cur (txs rs) (valR rs) (L ++ [i]) k := by
  unfold upG
  rw [cur_snoc, List.take_length]
  unfold wk
  rw [txs_get]
end Go.Proofs.Ytnbhdpmhgamjfaa.Sn
