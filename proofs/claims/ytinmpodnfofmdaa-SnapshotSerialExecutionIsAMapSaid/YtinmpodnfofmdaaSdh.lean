/- SnapshotSerialExecutionIsAMap: the plain part, and the map in memory. -/
import Derived.Test.YtinmpodnfofmdaaSdf
import Derived.Maps.Own
import Derived.Maps.OwnSet
import Derived.Maps.Views
import Derived.StringKeys
namespace Go.Proofs.Ytinmpodnfofmdaa.Sn
open Go Go.RowKit Hp
open Mv (Val PC PV rowC rowC_one fm_len fm_take fm_drop fm_get fm_set fm_one RowIn StR Srt SOk pos has fx_lt fx_up ty_chg has_pos pos_le RM rmC rmC1 rmC_len rmC_get erR RecsR RecsS scanL scan_srt cloneR rowV row_any equalR_same eqrecs_any cnt getL vis1 addL adL vacL scan_vac scan_ad)
set_option linter.unusedVariables false

/-! ### A scan behind a write -/
theorem vis_ge {l : List PV} {t s : Int} (h : ∀ u ∈ l, u.ts ≤ t) (hs : t ≤ s) : vis1 l s = vis1 l t := by
  unfold vis1 Mv.visL
  have h' : ∀ u ∈ l.reverse, u.ts ≤ t := fun u hu => h u (List.mem_reverse.1 hu)
  cases hr : l.reverse with
  | nil => rfl
  | cons a m =>
    have := h' a (by rw [hr]; exact List.mem_cons_self ..)
    rw [List.find?_cons, List.find?_cons, decide_eq_true (by omega : a.ts ≤ s), decide_eq_true this]
theorem look_ts {l : List PC} {t : Int} (h : ∀ c ∈ l, ∀ u ∈ c.2, u.ts ≤ t) (k : ByteArray) : ∀ u ∈ Mv.look l k, u.ts ≤ t := fun u hu => by
  by_cases hh : has l k = true
  · exact h _ (Mv.has_mem hh) u hu
  · unfold Mv.look at hu
    rw [if_neg hh] at hu
    cases hu
theorem mem_scan_ad {l : List PC} (hs : Srt l) {k : ByteArray} {v : PV} (hs2 : Srt (adL l k v)) {t : Int} (h : ∀ c ∈ l, ∀ u ∈ c.2, u.ts ≤ t) (ht : t ≤ v.ts) (y : ByteArray × List Val) :
    y ∈ scanL (adL l k v) v.ts ↔ (y.1 = k ∧ v.tomb = false ∧ y.2 = v.row) ∨ (y.1 ≠ k ∧ y ∈ scanL l t) := by
  rw [Mv.mem_scan hs2, Mv.mem_scan hs, Mv.look_ad (hz := 0) hs k v hs2]
  by_cases e : y.1 = k
  · rw [if_pos e]
    have : vis1 (Mv.look l k ++ [v]) v.ts = if v.tomb then none else some v.row := by unfold vis1; rw [Mv.visL_last (Int.le_refl _)]
    rw [this]
    cases hb : v.tomb <;> simp [e, eq_comm]
  · rw [if_neg e, vis_ge (look_ts h _) ht]
    simp [e]
theorem one57_put {d : Db} {c : Int} {j : Nat} (ok : DOk d) (h : One d c j []) {k : ByteArray} {x : Wr} (hk : k.size ≤ 24) (hr : x.row.length ≤ 6) :
    (bufP d ((j : Int) + 1) k x).2 = 0 ∧ One (bufP d ((j : Int) + 1) k x).1 c j [(k, x)] ∧ (bufP d ((j : Int) + 1) k x).1.st = d.st := by
  obtain ⟨h1, h2⟩ := one_put ok h hk hr (by simp)
  refine ⟨h1, h2, ?_⟩
  rw [buf_tr ok h.tr hk hr, if_neg (by simp)]
  rfl
theorem add_st57 {d : Db} (ok : DOk d) (hc : cnt d.st < 400) (hcl : d.clock < 1000000) {k : ByteArray} {x : Wr} (hk : k.size ≤ 24) (hr : x.row.length ≤ 6) :
    (addL d.st d.hz k (wrV x (d.clock + 1))).1 = adL d.st k (wrV x (d.clock + 1)) ∧ SOk (adL d.st k (wrV x (d.clock + 1))) d.hz ∧ (wrV x (d.clock + 1)).ts = d.clock + 1 ∧ (wrV x (d.clock + 1)).tomb = x.del ∧ (x.del = false → (wrV x (d.clock + 1)).row = x.row) := by
  have h1 := ok.clock
  have h2 := ok.hz
  have e : (wrV x (d.clock + 1)).ts = d.clock + 1 := by unfold wrV; split <;> rfl
  have er : (wrV x (d.clock + 1)).row.length ≤ 6 := by unfold wrV; split <;> simp <;> exact hr
  have hl : ∀ c ∈ d.st, ∀ u ∈ c.2, u.ts < (wrV x (d.clock + 1)).ts := fun c hc u hu => by have := ok.ts c hc u hu; rw [e]; omega
  refine ⟨?_, ok.st.adL hk er (by rw [e]; omega) (by rw [e]; omega) hl hc, e, ?_, fun h => ?_⟩
  · rw [Mv.addL_ok hk er (by rw [e]; omega) (by rw [e]; omega) (by rw [e]; omega) hl hc]
  · unfold wrV
    split
    · rename_i hh; rw [hh]
    · rename_i hh; simpa using hh
  · unfold wrV
    rw [h]
    rfl
/-- What a write of x under k makes of the records A. -/
def Upd57 (B A : Recs) (k : ByteArray) (x : Wr) : Prop := ∀ y, y ∈ B ↔ (y.1 = k ∧ x.del = false ∧ y.2 = x.row) ∨ (y.1 ≠ k ∧ y ∈ A)
theorem one57_com {d : Db} {j : Nat} {k : ByteArray} {x : Wr} (ok : DOk d) (h : One d j j [(k, x)]) (hj : j ≤ 60) (hk : k.size ≤ 24) (hr : x.row.length ≤ 6) :
    (comP d ((j : Int) + 1)).2 = ((j : Int) + 1, 0) ∧ Solo (comP d ((j : Int) + 1)).1 ((j : Int) + 1) (j + 1) ∧ Srt (scanL (comP d ((j : Int) + 1)).1.st ((j : Int) + 1)) ∧
      Upd57 (scanL (comP d ((j : Int) + 1)).1.st ((j : Int) + 1)) (scanL d.st j) k x := by
  obtain ⟨h1, h2⟩ := one_com ok h (by simp) (by omega)
  rw [if_neg (by simp)] at h1 h2
  have hcl := h.clock
  have hcn := h.cnt
  obtain ⟨ok1, hc1⟩ := fin_ok ok (tidx d.act ((j : Int) + 1)).toNat
  have ok1' : DOk (finI d ((j : Int) + 1)) := ok1
  have hc1' : cnt (finI d ((j : Int) + 1)).st ≤ cnt d.st := hc1
  obtain ⟨e, o, e1, e2, e3⟩ := add_st57 (k := k) (x := x) ok1' (by omega) (by show d.clock < _; omega) hk hr
  have hcf : (finI d ((j : Int) + 1)).clock = (j : Int) := hcl
  have hst : (comP d ((j : Int) + 1)).1.st = adL (finI d ((j : Int) + 1)).st k (wrV x ((finI d ((j : Int) + 1)).clock + 1)) := by
    rw [com_tr h.tr, conf_solo ok (by rw [hcl]; exact Int.le_refl _), if_neg (by decide), if_neg (by simp; omega), if_neg (by simp), ← e]
    rfl
  have hsc : scanL (finI d ((j : Int) + 1)).st (j : Int) = scanL d.st j := by
    have := fin_hz ok (tidx d.act ((j : Int) + 1)).toNat
    exact fin_scan_le ok _ (Int.le_trans this.2.1 (Int.le_of_eq hcl))
  refine ⟨h1, h2, by rw [hst]; exact scan_srt o.srt _, fun y => ?_⟩
  have key := mem_scan_ad (k := k) (v := wrV x ((finI d ((j : Int) + 1)).clock + 1)) ok1'.st.srt o.srt ok1'.ts (by rw [e1]; omega) y
  rw [e1, e2, hcf, hsc] at key
  rw [hst, hcf, key]
  rw [hcf] at e3
  cases hd : x.del with
  | true => simp
  | false => rw [e3 hd]
/-! ### How many keys -/
theorem srt_inj {A : Recs} (h : Srt A) {y z : ByteArray × List Val} (hy : y ∈ A) (hz : z ∈ A) (e : y.1 = z.1) : y = z := by
  obtain ⟨i, hi, rfl⟩ := List.getElem_of_mem hy
  obtain ⟨j, hj, rfl⟩ := List.getElem_of_mem hz
  rcases Nat.lt_trichotomy i j with hij | rfl | hij
  · have := h.get hij hj; rw [e] at this; exact absurd this (So.slt_irrefl _)
  · rfl
  · have := h.get hij hi; rw [e] at this; exact absurd this (So.slt_irrefl _)
theorem srt_nodup {A : Recs} (h : Srt A) : A.Nodup := List.Pairwise.imp (fun {a b} hab e => by rw [e] at hab; exact So.slt_irrefl _ hab) h
theorem len_del {A B : Recs} (hA : Srt A) (hB : Srt B) {k : ByteArray} (hm : ∀ y, y ∈ B ↔ y.1 ≠ k ∧ y ∈ A) : B.length = (A.filter fun y => decide (y.1 ≠ k)).length := by
  refine List.Perm.length_eq ((List.perm_ext_iff_of_nodup (srt_nodup hB) ((srt_nodup hA).sublist List.filter_sublist)).2 fun y => ?_)
  rw [hm, List.mem_filter, decide_eq_true_iff]
  exact And.comm
theorem len_ins {A B : Recs} (hA : Srt A) (hB : Srt B) {k : ByteArray} {r : List Val} (hm : ∀ y, y ∈ B ↔ (y.1 = k ∧ y.2 = r) ∨ (y.1 ≠ k ∧ y ∈ A)) : B.length = (A.filter fun y => decide (y.1 ≠ k)).length + 1 := by
  have hn : ((k, r) :: A.filter fun y => decide (y.1 ≠ k)).Nodup := List.nodup_cons.2 ⟨fun h => by have := (List.mem_filter.1 h).2; simp at this, (srt_nodup hA).sublist List.filter_sublist⟩
  refine List.Perm.length_eq (l₂ := (k, r) :: A.filter fun y => decide (y.1 ≠ k)) ((List.perm_ext_iff_of_nodup (srt_nodup hB) hn).2 fun y => ?_)
  rw [hm, List.mem_cons, List.mem_filter, decide_eq_true_iff, Prod.ext_iff, and_comm (a := y ∈ A)]
theorem len_self {A : Recs} (hA : Srt A) (k : ByteArray) : (∃ y ∈ A, k = y.1) ∧ A.length = (A.filter fun y => decide (y.1 ≠ k)).length + 1 ∨ (¬ ∃ y ∈ A, k = y.1) ∧ A.length = (A.filter fun y => decide (y.1 ≠ k)).length := by
  by_cases h : ∃ y ∈ A, k = y.1
  · obtain ⟨y0, hy, rfl⟩ := h
    refine .inl ⟨⟨y0, hy, rfl⟩, len_ins hA hA (r := y0.2) fun y => ⟨fun hy2 => ?_, ?_⟩⟩
    · by_cases e : y.1 = y0.1
      · exact .inl ⟨e, by rw [srt_inj hA hy2 hy e]⟩
      · exact .inr ⟨e, hy2⟩
    · rintro (⟨e, e2⟩ | ⟨_, h⟩)
      · rw [Prod.ext e e2]; exact hy
      · exact h
  · exact .inr ⟨h, len_del hA hA fun y => ⟨fun hy => ⟨fun e => h ⟨y, hy, e.symm⟩, hy⟩, fun h => h.2⟩⟩
/-! ### The map in memory -/
def keyL (k : ByteArray) : Lit := .string k.data.toList
theorem keyL_inj {a b : ByteArray} (h : keyL a = keyL b) : a = b := by
  unfold keyL at h
  simp only [Lit.string.injEq] at h
  exact ByteArray.ext (Array.toList_inj.1 h)
theorem keyL_key (k : ByteArray) : WideAt.IsKeyLit (keyL k) := trivial
theorem key_of {k : ByteArray} (hk : k.size ≤ 24) : keyOf Try.prog 9 (.string k) = some (keyL k) := WideMaps.keyOf_string_mk Try.underlying9 (by unfold maxLen; omega)
def R57 (v : Value) : Option (DataW Value × List MemPlace) := some (.held v, [])
def nil57 : DataW Value := .held (.slice none 0 0)
structure MR (w1 w : World) (K : Nat → Prop) (b n : Nat) (S : Recs) (D : DataW Value) : Prop where
  own : w.ownsMap Try.prog 9 R57 b n D
  kb : K b
  lo : w1.heap.size ≤ b
  mem : ∀ kl, Maps.has D kl = true ↔ ∃ y ∈ S, kl = keyL y.1
  size : Maps.size D = S.length
  rows : ∀ y ∈ S, ∃ v, D.atKey (keyL y.1) nil57 = .held v ∧ w.ownsRow w1.heap.size 39 3 v y.2.length (rowC y.2) ∧ ∀ k, v.ownBlock = some k → K k
theorem map_chg {S : Nat → Prop} {w w' : World} {b n : Nat} {D : DataW Value} (h : w.ownsMap Try.prog 9 R57 b n D) (hc : Chg S w w') (hn : ¬ S b) : w'.ownsMap Try.prog 9 R57 b n D := by
  have hlt := h.lt
  obtain ⟨es, clock, hb, F, hs, hD⟩ := h
  exact ⟨es, clock, (hc.block b hlt hn).trans hb, F, hs, hD⟩
theorem MR.chg {w1 w w' : World} {K S : Nat → Prop} {b n : Nat} {A : Recs} {D : DataW Value} (h : MR w1 w K b n A D) (hc : Chg S w w') (hS : ∀ k, K k → ¬ S k) : MR w1 w' K b n A D :=
  ⟨map_chg h.own hc (hS b h.kb), h.kb, h.lo, h.mem, h.size, fun y hy => by obtain ⟨v, h1, h2, h3⟩ := h.rows y hy; exact ⟨v, h1, own_chg h2 hc fun k hk => hS k (h3 k hk), h3⟩⟩
theorem MR.step {w1 w w' : World} {K : Nat → Prop} {p : Nat} {d : Db} {b n : Nat} {A : Recs} {D : DataW Value} (h : MR w1 w K b n A D) (hc : OwnP w1 K p d w w') : MR w1 w' K b n A D := h.chg hc.2 fun k hk e => e.2 hk
theorem MR.up {w1 w w' : World} {K : Nat → Prop} {b n : Nat} {A : Recs} {D : DataW Value} (h : MR w1 w K b n A D) (hu : Up w w') : MR w1 w' K b n A D := h.chg (Below.chg (fun _ => False) hu) fun _ _ e => e
theorem MR.wide {w1 w : World} {K K' : Nat → Prop} {b n : Nat} {A : Recs} {D : DataW Value} (h : MR w1 w K b n A D) (hK : ∀ k, K k → K' k) : MR w1 w K' b n A D :=
  ⟨h.own, hK _ h.kb, h.lo, h.mem, h.size, fun y hy => by obtain ⟨v, h1, h2, h3⟩ := h.rows y hy; exact ⟨v, h1, h2, fun k hk => hK k (h3 k hk)⟩⟩
theorem map_ne {w : World} {b n base size m : Nat} {D : DataW Value} {E : TypeId} {v : Value} {xs : List Value} (h : w.ownsMap Try.prog 9 R57 b n D) (hv : w.ownsRow base E size v m xs) : ∀ k, v.ownBlock = some k → some k ≠ some b := fun k hk e => by
  obtain ⟨⟨a, c, hc⟩, _⟩ := (own_ty hv) k hk
  obtain ⟨es, clock, hb, _⟩ := h
  cases e
  rw [hb] at hc
  cases hc
theorem own_grown57 {w w' : World} {b base size m : Nat} {E : TypeId} {v : Value} {xs : List Value} (hv : w.ownsRow base E size v m xs) (hg : w.grownBy w' (some b)) (hne : ∀ k, v.ownBlock = some k → some k ≠ some b) : w'.ownsRow base E size v m xs :=
  own_chg hv ((Chg.refl (fun k => some b = some k) w).grown hg fun k hk => .inl hk) fun k hk e => hne k hk e.symm
theorem MR.put {w1 W w' : World} {K : Nat → Prop} {b n : Nat} {A B : Recs} {D : DataW Value} (h : MR w1 W K b n A D) {k : ByteArray} {v : Value} {r : List Val} (hown : w'.ownsMap Try.prog 9 R57 b (n + 1) (D.put (keyL k) (.held v)))
    (hg : W.grownBy w' (some b)) (hv : W.ownsRow w1.heap.size 39 3 v r.length (rowC r)) (hvK : ∀ j, v.ownBlock = some j → K j) (hA : Srt A) (hB : Srt B)
    (hm : Upd57 B A k ⟨false, r⟩) : MR w1 w' K b (n + 1) B (D.put (keyL k) (.held v)) := by
  have hm' : ∀ y, y ∈ B ↔ (y.1 = k ∧ y.2 = r) ∨ (y.1 ≠ k ∧ y ∈ A) := fun y => by rw [hm y]; simp
  have T := h.own.tidy (Maps.string_keyed Try.underlying9)
  refine ⟨hown, h.kb, h.lo, fun kl => ?_, ?_, fun y hy => ?_⟩
  · by_cases e : kl = keyL k
    · subst e
      rw [Maps.has_put_same T.isMap (keyL_key k)]
      exact ⟨fun _ => ⟨(k, r), (hm' _).2 (.inl ⟨rfl, rfl⟩), rfl⟩, fun _ => rfl⟩
    · rw [Maps.has_put_other e, h.mem]
      constructor
      · rintro ⟨y, hy, rfl⟩
        exact ⟨y, (hm' y).2 (.inr ⟨fun e2 => e (by rw [e2]), hy⟩), rfl⟩
      · rintro ⟨y, hy, rfl⟩
        rcases (hm' y).1 hy with ⟨e2, _⟩ | ⟨_, h2⟩
        · exact absurd (by rw [e2]) e
        · exact ⟨y, h2, rfl⟩
  · rw [Maps.size_put T, len_ins hA hB hm', h.size]
    rcases len_self hA k with ⟨h1, h2⟩ | ⟨h1, h2⟩
    · rw [if_pos ((h.mem _).2 (by obtain ⟨y, hy, e⟩ := h1; exact ⟨y, hy, by rw [e]⟩)), h2]
    · rw [if_neg (fun h3 => by obtain ⟨y, hy, e⟩ := (h.mem _).1 h3; exact h1 ⟨y, hy, keyL_inj e⟩), h2]
  · rcases (hm' y).1 hy with ⟨e2, e3⟩ | ⟨e2, h2⟩
    · refine ⟨v, by rw [e2, Maps.atKey_put_same T.isMap (keyL_key k)], ?_, hvK⟩
      rw [e3]
      exact own_grown57 hv hg (map_ne h.own hv)
    · obtain ⟨u, h3, h4, h5⟩ := h.rows y h2
      exact ⟨u, by rw [Maps.atKey_put_other (fun e => e2 (keyL_inj e)), h3], own_grown57 h4 hg (map_ne h.own h4), h5⟩
theorem MR.del {w1 W w' : World} {K : Nat → Prop} {b n : Nat} {A B : Recs} {D : DataW Value} (h : MR w1 W K b n A D) {k : ByteArray} (hown : w'.ownsMap Try.prog 9 R57 b n (D.del (keyL k)))
    (hg : W.grownBy w' (some b)) (hA : Srt A) (hB : Srt B) (hm : Upd57 B A k ⟨true, []⟩) : MR w1 w' K b n B (D.del (keyL k)) := by
  have hm' : ∀ y, y ∈ B ↔ y.1 ≠ k ∧ y ∈ A := fun y => by rw [hm y]; simp
  have T := h.own.tidy (Maps.string_keyed Try.underlying9)
  refine ⟨hown, h.kb, h.lo, fun kl => ?_, ?_, fun y hy => ?_⟩
  · by_cases e : kl = keyL k
    · subst e
      rw [Maps.has_del_same]
      refine ⟨fun e => (by cases e), ?_⟩
      rintro ⟨y, hy, e⟩
      exact absurd (keyL_inj e).symm ((hm' y).1 hy).1
    · rw [Maps.has_del_other e, h.mem]
      constructor
      · rintro ⟨y, hy, rfl⟩
        exact ⟨y, (hm' y).2 ⟨fun e2 => e (by rw [e2]), hy⟩, rfl⟩
      · rintro ⟨y, hy, rfl⟩
        exact ⟨y, ((hm' y).1 hy).2, rfl⟩
  · have hs := Maps.size_del (k := keyL k) T
    rw [h.size] at hs
    rw [len_del hA hB hm']
    rcases len_self hA k with ⟨h1, h2⟩ | ⟨h1, h2⟩
    · rw [if_pos ((h.mem _).2 (by obtain ⟨y, hy, e⟩ := h1; exact ⟨y, hy, by rw [e]⟩)), h2] at hs
      omega
    · rw [if_neg (fun h3 => by obtain ⟨y, hy, e⟩ := (h.mem _).1 h3; exact h1 ⟨y, hy, keyL_inj e⟩), h2] at hs
      omega
  · obtain ⟨e2, h2⟩ := (hm' y).1 hy
    obtain ⟨u, h3, h4, h5⟩ := h.rows y h2
    exact ⟨u, by rw [Maps.atKey_del_other (fun e => e2 (keyL_inj e)), h3], own_grown57 h4 hg (map_ne h.own h4), h5⟩
theorem MR.zero {w1 w2 : World} {K : Nat → Prop} (hu : Up w1 w2) (hK : K w2.heap.size) : MR w1 (w2.alloc (.map #[] 0)) K w2.heap.size 0 [] (.map []) :=
  ⟨World.ownsMap_made _ _ _ _, hK, hu.size, fun kl => ⟨fun h => (by cases h), fun ⟨y, hy, _⟩ => (by cases hy)⟩, rfl, fun y hy => (by cases hy)⟩
theorem MR.mono {w1 w : World} {K : Nat → Prop} {b n n' : Nat} {A : Recs} {D : DataW Value} (h : MR w1 w K b n A D) (hn : n ≤ n') : MR w1 w K b n' A D := ⟨h.own.mono hn, h.kb, h.lo, h.mem, h.size, h.rows⟩
theorem Own.grown57 {w0 W w' : World} {K K' : Nat → Prop} {p : Nat} {d : Db} {row : Option Nat} (h : Own w0 K W p d) (hg : W.grownBy w' row) (hr : ∀ k, row = some k → K k ∧ w0.heap.size ≤ k) (hK : ∀ k, K' k → (K k ∨ W.heap.size ≤ k) ∧ k < w'.heap.size) : Own w0 K' w' p d := by
  obtain ⟨F, h1, h2, h3, h4⟩ := h
  have C : Chg (fun k => row = some k) W w' := (Chg.refl _ W).grown hg fun k hk => .inl hk
  refine ⟨F, h1.chg C fun k hk e => (h2 k hk).2 (hr k e).1, fun k hk => ⟨(h2 k hk).1, fun e => ?_⟩, fun k hk => (hK k hk).2, Below.grown h4 hg (h4.size) fun k hk => (hr k hk).2⟩
  rcases (hK k e).1 with e | e
  · exact (h2 k hk).2 e
  · have := h1.lt k hk; omega
theorem MR.turn {w1 W w' : World} {K : Nat → Prop} {p : Nat} {d : Db} {b n : Nat} {A : Recs} {D : DataW Value} (hM : MR w1 W K b n A D) (hO : Own w1 K W p d) (hg : W.grownBy w' (some b)) : Own w1 K w' p d := by
  have hkb := hM.kb
  have hlo := hM.lo
  have hK : ∀ k, K k → k < W.heap.size := by obtain ⟨_, _, _, h, _⟩ := hO; exact h
  exact hO.grown57 hg (fun k e => by cases e; exact ⟨hkb, hlo⟩) fun k hk => ⟨.inl hk, Nat.lt_of_lt_of_le (hK k hk) hg.size⟩
theorem row57 {w1 W w' : World} {K : Nat → Prop} {v : Value} {r : List Val} (h : w'.ownsRow W.heap.size 39 3 v r.length (rowC r)) (hu : Up w1 W) :
    w'.ownsRow w1.heap.size 39 3 v r.length (rowC r) ∧ ∀ j, v.ownBlock = some j → K j ∨ (W.heap.size ≤ j ∧ j < w'.heap.size) :=
  ⟨own_base' h fun k hk => Nat.le_trans hu.size ((own_ty h) k hk).2, fun j hj => .inr ⟨((own_ty h) j hj).2, own_lt h j hj⟩⟩
theorem scan_key {l : List PC} {hz : Int} (h : SOk l hz) (ts : Int) : ∀ r ∈ scanL l ts, r.1.size ≤ 24 := fun r hr => by
  unfold scanL at hr
  obtain ⟨c, hc, he⟩ := List.mem_filterMap.1 hr
  obtain ⟨x, hx, rfl⟩ := Option.map_eq_some_iff.1 he
  exact h.key c hc
theorem zero57 (w : World) : (zeroValue 32).run Try.prog w = .ok (.slice none 0 0) w := by kernel_rfl
/-- 'm[k]' for a key of the scan: the row that lies there. -/
theorem MR.look {w1 w : World} {K : Nat → Prop} {b n : Nat} {A : Recs} {D : DataW Value} (h : MR w1 w K b n A D) {y : ByteArray × List Val} (hy : y ∈ A) (hk : y.1.size ≤ 24) :
    ∃ v, (∀ w', Up w w' → Sem.run Try.prog (Instr.lookup 73 (.map (some b)) (.string y.1) false) w' = .ok v w') ∧ w.ownsRow w1.heap.size 39 3 v y.2.length (rowC y.2) := by
  obtain ⟨v, h1, h2, _⟩ := h.rows y hy
  refine ⟨v, fun w' hu => ?_, h2⟩
  obtain ⟨v', ps, hr, hR⟩ := (h.up hu).own.lookup (Maps.string_keyed Try.underlying9) Try.underlying73 (zero57 w') (zd := nil57) (zp := []) rfl (key_of hk)
  rw [h1] at hR
  unfold R57 at hR
  simp only [Option.some.injEq, Prod.mk.injEq, DataW.held.injEq] at hR
  rw [hr, hR.1]
theorem Own.widen {w0 w w' : World} {K : Nat → Prop} {p : Nat} {d : Db} (h : Own w0 K w p d) (hu : Up w w') : Own w0 (fun k => K k ∨ (w.heap.size ≤ k ∧ k < w'.heap.size)) w' p d := by
  obtain ⟨F, h1, h2, h3, h4⟩ := h
  refine ⟨F, h1.up hu, fun k hk => ⟨(h2 k hk).1, fun e => ?_⟩, fun k hk => ?_, h4.trans hu⟩
  · rcases e with e | e
    · exact (h2 k hk).2 e
    · have := h1.lt k hk; omega
  · rcases hk with hk | hk
    · exact Nat.lt_of_lt_of_le (h3 k hk) hu.size
    · exact hk.2
end Go.Proofs.Ytinmpodnfofmdaa.Sn
