/- joined: Snd, Sne, Snf, Sng, Snh -/
import Derived.Test.YtnbhdpmhgamjfaaMvt
import Derived.Test.YtnbhdpmhgamjfaaSnc
/- The snapshot database: the plain model, and how it lies in memory. -/
namespace Go.Proofs.Ytnbhdpmhgamjfaa.Sn
open Go Go.RowKit Hp So
open Mv (Val PC PV rowC fm_len fm_take fm_drop fm_get fm_set fm_one RowIn StR Srt pos has)
set_option linter.unusedVariables false

/-! ### Plain -/
structure Wr where
  del : Bool
  row : List Val
abbrev WL := List (ByteArray × Wr)
structure Tr where
  id : Int
  start : Int
  w : WL
/-- The whole database. -/
structure Db where
  st : List PC
  hz : Int
  clock : Int
  last : Int
  act : List Tr
def wput (l : WL) (k : ByteArray) (x : Wr) : WL := if has l k = true then l.set (pos l k) (k, x) else l.take (pos l k) ++ (k, x) :: l.drop (pos l k)
structure DOk (d : Db) : Prop where
  st : Mv.SOk d.st d.hz
  hz : 0 ≤ d.hz ∧ d.hz ≤ d.clock
  clock : 0 ≤ d.clock ∧ d.clock ≤ 1000000
  last : 0 ≤ d.last ∧ d.last ≤ 1000000
  act : d.act.length ≤ 60
  ids : d.act.Pairwise fun a b => a.id < b.id
  idl : ∀ t ∈ d.act, 1 ≤ t.id ∧ t.id ≤ d.last
  start : ∀ t ∈ d.act, d.hz ≤ t.start ∧ t.start ≤ d.clock
  srt : ∀ t ∈ d.act, Srt t.w
  len : ∀ t ∈ d.act, t.w.length ≤ 40
  key : ∀ t ∈ d.act, ∀ x ∈ t.w, x.1.size ≤ 24 ∧ x.2.row.length ≤ 6
  ts : ∀ c ∈ d.st, ∀ v ∈ c.2, v.ts ≤ d.clock

/-! ### In memory -/
structure MW where
  key : ByteArray
  del : Bool
  rv : Value
  row : List Val
structure MT where
  id : Int
  start : Int
  wv : Value
  ws : List MW
def mwC1 (x : MW) : List Value := [.string x.key, .bool x.del, x.rv]
def mtC1 (x : MT) : List Value := [.int .i64 x.id, .int .i64 x.start, x.wv]
def mwC (l : List MW) : List Value := l.flatMap mwC1
def mtC (l : List MT) : List Value := l.flatMap mtC1
def erW (x : MW) : ByteArray × Wr := (x.key, ⟨x.del, x.row⟩)
def erT (x : MT) : Tr := ⟨x.id, x.start, x.ws.map erW⟩
theorem mwC_len (l : List MW) : (mwC l).length = l.length * 3 := fm_len (k := 3) (fun _ => rfl) l
theorem mtC_len (l : List MT) : (mtC l).length = l.length * 3 := fm_len (k := 3) (fun _ => rfl) l
/-- The database at p, its store at q: G is what the store holds, F the rest. -/
structure DbP (w : World) (p q : Nat) (d : Db) (F G : Nat → Prop) (av : Value) (ts : List MT) : Prop where
  er : ts.map erT = d.act
  ok : DOk d
  lt : ∀ k, F k → k < w.heap.size
  dis : ∀ k, F k → ¬ G k
  fp : F p
  blk : Blk w p [.pointer (some ⟨q, 0, none⟩), .int .i64 d.clock, .int .i64 d.last, av] 59
  st : StR w q d.st d.hz G
  act : w.ownsRow 0 63 3 av ts.length (mtC ts)
  actF : ∀ k, av.ownBlock = some k → F k
  wrs : ∀ t ∈ ts, w.ownsRow 0 73 3 t.wv t.ws.length (mwC t.ws)
  wrF : ∀ t ∈ ts, ∀ k, t.wv.ownBlock = some k → F k
  wrd : ts.Pairwise fun a b => ∀ k, a.wv.ownBlock = some k → b.wv.ownBlock ≠ some k
  rws : ∀ t ∈ ts, ∀ x ∈ t.ws, RowIn w F x.rv x.row
def DbR (w : World) (p : Nat) (d : Db) (F : Nat → Prop) : Prop := ∃ q F1 G av ts, DbP w p q d F1 G av ts ∧ (∀ k, F1 k ∨ G k → F k) ∧ ∀ k, F k → k < w.heap.size
/-- d' stands at p; nothing but the footprint F and new blocks has changed. -/
def DbPost (p : Nat) (d' : Db) (F : Nat → Prop) (w w' : World) : Prop := DbR w' p d' (Fx F w w') ∧ Chg F w w'
theorem DbP.chg {S F G : Nat → Prop} {w w' : World} {p q : Nat} {d : Db} {av : Value} {ts : List MT} (h : DbP w p q d F G av ts) (hc : Chg S w w') (hF : ∀ k, F k → ¬ S k) (hG : ∀ k, G k → ¬ S k) : DbP w' p q d F G av ts :=
  ⟨h.er, h.ok, fun k hk => Nat.lt_of_lt_of_le (h.lt k hk) hc.size, h.dis, h.fp, h.blk.chg hc (hF _ h.fp), h.st.chg hc hG, own_chg h.act hc fun k hk => hF k (h.actF k hk), h.actF, fun t ht => own_chg (h.wrs t ht) hc fun k hk => hF k (h.wrF t ht k hk), h.wrF, h.wrd,
    fun t ht x hx => (h.rws t ht x hx).chg hc fun k hk _ => ⟨hF k hk, hk⟩⟩
end Go.Proofs.Ytnbhdpmhgamjfaa.Sn

/- The snapshot database: index. -/
namespace Go.Proofs.Ytnbhdpmhgamjfaa.Sn
open Go Go.RowKit Hp So
open Mv (Val PC PV rowC fm_len fm_take fm_drop fm_get fm_set fm_one RowIn StR Srt pos has)
set_option linter.unusedVariables false

theorem mtC_get (l : List MT) (i : Nat) (h : i < l.length) : (mtC l)[i * 3]? = some (.int .i64 l[i].id) ∧ (mtC l)[i * 3 + 1]? = some (.int .i64 l[i].start) ∧ (mtC l)[i * 3 + 2]? = some l[i].wv :=
  ⟨by have := fm_get (f := mtC1) (k := 3) (fun _ => rfl) l i 0 h (by omega); simpa [mtC, mtC1] using this, by have := fm_get (f := mtC1) (k := 3) (fun _ => rfl) l i 1 h (by omega); simpa [mtC, mtC1] using this, by have := fm_get (f := mtC1) (k := 3) (fun _ => rfl) l i 2 h (by omega); simpa [mtC, mtC1] using this⟩
theorem mwC_get (l : List MW) (i : Nat) (h : i < l.length) : (mwC l)[i * 3]? = some (.string l[i].key) ∧ (mwC l)[i * 3 + 1]? = some (.bool l[i].del) ∧ (mwC l)[i * 3 + 2]? = some l[i].rv :=
  ⟨by have := fm_get (f := mwC1) (k := 3) (fun _ => rfl) l i 0 h (by omega); simpa [mwC, mwC1] using this, by have := fm_get (f := mwC1) (k := 3) (fun _ => rfl) l i 1 h (by omega); simpa [mwC, mwC1] using this, by have := fm_get (f := mwC1) (k := 3) (fun _ => rfl) l i 2 h (by omega); simpa [mwC, mwC1] using this⟩
/-- Where transaction id stands; -1 where it is not active. -/
def tidx (l : List Tr) (id : Int) : Int := idx (fun t : Tr => decide (t.id = id)) l
set_option maxRecDepth 100000 in
set_option maxHeartbeats 1000000 in
theorem ix_one (x : MT) (id : Int) (b : Nat) (w : World) (hb : At w b 0 (.int .i64 id)) (c : Option Addr) (n cp : Nat) : Calls Try.prog 36 #[.agg #[.int .i64 x.id, .int .i64 x.start, .slice c n cp], .pointer (some ⟨b, 0, none⟩)] w fun e w' => e = .returned (.bool (decide (x.id = id))) ∧ Up w w' := by
  have HB := Lib.hid hb
  have e1 := (hb.grow ((Up.refl w).alloc (.cells #[.int .i64 x.id, .int .i64 x.start, .slice c n cp] 63))).2
  generalize x.id = i at *
  generalize x.start = s at *
  by_cases hq : i = id
  · have h1 : ((i : Int) == id) = true := by simp [hq]
    have HQ := Lib.hid hq
    clear hq hb
    go_enter Try.func36, Try.ntmps36
    go_wp2
    go_ret
    exact ⟨by rw [decide_eq_true HQ.out]; rfl, (Up.refl w).alloc _⟩
  · have h1 : ((i : Int) == id) = false := beq_eq_false_iff_ne.2 hq
    have HQ := Lib.hid hq
    clear hq hb
    go_enter Try.func36, Try.ntmps36
    go_wp2
    go_ret
    exact ⟨by rw [decide_eq_false HQ.out]; rfl, (Up.refl w).alloc _⟩
set_option maxRecDepth 100000 in
set_option maxHeartbeats 2000000 in
theorem ixfn_any (v : Value) (ts : List MT) (id : Int) (b : Nat) (w : World) (hown : w.ownsRow 0 63 3 v ts.length (mtC ts)) (hw : ∀ t ∈ ts, ∃ a n c, t.wv = .slice a n c) (hb : At w b 0 (.int .i64 id)) (hl : ts.length ≤ 1000) :
    Calls Try.prog 35 #[v, .func (.func 36) #[] #[.pointer (some ⟨b, 0, none⟩)]] w fun e w' => e = .returned (.int .i64 (idx (fun t : MT => decide (t.id = id)) ts)) ∧ Up w w' := by
  have HO := Lib.hid hown
  have HWV := Lib.hid hw
  have HB := Lib.hid hb
  obtain ⟨a, cap, rfl, _, _, _⟩ := own_form hown
  clear hown hw hb
  go_enter Try.func35, Try.ntmps35
  go_wp2
  go_loopw [8] (fun iv wr => ∃ k : Nat, k ≤ ts.length ∧ iv = .int .i64 k ∧ Hid (Up w wr) ∧ Hid (∀ j (h : j < ts.length), j < k → decide (ts[j].id = id) = false)) (fun iv _ => ts.length - (intOf iv).toNat)
  case atStart => exact ⟨0, by omega, rfl, Up.refl _, fun j h hj => by omega⟩
  case round =>
    obtain ⟨k, hk, rfl, HU, HN⟩ := hrel
    by_cases hlt : k < ts.length
    · obtain ⟨g, cap', hv, _, _, hc⟩ := Mv.own_cell (own_up HO.out HU.out) (by omega)
      simp only [Value.slice.injEq] at hv
      obtain ⟨rfl, _, rfl⟩ := hv
      obtain ⟨g0, g1, g2⟩ := mtC_get ts k hlt
      obtain ⟨wa, wn, wc, hwv⟩ := HWV.out _ (List.getElem_mem hlt)
      rw [hwv] at g2
      have e0 := (hc _ _ g0).2
      have e1 := (hc _ _ g1).2
      have e2 := (hc _ _ g2).2
      have HONE := Lib.hid (ix_one ts[k] id b wr (HB.out.grow HU.out) wa wn wc)
      have bk : (k : Int) < (ts.length : Int) := by omega
      have HT : Hid (∀ (h : k < ts.length), decide (ts[k].id = id) = true → idx (fun t : MT => decide (t.id = id)) ts = (k : Int)) := fun h he => idx_hit h he HN.out
      have HF : Hid (decide (ts[k].id = id) = false → ∀ j (h : j < ts.length), j < k + 1 → decide (ts[j].id = id) = false) := fun he j h hj => by
        rcases Nat.lt_or_ge j k with h1 | h1
        · exact HN.out j h h1
        · obtain rfl : j = k := by omega
          exact he
      cases hd : decide (ts[k].id = id) with
      | true =>
        rw [hd] at HONE
        have HE := Lib.hid (HT.out hlt hd)
        generalize ts[k].id = x at *
        generalize ts[k].start = y at *
        clear hc g0 g1 g2 hwv hd HT HF
        go_wp2_with (first
          | (go_at_call 36; refine HONE.out.mono ?_; rintro e w2 ⟨rfl, h2⟩; have U2 := Lib.hid (HU.out.trans h2); clear h2)
          | fail)
        go_ret
        exact ⟨by rw [HE.out]; rfl, U2.out⟩
      | false =>
        rw [hd] at HONE
        have HE := Lib.hid (HF.out hd)
        generalize ts[k].id = x at *
        generalize ts[k].start = y at *
        clear hc g0 g1 g2 hwv hd HT HF
        go_wp2_with (first
          | (go_at_call 36; refine HONE.out.mono ?_; rintro e w2 ⟨rfl, h2⟩; have U2 := Lib.hid (HU.out.trans h2); clear h2)
          | fail)
        go_roundw
        case rel => exact ⟨k + 1, by omega, by go_num, U2.out, HE.out⟩
        case measure => simp [intOf]; omega
    · obtain rfl : k = ts.length := by omega
      have HE : Hid (idx (fun t : MT => decide (t.id = id)) ts = -1) := idx_miss fun j h => HN.out j h h
      go_wp2
      go_ret
      exact ⟨by rw [HE.out]; rfl, HU.out⟩
end Go.Proofs.Ytnbhdpmhgamjfaa.Sn

/- The snapshot database: index, Clock. -/
namespace Go.Proofs.Ytnbhdpmhgamjfaa.Sn
open Go Go.RowKit Hp So
open Mv (Val PC PV rowC fm_len fm_take fm_drop fm_get fm_set fm_one RowIn StR Srt pos has)
set_option linter.unusedVariables false

theorem findIdx_map {α β : Type} (f : α → β) (p : β → Bool) (l : List α) : (l.map f).findIdx? p = l.findIdx? (p ∘ f) := by
  induction l with
  | nil => rfl
  | cons a l ih => simp only [List.map_cons, List.findIdx?_cons, ih, Function.comp]
theorem idx_map {α β : Type} (f : α → β) (p : β → Bool) (l : List α) : idx p (l.map f) = idx (fun x => p (f x)) l := by
  unfold idx
  rw [findIdx_map]
  rfl
theorem DbP.wvs {w : World} {p q : Nat} {d : Db} {F G : Nat → Prop} {av : Value} {ts : List MT} (h : DbP w p q d F G av ts) : ∀ t ∈ ts, ∃ a n c, t.wv = .slice a n c := fun t ht => by
  obtain ⟨a, c, e, _⟩ := own_form (h.wrs t ht)
  exact ⟨a, _, c, e⟩
theorem DbP.tslen {w : World} {p q : Nat} {d : Db} {F G : Nat → Prop} {av : Value} {ts : List MT} (h : DbP w p q d F G av ts) : ts.length = d.act.length ∧ ts.length ≤ 60 := by
  have e : ts.length = d.act.length := by rw [← h.er, List.length_map]
  exact ⟨e, by have := h.ok.act; omega⟩
set_option maxRecDepth 100000 in
set_option maxHeartbeats 2000000 in
theorem index_any (p q : Nat) (d : Db) (F G : Nat → Prop) (av : Value) (ts : List MT) (id : Int) (w : World) (h : DbP w p q d F G av ts) :
    Calls Try.prog 21 #[.pointer (some ⟨p, 0, none⟩), .int .i64 id] w fun e w' => e = .returned (if tidx d.act id < 0 then .tuple #[.int .i64 0, .int .i64 4] else .tuple #[.int .i64 (tidx d.act id), .int .i64 0]) ∧ Up w w' := by
  have HTI : Hid (tidx d.act id = idx (fun t : MT => decide (t.id = id)) ts) := by
    unfold Hid tidx
    rw [← h.er, idx_map]
    rfl
  obtain ⟨hl1, hl2⟩ := h.tslen
  have hc := fun (W : World) (hu : Up w W) (hb : At W w.heap.size 0 (.int .i64 id)) => ixfn_any av ts id w.heap.size W (own_up h.act hu) h.wvs hb (by omega)
  have HC := Lib.hid hc
  obtain ⟨a, cap, rfl, _, _, _⟩ := own_form h.act
  have c3 := h.blk.cell 3
  rw [show ([Value.pointer (some ⟨q, 0, none⟩), .int .i64 d.clock, .int .i64 d.last, .slice a ts.length cap])[3]? = some (.slice a ts.length cap) from rfl] at c3
  have c3a := ((Up.refl w).alloc (.cells #[.int .i64 id] 3)).cell (p := ⟨p, 3, none⟩) h.blk.lt
  rw [c3] at c3a
  have hmf : ∀ (fn : Fn) (first cap : Array Value) (w : World), (Instr.makeFunc fn first cap).run Try.prog w = .ok (.func fn first cap) w := fun _ _ _ _ => rfl
  rw [HTI.out]
  generalize idx (fun t : MT => decide (t.id = id)) ts = i at *
  clear h hc c3 hl1
  by_cases hi : i < 0
  · go_enter Try.func21, Try.ntmps21
    go_wp2_with (first
      | (go_at_call 35; refine (HC.out _ ((Up.refl w).alloc _) (At.new w _ _ 0 _ rfl)).mono ?_; rintro e w1 ⟨rfl, h1⟩; have U1 := Lib.hid (((Up.refl w).alloc _).trans h1); clear h1)
      | fail)
    go_ret2
    exact ⟨rfl, U1.out⟩
  · go_enter Try.func21, Try.ntmps21
    go_wp2_with (first
      | (go_at_call 35; refine (HC.out _ ((Up.refl w).alloc _) (At.new w _ _ 0 _ rfl)).mono ?_; rintro e w1 ⟨rfl, h1⟩; have U1 := Lib.hid (((Up.refl w).alloc _).trans h1); clear h1)
      | fail)
    go_ret2
    exact ⟨rfl, U1.out⟩
end Go.Proofs.Ytnbhdpmhgamjfaa.Sn

/- The snapshot database: a transaction's search. -/
namespace Go.Proofs.Ytnbhdpmhgamjfaa.Sn
open Go Go.RowKit Hp So
open Mv (Val PC PV rowC fm_len fm_take fm_drop fm_get fm_set fm_one RowIn StR Srt pos has)
set_option linter.unusedVariables false

set_option maxRecDepth 100000 in
set_option maxHeartbeats 1000000 in
theorem search_any (g off : Nat) (wv : Value) (ws : List MW) (t : ByteArray) (w : World) (hc0 : At w g (off + 2) wv) (hown : w.ownsRow 0 73 3 wv ws.length (mwC ws)) (hs : Srt (ws.map erW)) (hl : ws.length ≤ 1000) :
    Calls Try.prog 30 #[.pointer (some ⟨g, off, none⟩), .string t] w fun e w' => e = .returned (.tuple #[.int .i64 (pos (ws.map erW) t : Nat), .bool (has (ws.map erW) t)]) ∧ Up w w' := by
  have hc : Calls Try.prog 49 #[wv, .string t, .func (.func 50) #[] #[]] w fun e w' => e = .returned (.tuple #[.int .i64 (pos (ws.map erW) t : Nat), .bool (has (ws.map erW) t)]) ∧ Up w w' := by
    refine (bs_any wv ws.length (mwC ws) (fun i => ((ws.map erW).getD i (t, ⟨false, []⟩)).1) (fun i => .bool ((ws.map (·.del)).getD i false)) (fun i => (ws.map (·.rv)).getD i undef) t w hown (by omega) (fun i hi => ?_) (fun a b h1 h2 h3 => Mv.mono_scmp hs t (t, ⟨false, []⟩) a b h1 (by rw [List.length_map]; exact h2) h3)).mono ?_
    · have := mwC_get ws i hi
      simp only [List.getD, List.getElem?_map, List.getElem?_eq_getElem hi, Option.map_some, Option.getD_some]
      exact this
    · rintro e w' ⟨i, h1, h2, h3, rfl, h4⟩
      obtain ⟨e1, e2⟩ := Mv.pos_get (l := ws.map erW) (x := ⟨false, []⟩) (by rw [List.length_map]; exact h1) h2 (fun j a b => h3 j a (by rw [List.length_map] at b; exact b))
      rw [List.length_map] at e2
      exact ⟨by rw [e1, ← e2], h4⟩
  have c0 := hc0.2
  clear hc0 hown hs
  go_enter Try.func30, Try.ntmps30
  go_wp2_with (first
    | (go_at_call 49; refine hc.mono ?_; rintro e w' ⟨rfl, h4⟩)
    | fail)
  go_wp2
  go_ret2
  exact ⟨rfl, h4⟩
end Go.Proofs.Ytnbhdpmhgamjfaa.Sn

/- The snapshot database: New, Clock. -/
namespace Go.Proofs.Ytnbhdpmhgamjfaa.Sn
open Go Go.RowKit Hp So
open Mv (Val PC PV rowC fm_len fm_take fm_drop fm_get fm_set fm_one RowIn StR Srt pos has)
set_option linter.unusedVariables false

def db0 : Db := ⟨[], 0, 0, 0, []⟩
theorem db0_ok : DOk db0 := ⟨⟨List.Pairwise.nil, (fun c hc => by cases hc), by simp [db0, Mv.cnt], (fun c hc => by cases hc), (fun c hc => by cases hc), (fun c hc => by cases hc), fun c hc => by cases hc⟩, by decide, by decide, by decide, by decide, List.Pairwise.nil, (fun t ht => by cases ht), (fun t ht => by cases ht), (fun t ht => by cases ht), (fun t ht => by cases ht), (fun t ht => by cases ht), fun c hc => by cases hc⟩
set_option maxRecDepth 100000 in
set_option maxHeartbeats 1000000 in
theorem new_any (w : World) : Calls Try.prog 4 #[] w fun e w' => ∃ p q, e = .returned (.pointer (some ⟨p, 0, none⟩)) ∧ DbP w' p q db0 (fun j => j = p) (fun j => j = q) (.slice none 0 0) [] ∧ w.heap.size ≤ p ∧ w.heap.size ≤ q ∧ Up w w' := by
  go_enter Try.func4, Try.ntmps4
  go_wp2_with (first
    | (go_at_call 15; refine (Mv.new_any _).mono ?_; rintro e w1 ⟨rfl, h1⟩; have H1 := Lib.hid h1; clear h1)
    | fail)
  go_ret
  obtain ⟨h1, h2, h3⟩ := H1.out
  have hu : Up w1 (w1.alloc (.cells #[.pointer (some ⟨w.heap.size, 0, none⟩), .int .i64 0, .int .i64 0, .slice none 0 0] 59)) := (Up.refl w1).alloc _
  refine ⟨_, w.heap.size, rfl, ⟨rfl, db0_ok, fun k hk => by subst hk; simp, fun k hk e => by omega, rfl, Blk.new _ _ _, h1.up hu, World.ownsRow_nil _ _ _ _, (fun k hk => by cases hk), (fun t ht => by cases ht), (fun t ht => by cases ht), List.Pairwise.nil, fun t ht => by cases ht⟩, by omega, Nat.le_refl _, h2.trans hu⟩

end Go.Proofs.Ytnbhdpmhgamjfaa.Sn
