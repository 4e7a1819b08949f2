/- The snapshot database: index, Clock. -/
import Derived.Test.YtinmpodnfofmdaaSne
namespace Go.Proofs.Ytinmpodnfofmdaa.Sn
open Go Go.RowKit Hp So
open Mv (Val PC PV rowC fm_len fm_take fm_drop fm_get fm_set fm_one RowIn StR Srt pos has)
set_option linter.unusedVariables false

theorem findIdx_map {α β : Type} (f : α → β) (p : β → Bool) (l : List α) : (l.map f).findIdx? p = l.findIdx? (p ∘ f) := by
  induction l with
  | nil => rfl
  | cons a l ih => simp only [List.map_cons, List.findIdx?_cons, ih, Function.comp]
theorem idx_map {α β : Type} (f : α → β) (p : β → Bool) (l : List α) : idx p (l.map f) = idx (fun x => p (f x)) l := by
  unfold idx
  rw [findIdx_map]
  rfl
theorem DbP.wvs {w : World} {p q : Nat} {d : Db} {F G : Nat → Prop} {av : Value} {ts : List MT} (h : DbP w p q d F G av ts) : ∀ t ∈ ts, ∃ a n c, t.wv = .slice a n c := fun t ht => by
  obtain ⟨a, c, e, _⟩ := own_form (h.wrs t ht)
  exact ⟨a, _, c, e⟩
theorem DbP.tslen {w : World} {p q : Nat} {d : Db} {F G : Nat → Prop} {av : Value} {ts : List MT} (h : DbP w p q d F G av ts) : ts.length = d.act.length ∧ ts.length ≤ 60 := by
  have e : ts.length = d.act.length := by rw [← h.er, List.length_map]
  exact ⟨e, by have := h.ok.act; omega⟩
set_option maxRecDepth 100000 in
set_option maxHeartbeats 2000000 in
theorem index_any (p q : Nat) (d : Db) (F G : Nat → Prop) (av : Value) (ts : List MT) (id : Int) (w : World) (h : DbP w p q d F G av ts) :
    Calls Try.prog 54 #[.pointer (some ⟨p, 0, none⟩), .int .i64 id] w fun e w' => e = .returned (if tidx d.act id < 0 then .tuple #[.int .i64 0, .int .i64 4] else .tuple #[.int .i64 (tidx d.act id), .int .i64 0]) ∧ Up w w' := by
  have HTI : Hid (tidx d.act id = idx (fun t : MT => decide (t.id = id)) ts) := by
    unfold Hid tidx
    rw [← h.er, idx_map]
    rfl
  obtain ⟨hl1, hl2⟩ := h.tslen
  have hc := fun (W : World) (hu : Up w W) (hb : At W w.heap.size 0 (.int .i64 id)) => ixfn_any av ts id w.heap.size W (own_up h.act hu) h.wvs hb (by omega)
  have HC := Lib.hid hc
  obtain ⟨a, cap, rfl, _, _, _⟩ := own_form h.act
  have c3 := h.blk.cell 3
  rw [show ([Value.pointer (some ⟨q, 0, none⟩), .int .i64 d.clock, .int .i64 d.last, .slice a ts.length cap])[3]? = some (.slice a ts.length cap) from rfl] at c3
  have c3a := ((Up.refl w).alloc (.cells #[.int .i64 id] 3)).cell (p := ⟨p, 3, none⟩) h.blk.lt
  rw [c3] at c3a
  have hmf : ∀ (fn : Fn) (first cap : Array Value) (w : World), (Instr.makeFunc fn first cap).run Try.prog w = .ok (.func fn first cap) w := fun _ _ _ _ => rfl
  rw [HTI.out]
  generalize idx (fun t : MT => decide (t.id = id)) ts = i at *
  clear h hc c3 hl1
  by_cases hi : i < 0
  · go_enter Try.func54, Try.ntmps54
    go_wp2_with (first
      | (go_at_call 71; refine (HC.out _ ((Up.refl w).alloc _) (At.new w _ _ 0 _ rfl)).mono ?_; rintro e w1 ⟨rfl, h1⟩; have U1 := Lib.hid (((Up.refl w).alloc _).trans h1); clear h1)
      | fail)
    go_ret2
    exact ⟨rfl, U1.out⟩
  · go_enter Try.func54, Try.ntmps54
    go_wp2_with (first
      | (go_at_call 71; refine (HC.out _ ((Up.refl w).alloc _) (At.new w _ _ 0 _ rfl)).mono ?_; rintro e w1 ⟨rfl, h1⟩; have U1 := Lib.hid (((Up.refl w).alloc _).trans h1); clear h1)
      | fail)
    go_ret2
    exact ⟨rfl, U1.out⟩
end Go.Proofs.Ytinmpodnfofmdaa.Sn
