/- The snapshot database: New, Clock. -/
import Derived.Test.YtinmpodnfofmdaaSng
namespace Go.Proofs.Ytinmpodnfofmdaa.Sn
open Go Go.RowKit Hp So
open Mv (Val PC PV rowC fm_len fm_take fm_drop fm_get fm_set fm_one RowIn StR Srt pos has)
set_option linter.unusedVariables false

def db0 : Db := ⟨[], 0, 0, 0, []⟩
theorem db0_ok : DOk db0 := ⟨⟨List.Pairwise.nil, (fun c hc => by cases hc), by simp [db0, Mv.cnt], (fun c hc => by cases hc), (fun c hc => by cases hc), (fun c hc => by cases hc), fun c hc => by cases hc⟩, by decide, by decide, by decide, by decide, List.Pairwise.nil, (fun t ht => by cases ht), (fun t ht => by cases ht), (fun t ht => by cases ht), (fun t ht => by cases ht), (fun t ht => by cases ht), fun c hc => by cases hc⟩
set_option maxRecDepth 100000 in
set_option maxHeartbeats 1000000 in
theorem new_any (w : World) : Calls Try.prog 32 #[] w fun e w' => ∃ p q, e = .returned (.pointer (some ⟨p, 0, none⟩)) ∧ DbP w' p q db0 (fun j => j = p) (fun j => j = q) (.slice none 0 0) [] ∧ w.heap.size ≤ p ∧ w.heap.size ≤ q ∧ Up w w' := by
  go_enter Try.func32, Try.ntmps32
  go_wp2_with (first
    | (go_at_call 23; refine (Mv.new_any _).mono ?_; rintro e w1 ⟨rfl, h1⟩; have H1 := Lib.hid h1; clear h1)
    | fail)
  go_ret
  obtain ⟨h1, h2, h3⟩ := H1.out
  have hu : Up w1 (w1.alloc (.cells #[.pointer (some ⟨w.heap.size, 0, none⟩), .int .i64 0, .int .i64 0, .slice none 0 0] 99)) := (Up.refl w1).alloc _
  refine ⟨_, w.heap.size, rfl, ⟨rfl, db0_ok, fun k hk => by subst hk; simp, fun k hk e => by omega, rfl, Blk.new _ _ _, h1.up hu, World.ownsRow_nil _ _ _ _, (fun k hk => by cases hk), (fun t ht => by cases ht), (fun t ht => by cases ht), List.Pairwise.nil, fun t ht => by cases ht⟩, by omega, Nat.le_refl _, h2.trans hu⟩
set_option maxRecDepth 100000 in
set_option maxHeartbeats 1000000 in
theorem clock_any (p q : Nat) (d : Db) (F G : Nat → Prop) (av : Value) (ts : List MT) (w : World) (h : DbP w p q d F G av ts) :
    Calls Try.prog 37 #[.pointer (some ⟨p, 0, none⟩)] w fun e w' => e = .returned (.int .i64 d.clock) ∧ w = w' := by
  have c1 := h.blk.cell 1
  rw [show ([Value.pointer (some ⟨q, 0, none⟩), .int .i64 d.clock, .int .i64 d.last, av])[1]? = some (.int .i64 d.clock) from rfl] at c1
  clear h
  go_enter Try.func37, Try.ntmps37
  go_wp2
  go_ret
  exact ⟨rfl, rfl⟩
end Go.Proofs.Ytinmpodnfofmdaa.Sn
