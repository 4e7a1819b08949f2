/- Interleavings: interleavingWorks. -/
import Derived.Test.YthcldanmppkkjaaInn
namespace Go.Proofs.Ythcldanmppkkjaa.In
open Go Go.RowKit Hp
set_option linter.unusedVariables false

def kx : ByteArray := ⟨#[120]⟩
def oa : Hop := ⟨0, 2, kx⟩
def ob : Hop := ⟨1, 1, kx⟩
def w0L : List (List Hop) := [[oa], [ob]]
theorem orderOf_congr {l : List Hop} {M : Nat → Bool} (h : ∀ c, cfN l l.length c = M c) : orderOf l = topo (fm M) (tids l 20).length (tids l 20) [] := by
  unfold orderOf; rw [show cfN l l.length = M from funext h]
theorem order_ab : orderOf [oa, ob] = some [0, 1] := by
  rw [orderOf_congr (M := fun c => decide (c = 1)) (fun c => by
    simp [oa, ob, cfN, cfIn, hitc, confl, List.range_succ])]
  have e : tids [oa, ob] 20 = [0, 1] := by decide
  rw [e]
  decide
theorem order_ba : orderOf [ob, oa] = some [1, 0] := by
  rw [orderOf_congr (M := fun c => decide (c = 20)) (fun c => by
    simp [oa, ob, cfN, cfIn, hitc, confl, List.range_succ])]
  have e : tids [ob, oa] 20 = [0, 1] := by decide
  rw [e]
  decide
theorem dep_ab : depH oa ob = true ∧ depH ob oa = true := by
  constructor <;> simp [depH, confl, oa, ob]
theorem sch_w0 : sch w0L = [[oa, ob], [ob, oa]] := by
  simp [sch, w0L, tot, expl, loopE, sleepN, List.range_succ, dep_ab.1, dep_ab.2]
theorem w0_len : (sch w0L).length = 2 := by rw [sch_w0]; rfl
theorem w0_ser : serN w0L = 2 := by
  unfold serN
  rw [sch_w0]
  simp [order_ab, order_ba]
theorem one_valid {x : Hop} (hk : x.kind = 1 ∨ x.kind = 2) (ht : x.tx < 20) (hs : x.key.size ≤ 24) : HValid [x] :=
  ⟨by simp, fun i hi => by
    obtain rfl : i = 0 := by simpa using hi
    exact hk, fun i hi => by
    obtain rfl : i = 0 := by simpa using hi
    exact ht, fun i hi => by
    obtain rfl : i = 0 := by simpa using hi
    exact hs⟩
theorem va : HValid [oa] := one_valid (.inr rfl) (by decide) (by decide)
theorem vb : HValid [ob] := one_valid (.inl rfl) (by decide) (by decide)
theorem w0_valid : TValid w0L := by
  exact ⟨by decide, by decide, fun i hi => by
    match i, hi with
    | 0, _ => exact va
    | 1, _ => exact vb, fun i hi x hx => by
    match i, hi with
    | 0, _ => rw [List.mem_singleton.1 hx]; rfl
    | 1, _ => rw [List.mem_singleton.1 hx]; rfl⟩
theorem w0_lies (w : World) : TxR (((w.alloc (.cells #[.int .i64 0, .int .i64 2, .string kx] 33)).alloc (.cells #[.int .i64 1, .int .i64 1, .string kx] 33)).alloc (.cells #[.slice (some ⟨w.heap.size, 0, none⟩) 1 1, .slice (some ⟨w.heap.size + 1, 0, none⟩) 1 1] 30)) 0 (.slice (some ⟨w.heap.size + 2, 0, none⟩) 2 2) w0L := by
  obtain ⟨w1, hw1⟩ : ∃ x, x = w.alloc (.cells #[.int .i64 0, .int .i64 2, .string kx] 33) := ⟨_, rfl⟩
  have s1 : w1.heap.size = w.heap.size + 1 := by rw [hw1]; simp
  have o1 : w1.ownsRow 0 33 3 (.slice (some ⟨w.heap.size, 0, none⟩) 1 1) 1 (hpC [oa]) := by
    rw [hw1]
    exact own_base (own_of_blk (n := 1) (size := 3) (Blk.new w _ _) rfl (by omega)) (Nat.zero_le _)
  rw [← hw1]
  obtain ⟨w2, hw2⟩ : ∃ x, x = w1.alloc (.cells #[.int .i64 1, .int .i64 1, .string kx] 33) := ⟨_, rfl⟩
  have s2 : w2.heap.size = w.heap.size + 2 := by rw [hw2]; simp [s1]
  have o2 : w2.ownsRow 0 33 3 (.slice (some ⟨w.heap.size + 1, 0, none⟩) 1 1) 1 (hpC [ob]) := by
    rw [hw2, ← s1]
    exact own_base (own_of_blk (n := 1) (size := 3) (Blk.new w1 _ _) rfl (by omega)) (Nat.zero_le _)
  have u2 : Up w1 w2 := by rw [hw2]; exact (Up.refl _).alloc _
  rw [← hw2, ← s2]
  refine ⟨_, own_base (own_of_blk (n := 2) (size := 1) (Blk.new w2 _ _) rfl (by omega)) (Nat.zero_le _), fun i hi => ?_⟩
  match i, hi with
  | 0, _ => exact ⟨_, rfl, own_up (own_up o1 u2) ((Up.refl _).alloc _)⟩
  | 1, _ => exact ⟨_, rfl, own_up o2 ((Up.refl _).alloc _)⟩
set_option maxHeartbeats 2000000 in
theorem works_any (w : World) : Calls Try.prog 7 #[] w fun e w' => e = .returned (.bool true) ∧ Up w w' := by
  have HT := Lib.hid (w0_lies w)
  have HC := Lib.hid (fun v (w : World) (h : TxR w 0 v w0L) => count_any v w0L w h w0_valid)
  rw [w0_len, w0_ser] at HC
  go_enter Try.func7, Try.ntmps7
  go_wp2_with (first
    | (go_at_call 9; refine (HC.out _ _ HT.out).mono ?_; rintro e w1 ⟨rfl, h1⟩; have U1 := Lib.hid ((((Up.refl w).alloc (.cells #[.int .i64 0, .int .i64 2, .string kx] 33)).alloc (.cells #[.int .i64 1, .int .i64 1, .string kx] 33)).alloc (.cells #[.slice (some ⟨w.heap.size, 0, none⟩) 1 1, .slice (some ⟨w.heap.size + 1, 0, none⟩) 1 1] 30) |>.trans h1); clear h1)
    | fail)
  go_ret
  exact ⟨rfl, U1.out⟩
end Go.Proofs.Ythcldanmppkkjaa.In
