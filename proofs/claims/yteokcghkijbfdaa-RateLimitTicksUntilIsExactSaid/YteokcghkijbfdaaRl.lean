/- The rate limiter's functions: what each call computes. -/
import Derived.Test.YteokcghkijbfdaaRows
import Derived.WalkKit
import Derived.WalkSpells
import Derived.WalkLawsBesides
import Derived.Handy
import Derived.StillTailTactics
import Derived.Deep.QuietTactic
import Derived.BigQuiet
import Derived.RegionTactic
import Derived.Lib.Hide
namespace Go.Proofs.Yteokcghkijbfdaa.Rl
open Go Go.RowKit

def modV (k n : Int) : Int := (k % 18446744073709551616) % n

theorem modV_nonneg (k n : Int) (h : 0 < n) : 0 ≤ modV k n := Int.emod_nonneg _ (by omega)
theorem modV_lt (k n : Int) (h : 0 < n) : modV k n < n := Int.emod_lt_of_pos _ h

theorem mod_eq (k n : Int) (h0 : 0 < n) (h1 : n ≤ 1000000) : wrap64 ((IntKind.u64.wrap k).tmod n) = modV k n := by
  have e : IntKind.u64.wrap k = k % 18446744073709551616 := by simp [IntKind.wrap, IntKind.bits, IntKind.signed]
  have hn : 0 ≤ k % 18446744073709551616 := Int.emod_nonneg _ (by omega)
  rw [e, Int.tmod_eq_emod_of_nonneg hn]
  have a := Int.emod_nonneg (k % 18446744073709551616) (show n ≠ 0 by omega)
  have b := Int.emod_lt_of_pos (k % 18446744073709551616) h0
  unfold modV
  exact IntWalk.wrap64_in _ (by omega)

theorem mod_any (k n : Int) (w : World) (h0 : 0 < n) (h1 : n ≤ 1000000) :
    Calls Try.prog 9 #[.int .i64 k, .int .i64 n] w fun e w' => e = .returned (.int .i64 (modV k n)) ∧ w = w' := by
  have HD := Lib.hid (mod_eq k n h0 h1)
  go_enter Try.func9, Try.ntmps9
  go_wp2
  go_ret
  exact ⟨by simp [HD.out], rfl⟩

theorem new_any (r bu : Int) (w : World) (h0 : 1 ≤ r) (h1 : r ≤ 1000) (h2 : r ≤ bu) (h3 : bu ≤ 1000000) :
    Calls Try.prog 10 #[.int .i64 r, .int .i64 bu] w fun e w' => e = .returned (.tuple #[.pointer (some ⟨w.heap.size, 0, none⟩), .int .i64 0]) ∧ w' = w.alloc (.cells #[.int .i64 r, .int .i64 bu, .int .i64 bu, .int .i64 0] 54) := by
  go_enter Try.func10, Try.ntmps10
  go_wp2
  go_ret2
  exact ⟨rfl, rfl⟩

/-- A bucket lies in block b. -/
def Bkt (w : World) (b : Nat) (r bu t d : Int) : Prop := w.heap[b]? = some (.cells #[.int .i64 r, .int .i64 bu, .int .i64 t, .int .i64 d] 54 (0, 0))

/-- The two worlds part in block b alone. -/
structure Touch (b : Nat) (w w' : World) : Prop where
  os : w'.os = w.os
  tape : w'.tape = w.tape
  output : w'.output = w.output
  size : w'.heap.size = w.heap.size
  block : ∀ k, k ≠ b → w'.heap[k]? = w.heap[k]?

theorem Touch.refl (b : Nat) (w : World) : Touch b w w := ⟨rfl, rfl, rfl, rfl, fun _ _ => rfl⟩
theorem Touch.trans {b : Nat} {w w' w'' : World} (h : Touch b w w') (k : Touch b w' w'') : Touch b w w'' :=
  ⟨k.os.trans h.os, k.tape.trans h.tape, k.output.trans h.output, k.size.trans h.size, fun i hi => (k.block i hi).trans (h.block i hi)⟩
theorem Touch.drew {b : Nat} {w w' : World} (h : Touch b w w') : Touch b w w'.drew := ⟨h.os, h.tape, h.output, h.size, h.block⟩
theorem Touch.drewN {b : Nat} {w w' : World} (h : Touch b w w') (n : Nat) : Touch b w (w'.drewN n) := ⟨h.os, h.tape, h.output, h.size, h.block⟩
theorem Touch.setCell {b : Nat} {w w' : World} (h : Touch b w w') (o : Nat) (s : Option Nat) (u : Value) : Touch b w (w'.setCell ⟨b, o, s⟩ u) :=
  h.trans ⟨rfl, rfl, rfl, by simp, fun k hk => Below.heap_setCell _ _ _ _ hk⟩
theorem Touch.below {b : Nat} {w0 w w' : World} {B : Nat} (h0 : Below B w0 w) (h : Touch b w w') (hb : B ≤ b) : Below B w0 w' :=
  h0.trans ⟨h.os, h.tape, h.output, by rw [h.size]; exact Nat.le_refl _, fun k hk => h.block k (by omega)⟩

theorem Bkt.cells {w : World} {b : Nat} {r bu t d : Int} (h : Bkt w b r bu t d) : w.cell? ⟨b, 0, none⟩ = some (.int .i64 r) ∧ w.cell? ⟨b, 1, none⟩ = some (.int .i64 bu) ∧ w.cell? ⟨b, 2, none⟩ = some (.int .i64 t) ∧ w.cell? ⟨b, 3, none⟩ = some (.int .i64 d) := by
  unfold Bkt at h; simp [World.cell?, h]
theorem Bkt.free {w : World} {b : Nat} {r bu t d : Int} (h : Bkt w b r bu t d) : w.frozen? ⟨b, 2, none⟩ = false ∧ w.frozen? ⟨b, 3, none⟩ = false := by
  unfold Bkt at h; simp [World.frozen?, h]
theorem Bkt.set2 {w : World} {b : Nat} {r bu t d : Int} (h : Bkt w b r bu t d) (t' : Int) : Bkt (w.setCell ⟨b, 2, none⟩ (.int .i64 t')) b r bu t' d := by
  unfold Bkt at *; simp [World.setCell, Array.getElem?_modify, h]
theorem Bkt.set3 {w : World} {b : Nat} {r bu t d : Int} (h : Bkt w b r bu t d) (d' : Int) : Bkt (w.setCell ⟨b, 3, none⟩ (.int .i64 d')) b r bu t d' := by
  unfold Bkt at *; simp [World.setCell, Array.getElem?_modify, h]
theorem Bkt.drewN {w : World} {b : Nat} {r bu t d : Int} (h : Bkt w b r bu t d) (n : Nat) : Bkt (w.drewN n) b r bu t d := h
theorem Bkt.drew {w : World} {b : Nat} {r bu t d : Int} (h : Bkt w b r bu t d) : Bkt w.drew b r bu t d := h

theorem avail_any (b : Nat) (r bu t d : Int) (w : World) (h : Bkt w b r bu t d) :
    Calls Try.prog 11 #[.pointer (some ⟨b, 0, none⟩)] w fun e w' => e = .returned (.tuple #[.int .i64 t, .int .i64 d]) ∧ Touch b w w' ∧ Bkt w' b r bu t d := by
  obtain ⟨c0, c1, c2, c3⟩ := h.cells
  have H := Lib.hid h
  clear h
  go_enter Try.func11, Try.ntmps11
  go_wp2
  go_quiet (fail)
  go_wp2
  go_ret2
  exact ⟨rfl, (Touch.refl _ _).drewN _, H.out.drewN _⟩

def tk (n t : Int) : Int := if n ≤ t then n else t

set_option maxHeartbeats 400000 in
theorem take_any (b : Nat) (r bu t d n : Int) (w : World) (h : Bkt w b r bu t d) (h0 : 0 ≤ n) (h1 : n ≤ 1000000) (h2 : 0 ≤ t) (h3 : t ≤ 1000000) :
    Calls Try.prog 13 #[.pointer (some ⟨b, 0, none⟩), .int .i64 n] w fun e w' => e = .returned (.tuple #[.int .i64 (tk n t), .int .i64 0]) ∧ Touch b w w' ∧ Bkt w' b r bu (t - tk n t) d := by
  obtain ⟨c0, c1, c2, c3⟩ := h.cells
  obtain ⟨f2, f3⟩ := h.free
  have H := Lib.hid h
  clear h
  by_cases hc : n ≤ t
  · have E : Hid (tk n t = n) := by simp [Hid, tk, hc]
    go_enter Try.func13, Try.ntmps13
    go_wp2
    go_ret2
    rw [E.out]
    exact ⟨rfl, (Touch.refl _ _).setCell _ _ _, H.out.set2 _⟩
  · have E : Hid (tk n t = t) := by simp [Hid, tk, hc]
    go_enter Try.func13, Try.ntmps13
    go_wp2
    go_ret2
    rw [E.out]
    exact ⟨rfl, (Touch.refl _ _).setCell _ _ _, by rw [Int.sub_self]; exact H.out.set2 _⟩

/-- What Advance does to the tokens and the debt. -/
def advT (bu t d g : Int) : Int := if d < g then (if t + g - d < bu then t + g - d else bu) else t
def advD (d g : Int) : Int := if d < g then 0 else d - g

set_option maxHeartbeats 800000 in
theorem adv_any (b : Nat) (r bu t d k : Int) (w : World) (h : Bkt w b r bu t d) (h0 : 0 ≤ k) (h1 : k ≤ 1000000) (hr0 : 0 ≤ r) (hr1 : r ≤ 1000) (ht0 : 0 ≤ t) (ht1 : t ≤ bu) (hbu : bu ≤ 1000000) (hd0 : 0 ≤ d) (hd1 : d ≤ bu) :
    Calls Try.prog 12 #[.pointer (some ⟨b, 0, none⟩), .int .i64 k] w fun e w' => e = .returned (.int .i64 0) ∧ Touch b w w' ∧ Bkt w' b r bu (advT bu t d (k * r)) (advD d (k * r)) := by
  obtain ⟨c0, c1, c2, c3⟩ := h.cells
  obtain ⟨f2, f3⟩ := h.free
  have H := Lib.hid h
  clear h
  have g0 : 0 ≤ k * r := Int.mul_nonneg h0 hr0
  have g1 : k * r ≤ 1000000000 := by
    have := Int.mul_le_mul h1 hr1 hr0 (by omega)
    omega
  by_cases hc : d < k * r
  · by_cases hc2 : t + k * r - d < bu
    · have E : Hid (advT bu t d (k * r) = t + k * r - d ∧ advD d (k * r) = 0) := by simp [Hid, advT, advD, hc, hc2]
      go_enter Try.func12, Try.ntmps12
      go_wp2
      go_region
      go_wp2
      go_ret
      rw [E.out.1, E.out.2]
      exact ⟨rfl, (((Touch.refl _ _).setCell _ _ _).setCell _ _ _).drew, ((H.out.set3 _).set2 _).drew⟩
    · have E : Hid (advT bu t d (k * r) = bu ∧ advD d (k * r) = 0) := by simp [Hid, advT, advD, hc, hc2]
      go_enter Try.func12, Try.ntmps12
      go_wp2
      go_region
      go_wp2
      go_ret
      rw [E.out.1, E.out.2]
      exact ⟨rfl, (((Touch.refl _ _).setCell _ _ _).setCell _ _ _).drew, ((H.out.set3 _).set2 _).drew⟩
  · have E : Hid (advT bu t d (k * r) = t ∧ advD d (k * r) = d - k * r) := by simp [Hid, advT, advD, hc]
    have q1 : t + k * r - k * r = t := by omega
    by_cases hc3 : t < bu
    · go_enter Try.func12, Try.ntmps12
      go_wp2
      go_region
      go_wp2
      go_ret
      rw [E.out.1, E.out.2]
      refine ⟨rfl, (((Touch.refl _ _).setCell _ _ _).setCell _ _ _).drew, ((H.out.set3 _).set2 _).drew⟩
    · obtain rfl : t = bu := by omega
      go_enter Try.func12, Try.ntmps12
      go_wp2
      go_region
      go_wp2
      go_ret
      rw [E.out.1, E.out.2]
      refine ⟨rfl, (((Touch.refl _ _).setCell _ _ _).setCell _ _ _).drew, ((H.out.set3 _).set2 _).drew⟩

/-- What Force does to the debt. -/
def frD (bu t d n : Int) : Int := if bu < d + n - tk n t then bu else d + n - tk n t

set_option maxHeartbeats 800000 in
theorem force_any (b : Nat) (r bu t d n : Int) (w : World) (h : Bkt w b r bu t d) (h0 : 0 ≤ n) (h1 : n ≤ 1000000) (ht0 : 0 ≤ t) (ht1 : t ≤ bu) (hbu : bu ≤ 1000000) (hd0 : 0 ≤ d) (hd1 : d ≤ bu) :
    Calls Try.prog 14 #[.pointer (some ⟨b, 0, none⟩), .int .i64 n] w fun e w' => e = .returned (.int .i64 0) ∧ Touch b w w' ∧ Bkt w' b r bu (t - tk n t) (frD bu t d n) := by
  obtain ⟨c0, c1, c2, c3⟩ := h.cells
  obtain ⟨f2, f3⟩ := h.free
  have H := Lib.hid h
  clear h
  by_cases hc : t < n
  · have e1 : tk n t = t := by simp [tk]; omega
    by_cases hc2 : bu < d + n - t
    · have E : Hid (tk n t = t ∧ frD bu t d n = bu) := by simp [Hid, frD, e1, hc2]
      clear e1
      go_enter Try.func14, Try.ntmps14
      go_wp2
      go_region
      go_wp2
      go_ret
      rw [E.out.1, E.out.2]
      exact ⟨rfl, (((Touch.refl _ _).setCell _ _ _).setCell _ _ _).drew, ((by rw [Int.sub_self]; exact H.out.set2 _ : Bkt _ _ _ _ _ _).set3 _).drew⟩
    · have E : Hid (tk n t = t ∧ frD bu t d n = d + n - t) := by simp [Hid, frD, e1, hc2]
      clear e1
      go_enter Try.func14, Try.ntmps14
      go_wp2
      go_region
      go_wp2
      go_ret
      rw [E.out.1, E.out.2]
      exact ⟨rfl, (((Touch.refl _ _).setCell _ _ _).setCell _ _ _).drew, ((by rw [Int.sub_self]; exact H.out.set2 _ : Bkt _ _ _ _ _ _).set3 _).drew⟩
  · have e1 : tk n t = n := by simp [tk]; omega
    have E : Hid (tk n t = n ∧ frD bu t d n = d) := by
      simp [Hid, frD, e1]; omega
    have q1 : d + n - n = d := by omega
    clear e1
    go_enter Try.func14, Try.ntmps14
    go_wp2
    go_region
    go_wp2
    go_ret
    rw [E.out.1, E.out.2]
    exact ⟨rfl, (((Touch.refl _ _).setCell _ _ _).setCell _ _ _).drew, ((H.out.set2 _).set3 _).drew⟩

def tuV (r t d n : Int) : Int := if n ≤ t then 0 else (n - t + d + r - 1) / r

set_option maxHeartbeats 800000 in
theorem until_any (b : Nat) (r bu t d n : Int) (w : World) (h : Bkt w b r bu t d) (h0 : 0 ≤ n) (h1 : n ≤ bu) (hr0 : 1 ≤ r) (hr1 : r ≤ 1000) (ht0 : 0 ≤ t) (ht1 : t ≤ bu) (hbu : bu ≤ 1000000) (hd0 : 0 ≤ d) (hd1 : d ≤ bu) :
    Calls Try.prog 16 #[.pointer (some ⟨b, 0, none⟩), .int .i64 n] w fun e w' => e = .returned (.tuple #[.int .i64 (tuV r t d n), .int .i64 0]) ∧ Touch b w w' ∧ Bkt w' b r bu t d := by
  obtain ⟨c0, c1, c2, c3⟩ := h.cells
  have H := Lib.hid h
  clear h
  by_cases hc : n ≤ t
  · have E : Hid (tuV r t d n = 0) := by simp [Hid, tuV, hc]
    go_enter Try.func16, Try.ntmps16
    go_wp2
    go_ret2
    rw [E.out]
    exact ⟨rfl, Touch.refl _ _, H.out⟩
  · have E : Hid (tuV r t d n = (n - t + d + r - 1) / r) := by simp [Hid, tuV, hc]
    have p0 : 0 ≤ (n - t + d + r - 1) / r := Int.ediv_nonneg (by omega) (by omega)
    have p1 : (n - t + d + r - 1) / r ≤ n - t + d + r - 1 := Int.ediv_le_self _ (by omega)
    go_enter Try.func16, Try.ntmps16
    go_wp2
    go_quiet (fail)
    go_wp2
    go_show
    go_ret2
    rw [E.out]
    exact ⟨rfl, (Touch.refl _ _).drewN _, H.out.drewN _⟩

theorem full_any (b : Nat) (r bu : Int) (w : World) (h : Bkt w b r bu bu 0) :
    Calls Try.prog 15 #[.pointer (some ⟨b, 0, none⟩), .int .i64 bu] w fun e w' => e = .returned (.bool true) ∧ Touch b w w' ∧ Bkt w' b r bu bu 0 := by
  have H := Lib.hid h
  clear h
  go_enter Try.func15, Try.ntmps15
  go_wp2_with (go_at_call 11; refine (avail_any _ _ _ _ _ _ H.out).mono ?_; rintro e w' ⟨rfl, ht, hb⟩)
  go_ret
  exact ⟨rfl, by assumption, by assumption⟩
end Go.Proofs.Yteokcghkijbfdaa.Rl
