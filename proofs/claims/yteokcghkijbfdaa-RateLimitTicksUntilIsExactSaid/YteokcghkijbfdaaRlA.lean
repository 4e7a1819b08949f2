/- The rate limiter's laws: what the walks share. -/
import Derived.Test.YteokcghkijbfdaaRl
namespace Go.Proofs.Yteokcghkijbfdaa.Rl
open Go Go.RowKit
set_option linter.unusedVariables false

/-- The slice's elements. -/
def Elems (w : World) (a : Option Addr) (len : Nat) (zs : List Int) : Prop :=
  ∀ i, i < len → ∃ b off, a = some ⟨b, off, none⟩ ∧ b < w.heap.size ∧ w.cell? ⟨b, off + i, none⟩ = some (.int .i64 (zs.getD i 0))

theorem Elems.below {w w' : World} {a : Option Addr} {len : Nat} {zs : List Int} (h : Elems w a len zs) (hb : Below w.heap.size w w') : Elems w' a len zs := fun i hi => by
  obtain ⟨b, off, ha, hlt, hc⟩ := h i hi
  exact ⟨b, off, ha, by have := hb.size; omega, (hb.cell (p := ⟨b, off + i, none⟩) hlt).trans hc⟩

theorem elems_of {w : World} {a : Option Addr} {len cap : Nat} {zs : List Int} (h : (a = none ∧ len = 0 ∧ cap = 0 ∧ zs = []) ∨
  ∃ x, a = some x ∧ len ≤ cap ∧ cap ≤ maxLen ∧ zs.length = cap ∧ (∀ i, i < zs.length → w.cell? (x.add i) = some (.int .i64 (zs.getD i 0))) ∧ ∀ n ∈ zs, (Lit.int .i64 n).wf = true) :
    Elems w a len zs ∧ len ≤ cap ∧ cap ≤ maxLen := by
  rcases h with ⟨rfl, rfl, rfl, rfl⟩ | ⟨x, rfl, hl, hm, hz, hcell, hwz⟩
  · exact ⟨fun i hi => by omega, by omega, by unfold maxLen; omega⟩
  · refine ⟨fun i hi => ?_, hl, hm⟩
    have hc := hcell i (by omega)
    obtain ⟨b, off, spot⟩ := x
    have h0 := hcell 0 (by omega)
    have hspot : spot = none := by simpa [Addr.add] using World.cell?_spot h0
    subst hspot
    have hc' : w.cell? ⟨b, off + i, none⟩ = some (.int .i64 (zs.getD i 0)) := by
      by_cases e : i = 0
      · subst e; simpa [Addr.add] using hc
      · simpa [Addr.add, e] using hc
    refine ⟨b, off, rfl, ?_, hc'⟩
    unfold World.cell? at hc'
    rcases Nat.lt_or_ge b w.heap.size with h | h
    · exact h
    · simp [Array.getElem?_eq_none h] at hc'


theorem Bkt.new (w : World) (r bu t d : Int) : Bkt (w.alloc (.cells #[.int .i64 r, .int .i64 bu, .int .i64 t, .int .i64 d] 54)) w.heap.size r bu t d := by
  show (w.heap.push _)[w.heap.size]? = _
  simp


theorem min_len (c len : Nat) : ∃ m : Nat, (if (c : Int) < (len : Int) then (c : Int) else (len : Int)) = (m : Int) ∧ m ≤ len ∧ m ≤ c := by
  by_cases h : (c : Int) < len
  · exact ⟨c, by simp [h], by omega, by omega⟩
  · exact ⟨len, by simp [h], by omega, by omega⟩

theorem tk_le (n t : Int) (h : 0 ≤ n) (h1 : 0 ≤ t) : 0 ≤ tk n t ∧ tk n t ≤ n ∧ tk n t ≤ t := by
  unfold tk; split <;> omega

theorem adv_le (bu t g : Int) (h1 : 0 ≤ t) (h2 : t ≤ bu) (h3 : 0 ≤ g) : 0 ≤ advT bu t 0 g ∧ advT bu t 0 g ≤ bu ∧ advT bu t 0 g ≤ t + g ∧ advD 0 g = 0 := by
  unfold advT advD; split
  · split <;> omega
  · omega

set_option maxHeartbeats 1000000 in
theorem walk1 (a0 : Int) (a1 : Int) (a2 : Option Addr) (len2 cap2 : Nat) (z2 : List Int) (w : World) (hE : Elems w a2 len2 z2) (hl : len2 ≤ cap2) (hm : cap2 ≤ 9223372036854775807) :
    Calls Try.prog 3 #[.int .i64 a0, .int .i64 a1, .slice a2 len2 cap2] w fun e w' => e = .returned (.bool true) ∧ Below w.heap.size w w' := by
  have k1 := modV_nonneg a0 1000 (by omega)
  have k2 := modV_lt a0 1000 (by omega)
  have k3 := modV_nonneg a1 1000 (by omega)
  have k4 := modV_lt a1 1000 (by omega)
  have HE := Lib.hid hE
  clear hE
  obtain ⟨m, hmin, hm1, hm2⟩ := min_len 100 len2
  have hmin' : (if (100 : Int) < (len2 : Int) then (100 : Int) else (len2 : Int)) = (m : Int) := hmin
  clear hmin
  go_enter Try.func3, Try.ntmps3
  go_wp2_with (first
    | (go_at_call 9; refine (mod_any _ _ _ (by omega) (by omega)).mono ?_; rintro e w' ⟨rfl, rfl⟩)
    | (go_at_call 10; refine (new_any _ _ _ (by omega) (by omega) (by omega) (by omega)).mono ?_; rintro e w' ⟨rfl, rfl⟩)
    | (go_at_call 11; refine (avail_any w.heap.size _ _ _ _ _ (Bkt.new _ _ _ _ _)).mono ?_; rintro e w1 ⟨rfl, ht, hb⟩))
  generalize hr : 1 + modV a0 1000 = r at *
  have hr1 : 1 ≤ r := by omega
  have hr2 : r ≤ 1000 := by omega
  generalize hbu : r + modV a1 1000 = bu at *
  have hbu1 : r ≤ bu := by omega
  have hbu2 : bu ≤ 2000 := by omega
  clear hr hbu k1 k2 k3 k4 hmin'
  have hB : Below w.heap.size w w1 := Touch.below ((Below.refl _ _).alloc (Nat.le_refl _) _) ht (Nat.le_refl _)
  clear ht
  go_loopw [11, 12, 54] (fun tv sv iv wr => ∃ (k : Nat) (ti su t : Int), k ≤ m ∧ iv = .int .i64 k ∧ tv = .int .i64 ti ∧ sv = .int .i64 su ∧ 0 ≤ ti ∧ ti ≤ 20 * k ∧ 0 ≤ su ∧ su ≤ 3000 * k ∧
      0 ≤ t ∧ t ≤ bu ∧ su + t ≤ bu + r * ti ∧ Bkt wr w.heap.size r bu t 0 ∧ Below w.heap.size w wr)
    (fun _ _ iv _ => m - (intOf iv).toNat)
  case atStart => exact ⟨0, 0, 0, bu, by omega, rfl, rfl, rfl, by omega, by omega, by omega, by omega, by omega, by omega, by omega, hb, hB⟩
  case round =>
    obtain ⟨k, ti, su, t, hk, rfl, rfl, rfl, ht0, ht1, hs0, hs1, hq0, hq1, hq2, hb, hB⟩ := hrel
    have HQ := Lib.hid hq2
    clear hq2
    by_cases hlt : k < m
    · obtain ⟨b, off, rfl, hbl, hc⟩ := HE.out k (by omega)
      have hc' := (hB.cell (p := ⟨b, off + k, none⟩) hbl).trans hc
      clear hc
      generalize z2.getD k 0 = x at *
      have y0 := modV_nonneg (wrap64 (x.tdiv 2)) 20 (by omega)
      have y1 := modV_lt (wrap64 (x.tdiv 2)) 20 (by omega)
      have y2 := modV_nonneg (wrap64 (x.tdiv 2)) 3000 (by omega)
      have y3 := modV_lt (wrap64 (x.tdiv 2)) 3000 (by omega)
      go_wp2_with (first
        | (go_at_call 9; refine (mod_any _ _ _ (by omega) (by omega)).mono ?_; rintro e w' ⟨rfl, rfl⟩)
        | (go_at_call 12; refine (adv_any w.heap.size r bu t 0 _ _ hb (by omega) (by omega) (by omega) (by omega) (by omega) (by omega) (by omega) (by omega) (by omega)).mono ?_; rintro e w2 ⟨rfl, ht2, hb2⟩)
        | (go_at_call 13; refine (take_any w.heap.size r bu t 0 _ _ hb (by omega) (by omega) (by omega) (by omega)).mono ?_; rintro e w2 ⟨rfl, ht2, hb2⟩; have hk1 := tk_le (modV (wrap64 (x.tdiv 2)) 3000) t y2 hq0))
      · go_roundw
        case rel =>
          obtain ⟨e1, e2, e3, e4⟩ := adv_le bu t (modV (wrap64 (x.tdiv 2)) 20 * r) hq0 hq1 (Int.mul_nonneg y0 (by omega))
          refine ⟨k + 1, ti + modV (wrap64 (x.tdiv 2)) 20, su, advT bu t 0 (modV (wrap64 (x.tdiv 2)) 20 * r), by omega, by go_num, rfl, rfl, by omega, by omega, by omega, by omega, e1, e2, ?_, by rw [e4] at hb2; exact hb2, Touch.below hB ht2 (Nat.le_refl _)⟩
          have := HQ.out
          rw [Int.mul_add, Int.mul_comm r (modV _ _)]
          omega
        case measure => simp [intOf]; omega
      · go_roundw
        case rel =>
          refine ⟨k + 1, ti, su + tk (modV (wrap64 (x.tdiv 2)) 3000) t, t - tk (modV (wrap64 (x.tdiv 2)) 3000) t, by omega, by go_num, rfl, rfl, by omega, by omega, by omega, by omega, by omega, by omega, ?_, hb2, Touch.below hB ht2 (Nat.le_refl _)⟩
          have := HQ.out
          omega
        case measure => simp [intOf]; omega
    · have q0 : 0 ≤ r * ti := Int.mul_nonneg (by omega) ht0
      have q1 : r * ti ≤ 1000 * 2000 := Int.mul_le_mul hr2 (by omega) ht0 (by omega)
      have q2 : su ≤ bu + r * ti := by have := HQ.out; omega
      go_wp2
      go_ret
      exact ⟨rfl, hB⟩
end Go.Proofs.Yteokcghkijbfdaa.Rl
