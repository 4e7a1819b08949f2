/- The rate limiter's second and third law: the walks. -/
import Derived.Test.YteokcghkijbfdaaRlA
namespace Go.Proofs.Yteokcghkijbfdaa.Rl
open Go Go.RowKit
set_option linter.unusedVariables false

/-- The state's invariant. -/
def Ok (bu t d : Int) : Prop := 0 ≤ t ∧ t ≤ bu ∧ 0 ≤ d ∧ d ≤ bu ∧ (t = 0 ∨ d = 0)
def Good (w : World) (b : Nat) (r bu : Int) : Prop := ∃ t d, Bkt w b r bu t d ∧ Ok bu t d

theorem ok_adv {bu t d g : Int} (h : Ok bu t d) (hg : 0 ≤ g) : Ok bu (advT bu t d g) (advD d g) := by
  obtain ⟨a, b, c, e, f⟩ := h
  unfold Ok advT advD
  by_cases h1 : d < g
  · rw [if_pos h1, if_pos h1]
    refine ⟨?_, ?_, Int.le_refl _, by omega, Or.inr rfl⟩ <;> split <;> omega
  · rw [if_neg h1, if_neg h1]; omega
theorem ok_take {bu t d n : Int} (h : Ok bu t d) (hn : 0 ≤ n) : Ok bu (t - tk n t) d := by
  obtain ⟨a, b, c, e, f⟩ := h
  unfold Ok tk; split <;> omega
theorem ok_force {bu t d n : Int} (h : Ok bu t d) (hn : 0 ≤ n) : Ok bu (t - tk n t) (frD bu t d n) := by
  obtain ⟨a, b, c, e, f⟩ := h
  unfold Ok frD tk
  by_cases h1 : n ≤ t
  · simp only [h1, if_true]; split <;> omega
  · simp only [h1, if_false]; split <;> omega

theorem adv_good (b : Nat) (r bu k : Int) (w : World) (h : Good w b r bu) (h0 : 0 ≤ k) (h1 : k ≤ 1000000) (hr0 : 0 ≤ r) (hr1 : r ≤ 1000) (hbu : bu ≤ 1000000) :
    Calls Try.prog 12 #[.pointer (some ⟨b, 0, none⟩), .int .i64 k] w fun e w' => e = .returned (.int .i64 0) ∧ Touch b w w' ∧ Good w' b r bu := by
  obtain ⟨t, d, hb, ho⟩ := h
  obtain ⟨p1, p2, p3, p4, p5⟩ := id ho
  exact (adv_any b r bu t d k w hb h0 h1 hr0 hr1 p1 p2 hbu p3 p4).mono fun _ _ ⟨a, b, c⟩ => ⟨a, b, _, _, c, ok_adv ho (Int.mul_nonneg h0 hr0)⟩
theorem take_good (b : Nat) (r bu n : Int) (w : World) (h : Good w b r bu) (h0 : 0 ≤ n) (h1 : n ≤ 1000000) (hbu : bu ≤ 1000000) :
    Calls Try.prog 13 #[.pointer (some ⟨b, 0, none⟩), .int .i64 n] w fun e w' => ∃ v, e = .returned (.tuple #[.int .i64 v, .int .i64 0]) ∧ Touch b w w' ∧ Good w' b r bu := by
  obtain ⟨t, d, hb, ho⟩ := h
  obtain ⟨p1, p2, p3, p4, p5⟩ := id ho
  exact (take_any b r bu t d n w hb h0 h1 p1 (by omega)).mono fun _ _ ⟨a, b, c⟩ => ⟨_, a, b, _, _, c, ok_take ho h0⟩
theorem force_good (b : Nat) (r bu n : Int) (w : World) (h : Good w b r bu) (h0 : 0 ≤ n) (h1 : n ≤ 1000000) (hbu : bu ≤ 1000000) :
    Calls Try.prog 14 #[.pointer (some ⟨b, 0, none⟩), .int .i64 n] w fun e w' => e = .returned (.int .i64 0) ∧ Touch b w w' ∧ Good w' b r bu := by
  obtain ⟨t, d, hb, ho⟩ := h
  obtain ⟨p1, p2, p3, p4, p5⟩ := id ho
  exact (force_any b r bu t d n w hb h0 h1 p1 p2 hbu p3 p4).mono fun _ _ ⟨a, b, c⟩ => ⟨a, b, _, _, c, ok_force ho h0⟩
theorem avail_good (b : Nat) (r bu : Int) (w : World) (h : Good w b r bu) :
    Calls Try.prog 11 #[.pointer (some ⟨b, 0, none⟩)] w fun e w' => ∃ t d, e = .returned (.tuple #[.int .i64 t, .int .i64 d]) ∧ Ok bu t d ∧ Touch b w w' ∧ Bkt w' b r bu t d := by
  obtain ⟨t, d, hb, ho⟩ := h
  exact (avail_any b r bu t d w hb).mono fun _ _ ⟨a, b, c⟩ => ⟨_, _, a, ho, b, c⟩

theorem fin_adv {bu t d r : Int} (h : Ok bu t d) (hr : 1 ≤ r) (hbu : 1 ≤ bu) : advT bu t d (2 * bu * r) = bu ∧ advD d (2 * bu * r) = 0 := by
  obtain ⟨a, b, c, e, f⟩ := h
  have : 2 * bu * 1 ≤ 2 * bu * r := Int.mul_le_mul_of_nonneg_left hr (by omega)
  unfold advT advD
  rw [if_pos (by omega), if_neg (by omega), if_pos (by omega)]
  exact ⟨rfl, rfl⟩
/-- Advance(2*burst) fills the bucket. -/
theorem adv_fin (b : Nat) (r bu : Int) (w : World) (h : Good w b r bu) (hr0 : 1 ≤ r) (hr1 : r ≤ 1000) (hbu0 : 1 ≤ bu) (hbu : bu ≤ 2000) :
    Calls Try.prog 12 #[.pointer (some ⟨b, 0, none⟩), .int .i64 (2 * bu)] w fun e w' => e = .returned (.int .i64 0) ∧ Touch b w w' ∧ Bkt w' b r bu bu 0 := by
  obtain ⟨t, d, hb, ho⟩ := h
  obtain ⟨p1, p2, p3, p4, p5⟩ := id ho
  obtain ⟨e1, e2⟩ := fin_adv ho hr0 hbu0
  exact (adv_any b r bu t d (2 * bu) w hb (by omega) (by omega) (by omega) hr1 p1 p2 (by omega) p3 p4).mono fun _ _ ⟨a, b, c⟩ => ⟨a, b, by rw [e1, e2] at c; exact c⟩
theorem force_fin (b : Nat) (r bu : Int) (w : World) (h : Bkt w b r bu bu 0) (hbu0 : 1 ≤ bu) (hbu : bu ≤ 2000) :
    Calls Try.prog 14 #[.pointer (some ⟨b, 0, none⟩), .int .i64 0] w fun e w' => e = .returned (.int .i64 0) ∧ Touch b w w' ∧ Bkt w' b r bu bu 0 := by
  have e1 : tk 0 bu = 0 := by unfold tk; rw [if_pos (by omega)]
  have e2 : frD bu bu 0 0 = 0 := by unfold frD; rw [e1, if_neg (by omega)]; rfl
  exact (force_any b r bu bu 0 0 w h (by omega) (by omega) (by omega) (by omega) (by omega) (by omega) (by omega)).mono fun _ _ ⟨a, b, c⟩ => ⟨a, b, by rw [e1, e2, Int.sub_zero] at c; exact c⟩

set_option maxHeartbeats 2000000 in
theorem walk2 (a0 : Int) (a1 : Int) (a2 : Option Addr) (len2 cap2 : Nat) (z2 : List Int) (w : World) (hE : Elems w a2 len2 z2) (hl : len2 ≤ cap2) (hm : cap2 ≤ 9223372036854775807) :
    Calls Try.prog 4 #[.int .i64 a0, .int .i64 a1, .slice a2 len2 cap2] w fun e w' => e = .returned (.bool true) ∧ Below w.heap.size w w' := by
  have k1 := modV_nonneg a0 1000 (by omega)
  have k2 := modV_lt a0 1000 (by omega)
  have k3 := modV_nonneg a1 1000 (by omega)
  have k4 := modV_lt a1 1000 (by omega)
  have HE := Lib.hid hE
  clear hE
  obtain ⟨m, hmin, hm1, hm2⟩ := min_len 80 len2
  have hmin' : (if (80 : Int) < (len2 : Int) then (80 : Int) else (len2 : Int)) = (m : Int) := hmin
  clear hmin
  go_enter Try.func4, Try.ntmps4
  go_wp2_with (first
    | (go_at_call 9; refine (mod_any _ _ _ (by omega) (by omega)).mono ?_; rintro e w' ⟨rfl, rfl⟩)
    | (go_at_call 10; refine (new_any _ _ _ (by omega) (by omega) (by omega) (by omega)).mono ?_; rintro e w' ⟨rfl, rfl⟩))
  generalize hr : 1 + modV a0 1000 = r at *
  have hr1 : 1 ≤ r := by omega
  have hr2 : r ≤ 1000 := by omega
  generalize hbu : r + modV a1 1000 = bu at *
  have hbu1 : r ≤ bu := by omega
  have hbu2 : bu ≤ 2000 := by omega
  clear hr hbu k1 k2 k3 k4 hmin'
  go_loopw [38] (fun iv wr => ∃ (k : Nat), k ≤ m ∧ iv = .int .i64 k ∧ Good wr w.heap.size r bu ∧ Below w.heap.size w wr)
    (fun iv _ => m - (intOf iv).toNat)
  case atStart => exact ⟨0, by omega, rfl, ⟨bu, 0, Bkt.new _ _ _ _ _, by omega, by omega, by omega, by omega, Or.inr rfl⟩, (Below.refl _ _).alloc (Nat.le_refl _) _⟩
  case round =>
    obtain ⟨k, hk, rfl, hg, hB⟩ := hrel
    by_cases hlt : k < m
    · obtain ⟨b, off, rfl, hbl, hc⟩ := HE.out k (by omega)
      have hc' := (hB.cell (p := ⟨b, off + k, none⟩) hbl).trans hc
      clear hc
      generalize z2.getD k 0 = x at *
      have y0 := modV_nonneg (wrap64 (x.tdiv 3)) 4 (by omega)
      have y1 := modV_lt (wrap64 (x.tdiv 3)) 4 (by omega)
      have y2 := modV_nonneg (wrap64 (x.tdiv 3)) 3000 (by omega)
      have y3 := modV_lt (wrap64 (x.tdiv 3)) 3000 (by omega)
      go_wp2_with (first
        | (go_at_call 9; refine (mod_any _ _ _ (by omega) (by omega)).mono ?_; rintro e w' ⟨rfl, rfl⟩)
        | (go_at_call 12; refine (adv_good w.heap.size r bu _ _ hg (by omega) (by omega) (by omega) (by omega) (by omega)).mono ?_; rintro e w2 ⟨rfl, ht2, hg2⟩)
        | (go_at_call 13; refine (take_good w.heap.size r bu _ _ hg (by omega) (by omega) (by omega)).mono ?_; rintro e w2 ⟨v2, rfl, ht2, hg2⟩)
        | (go_at_call 14; refine (force_good w.heap.size r bu _ _ hg (by omega) (by omega) (by omega)).mono ?_; rintro e w2 ⟨rfl, ht2, hg2⟩)
        | (go_at_call 11; refine (avail_good w.heap.size r bu _ (by assumption)).mono ?_; rintro e w3 ⟨t, d, rfl, hok, ht3, hb3⟩; have hg3 : Good w3 w.heap.size r bu := ⟨t, d, hb3, hok⟩; obtain ⟨o1, o2, o3, o4, o5⟩ := hok; rcases o5 with rfl | rfl))
      all_goals
        go_roundw
        case rel => exact ⟨k + 1, by omega, by go_num, by assumption, Touch.below (Touch.below hB (by assumption) (Nat.le_refl _)) (by assumption) (Nat.le_refl _)⟩
        case measure => simp [intOf]; omega
    · go_wp2_with (first
        | (go_at_call 12; refine (adv_fin w.heap.size r bu _ hg (by omega) (by omega) (by omega) (by omega)).mono ?_; rintro e w2 ⟨rfl, ht2, hg2⟩)
        | (go_at_call 14; refine (force_fin w.heap.size r bu _ hg2 (by omega) (by omega)).mono ?_; rintro e w3 ⟨rfl, ht3, hg3⟩)
        | (go_at_call 15; refine (full_any w.heap.size r bu _ hg3).mono ?_; rintro e w4 ⟨rfl, ht4, hg4⟩))
      go_ret
      exact ⟨rfl, Touch.below (Touch.below (Touch.below hB (by assumption) (Nat.le_refl _)) (by assumption) (Nat.le_refl _)) (by assumption) (Nat.le_refl _)⟩

/-- The two states behind TicksUntil. -/
theorem until_pos {bu t d r n : Int} (h : Ok bu t d) (hr : 1 ≤ r) (hn0 : 0 ≤ n) (hn : n ≤ bu) (hv : 0 < tuV r t d n) :
    advT bu t d ((tuV r t d n - 1) * r) < n ∧ n ≤ advT bu (advT bu t d ((tuV r t d n - 1) * r)) (advD d ((tuV r t d n - 1) * r)) (1 * r) := by
  obtain ⟨a, b, c, e, f⟩ := h
  by_cases hc : n ≤ t
  · exfalso; unfold tuV at hv; rw [if_pos hc] at hv; omega
  · have ev : tuV r t d n = (n - t + d + r - 1) / r := by unfold tuV; rw [if_neg hc]
    rw [ev] at hv ⊢
    have m1 := Int.ediv_mul_le (n - t + d + r - 1) (show r ≠ 0 by omega)
    have m2 := Int.lt_ediv_add_one_mul_self (n - t + d + r - 1) (show 0 < r by omega)
    generalize (n - t + d + r - 1) / r = v at *
    have e1 : (v - 1) * r = v * r - r := by rw [Int.sub_mul, Int.one_mul]
    have e2 : (v + 1) * r = v * r + r := by rw [Int.add_mul, Int.one_mul]
    rw [e2] at m2
    rw [e1, Int.one_mul]
    have e3 : 0 ≤ v * r - r := by
      have : 0 ≤ (v - 1) * r := Int.mul_nonneg (by omega) (by omega)
      omega
    generalize v * r = q at *
    unfold advT advD
    by_cases h1 : d < q - r
    · simp only [if_pos h1]
      by_cases h2 : t + (q - r) - d < bu
      · simp only [if_pos h2]
        refine ⟨by omega, ?_⟩
        rw [if_pos (by omega)]
        split <;> omega
      · omega
    · simp only [if_neg h1]
      refine ⟨by omega, ?_⟩
      rw [if_pos (by omega)]
      split <;> omega
theorem until_nonneg {bu t d r n : Int} (h : Ok bu t d) (hr : 1 ≤ r) (hn : n ≤ bu) : 0 ≤ tuV r t d n ∧ tuV r t d n ≤ 2 * bu + r := by
  obtain ⟨a, b, c, e, f⟩ := h
  unfold tuV
  split
  · omega
  · have := Int.ediv_nonneg (show 0 ≤ n - t + d + r - 1 by omega) (show 0 ≤ r by omega)
    have := Int.ediv_le_self r (show 0 ≤ n - t + d + r - 1 by omega)
    omega

set_option maxHeartbeats 2000000 in
theorem walk3 (a0 : Int) (a1 : Int) (a2 : Option Addr) (len2 cap2 : Nat) (z2 : List Int) (a3 : Int) (w : World) (hE : Elems w a2 len2 z2) (hl : len2 ≤ cap2) (hm : cap2 ≤ 9223372036854775807) :
    Calls Try.prog 5 #[.int .i64 a0, .int .i64 a1, .slice a2 len2 cap2, .int .i64 a3] w fun e w' => e = .returned (.bool true) ∧ Below w.heap.size w w' := by
  have k1 := modV_nonneg a0 1000 (by omega)
  have k2 := modV_lt a0 1000 (by omega)
  have k3 := modV_nonneg a1 1000 (by omega)
  have k4 := modV_lt a1 1000 (by omega)
  have HE := Lib.hid hE
  clear hE
  obtain ⟨m, hmin, hm1, hm2⟩ := min_len 50 len2
  have hmin' : (if (50 : Int) < (len2 : Int) then (50 : Int) else (len2 : Int)) = (m : Int) := hmin
  clear hmin
  go_enter Try.func5, Try.ntmps5
  go_wp2_with (first
    | (go_at_call 9; refine (mod_any _ _ _ (by omega) (by omega)).mono ?_; rintro e w' ⟨rfl, rfl⟩)
    | (go_at_call 10; refine (new_any _ _ _ (by omega) (by omega) (by omega) (by omega)).mono ?_; rintro e w' ⟨rfl, rfl⟩))
  generalize hr : 1 + modV a0 1000 = r at *
  have hr1 : 1 ≤ r := by omega
  have hr2 : r ≤ 1000 := by omega
  generalize hbu : r + modV a1 1000 = bu at *
  have hbu1 : r ≤ bu := by omega
  have hbu2 : bu ≤ 2000 := by omega
  clear hr hbu k1 k2 k3 k4 hmin'
  go_loopw [43] (fun iv wr => ∃ (k : Nat), k ≤ m ∧ iv = .int .i64 k ∧ Good wr w.heap.size r bu ∧ Below w.heap.size w wr)
    (fun iv _ => m - (intOf iv).toNat)
  case atStart => exact ⟨0, by omega, rfl, ⟨bu, 0, Bkt.new _ _ _ _ _, by omega, by omega, by omega, by omega, Or.inr rfl⟩, (Below.refl _ _).alloc (Nat.le_refl _) _⟩
  case round =>
    obtain ⟨k, hk, rfl, hg, hB⟩ := hrel
    by_cases hlt : k < m
    · obtain ⟨b, off, rfl, hbl, hc⟩ := HE.out k (by omega)
      have hc' := (hB.cell (p := ⟨b, off + k, none⟩) hbl).trans hc
      clear hc
      generalize z2.getD k 0 = x at *
      have y0 := modV_nonneg (wrap64 (x.tdiv 3)) 5 (by omega)
      have y1 := modV_lt (wrap64 (x.tdiv 3)) 5 (by omega)
      have y2 := modV_nonneg (wrap64 (x.tdiv 3)) 2000 (by omega)
      have y3 := modV_lt (wrap64 (x.tdiv 3)) 2000 (by omega)
      go_wp2_with (first
        | (go_at_call 9; refine (mod_any _ _ _ (by omega) (by omega)).mono ?_; rintro e w' ⟨rfl, rfl⟩)
        | (go_at_call 12; refine (adv_good w.heap.size r bu _ _ hg (by omega) (by omega) (by omega) (by omega) (by omega)).mono ?_; rintro e w2 ⟨rfl, ht2, hg2⟩)
        | (go_at_call 13; refine (take_good w.heap.size r bu _ _ hg (by omega) (by omega) (by omega)).mono ?_; rintro e w2 ⟨v2, rfl, ht2, hg2⟩)
        | (go_at_call 14; refine (force_good w.heap.size r bu _ _ hg (by omega) (by omega) (by omega)).mono ?_; rintro e w2 ⟨rfl, ht2, hg2⟩))
      all_goals
        go_roundw
        case rel => exact ⟨k + 1, by omega, by go_num, by assumption, Touch.below hB (by assumption) (Nat.le_refl _)⟩
        case measure => simp [intOf]; omega
    · have n0 := modV_nonneg a3 (bu + 1) (by omega)
      have n1 := modV_lt a3 (bu + 1) (by omega)
      obtain ⟨t, d, hb, hok⟩ := hg
      have HK := Lib.hid hok
      obtain ⟨o1, o2, o3, o4, _⟩ := hok
      obtain ⟨u0, u1⟩ := until_nonneg (n := modV a3 (bu + 1)) HK.out hr1 (by omega)
      have UP := Lib.hid (fun hv => until_pos (n := modV a3 (bu + 1)) HK.out hr1 n0 (by omega) hv)
      generalize hn : modV a3 (bu + 1) = n at *
      have HN := Lib.hid hn
      clear hn
      by_cases hv : 0 < tuV r t d n
      · obtain ⟨p1, p2⟩ := UP.out hv
        have ok1 := ok_adv (g := (tuV r t d n - 1) * r) HK.out (Int.mul_nonneg (by omega) (by omega))
        have ok2 := ok_adv (g := 1 * r) ok1 (by omega)
        obtain ⟨s1, s2, s3, s4, _⟩ := id ok1
        obtain ⟨s5, s6, s7, s8, _⟩ := id ok2
        have HT := Lib.hid (rfl : tuV r t d n = tuV r t d n)
        go_wp2_with (first
          | (go_at_call 9; refine (mod_any _ _ _ (by omega) (by omega)).mono ?_; rintro e w' ⟨rfl, rfl⟩; rw [HN.out])
          | (go_at_call 16; refine (until_any w.heap.size r bu t d n _ hb (by omega) (by omega) (by omega) (by omega) (by omega) (by omega) (by omega) (by omega) (by omega)).mono ?_; rintro e w2 ⟨rfl, ht2, hb2⟩))
        generalize tuV r t d n = V at *
        generalize ht1 : advT bu t d ((V - 1) * r) = t1 at *
        generalize hd1 : advD d ((V - 1) * r) = d1 at *
        generalize ht2 : advT bu t1 d1 (1 * r) = t2 at *
        generalize hd2 : advD d1 (1 * r) = d2 at *
        have HT1 := Lib.hid ht1; have HD1 := Lib.hid hd1; have HT2 := Lib.hid ht2; have HD2 := Lib.hid hd2
        clear ht1 hd1 ht2 hd2 HT
        refine (adv_any w.heap.size r bu t d (V - 1) _ hb2 (by omega) (by omega) (by omega) (by omega) (by omega) (by omega) (by omega) (by omega) (by omega)).mono ?_
        rintro e w3 ⟨rfl, ht3, hb3⟩
        rw [HT1.out, HD1.out] at hb3
        go_wp2_with fail
        refine (avail_any w.heap.size r bu t1 d1 _ hb3).mono ?_
        rintro e w4 ⟨rfl, ht4, hb4⟩
        go_wp2_with fail
        refine (adv_any w.heap.size r bu t1 d1 1 _ hb4 (by omega) (by omega) (by omega) (by omega) (by omega) (by omega) (by omega) (by omega) (by omega)).mono ?_
        rintro e w5 ⟨rfl, ht5, hb5⟩
        rw [HT2.out, HD2.out] at hb5
        go_wp2_with fail
        refine (avail_any w.heap.size r bu t2 d2 _ hb5).mono ?_
        rintro e w6 ⟨rfl, ht6, hb6⟩
        go_wp2_with fail
        go_ret
        exact ⟨rfl, Touch.below (Touch.below (Touch.below (Touch.below (Touch.below hB (by assumption) (Nat.le_refl _)) ht3 (Nat.le_refl _)) ht4 (Nat.le_refl _)) ht5 (Nat.le_refl _)) ht6 (Nat.le_refl _)⟩
      · have v0 : tuV r t d n = 0 := by omega
        have nt : n ≤ t := by
          by_cases hc : n ≤ t
          · exact hc
          · exfalso
            unfold tuV at v0
            rw [if_neg hc] at v0
            have := Int.lt_ediv_add_one_mul_self (n - t + d + r - 1) (show 0 < r by omega)
            rw [v0] at this
            omega
        have U0 : ∀ W, Bkt W w.heap.size r bu t d → Calls Try.prog 16 #[.pointer (some ⟨w.heap.size, 0, none⟩), .int .i64 n] W fun e w' => e = .returned (.tuple #[.int .i64 0, .int .i64 0]) ∧ Touch w.heap.size W w' ∧ Bkt w' w.heap.size r bu t d := fun W hW => by
          have hu := until_any w.heap.size r bu t d n W hW (by omega) (by omega) (by omega) (by omega) (by omega) (by omega) (by omega) (by omega) (by omega)
          rw [v0] at hu
          exact hu
        have HU := Lib.hid U0
        clear U0 v0 u0 u1 hv UP
        go_wp2_with (first
          | (go_at_call 9; refine (mod_any _ _ _ (by omega) (by omega)).mono ?_; rintro e w' ⟨rfl, rfl⟩; rw [HN.out])
          | (go_at_call 16; refine (HU.out _ hb).mono ?_; rintro e w2 ⟨rfl, ht2, hb2⟩)
          | (go_at_call 11; refine (avail_any w.heap.size r bu t d _ hb2).mono ?_; rintro e w6 ⟨rfl, ht6, hb6⟩))
        go_ret
        exact ⟨rfl, Touch.below (Touch.below hB (by assumption) (Nat.le_refl _)) (by assumption) (Nat.le_refl _)⟩
end Go.Proofs.Yteokcghkijbfdaa.Rl
