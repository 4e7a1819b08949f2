/- slices.BinarySearchFunc at entries. -/
import Derived.Test.YtmaeeidaegigcaaSc
import Derived.Test.YtmaeeidaegigcaaFr
import Derived.Test.YtmaeeidaegigcaaSl
namespace Go.Proofs.Ytmaeeidaegigcaa.Ck
open Go Go.RowKit Hp
set_option linter.unusedVariables false

set_option maxRecDepth 100000 in
set_option maxHeartbeats 1000000 in
theorem bs_cmp (key t : ByteArray) (v1 : Value) (w : World) : Calls Try.prog 75 #[.agg #[.string key, v1], .string t] w fun e w' => e = .returned (.int .i64 (So.scmp key t)) ∧ w' = w.alloc (.cells #[.string key, v1] 62) := by
  go_enter Try.func75, Try.ntmps75
  go_wp2_with (go_at_call 76; refine (So.cmp_any _ _ _).mono ?_; rintro e w' ⟨rfl, rfl⟩)
  go_ret
  exact ⟨rfl, rfl⟩

set_option maxRecDepth 100000 in
set_option maxHeartbeats 4000000 in
theorem bs_any (v : Value) (n : Nat) (xs : List Value) (key : Nat → ByteArray) (c1 : Nat → Value) (t : ByteArray) (w : World) (hown : w.ownsRow 0 62 2 v n xs) (hn : n ≤ 1000000)
    (hx : ∀ i, i < n → xs[i * 2]? = some (.string (key i)) ∧ xs[i * 2 + 1]? = some (c1 i)) (hmono : ∀ a b, a ≤ b → b < n → So.scmp (key b) t < 0 → So.scmp (key a) t < 0) :
    Calls Try.prog 56 #[v, .string t, .func (.func 75) #[] #[]] w fun e w' => ∃ i : Nat, i ≤ n ∧ (∀ j, j < i → So.scmp (key j) t < 0) ∧ (∀ j, i ≤ j → j < n → 0 ≤ So.scmp (key j) t) ∧
      e = .returned (.tuple #[.int .i64 i, .bool (decide (i < n) && decide (So.scmp (key i) t = 0))]) ∧ Up w w' := by
  have HX := Lib.hid hx
  have HM := Lib.hid hmono
  have HO := Lib.hid hown
  obtain ⟨a, c, rfl, hc1, hc2, hc3⟩ := own_form hown
  clear hx hmono hown hc3
  go_enter Try.func56, Try.ntmps56
  go_wp2
  go_loopw [9, 10] (fun s9 s10 wr => ∃ lo hi : Nat, s9 = .int .i64 lo ∧ s10 = .int .i64 hi ∧ lo ≤ hi ∧ hi ≤ n ∧ Hid (Up w wr) ∧ Hid ((∀ j, j < lo → So.scmp (key j) t < 0) ∧ (∀ j, hi ≤ j → j < n → 0 ≤ So.scmp (key j) t))) (fun s9 s10 _ => (intOf s10).toNat - (intOf s9).toNat)
  case atStart => exact ⟨0, n, rfl, rfl, Nat.zero_le _, Nat.le_refl _, Up.refl w, fun j hj => absurd hj (Nat.not_lt_zero _), fun j h1 h2 => by omega⟩
  case round =>
    obtain ⟨lo, hi, rfl, rfl, hlh, hin, HU, HI⟩ := hrel
    by_cases hlt : lo < hi
    · obtain ⟨x0, x1⟩ := HX.out ((lo + hi) / 2) (by omega)
      obtain ⟨g, cap, hv, _, _, hgl, hcell, _⟩ := own_some (own_up HO.out HU.out) (by omega)
      simp only [Value.slice.injEq] at hv
      obtain ⟨rfl, _, rfl⟩ := hv
      have e0 := hcell _ _ x0
      have e1 := hcell _ _ x1
      obtain ⟨s, hs⟩ : ∃ s, s = key ((lo + hi) / 2) := ⟨_, rfl⟩
      rw [← hs] at e0
      have HS := Lib.hid hs
      generalize c1 _ = u1 at e1
      have b1 : (0 : Int) ≤ ((lo : Int) + hi) / 2 := by omega
      have b2 : ((lo : Int) + hi) / 2 < (n : Int) := by omega
      have b3 : (((lo : Int) + hi) / 2).toNat = (lo + hi) / 2 := by omega
      have hc := bs_cmp s t
      clear hcell hs x0 x1 hgl
      by_cases hyx : So.scmp s t < 0
      · go_wp2_with (go_at_call 75; refine (hc _ _).mono ?_; rintro e w' ⟨rfl, rfl⟩)
        go_roundw
        case rel => exact ⟨(lo + hi) / 2 + 1, hi, by rw [show ((lo : Int) + (hi : Int)) / 2 + 1 = (((lo + hi) / 2 + 1 : Nat) : Int) by omega], rfl, by omega, hin, by first | exact HU.out.alloc _ | exact HU.out.drew.alloc _ | exact (HU.out.alloc _).drew, fun j hj => HM.out j ((lo + hi) / 2) (by omega) (by omega) (by rw [← HS.out]; exact hyx), HI.out.2⟩
        case measure => simp [intOf]; omega
      · go_wp2_with (go_at_call 75; refine (hc _ _).mono ?_; rintro e w' ⟨rfl, rfl⟩)
        go_roundw
        case rel => exact ⟨lo, (lo + hi) / 2, rfl, by rw [show ((lo : Int) + (hi : Int)) / 2 = (((lo + hi) / 2 : Nat) : Int) by omega], by omega, by omega, by first | exact HU.out.alloc _ | exact HU.out.drew.alloc _ | exact (HU.out.alloc _).drew, HI.out.1, fun j h1 h2 => Int.not_lt.1 fun h3 => by have := HM.out ((lo + hi) / 2) j h1 h2 h3; rw [← HS.out] at this; omega⟩
        case measure => simp [intOf]; omega
    · obtain rfl : hi = lo := by omega
      by_cases hlt2 : hi < n
      · obtain ⟨x0, x1⟩ := HX.out hi hlt2
        obtain ⟨g, cap, hv, _, _, hgl, hcell, _⟩ := own_some (own_up HO.out HU.out) (by omega)
        simp only [Value.slice.injEq] at hv
        obtain ⟨rfl, _, rfl⟩ := hv
        have e0 := hcell _ _ x0
        have e1 := hcell _ _ x1
        obtain ⟨s, hs⟩ : ∃ s, s = key hi := ⟨_, rfl⟩
        rw [← hs] at e0
        have HS := Lib.hid hs
        generalize c1 _ = u1 at e1
        have b2 : (hi : Int) < (n : Int) := by omega
        have hc := bs_cmp s t
        clear hcell hs x0 x1 hgl
        by_cases hyx : So.scmp s t = 0
        all_goals
          go_wp2_with (go_at_call 75; refine (hc _ _).mono ?_; rintro e w' ⟨rfl, rfl⟩)
          go_ret2
          exact ⟨hi, hin, HI.out.1, HI.out.2, by rw [← HS.out]; simp [hlt2, hyx], by first | exact HU.out.alloc _ | exact HU.out.drew.alloc _ | exact (HU.out.alloc _).drew⟩
      · go_wp2
        go_ret2
        exact ⟨hi, hin, HI.out.1, HI.out.2, by simp [hlt2], by first | exact HU.out | exact HU.out.drew⟩

end Go.Proofs.Ytmaeeidaegigcaa.Ck
