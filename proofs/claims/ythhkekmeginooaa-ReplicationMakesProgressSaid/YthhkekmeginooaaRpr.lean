/- Replication: moreUpToDate. -/
import Derived.Test.YthhkekmeginooaaRpq
namespace Go.Proofs.Ythhkekmeginooaa.Rp
open Go Go.RowKit Hp
set_option linter.unusedVariables false

def lastT (l : Lg) : Nat := (l.getLast?.map Ent.term).getD 0
theorem lastT_pos {l : Lg} (h : 0 < l.length) : lastT l = (l[l.length - 1]'(by omega)).term := by
  unfold lastT
  rw [List.getLast?_eq_getElem?, List.getElem?_eq_getElem (by omega)]
  rfl
def newer (a b : Lg) : Bool := if lastT a = lastT b then decide (b.length < a.length) else decide (lastT b < lastT a)
section
variable {w : World}
set_option maxRecDepth 100000 in
set_option maxHeartbeats 1000000 in
theorem last_any {v : Value} {l : Lg} (h : w.ownsRow 0 44 2 v l.length (enC l)) (hl : l.length ≤ 60) :
    Calls Try.prog 35 #[v] w fun e w' => e = .returned (.int .i64 (lastT l : Int)) ∧ w = w' := by
  obtain ⟨la, lc, rfl, h1, h2, h3⟩ := own_form h
  rcases Nat.eq_zero_or_pos l.length with h0 | h0
  · have HE : Hid (lastT l = 0) := by
      have : l = [] := List.eq_nil_of_length_eq_zero h0
      subst this
      rfl
    have h0i : (l.length : Int) = 0 := by omega
    clear h
    go_enter Try.func35, Try.ntmps35
    go_wp2
    go_ret
    exact ⟨by rw [HE.out]; rfl, rfl⟩
  · obtain ⟨g, c, hv, _, _, hg, hc, _⟩ := own_some h h0
    simp only [Value.slice.injEq, true_and] at hv
    obtain ⟨rfl, rfl⟩ := hv
    have hx : l.length - 1 < l.length := by omega
    have x0 := hc _ _ (enC_get l (l.length - 1) hx).1
    rw [← lastT_pos h0] at x0
    obtain ⟨t, ht⟩ : ∃ t, t = lastT l := ⟨_, rfl⟩
    rw [← ht] at x0 ⊢
    obtain ⟨x, hx1⟩ : ∃ x, x = l.length - 1 := ⟨_, rfl⟩
    rw [← hx1] at x0 hx
    have hxi : (l.length : Int) - 1 = (x : Int) := by omega
    have hxl : (x : Int) < (l.length : Int) := by omega
    have hn0 : ¬ (l.length : Int) = 0 := by omega
    have hnb : ((l.length : Int) == 0) = false := beq_eq_false_iff_ne.2 hn0
    clear hc ht hx1 h h0
    go_enter Try.func35, Try.ntmps35
    go_wp2
    go_ret
    exact ⟨rfl, rfl⟩
set_option maxRecDepth 100000 in
set_option maxHeartbeats 1000000 in
theorem newer_any {va vb : Value} {a b : Lg} (ha : w.ownsRow 0 44 2 va a.length (enC a)) (hal : a.length ≤ 60) (hb : w.ownsRow 0 44 2 vb b.length (enC b)) (hbl : b.length ≤ 60) :
    Calls Try.prog 31 #[va, vb] w fun e w' => e = .returned (.bool (newer a b)) ∧ w = w' := by
  have HA := Lib.hid (last_any ha hal)
  have HB := Lib.hid (last_any hb hbl)
  obtain ⟨aa, ac, rfl, _, _, _⟩ := own_form ha
  obtain ⟨ba, bc, rfl, _, _, _⟩ := own_form hb
  obtain ⟨x, hx⟩ : ∃ x, x = lastT a := ⟨_, rfl⟩
  obtain ⟨y, hy⟩ : ∃ y, y = lastT b := ⟨_, rfl⟩
  rw [← hx] at HA
  rw [← hy] at HB
  have HN : Hid (newer a b = if x = y then decide (b.length < a.length) else decide (y < x)) := by unfold Hid newer; rw [hx, hy]
  clear hx hy ha hb
  by_cases h : x = y
  · have hb' : ((x : Int) == (y : Int)) = true := by rw [h]; simp
    have HN2 : Hid (newer a b = decide (b.length < a.length)) := by
      unfold Hid
      rw [HN.out, if_pos h]
    have hxi : (x : Int) = (y : Int) := by omega
    clear h
    go_enter Try.func31, Try.ntmps31
    go_wp2_with (first
      | (go_at_call 35; have q9 := V1; clear q9; refine HB.out.mono ?_; rintro e w' ⟨rfl, rfl⟩)
      | (go_at_call 35; refine HA.out.mono ?_; rintro e w' ⟨rfl, rfl⟩; have V1 : Hid True := trivial)
      | fail)
    go_ret
    exact ⟨by rw [HN2.out]; rfl, rfl⟩
  · have hb' : ((x : Int) == (y : Int)) = false := beq_eq_false_iff_ne.2 (by omega)
    have HN2 : Hid (newer a b = decide (y < x)) := by
      unfold Hid
      rw [HN.out, if_neg h]
    have hxi : ¬ (x : Int) = (y : Int) := by omega
    clear h
    go_enter Try.func31, Try.ntmps31
    go_wp2_with (first
      | (go_at_call 35; have q9 := V1; clear q9; refine HB.out.mono ?_; rintro e w' ⟨rfl, rfl⟩)
      | (go_at_call 35; refine HA.out.mono ?_; rintro e w' ⟨rfl, rfl⟩; have V1 : Hid True := trivial)
      | fail)
    go_ret
    exact ⟨by rw [HN2.out]; rfl, rfl⟩
end
end Go.Proofs.Ythhkekmeginooaa.Rp
