/- ShortestCycle. -/
import Derived.Test.YtfpegnlmpicekaaC36
namespace Go.Proofs.Ytfpegnlmpicekaa.C
open Go Go.RowKit Hp
set_option linter.unusedVariables false

theorem Try.size72 : (Try.prog.info? 72).map (·.size) = some 400 := by kernel_rfl
abbrev Edge (M : Nat → Bool) (u v : Nat) : Prop := u < 20 ∧ v < 20 ∧ M (u * 20 + v) = true
theorem range_all {w : World} {b : Nat} {M : Nat → Bool} (h : Blk w b (mcells M) 72) : w.rangeAt b 0 (mcells M) := fun j v hj => by
  rw [Nat.zero_add]; exact (h.cell j).trans hj
/-- What ShortestCycle answers. -/
def CycE (M : Nat → Bool) (w w' : World) (e : Ending) : Prop :=
  (e = .returned (.tuple #[.slice none 0 0, .int .i64 4]) ∧ ∀ s, s < 20 → ¬ Path (Edge M) s s s) ∨
  ∃ v c, e = .returned (.tuple #[v, .int .i64 0]) ∧ w'.ownsRow w.heap.size 3 1 v c.length (nc c) ∧ IsCycle M c

set_option maxRecDepth 100000 in
set_option maxHeartbeats 4000000 in
theorem shortest_any (vt : Value) (l : List Hop) (w : World) (ht : Hops w vt l) (hv' : HValid l) (hself : ∀ s, s < 20 → cfN l l.length (s * 20 + s) = false) :
    Calls Try.prog 33 #[vt] w fun e w' => CycE (cfN l l.length) w w' e ∧ Up w w' := by
  obtain ⟨hz, hs72⟩ := zero_of_info Try.zero72
  have HT := Lib.hid ht
  have HV := Lib.hid hv'
  obtain ⟨a, cap, rfl, h1, h2, _, h3⟩ := ht
  have HZ := Lib.hid hz
  have HS : Hid ((Try.prog.info? 72).map (·.size) = some (mcells (cfN l l.length)).toArray.size) := by unfold Hid; rw [hs72]; simp [mcells_len]
  have HS2 : Hid ((Try.prog.info? 72).map (·.size) = some (mcells (cfN l l.length)).length) := by unfold Hid; rw [hs72]; simp [mcells_len]
  have HA := Lib.hid (mcells_one (cfN l l.length))
  have HE : Hid ((mcells fun _ => false).toArray.size = (mcells (cfN l l.length)).toArray.size) := by simp [Hid, mcells_len]
  have HSF := Lib.hid hself
  have HU := Lib.hid Try.under72
  clear h3 hv' hz hs72 hself
  generalize hM : cfN l l.length = M at *
  go_enter Try.func33, Try.ntmps33
  go_wp2_with (first | (go_at_call 40; refine (hcheck_any _ l _ HT.out HV.out).mono ?_; rintro e w1 ⟨rfl, hu1⟩) | (go_at_call 41; refine (conflicts_any _ l _ (HT.out.grow hopR_grows (by assumption)) HV.out).mono ?_; rintro e w2 ⟨rfl, hu2⟩; rw [hM]) | (with_reducible refine wl_alloc rfl 72 rfl _ HZ.out ?_) | (refine wl_store_new rfl 72 _ _ rfl _ (mcells M).toArray rfl rfl HS.out HE.out HA.out ?_))
  have hb0 := Blk.new w2 (mcells M).toArray 72
  have hum := (hu1.trans hu2).alloc (.cells (mcells M).toArray 72)
  have hw2 := (hu1.trans hu2).size
  clear hM
  go_loopw [6, 16] (fun v sv wr => ∃ (s : Nat) (c : List Nat), s ≤ 20 ∧ sv = .int .i64 s ∧ wr.ownsRow w.heap.size 3 1 v c.length (nc c) ∧ (c = [] ∨ IsCycle M c) ∧ (c = [] → ∀ s', s' < s → ¬ Path (Edge M) s' s' s') ∧ Blk wr w2.heap.size (mcells M) 72 ∧ Up w wr) (fun _ sv _ => 20 - (intOf sv).toNat)
  case atStart => exact ⟨0, [], by omega, rfl, World.ownsRow_nil _ _ _ _, .inl rfl, fun _ s' hs' => by omega, hb0, hum⟩
  case round =>
    clear hb0 hum
    obtain ⟨s, c, hs, rfl, hown, hc, hno, hb, hu⟩ := hrel
    have HC := Lib.hid hc
    have NO := Lib.hid hno
    clear hc hno
    obtain ⟨ac, cc, rfl⟩ := own_len hown
    by_cases hlt : s < 20
    · have HR : Hid (wr.rangeAt w2.heap.size 0 (mcells M)) := range_all hb
      go_wp2_with (with_reducible refine wpList_load_mid rfl 72 _ rfl w2.heap.size 0 rfl (mcells M) _ HR.out HU.out rfl HS2.out ?_)
      refine (cyclefrom_any M s _ hlt (HSF.out s hlt)).mono ?_
      rintro e w3 ⟨v3, c3, rfl, hown3, hc3, hp3, hu3⟩
      have HC3 := Lib.hid hc3
      have HP3 := Lib.hid hp3
      clear hc3 hp3
      obtain ⟨a3, cc3, rfl⟩ := own_len hown3
      have hb3 := hb.up hu3
      have hown' := own_up hown hu3
      have hown3' := own_base (base' := w.heap.size) hown3 hu.size
      have hu' := hu.trans hu3
      clear hown hown3 hb HR hu hu3
      have keep : Hid ((c3 = [] ∨ c ≠ []) → c = [] → ∀ s', s' < s + 1 → ¬ Path (Edge M) s' s' s') := fun h1 h2 s' hs' hp => by
        by_cases e : s' = s
        · subst e
          rcases h1 with h1 | h1
          · exact HP3.out hp h1
          · exact h1 h2
        · exact NO.out h2 s' (by omega) hp
      by_cases h3 : 0 < c3.length
      · have hne3 : Hid (c3 ≠ []) := fun e => by rw [e] at h3; simp at h3
        have d1 : decide ((0 : Int) < (c3.length : Int)) = true := decide_eq_true (by omega)
        by_cases h0 : c.length = 0
        · have h00 : ((c.length : Int) == 0) = true := beq_iff_eq.2 (by omega)
          have H0 := Lib.hid h0
          clear h0
          go_wp2
          go_roundw
          case rel => exact ⟨s + 1, c3, by omega, by go_num, hown3', .inr (HC3.out.resolve_left hne3.out), fun e => absurd e hne3.out, hb3, hu'⟩
          case measure => simp [intOf]; omega
        · have h00 : ((c.length : Int) == 0) = false := beq_eq_false_iff_ne.2 (by omega)
          have hne : Hid (c ≠ []) := fun e => by rw [e] at h0; simp at h0
          by_cases hcl : c3.length < c.length
          · go_wp2
            go_roundw
            case rel => exact ⟨s + 1, c3, by omega, by go_num, hown3', .inr (HC3.out.resolve_left hne3.out), fun e => absurd e hne3.out, hb3, hu'⟩
            case measure => simp [intOf]; omega
          · go_wp2
            go_roundw
            case rel => exact ⟨s + 1, c, by omega, by go_num, hown', HC.out, keep.out (.inr hne.out), hb3, hu'⟩
            case measure => simp [intOf]; omega
      · have he3 : Hid (c3 = []) := List.length_eq_zero_iff.1 (by omega)
        have d1 : decide ((0 : Int) < (c3.length : Int)) = false := decide_eq_false (by omega)
        go_wp2
        go_roundw
        case rel => exact ⟨s + 1, c, by omega, by go_num, hown', HC.out, keep.out (.inl he3.out), hb3, hu'⟩
        case measure => simp [intOf]; omega
    · obtain rfl : s = 20 := by omega
      by_cases h0 : c.length = 0
      · have hc0 : Hid (c = []) := List.length_eq_zero_iff.1 h0
        have h00 : ((c.length : Int) == 0) = true := beq_iff_eq.2 (by omega)
        have NN := Lib.hid (NO.out hc0.out)
        have H0 := Lib.hid h0
        clear h0
        go_wp2
        go_ret2
        exact ⟨.inl ⟨rfl, NN.out⟩, hu⟩
      · have h00 : ((c.length : Int) == 0) = false := beq_eq_false_iff_ne.2 (by omega)
        have hne : Hid (c ≠ []) := fun e => by rw [e] at h0; simp at h0
        have CC := Lib.hid (HC.out.resolve_left hne.out)
        go_wp2
        go_ret2
        exact ⟨.inr ⟨_, c, rfl, hown, CC.out⟩, hu⟩
end Go.Proofs.Ytfpegnlmpicekaa.C
