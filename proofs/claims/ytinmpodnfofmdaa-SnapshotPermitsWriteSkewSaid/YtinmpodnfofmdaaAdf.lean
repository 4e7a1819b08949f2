/- Two slices of bools compared. -/
import Derived.Test.YtinmpodnfofmdaaAde
namespace Go.Proofs.Ytinmpodnfofmdaa.C
open Go Go.RowKit Hp
set_option linter.unusedVariables false
theorem equalB_any (v v' : Value) (l l' : List Bool) (w : World) (h : Bools w v l) (h' : Bools w v' l') :
    Calls Try.prog 42 #[v, v'] w fun e w' => e = .returned (.bool (decide (l = l'))) ∧ Up w w' := by
  obtain ⟨a, cap, rfl, h1, h2, _, h3⟩ := h
  obtain ⟨a', cap', rfl, h1', h2', _, h3'⟩ := h'
  have H3 := Lib.hid h3
  have H3' := Lib.hid h3'
  clear h3 h3'
  by_cases hn : l.length = l'.length
  · have hne : ((l.length : Int) != (l'.length : Int)) = false := by simp [hn]
    have hne2 : (l.length != l'.length) = false := by simp [hn]
    have hn1 : l.length ≤ l'.length := by omega
    have hn2 : l'.length ≤ l.length := by omega
    have HN := Lib.hid hn
    clear hn
    go_enter Try.func42, Try.ntmps42
    go_wp2
    go_loopw [13] (fun iv wr => ∃ k : Nat, k ≤ l.length ∧ iv = .int .i64 k ∧ (∀ j (h : j < l.length) (h' : j < l'.length), j < k → l[j] = l'[j]) ∧ Up w wr) (fun iv _ => l.length - (intOf iv).toNat)
    case atStart => exact ⟨0, by omega, rfl, fun j _ _ hj => by omega, Up.refl _⟩
    case round =>
      obtain ⟨k, hk, rfl, hb, hu⟩ := hrel
      have HB := Lib.hid hb
      clear hb
      by_cases hlt : k < l.length
      · obtain ⟨b, off, rfl, hb1, hc⟩ := H3.out k hlt
        obtain ⟨b', off', rfl, hb1', hc'⟩ := H3'.out k (by omega)
        rw [Nat.mul_one] at hc hc'
        have hd := (hu.cell (p := ⟨b, off + k, none⟩) hb1).trans hc
        have hd' := (hu.cell (p := ⟨b', off' + k, none⟩) hb1').trans hc'
        clear hc hc'
        have hlt' : k < l'.length := by omega
        obtain ⟨x, hx⟩ : ∃ x, x = l[k] := ⟨_, rfl⟩
        obtain ⟨x', hx'⟩ : ∃ x, x = l'[k] := ⟨_, rfl⟩
        rw [← hx] at hd
        rw [← hx'] at hd'
        have HX := Lib.hid hx
        have HX' := Lib.hid hx'
        clear hx hx'
        by_cases hq : x = x'
        · have EN : Hid (l[k] = l'[k]) := by unfold Hid; rw [← HX.out, ← HX'.out]; exact hq
          subst hq
          have hz : (x != x) = false := by simp
          go_wp2
          go_quiet (fail)
          go_wp2
          go_roundw
          case rel => exact ⟨k + 1, by omega, by go_num, fun j hj hj' hjk => by
            by_cases e : j = k
            · subst e; exact EN.out
            · exact HB.out j hj hj' (by omega), hu.drewN _⟩
          case measure => simp [intOf]; omega
        · have EN : Hid (decide (l = l') = false) := by
            unfold Hid; rw [decide_eq_false_iff_not]; rintro rfl; exact hq (by rw [HX.out, HX'.out])
          have hz : (x != x') = true := by simpa using hq
          have hz2 : x' = !x := by cases x <;> cases x' <;> simp_all
          subst hz2
          clear hq hz
          cases x
          all_goals
            go_wp2
            go_quiet (fail)
            go_wp2
            go_ret
            exact ⟨ret_bool EN.out.symm, hu.drewN _⟩
      · have EN : Hid (decide (l = l') = true) := by
          unfold Hid; rw [decide_eq_true_eq]
          exact List.ext_getElem HN.out (fun j h1 h2 => HB.out j h1 h2 (by omega))
        go_wp2
        go_ret
        exact ⟨ret_bool EN.out.symm, hu⟩
  · have hne : ((l.length : Int) != (l'.length : Int)) = true := by simp; omega
    have hne2 : (l.length != l'.length) = true := by simpa using hn
    have EN : Hid (decide (l = l') = false) := by
      unfold Hid; rw [decide_eq_false_iff_not]; rintro rfl; exact hn rfl
    go_enter Try.func42, Try.ntmps42
    go_wp2
    go_ret
    exact ⟨ret_bool EN.out.symm, Up.refl _⟩

end Go.Proofs.Ytinmpodnfofmdaa.C
