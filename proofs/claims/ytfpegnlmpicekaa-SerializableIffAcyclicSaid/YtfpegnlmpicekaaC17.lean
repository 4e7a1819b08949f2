/- slices.Equal at numbers and at pairs; large arrays; histories. -/
import Derived.Test.YtfpegnlmpicekaaC16
namespace Go.Proofs.Ytfpegnlmpicekaa.C
open Go Go.RowKit Hp
set_option linter.unusedVariables false

theorem equalI_any (v v' : Value) (l l' : List (Int)) (w : World) (h : Arr IntR 1 w v l) (h' : Arr IntR 1 w v' l') :
    Calls Try.prog 32 #[v, v'] w fun e w' => e = .returned (.bool (decide (l = l'))) ∧ Up w w' := by
  obtain ⟨a, cap, rfl, h1, h2, _, h3⟩ := h
  obtain ⟨a', cap', rfl, h1', h2', _, h3'⟩ := h'
  have H3 := Lib.hid h3
  have H3' := Lib.hid h3'
  clear h3 h3'
  by_cases hn : l.length = l'.length
  · have hne : ((l.length : Int) != (l'.length : Int)) = false := by simp [hn]
    have hne2 : (l.length != l'.length) = false := by simp [hn]
    have hn1 : l.length ≤ l'.length := by omega
    have hn2 : l'.length ≤ l.length := by omega
    have HN := Lib.hid hn
    clear hn
    go_enter Try.func32, Try.ntmps32
    go_wp2
    go_loopw [13] (fun iv wr => ∃ k : Nat, k ≤ l.length ∧ iv = .int .i64 k ∧ (∀ j (h : j < l.length) (h' : j < l'.length), j < k → l[j] = l'[j]) ∧ Up w wr) (fun iv _ => l.length - (intOf iv).toNat)
    case atStart => exact ⟨0, by omega, rfl, fun j _ _ hj => by omega, Up.refl _⟩
    case round =>
      obtain ⟨k, hk, rfl, hb, hu⟩ := hrel
      have HB := Lib.hid hb
      clear hb
      by_cases hlt : k < l.length
      · obtain ⟨b, off, rfl, hr⟩ := H3.out k hlt
        obtain ⟨b', off', rfl, hr'⟩ := H3'.out k (by omega)
        have hd := intR_grows _ _ _ _ _ hr hu
        have hd' := intR_grows _ _ _ _ _ hr' hu
        have hlt' : k < l'.length := by omega
        obtain ⟨x, hx⟩ : ∃ x, x = l[k] := ⟨_, rfl⟩
        obtain ⟨x', hx'⟩ : ∃ x, x = l'[k] := ⟨_, rfl⟩
        rw [← hx] at hd
        rw [← hx'] at hd'
        have HX := Lib.hid hx
        have HX' := Lib.hid hx'
        clear hx hx' hr hr'
        by_cases hq : x = x'
        · have EN : Hid (l[k] = l'[k]) := by unfold Hid; rw [← HX.out, ← HX'.out]; exact hq
          subst hq
          clear HX HX'
          obtain ⟨_, c1⟩ := hd
          obtain ⟨_, c2⟩ := hd'
          rw [Nat.mul_one] at c1 c2
          have hz : (x != x) = false := by simp
          go_wp2
          go_quiet (fail)
          go_wp2
          go_roundw
          case rel => exact ⟨k + 1, by omega, by go_num, fun j hj hj' hjk => by
            by_cases e : j = k
            · subst e; exact EN.out
            · exact HB.out j hj hj' (by omega), hu.drewN _⟩
          case measure => simp [intOf]; omega
        · have EN : Hid (decide (l = l') = false) := by
            unfold Hid; rw [decide_eq_false_iff_not]; rintro rfl; exact hq (by rw [HX.out, HX'.out])
          clear HX HX'
          obtain ⟨_, c1⟩ := hd
          obtain ⟨_, c2⟩ := hd'
          rw [Nat.mul_one] at c1 c2
          have hz : (x != x') = true := by simpa using hq
          clear hq
          go_wp2
          go_quiet (fail)
          go_wp2
          go_ret
          exact ⟨ret_bool EN.out.symm, hu.drewN _⟩
      · have EN : Hid (decide (l = l') = true) := by
          unfold Hid; rw [decide_eq_true_eq]
          exact List.ext_getElem HN.out (fun j h1 h2 => HB.out j h1 h2 (by omega))
        go_wp2
        go_ret
        exact ⟨ret_bool EN.out.symm, hu⟩
  · have hne : ((l.length : Int) != (l'.length : Int)) = true := by simp; omega
    have hne2 : (l.length != l'.length) = true := by simpa using hn
    have EN : Hid (decide (l = l') = false) := by
      unfold Hid; rw [decide_eq_false_iff_not]; rintro rfl; exact hn rfl
    go_enter Try.func32, Try.ntmps32
    go_wp2
    go_ret
    exact ⟨ret_bool EN.out.symm, Up.refl _⟩

theorem pair_neq (W : World) (a b c d : Int) : (Op.equalIn 10000 48 (.agg #[.int .i64 a, .int .i64 b]) (.agg #[.int .i64 c, .int .i64 d])).run Try.prog W = .ok (a == c && b == d) W := by
  have hz : ∀ W : World, (sizeOf 3).run Try.prog W = .ok 1 W := Try.sizeOf3
  rw [show (10000 : Nat) = 9999 + 1 from rfl, Op.equalIn]
  simp only [Sem.run_bind, run_underlying Try.underlying48, Result.andThen_ok, hz]
  simp only [part]
  have ha : ∀ W : World, (isAgg 3).run Try.prog W = .ok false W := Try.isAgg3
  by_cases h : a = c
  · by_cases h2 : b = d
    · simp [List.range', ha, h, h2, go_sem]
    · simp [List.range', ha, h, h2, go_sem]
  · simp [List.range', ha, h, go_sem]
theorem guard48 : Try.prog.eqGuardType Try.prog.depth 48 = false := by kernel_rfl

theorem equalP_any (v v' : Value) (l l' : List (Int × Int)) (w : World) (h : Arr PairR 2 w v l) (h' : Arr PairR 2 w v' l') :
    Calls Try.prog 21 #[v, v'] w fun e w' => e = .returned (.bool (decide (l = l'))) ∧ Up w w' := by
  obtain ⟨a, cap, rfl, h1, h2, _, h3⟩ := h
  obtain ⟨a', cap', rfl, h1', h2', _, h3'⟩ := h'
  have H3 := Lib.hid h3
  have H3' := Lib.hid h3'
  clear h3 h3'
  by_cases hn : l.length = l'.length
  · have hne : ((l.length : Int) != (l'.length : Int)) = false := by simp [hn]
    have hne2 : (l.length != l'.length) = false := by simp [hn]
    have hn1 : l.length ≤ l'.length := by omega
    have hn2 : l'.length ≤ l.length := by omega
    have HN := Lib.hid hn
    clear hn
    go_enter Try.func21, Try.ntmps21
    go_wp2
    go_loopw [13] (fun iv wr => ∃ k : Nat, k ≤ l.length ∧ iv = .int .i64 k ∧ (∀ j (h : j < l.length) (h' : j < l'.length), j < k → l[j] = l'[j]) ∧ Up w wr) (fun iv _ => l.length - (intOf iv).toNat)
    case atStart => exact ⟨0, by omega, rfl, fun j _ _ hj => by omega, Up.refl _⟩
    case round =>
      obtain ⟨k, hk, rfl, hb, hu⟩ := hrel
      have HB := Lib.hid hb
      clear hb
      by_cases hlt : k < l.length
      · obtain ⟨b, off, rfl, hr⟩ := H3.out k hlt
        obtain ⟨b', off', rfl, hr'⟩ := H3'.out k (by omega)
        have hd := pairR_grows _ _ _ _ _ hr hu
        have hd' := pairR_grows _ _ _ _ _ hr' hu
        have hlt' : k < l'.length := by omega
        obtain ⟨x, hx⟩ : ∃ x, x = l[k] := ⟨_, rfl⟩
        obtain ⟨x', hx'⟩ : ∃ x, x = l'[k] := ⟨_, rfl⟩
        rw [← hx] at hd
        rw [← hx'] at hd'
        have HX := Lib.hid hx
        have HX' := Lib.hid hx'
        clear hx hx' hr hr'
        by_cases hq : x = x'
        · have EN : Hid (l[k] = l'[k]) := by unfold Hid; rw [← HX.out, ← HX'.out]; exact hq
          subst hq
          clear HX HX'
          obtain ⟨_, ⟨_, c1⟩, ⟨_, c2⟩⟩ := hd
          obtain ⟨_, ⟨_, c3⟩, ⟨_, c4⟩⟩ := hd'
          have hpn := pair_neq
          have hgd := guard48
          obtain ⟨x1, x2⟩ := x
          dsimp only at c1 c2 c3 c4
          have hz1 : (x1 == x1) = true := by simp
          have hz2 : (x2 == x2) = true := by simp
          go_wp2
          go_quiet (fail)
          go_wp2
          go_roundw
          case rel => exact ⟨k + 1, by omega, by go_num, fun j hj hj' hjk => by
            by_cases e : j = k
            · subst e; exact EN.out
            · exact HB.out j hj hj' (by omega), hu.drewN _⟩
          case measure => simp [intOf]; omega
        · have EN : Hid (decide (l = l') = false) := by
            unfold Hid; rw [decide_eq_false_iff_not]; rintro rfl; exact hq (by rw [HX.out, HX'.out])
          clear HX HX'
          obtain ⟨_, ⟨_, c1⟩, ⟨_, c2⟩⟩ := hd
          obtain ⟨_, ⟨_, c3⟩, ⟨_, c4⟩⟩ := hd'
          have hpn := pair_neq
          have hgd := guard48
          obtain ⟨x1, x2⟩ := x
          obtain ⟨y1, y2⟩ := x'
          dsimp only at c1 c2 c3 c4
          have hz : (x1 == y1 && x2 == y2) = false := by
            rw [Bool.and_eq_false_iff]
            by_cases e : x1 = y1
            · right; simp only [beq_eq_false_iff_ne]; intro e2; exact hq (by rw [e, e2])
            · left; simpa using e
          clear hq
          go_wp2
          go_quiet (fail)
          go_wp2
          go_ret
          exact ⟨ret_bool EN.out.symm, hu.drewN _⟩
      · have EN : Hid (decide (l = l') = true) := by
          unfold Hid; rw [decide_eq_true_eq]
          exact List.ext_getElem HN.out (fun j h1 h2 => HB.out j h1 h2 (by omega))
        go_wp2
        go_ret
        exact ⟨ret_bool EN.out.symm, hu⟩
  · have hne : ((l.length : Int) != (l'.length : Int)) = true := by simp; omega
    have hne2 : (l.length != l'.length) = true := by simpa using hn
    have EN : Hid (decide (l = l') = false) := by
      unfold Hid; rw [decide_eq_false_iff_not]; rintro rfl; exact hn rfl
    go_enter Try.func21, Try.ntmps21
    go_wp2
    go_ret
    exact ⟨ret_bool EN.out.symm, Up.refl _⟩
end Go.Proofs.Ytfpegnlmpicekaa.C
