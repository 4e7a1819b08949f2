/- Locks: slices.Equal at equal rows. -/
import Derived.Test.YtbimkciejfbodaaLkb
import Derived.Test.YtbimkciejfbodaaLke
namespace Go.Proofs.Ytbimkciejfbodaa.Lk
open Go Go.RowKit Hp
set_option linter.unusedVariables false

theorem lk_eq (W : World) (t : Int) (s k : ByteArray) (m : Int) : (Op.equalIn 10000 33 (.agg #[.int .i64 t, .string s, .string k, .int .i64 m]) (.agg #[.int .i64 t, .string s, .string k, .int .i64 m])).run Try.prog W = .ok true W := by
  have hz : ∀ W : World, (sizeOf 3).run Try.prog W = .ok 1 W := Try.sizeOf3
  have hz2 : ∀ W : World, (sizeOf 9).run Try.prog W = .ok 1 W := Try.sizeOf9
  rw [show (10000 : Nat) = 9999 + 1 from rfl, Op.equalIn]
  simp only [Sem.run_bind, run_underlying Try.underlying33, Result.andThen_ok]
  simp only [part]
  have ha : ∀ W : World, (isAgg 3).run Try.prog W = .ok false W := Try.isAgg3
  have ha2 : ∀ W : World, (isAgg 9).run Try.prog W = .ok false W := Try.isAgg9
  simp [ha, ha2, go_sem]
theorem guardL : Try.prog.eqGuardType Try.prog.depth 33 = false := by kernel_rfl
set_option maxRecDepth 100000 in
set_option maxHeartbeats 1000000 in
theorem equal_locks (v v' : Value) (l : List Lk) (w : World) (h : Src w 4 v l.length (lkC l)) (h' : Src w 4 v' l.length (lkC l)) (hl : l.length ≤ 100000) :
    Calls Try.prog 25 #[v, v'] w fun e w' => e = .returned (.bool true) ∧ Up w w' := by
  have HS := Lib.hid h
  have HS' := Lib.hid h'
  obtain ⟨a, cap, rfl⟩ := src_rn h
  obtain ⟨a', cap', rfl⟩ := src_rn h'
  clear h h'
  have hne : ((l.length : Int) != (l.length : Int)) = false := by simp
  go_enter Try.func25, Try.ntmps25
  go_wp2
  go_loopw [13] (fun iv wr => ∃ k : Nat, k ≤ l.length ∧ iv = .int .i64 k ∧ Hid (Up w wr)) (fun iv _ => l.length - (intOf iv).toNat)
  case atStart => exact ⟨0, by omega, rfl, Up.refl _⟩
  case round =>
    obtain ⟨k, hk, rfl, HU⟩ := hrel
    by_cases hlt : k < l.length
    · obtain ⟨b, off, hv, c0, c1, c2, c3⟩ : ∃ b off, a = some ⟨b, off, none⟩ ∧ At w b (off + k * 4) (.int .i64 l[k].tx) ∧ At w b (off + (k * 4 + 1)) (.string l[k].tab) ∧ At w b (off + (k * 4 + 2)) (.string l[k].key) ∧ At w b (off + (k * 4 + 3)) (.int .i64 l[k].mode) := by
        obtain ⟨b, off, hv, hc⟩ := src_at HS.out (by omega)
        exact ⟨b, off, hv, hc _ _ (lkC_get l k hlt).1, hc _ _ (lkC_get l k hlt).2.1, hc _ _ (lkC_get l k hlt).2.2.1, hc _ _ (lkC_get l k hlt).2.2.2⟩
      obtain ⟨b', off', hv', c0', c1', c2', c3'⟩ : ∃ b off, a' = some ⟨b, off, none⟩ ∧ At w b (off + k * 4) (.int .i64 l[k].tx) ∧ At w b (off + (k * 4 + 1)) (.string l[k].tab) ∧ At w b (off + (k * 4 + 2)) (.string l[k].key) ∧ At w b (off + (k * 4 + 3)) (.int .i64 l[k].mode) := by
        obtain ⟨b, off, hv, hc⟩ := src_at HS'.out (by omega)
        exact ⟨b, off, hv, hc _ _ (lkC_get l k hlt).1, hc _ _ (lkC_get l k hlt).2.1, hc _ _ (lkC_get l k hlt).2.2.1, hc _ _ (lkC_get l k hlt).2.2.2⟩
      subst hv
      subst hv'
      generalize l[k].tx = g0 at c0 c0'
      generalize l[k].tab = g1 at c1 c1'
      generalize l[k].key = g2 at c2 c2'
      generalize l[k].mode = g3 at c3 c3'
      have d0 := (c0.grow HU.out).2
      have e0 := (c0'.grow HU.out).2
      have d1 := (c1.grow HU.out).2
      have e1 := (c1'.grow HU.out).2
      have d2 := (c2.grow HU.out).2
      have e2 := (c2'.grow HU.out).2
      have d3 := (c3.grow HU.out).2
      have e3 := (c3'.grow HU.out).2
      rw [← Nat.add_assoc] at d1 e1 d2 e2 d3 e3
      have hlk : (k : Int) < (l.length : Int) := by omega
      clear c0 c1 c2 c3 c0' c1' c2' c3'
      have hpn := lk_eq
      have hgd := guardL
      go_wp2
      go_quiet (fail)
      go_wp2
      go_roundw
      case rel => exact ⟨k + 1, by omega, by go_num, HU.out.drewN _⟩
      case measure => simp [intOf]; omega
    · obtain rfl : k = l.length := by omega
      go_wp2
      go_ret
      exact ⟨rfl, HU.out⟩
set_option maxRecDepth 100000 in
set_option maxHeartbeats 1000000 in
theorem equal_ints (v v' : Value) (l : List Int) (w : World) (h : Src w 1 v l.length (icI l)) (h' : Src w 1 v' l.length (icI l)) (hl : l.length ≤ 100000) :
    Calls Try.prog 20 #[v, v'] w fun e w' => e = .returned (.bool true) ∧ Up w w' := by
  have HS := Lib.hid h
  have HS' := Lib.hid h'
  obtain ⟨a, cap, rfl⟩ := src_rn h
  obtain ⟨a', cap', rfl⟩ := src_rn h'
  clear h h'
  have hne : ((l.length : Int) != (l.length : Int)) = false := by simp
  go_enter Try.func20, Try.ntmps20
  go_wp2
  go_loopw [13] (fun iv wr => ∃ k : Nat, k ≤ l.length ∧ iv = .int .i64 k ∧ Hid (Up w wr)) (fun iv _ => l.length - (intOf iv).toNat)
  case atStart => exact ⟨0, by omega, rfl, Up.refl _⟩
  case round =>
    obtain ⟨k, hk, rfl, HU⟩ := hrel
    by_cases hlt : k < l.length
    · obtain ⟨b, off, hv, c0⟩ : ∃ b off, a = some ⟨b, off, none⟩ ∧ At w b (off + k * 1) (.int .i64 l[k]) := by
        obtain ⟨b, off, hv, hc⟩ := src_at HS.out (by omega)
        exact ⟨b, off, hv, hc _ _ (by rw [Nat.mul_one]; exact icI_get l k hlt)⟩
      obtain ⟨b', off', hv', c0'⟩ : ∃ b off, a' = some ⟨b, off, none⟩ ∧ At w b (off + k * 1) (.int .i64 l[k]) := by
        obtain ⟨b, off, hv, hc⟩ := src_at HS'.out (by omega)
        exact ⟨b, off, hv, hc _ _ (by rw [Nat.mul_one]; exact icI_get l k hlt)⟩
      subst hv
      subst hv'
      generalize l[k] = g0 at c0 c0'
      rw [Nat.mul_one] at c0 c0'
      have d0 := (c0.grow HU.out).2
      have e0 := (c0'.grow HU.out).2
      have hlk : (k : Int) < (l.length : Int) := by omega
      clear c0 c0'
      go_wp2
      go_quiet (fail)
      go_wp2
      go_roundw
      case rel => exact ⟨k + 1, by omega, by go_num, HU.out.drewN _⟩
      case measure => simp [intOf]; omega
    · obtain rfl : k = l.length := by omega
      go_wp2
      go_ret
      exact ⟨rfl, HU.out⟩
end Go.Proofs.Ytbimkciejfbodaa.Lk
