/- dangerous. -/
import Derived.Test.YtinmpodnfofmdaaAdc
namespace Go.Proofs.Ytinmpodnfofmdaa.C
open Go Go.RowKit Hp
set_option linter.unusedVariables false

def okk (adm : List Bool) (k p : Nat) : Bool := !(k == p) && (adm.getD k false && adm.getD p false)
def inK (txs : List Tx) (adm : List Bool) (p n : Nat) : Bool := (List.range n).any fun k => okk adm k p && anti (txs.getD k tx0) (txs.getD p tx0)
def outK (txs : List Tx) (adm : List Bool) (p n : Nat) : Bool := (List.range n).any fun k => okk adm k p && anti (txs.getD p tx0) (txs.getD k tx0)
theorem any_succ (f : Nat → Bool) (n : Nat) : (List.range (n + 1)).any f = ((List.range n).any f || f n) := by
  rw [List.range_succ, List.any_append]; simp

theorem arr_at {α : Type} {R : World → Nat → Nat → α → Prop} {size : Nat} {w : World} {a : Option Addr} {n cap : Nat} {l : List α} (d : α)
    (h : ∀ i (h : i < l.length), ∃ b off, a = some ⟨b, off, none⟩ ∧ R w b (off + i * size) l[i]) (hl : 0 < l.length) :
    ∃ b off, a = some ⟨b, off, none⟩ ∧ ∀ i, i < l.length → R w b (off + i * size) (l.getD i d) := by
  obtain ⟨b, off, rfl, _⟩ := h 0 hl
  refine ⟨b, off, rfl, fun i hi => ?_⟩
  obtain ⟨b', off', he, hr⟩ := h i hi
  simp only [Option.some.injEq, Addr.mk.injEq, and_true] at he
  obtain ⟨rfl, rfl⟩ := he
  simpa [List.getD, hi] using hr

theorem retv {a b : Bool} (h : a = b) : Value.bool b = Value.bool a := by rw [h]

set_option maxHeartbeats 4000000 in
theorem dang_any (vt va : Value) (txs : List Tx) (adm : List Bool) (i : Nat) (w : World) (ht : Txs w vt txs) (ha : Bools w va adm) (hl : adm.length = txs.length) (hi : i < txs.length) :
    Calls Try.prog 59 #[vt, va, .int .i64 i] w fun e w' => e = .returned (.bool ((List.range (i + 1)).any fun p => inK txs adm p (i + 1) && outK txs adm p (i + 1))) ∧ Up w w' := by
  obtain ⟨a, cap, rfl, h1, h2, _, h3⟩ := ht
  obtain ⟨a', cap', rfl, h1', h2', _, h3'⟩ := ha
  obtain ⟨b, off, rfl, h4⟩ := arr_at (n := 0) (cap := 0) tx0 h3 (by omega)
  obtain ⟨b', off', rfl, h4'⟩ := arr_at (n := 0) (cap := 0) false h3' (by omega)
  have H3 := Lib.hid h4
  have H3' := Lib.hid h4'
  have HL := Lib.hid hl
  have hl1 : adm.length ≤ txs.length := by omega
  have hl2 : txs.length ≤ adm.length := by omega
  clear h3 h3' h4 h4' hl
  go_enter Try.func59, Try.ntmps59
  go_wp2
  go_loopw [13] (fun iv wr => ∃ p : Nat, p ≤ i + 1 ∧ iv = .int .i64 p ∧ (List.range p).any (fun p => inK txs adm p (i + 1) && outK txs adm p (i + 1)) = false ∧ Up w wr) (fun iv _ => i + 1 - (intOf iv).toNat)
  case atStart => exact ⟨0, by omega, rfl, rfl, Up.refl _⟩
  case round =>
    obtain ⟨p, hp, rfl, hb, hu⟩ := hrel
    have HB := Lib.hid hb
    clear hb
    by_cases hlt : p < i + 1
    · go_wp2
      obtain ⟨wo, rfl⟩ : ∃ wo : World, wo = wr := ⟨_, rfl⟩
      go_loopw [8, 9, 18] (fun inv outv kv wr => ∃ k : Nat, k ≤ i + 1 ∧ kv = .int .i64 k ∧ inv = .bool (inK txs adm p k) ∧ outv = .bool (outK txs adm p k) ∧ Up w wr) (fun _ _ kv _ => i + 1 - (intOf kv).toNat)
      case atStart => exact ⟨0, by omega, rfl, rfl, rfl, hu⟩
      case round =>
        obtain ⟨k, hk, rfl, rfl, rfl, hu⟩ := hrel
        have EI := Lib.hid (any_succ (fun k => okk adm k p && anti (txs.getD k tx0) (txs.getD p tx0)) k)
        have EO := Lib.hid (any_succ (fun k => okk adm k p && anti (txs.getD p tx0) (txs.getD k tx0)) k)
        by_cases hlk : k < i + 1
        · obtain ⟨q1, q2, q3, q4, q5, q6, sr, sw, hbs, c0, c1, c2, c3⟩ := (txR_grows _ _ _ _ _ (H3.out k (by omega)) hu).val
          obtain ⟨r1, r2, r3, r4, r5, r6, sr', sw', _, d0, d1, d2, d3⟩ := (txR_grows _ _ _ _ _ (H3.out p (by omega)) hu).val
          obtain ⟨hbb, e0⟩ := (boolR_grows _ _ _ _ _ (H3'.out k (by omega)) hu)
          obtain ⟨_, e1⟩ := (boolR_grows _ _ _ _ _ (H3'.out p (by omega)) hu)
          rw [Nat.mul_one] at e0 e1
          have VK := Lib.hid (TxV.mk sr sw)
          have VP := Lib.hid (TxV.mk sr' sw')
          obtain ⟨xi, hxi⟩ : ∃ xi, xi = inK txs adm p k := ⟨_, rfl⟩
          obtain ⟨xo, hxo⟩ : ∃ xo, xo = outK txs adm p k := ⟨_, rfl⟩
          have XI := Lib.hid hxi
          have XO := Lib.hid hxo
          rw [← hxi, ← hxo]
          clear hxi hxo
          have hka : k < adm.length := by omega
          have hkt : k < txs.length := by omega
          have hpa : p < adm.length := by omega
          have hpt : p < txs.length := by omega
          obtain ⟨yk, hyk⟩ : ∃ yk, yk = adm.getD k false := ⟨_, rfl⟩
          obtain ⟨yp, hyp⟩ : ∃ yp, yp = adm.getD p false := ⟨_, rfl⟩
          rw [← hyk] at e0
          rw [← hyp] at e1
          have YK := Lib.hid hyk
          have YP := Lib.hid hyp
          clear hyk hyp
          obtain ⟨ai, AI⟩ : ∃ x, Hid (anti (txs.getD k tx0) (txs.getD p tx0) = x) := ⟨_, rfl⟩
          obtain ⟨ao, AO⟩ : ∃ x, Hid (anti (txs.getD p tx0) (txs.getD k tx0) = x) := ⟨_, rfl⟩
          have NI : Hid (inK txs adm p (k + 1) = (xi || (okk adm k p && ai))) := by
            unfold Hid; rw [XI.out, ← AI.out]; exact EI.out
          have NO : Hid (outK txs adm p (k + 1) = (xo || (okk adm k p && ao))) := by
            unfold Hid; rw [XO.out, ← AO.out]; exact EO.out
          clear EI EO
          generalize txs.getD k tx0 = tk at *
          generalize txs.getD p tx0 = tp at *
          by_cases hkp : k = p
          · have OK : Hid (okk adm k p = false) := by unfold Hid okk; rw [hkp]; simp
            obtain rfl := hkp
            go_wp2
            go_roundw
            case rel => exact ⟨k + 1, by omega, by go_num, retv (by rw [NI.out, OK.out]; simp), retv (by rw [NO.out, OK.out]; simp), hu⟩
            case measure => simp [intOf]; omega
          · have hne1 : (k == p) = false := by simpa using hkp
            have hne2 : ((k : Int) == (p : Int)) = false := by simp; omega
            cases yk with
            | false =>
              have OK : Hid (okk adm k p = false) := by unfold Hid okk; rw [hne1, ← YK.out]; rfl
              go_wp2
              go_roundw
              case rel => exact ⟨k + 1, by omega, by go_num, retv (by rw [NI.out, OK.out]; simp), retv (by rw [NO.out, OK.out]; simp), hu⟩
              case measure => simp [intOf]; omega
            | true =>
              cases yp with
              | false =>
                have OK : Hid (okk adm k p = false) := by unfold Hid okk; rw [hne1, ← YK.out, ← YP.out]; rfl
                go_wp2
                go_roundw
                case rel => exact ⟨k + 1, by omega, by go_num, retv (by rw [NI.out, OK.out]; simp), retv (by rw [NO.out, OK.out]; simp), hu⟩
                case measure => simp [intOf]; omega
              | true =>
                have OK : Hid (okk adm k p = true) := by unfold Hid okk; rw [hne1, ← YK.out, ← YP.out]; rfl
                cases xi with
                | true =>
                  cases xo with
                  | true =>
                    go_wp2
                    refine wp_region_gr (by kernel_rfl) (by kernel_rfl) ?_
                    repeat (go_big_quiet_step (fail))
                    refine wpQuiet_nil ?_
                    intro _ hw'
                    obtain ⟨g1, rfl⟩ := hw'
                    go_wp2
                    refine wp_region_gr2 (by kernel_rfl) (by kernel_rfl) ?_
                    repeat (go_big_quiet_step (fail))
                    refine wpQuiet_nil ?_
                    intro _ hw'
                    obtain ⟨g2, rfl⟩ := hw'
                    go_wp2
                    go_roundw
                    case rel => exact ⟨k + 1, by omega, by go_num, retv (by rw [NI.out, OK.out]; simp), retv (by rw [NO.out, OK.out]; simp), Up.trans hu (gr_up _ _)⟩
                    case measure => simp [intOf]; omega
                  | false =>
                    go_wp2
                    refine wp_region_gr (by kernel_rfl) (by kernel_rfl) ?_
                    repeat (go_big_quiet_step (fail))
                    refine wpQuiet_nil ?_
                    intro _ hw'
                    obtain ⟨g1, rfl⟩ := hw'
                    go_wp2
                    refine wp_region_gr2 (by kernel_rfl) (by kernel_rfl) ?_
                    repeat (go_big_quiet_step ((go_at_call 78; exact gr_callb (anti_any tp tk _ _ _ (VP.out.grow (gr_up _ _)) (VK.out.grow (gr_up _ _))) AO.out)))
                    refine wpQuiet_nil ?_
                    intro _ hw'
                    obtain ⟨g2, rfl⟩ := hw'
                    go_wp2
                    go_roundw
                    case rel => exact ⟨k + 1, by omega, by go_num, retv (by rw [NI.out, OK.out]; simp), retv (by rw [NO.out, OK.out]; simp), Up.trans hu (gr_up _ _)⟩
                    case measure => simp [intOf]; omega
                | false =>
                  cases xo with
                  | true =>
                    go_wp2
                    refine wp_region_gr (by kernel_rfl) (by kernel_rfl) ?_
                    repeat (go_big_quiet_step ((go_at_call 78; exact gr_callb (anti_any tk tp _ _ _ (VK.out.grow (gr_up _ _)) (VP.out.grow (gr_up _ _))) AI.out)))
                    refine wpQuiet_nil ?_
                    intro _ hw'
                    obtain ⟨g1, rfl⟩ := hw'
                    go_wp2
                    refine wp_region_gr2 (by kernel_rfl) (by kernel_rfl) ?_
                    repeat (go_big_quiet_step (fail))
                    refine wpQuiet_nil ?_
                    intro _ hw'
                    obtain ⟨g2, rfl⟩ := hw'
                    go_wp2
                    go_roundw
                    case rel => exact ⟨k + 1, by omega, by go_num, retv (by rw [NI.out, OK.out]; simp), retv (by rw [NO.out, OK.out]; simp), Up.trans hu (gr_up _ _)⟩
                    case measure => simp [intOf]; omega
                  | false =>
                    go_wp2
                    refine wp_region_gr (by kernel_rfl) (by kernel_rfl) ?_
                    repeat (go_big_quiet_step ((go_at_call 78; exact gr_callb (anti_any tk tp _ _ _ (VK.out.grow (gr_up _ _)) (VP.out.grow (gr_up _ _))) AI.out)))
                    refine wpQuiet_nil ?_
                    intro _ hw'
                    obtain ⟨g1, rfl⟩ := hw'
                    go_wp2
                    refine wp_region_gr2 (by kernel_rfl) (by kernel_rfl) ?_
                    repeat (go_big_quiet_step ((go_at_call 78; exact gr_callb (anti_any tp tk _ _ _ (VP.out.grow (gr_up _ _)) (VK.out.grow (gr_up _ _))) AO.out)))
                    refine wpQuiet_nil ?_
                    intro _ hw'
                    obtain ⟨g2, rfl⟩ := hw'
                    go_wp2
                    go_roundw
                    case rel => exact ⟨k + 1, by omega, by go_num, retv (by rw [NI.out, OK.out]; simp), retv (by rw [NO.out, OK.out]; simp), Up.trans hu (gr_up _ _)⟩
                    case measure => simp [intOf]; omega
        · obtain rfl : k = i + 1 := by omega
          obtain ⟨xi, hxi⟩ : ∃ xi, xi = inK txs adm p (i + 1) := ⟨_, rfl⟩
          obtain ⟨xo, hxo⟩ : ∃ xo, xo = outK txs adm p (i + 1) := ⟨_, rfl⟩
          have XI := Lib.hid hxi
          have XO := Lib.hid hxo
          rw [← hxi, ← hxo]
          have EP := Lib.hid (any_succ (fun p => inK txs adm p (i + 1) && outK txs adm p (i + 1)) p)
          clear hxi hxo EI EO
          cases xi with
          | true =>
            cases xo with
            | true =>
              go_wp2
              go_ret
              exact ⟨ret_bool (List.any_eq_true.2 ⟨p, by simp; omega, by rw [← XI.out, ← XO.out]; rfl⟩).symm, hu⟩
            | false =>
              go_wp2
              go_roundw
              case rel => exact ⟨p + 1, by omega, by go_num, by rw [EP.out, HB.out, ← XI.out, ← XO.out]; rfl, hu⟩
              case measure => simp [intOf]; omega
          | false =>
            go_wp2
            go_roundw
            case rel => exact ⟨p + 1, by omega, by go_num, by rw [EP.out, HB.out, ← XI.out, ← XO.out]; rfl, hu⟩
            case measure => simp [intOf]; omega
    · obtain rfl : p = i + 1 := by omega
      go_wp2
      go_ret
      exact ⟨ret_bool HB.out.symm, hu⟩
end Go.Proofs.Ytinmpodnfofmdaa.C
