/- The archive: the first free slot; Size. -/
import Derived.Test.YtdaehidbeleblaaBkh
namespace Go.Proofs.Ytdaehidbeleblaa.Bk
open Go Go.RowKit Hp
open Mv (Val rowC rowC_len rowC_one rowC_get RM rmC rmC1 rmC_len rmC_get erR RecsR RecsS Srt pos has pos_le has_pos fm_len fm_take fm_drop fm_get fm_set fm_one cloneR)
set_option linter.unusedVariables false

set_option maxRecDepth 100000 in
set_option maxHeartbeats 2000000 in
theorem index_any (fv : Value) (refs : List Nat) (w : World) (h : Src w 1 fv refs.length (icN refs)) (hbig : refs.length ≤ 1000000) :
    Calls Try.prog 30 #[fv, .int .i64 0] w fun e w' => Up w w' ∧ ((∃ i : Nat, i < refs.length ∧ refs.getD i 0 = 0 ∧ (∀ j, j < i → refs.getD j 0 ≠ 0) ∧ e = .returned (.int .i64 (i : Int))) ∨ ((∀ i, i < refs.length → refs.getD i 0 ≠ 0) ∧ e = .returned (.int .i64 (-1)))) := by
  have HS := Lib.hid h
  obtain ⟨a, cap, rfl⟩ := Mv.src_rn h
  clear h
  go_enter Try.func30, Try.ntmps30
  go_wp2
  go_loopw [8] (fun iv wr => ∃ k : Nat, k ≤ refs.length ∧ iv = .int .i64 k ∧ Up w wr ∧ Hid (∀ i, i < k → refs.getD i 0 ≠ 0)) (fun iv _ => refs.length - (intOf iv).toNat)
  case atStart => exact ⟨0, by omega, rfl, Up.refl _, fun i hi => by omega⟩
  case round =>
    obtain ⟨k, hk, rfl, hu, HN⟩ := hrel
    have HU := Lib.hid hu
    clear hu
    by_cases hlt : k < refs.length
    · obtain ⟨b, off, rfl, hc⟩ := Mv.src_at HS.out (by omega)
      have d1 := ((hc _ _ (icN_get refs k hlt)).grow HU.out).2
      have hlk : (k : Int) < (refs.length : Int) := by omega
      have hg : Hid (refs.getD k 0 = refs[k]) := by unfold Hid; simp [List.getD, hlt]
      generalize refs[k] = n at *
      clear hc
      by_cases h0 : n = 0
      · subst h0
        go_wp2
        go_ret
        exact ⟨HU.out, .inl ⟨k, hlt, hg.out, HN.out, rfl⟩⟩
      · have h1 : ¬ (n : Int) = 0 := by omega
        have h1b : ((n : Int) == 0) = false := beq_eq_false_iff_ne.2 h1
        go_wp2
        go_roundw
        case rel => exact ⟨k + 1, by omega, by go_num, HU.out, fun i hi => by
          rcases Nat.lt_or_ge i k with h2 | h2
          · exact HN.out i h2
          · obtain rfl : i = k := by omega
            rw [hg.out]; exact h0⟩
        case measure => simp [intOf]; omega
    · obtain rfl : k = refs.length := by omega
      go_wp2
      go_ret
      exact ⟨HU.out, .inr ⟨HN.out, rfl⟩⟩
theorem zero_first {refs : List Nat} (h : ∃ i, i < refs.length ∧ refs.getD i 0 = 0) : ∃ i, i < refs.length ∧ refs.getD i 0 = 0 ∧ ∀ j, j < i → refs.getD j 0 ≠ 0 := by
  obtain ⟨i, hl, hi⟩ := h
  induction i using Nat.strongRecOn with
  | ind i ih =>
    by_cases h : ∃ j, j < i ∧ refs.getD j 0 = 0
    · obtain ⟨j, hj, h⟩ := h; exact ih j hj (by omega) h
    · exact ⟨i, hl, hi, fun j hj h2 => h ⟨j, hj, h2⟩⟩
theorem index_hit {fv : Value} {refs : List Nat} {w : World} (h : Src w 1 fv refs.length (icN refs)) (hbig : refs.length ≤ 1000000) {i : Nat} (hl : i < refs.length) (hi : refs.getD i 0 = 0) (hm : ∀ j, j < i → refs.getD j 0 ≠ 0) :
    Calls Try.prog 30 #[fv, .int .i64 0] w fun e w' => e = .returned (.int .i64 (i : Int)) ∧ Up w w' := by
  refine (index_any fv refs w h hbig).mono ?_
  rintro e w' ⟨hu, ⟨k, hk, h0, h1, rfl⟩ | ⟨h1, _⟩⟩
  · rcases Nat.lt_trichotomy i k with h2 | rfl | h2
    · exact absurd hi (h1 i h2)
    · exact ⟨rfl, hu⟩
    · exact absurd h0 (hm k h2)
  · exact absurd hi (h1 i hl)
theorem index_miss {fv : Value} {refs : List Nat} {w : World} (h : Src w 1 fv refs.length (icN refs)) (hbig : refs.length ≤ 1000000) (hn : ¬ ∃ i, i < refs.length ∧ refs.getD i 0 = 0) :
    Calls Try.prog 30 #[fv, .int .i64 0] w fun e w' => e = .returned (.int .i64 (-1)) ∧ Up w w' := by
  refine (index_any fv refs w h hbig).mono ?_
  rintro e w' ⟨hu, ⟨k, hk, h0, h1, _⟩ | ⟨_, rfl⟩⟩
  · exact absurd ⟨k, hk, h0⟩ hn
  · exact ⟨rfl, hu⟩
end Go.Proofs.Ytdaehidbeleblaa.Bk
