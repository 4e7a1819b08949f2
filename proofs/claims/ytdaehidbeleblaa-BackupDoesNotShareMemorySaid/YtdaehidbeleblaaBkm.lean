/- The archive: Size. -/
import Derived.Test.YtdaehidbeleblaaBkl
namespace Go.Proofs.Ytdaehidbeleblaa.Bk
open Go Go.RowKit Hp
open Mv (Val rowC rowC_len rowC_one rowC_get RM rmC rmC1 rmC_len rmC_get erR RecsR RecsS Srt pos has pos_le has_pos fm_len fm_take fm_drop fm_get fm_set fm_one cloneR)
set_option linter.unusedVariables false

/-- How many records are referred to. -/
def live (refs : List Nat) : Nat := (refs.filter fun n => decide (0 < n)).length
theorem live_take (refs : List Nat) (k : Nat) (h : k < refs.length) : live (refs.take (k + 1)) = live (refs.take k) + if 0 < refs[k] then 1 else 0 := by
  unfold live
  rw [List.take_succ_eq_append_getElem h, List.filter_append, List.length_append]
  congr 1
  by_cases hp : 0 < refs[k] <;> simp [hp]
theorem live_le (refs : List Nat) : live refs ≤ refs.length := List.length_filter_le _ _
theorem live_congr : ∀ {a b : List Nat}, a.length = b.length → (∀ i, (0 < a.getD i 0 ↔ 0 < b.getD i 0)) → live a = live b
  | [], [], _, _ => rfl
  | [], _ :: _, h, _ => by simp at h
  | _ :: _, [], h, _ => by simp at h
  | x :: a, y :: b, h, hi => by
    have h0 := hi 0
    have ih := live_congr (a := a) (b := b) (by simpa using h) fun i => by simpa using hi (i + 1)
    simp only [List.getD_cons_zero] at h0
    unfold live at *
    rw [List.filter_cons, List.filter_cons]
    by_cases hx : 0 < x
    · have hy := h0.1 hx
      simp [hx, hy, ih]
    · have hy : ¬ 0 < y := fun e => hx (h0.2 e)
      simp [hx, hy, ih]
set_option maxRecDepth 100000 in
set_option maxHeartbeats 4000000 in
theorem size_any (p : Nat) (A : Ar) (F : Nat → Prop) (w : World) (h : ArR w p A F) :
    Calls Try.prog 17 #[.pointer (some ⟨p, 0, none⟩)] w fun e w' => e = .returned (.tuple #[.int .i64 (A.baks.length : Nat), .int .i64 (live A.refs : Nat), .int .i64 (A.chgs.length : Nat)]) ∧ Up w w' := by
  obtain ⟨rs, bs, cs, rv, fv, bv, cv, hP, e1, e2, e3, ok⟩ := h
  have hbl : bs.length = A.baks.length := by rw [← e2, List.length_map]
  have hcl : cs.length = A.chgs.length := by rw [← e3, List.length_map]
  rw [← hbl, ← hcl]
  have hrl : A.refs.length ≤ 100000 := by rw [ok.rl]; exact ok.big
  have hb1 : bs.length ≤ 20 := by rw [hbl]; exact ok.bl
  have hc1 : cs.length ≤ 200 := by rw [hcl]; exact ok.cl
  generalize A.refs = refs at *
  obtain ⟨hpl, a1⟩ := (hP.blk.at (i := 1) rfl)
  obtain ⟨_, a2⟩ := (hP.blk.at (i := 2) rfl)
  obtain ⟨_, a3⟩ := (hP.blk.at (i := 3) rfl)
  have REF := Lib.hid hP.ref
  obtain ⟨fa, fc, rfl, hfc1, hfc2, _⟩ := own_form hP.ref
  obtain ⟨ba, bc, rfl, hbc1, hbc2, _⟩ := own_form hP.bak
  obtain ⟨ca, cc, rfl, hcc1, hcc2, _⟩ := own_form hP.chg
  clear hP e1 e2 e3 ok hbl hcl
  go_enter Try.func17, Try.ntmps17
  go_wp2
  go_loopw [3, 12] (fun nv iv wr => ∃ k : Nat, k ≤ refs.length ∧ nv = .int .i64 (live (refs.take k) : Nat) ∧ iv = .int .i64 k ∧ wr = w) (fun _ iv _ => refs.length - (intOf iv).toNat)
  case atStart => exact ⟨0, by omega, rfl, rfl, rfl⟩
  case round =>
    obtain ⟨k, hk, rfl, rfl, rfl⟩ := hrel
    by_cases hlt : k < refs.length
    · obtain ⟨fg, fcp, hfv, _, _, hfg, hfat, _⟩ := own_some REF.out (by omega)
      simp only [Value.slice.injEq] at hfv
      obtain ⟨rfl, _, rfl⟩ := hfv
      have f0 := hfat _ _ (icN_get refs k hlt)
      have hkl : (k : Int) < (refs.length : Int) := by omega
      have LT := Lib.hid (live_take refs k hlt)
      have hll := live_le (refs.take k)
      rw [List.length_take] at hll
      have hln : live (refs.take k) ≤ 100000 := by omega
      clear hfat hll
      generalize live (refs.take k) = n at *
      generalize refs[k] = x at *
      by_cases hx : 0 < x
      · have hx' : (0 : Int) < (x : Int) := by omega
        have LT2 := LT.out
        rw [if_pos hx] at LT2
        have LT3 := Lib.hid LT2
        clear LT LT2
        go_wp2
        go_roundw
        case rel => exact ⟨k + 1, by omega, by rw [LT3.out]; go_num, by go_num, (by first | rfl | trivial)⟩
        case measure => simp [intOf]; omega
      · have hx' : ¬ (0 : Int) < (x : Int) := by omega
        have LT2 := LT.out
        rw [if_neg hx] at LT2
        replace LT2 := LT2.trans (Nat.add_zero n)
        have LT3 := Lib.hid LT2
        clear LT LT2
        go_wp2
        go_roundw
        case rel => exact ⟨k + 1, by omega, by rw [LT3.out], by go_num, (by first | rfl | trivial)⟩
        case measure => simp [intOf]; omega
    · obtain rfl : k = refs.length := by omega
      rw [List.take_length]
      obtain ⟨n, hn⟩ : ∃ n, live refs = n := ⟨_, rfl⟩
      have HN := Lib.hid hn
      rw [hn]
      clear hn
      go_wp2
      refine wp_region_gr (by kernel_rfl) (by kernel_rfl) ?_
      repeat (go_big_quiet_step (fail))
      refine wpQuiet_nil ?_
      intro _ hw'
      obtain ⟨gg, rfl⟩ := hw'
      go_wp2
      go_ret3
      exact ⟨by rw [HN.out]; rfl, gr_up _ gg⟩
end Go.Proofs.Ytdaehidbeleblaa.Bk
