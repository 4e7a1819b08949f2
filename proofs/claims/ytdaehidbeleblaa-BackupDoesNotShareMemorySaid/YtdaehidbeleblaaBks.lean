/- The laws' archive of changes and backups: backupWorks. -/
import Derived.Test.YtdaehidbeleblaaBkr
import Derived.Maps.OwnOps
namespace Go.Proofs.Ytdaehidbeleblaa.Bk
open Go Go.RowKit Hp
open Mv (Val rowC rowC_len rowC_one rowC_get RM rmC rmC1 rmC_len rmC_get erR RecsR RecsS Srt pos has pos_le has_pos fm_len fm_take fm_drop fm_get fm_set fm_one cloneR rowV row_any)
set_option linter.unusedVariables false

theorem rowV_len (x : Int) : (rowV x).length = 1 := rfl
def kA : ByteArray := ⟨#[97]⟩
theorem st_first (r : List Val) (hr : r.length ≠ 0) : stA { ar0 with chgs := ar0.chgs ++ [⟨3, kA, r⟩] } 4 = [(kA, r)] := by
  rw [st_snoc]
  have h0 : stA ar0 4 = [] := rfl
  have h1 : (baseA ar0.baks 4).1 = 0 := rfl
  rw [h0, h1, if_pos (by show (0 : Int) < 3 ∧ (3 : Int) ≤ 4; omega)]
  simp [chStep, has, pos, hr]
theorem recs_one {w : World} {B : Nat} {v : Value} {k : ByteArray} {r : List Val} (h : RecsR w B v [(k, r)]) : ∃ g c, v = .slice (some ⟨g, 0, none⟩) 1 c ∧ At w g 0 (.string k) := by
  obtain ⟨gs, h1, h2, _⟩ := h
  have hl : gs.length = 1 := by have := congrArg List.length h1; rwa [List.length_map] at this
  obtain ⟨g, c, hv, _, _, hg, hat, _⟩ := own_some h2 (by omega)
  rw [hl] at hv
  have g0 := hat _ _ (rmC_get gs 0 (by omega)).1
  have hk : gs[0].key = k := by
    have : (gs.map erR)[0]? = some (k, r) := by rw [h1]; rfl
    rw [List.getElem?_map, List.getElem?_eq_getElem (by omega : 0 < gs.length)] at this
    simp only [Option.map_some, Option.some.injEq, erR, Prod.mk.injEq] at this
    exact this.1
  rw [hk] at g0
  exact ⟨g, c, hv, hg, by simpa using g0⟩
set_option maxRecDepth 100000 in
set_option maxHeartbeats 4000000 in
theorem works_any (w : World) : Calls Try.prog 7 #[] w fun e w' => e = .returned (.bool true) ∧ Up w w' := by
  have P := Lib.hid (st_first (rowV 5) (by rw [rowV_len]; decide))
  have RL : Hid ((rowV 5).length ≤ 6) := by unfold Hid; rw [rowV_len]; decide
  have L0 : Hid (latA ar0 < 3) := by unfold Hid; decide
  go_enter Try.func7, Try.ntmps7
  go_wp2_with (first
    | (go_at_call 14; refine (stateO H4.out.1 (t := 4) (by show (0 : Int) ≤ 4; decide)).mono ?_; rintro e w4 ⟨v, rfl, h5, h6⟩; rw [P.out] at h5; obtain ⟨sg, sc, rfl, hsg, hs0⟩ := recs_one h5; have H6 := Lib.hid h6; clear h5 h6)
    | (go_at_call 10; refine (recordO (H1.out.up H3.out) (t := 3) (k := kA) (own_src H2.out) L0.out (by decide) (by decide) RL.out (by decide)).mono ?_; rintro e w3 ⟨rfl, h4⟩; have H4 := Lib.hid h4; clear h4)
    | (go_at_call 9; refine (row_any 5 w1).mono ?_; rintro e w2 ⟨rfl, h4, h5⟩; have H2 := Lib.hid h4; have H3 := Lib.hid h5; clear h4 h5)
    | (go_at_call 8; refine (newO w).mono ?_; rintro e w1 ⟨p, rfl, h1⟩; have H1 := Lib.hid h1; clear h1)
    | fail)
  go_ret
  exact ⟨ret_bool (show (kA.toList == [97]) = true by rw [So.tl]; rfl), H4.out.1.upw.trans H6.out⟩
end Go.Proofs.Ytdaehidbeleblaa.Bk
