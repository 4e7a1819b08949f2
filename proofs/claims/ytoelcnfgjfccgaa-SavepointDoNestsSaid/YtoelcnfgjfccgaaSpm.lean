/- SavepointEntriesAreSorted: the walk. -/
import Derived.Test.YtoelcnfgjfccgaaSpl
namespace Go.Proofs.Ytoelcnfgjfccgaa.Sp
open Go Go.RowKit Hp So
set_option linter.unusedVariables false

theorem modL_ok {l : Ws} (h : WOk l) (ops : List Int) : WOk (modL l ops) := by
  unfold modL
  induction ops generalizing l with
  | nil => exact h
  | cons a ops ih => exact ih (by unfold modStep; split; exact h.del _; exact h.put _ _)
theorem get_self {l : Ws} (h : WOk l) {k : Nat} (hk : k < l.length) : getL l l[k].1 = (l[k].2, 0) := by
  have hp : pos l l[k].1 = k := pos_eq (by omega) (fun j hj hjk => h.srt.get hjk hk) (fun _ => slt_irrefl _)
  have hh : has l l[k].1 = true := decide_eq_true ⟨by rw [hp]; exact hk, by congr 2⟩
  unfold getL
  rw [hh, hp, if_pos rfl]
  simp [List.getD, hk]

set_option maxRecDepth 100000 in
set_option maxHeartbeats 2000000 in
theorem walk21 (a2 : Option Addr) (len2 cap2 : Nat) (z2 : List Int) (w : World) (hE : Elems w a2 len2 z2) (hl : len2 ≤ cap2) (hm : cap2 ≤ 9223372036854775807) :
    Calls Try.prog 6 #[.slice a2 len2 cap2] w fun e w' => e = .returned (.bool true) ∧ Up w w' := by
  have HE := Lib.hid hE
  clear hE
  obtain ⟨L, hL⟩ : ∃ L, L = modL [] ((List.range (min len2 60)).map fun i => z2.getD i 0) := ⟨_, rfl⟩
  have HLK : Hid (WOk L) := by rw [hL]; exact modL_ok WOk.nil _
  have HLE := Lib.hid hL
  clear hL
  go_enter Try.func6, Try.ntmps6
  go_wp2_with (first
    | (go_at_call 21; refine (works_any _).mono ?_; rintro e w1 ⟨rfl, h1⟩; have H1 := Lib.hid h1; clear h1)
    | (go_at_call 22; refine (new_any _ [] _ (src_nil _) WOk.nil).mono ?_; rintro e w2 ⟨p, rfl, h2, h3⟩; have H2 := Lib.hid h2; have H3 := Lib.hid h3; clear h2 h3)
    | (go_at_call 23; refine (modify_any p [] [] _ a2 len2 cap2 z2 w _ H2.out HE.out hl hm (H1.out.trans H3.out) (fun k hk => Nat.le_trans H1.out.size hk.1)).mono ?_; rw [← HLE.out]; rintro e w3 ⟨rfl, h4⟩; have H4 := Lib.hid h4; clear h4)
    | (go_at_call 24; refine (all_any p _ [] _ _ H4.out.1).mono ?_; rintro e w4 ⟨va, rfl, h5, h6⟩; obtain ⟨aa, ca, rfl, _, _, _⟩ := own_form h5; have H5 := Lib.hid h5; have H6 := Lib.hid h6; clear h5 h6))
  have HSA := Lib.hid (own_src H5.out)
  have HT := Lib.hid (H4.out.1.up H6.out)
  have hlen := HLK.out.len
  go_loopw [30] (fun iv wr => ∃ k : Nat, k ≤ L.length ∧ iv = .int .i64 k ∧ Up w4 wr) (fun iv _ => L.length - (intOf iv).toNat)
  case atStart => exact ⟨0, by omega, rfl, Up.refl _⟩
  case round =>
    obtain ⟨k, hk, rfl, hu⟩ := hrel
    have HU := Lib.hid hu
    clear hu
    by_cases hlt : k < L.length
    · obtain ⟨b, off, hv, hc⟩ : ∃ b off, aa = some ⟨b, off, none⟩ ∧ ∀ j u, (ec L)[j]? = some u → At w4 b (off + j) u := by
        rcases HSA.out.2 with ⟨e, h0⟩ | ⟨b, off, c, e, _, _, hc⟩
        · omega
        · simp only [Value.slice.injEq] at e
          exact ⟨b, off, e.1, hc⟩
      subst hv
      have hcb := hc _ _ (ec_get L k hlt).1
      have d1 := ((hc _ _ (ec_get L k hlt).1).grow HU.out).2
      have d2 := ((hc _ _ (ec_get L k hlt).2).grow HU.out).2
      rw [← Nat.add_assoc] at d2
      have GS := Lib.hid (get_self HLK.out hlt)
      obtain ⟨s, hs⟩ : ∃ s, s = L[k].1 := ⟨_, rfl⟩
      obtain ⟨x, hx⟩ : ∃ x, x = L[k].2 := ⟨_, rfl⟩
      rw [← hs] at d1 GS
      rw [← hx] at d2 GS
      have hlk : (k : Int) < (L.length : Int) := by omega
      rcases Nat.eq_zero_or_pos k with h0 | h0
      · subst h0
        clear hs hx hc
        rw [Nat.zero_mul, Nat.add_zero] at d1 d2
        go_wp2
        obtain ⟨W, hW⟩ : ∃ W, W = wr.alloc (.cells #[.string s, .int .i64 x] 48) := ⟨_, rfl⟩
        rw [← hW]
        have g1 : W.cell? ⟨wr.heap.size, 0, none⟩ = some (.string s) := by rw [hW, World.cell?_alloc_new]; rfl
        have g2 : W.cell? ⟨wr.heap.size, 1, none⟩ = some (.int .i64 x) := by rw [hW, World.cell?_alloc_new]; rfl
        have hUW : Up wr W := by rw [hW]; exact (Up.refl wr).alloc _
        have hb3 : wr.heap.size < W.heap.size := by rw [hW]; simp
        have HUW := Lib.hid hUW
        have HT2 := Lib.hid ((HT.out.up HU.out).up hUW)
        clear hW d1 d2 hUW hcb
        refine wp_region_gr (by kernel_rfl) (by kernel_rfl) ?_
        repeat (go_big_quiet_step (fail))
        refine wpQuiet_nil ?_
        intro _ hw'
        obtain ⟨gg, rfl⟩ := hw'
        have HT3 := Lib.hid (HT2.out.up (gr_up W gg))
        have n0 := (gr_up W gg).size
        go_wp2_with (go_at_call 25; refine (get_any p _ [] _ s _ HT3.out).mono ?_; rw [GS.out]; rintro e w5 ⟨rfl, h7⟩; have g1 := (h7.cell (p := ⟨wr.heap.size, 0, none⟩) (by show wr.heap.size < (gr W gg).heap.size; omega)).trans ((gr_cell W gg wr.heap.size 0 hb3).trans g1); have g2 := (h7.cell (p := ⟨wr.heap.size, 1, none⟩) (by show wr.heap.size < (gr W gg).heap.size; omega)).trans ((gr_cell W gg wr.heap.size 1 hb3).trans g2); have H7 := Lib.hid h7; clear h7)
        all_goals
          try (go_quiet (fail))
          try go_wp2
          go_roundw
          case rel => exact ⟨0 + 1, by omega, by first | rfl | go_num, HU.out.trans ((HUW.out.trans (gr_up W gg)).trans (by first | exact H7.out | exact H7.out.drew | exact H7.out.drewN _))⟩
          case measure => simp [intOf]; omega
      · obtain ⟨k0, rfl⟩ : ∃ k0, k = k0 + 1 := ⟨k - 1, by omega⟩
        have d3 := ((hc _ _ (ec_get L k0 (by omega)).1).grow HU.out).2
        obtain ⟨s0, hs0⟩ : ∃ s, s = L[k0].1 := ⟨_, rfl⟩
        rw [← hs0] at d3
        have hls : Op.bytesLess s0.toList s.toList = true := by rw [less_iff, hs, hs0]; exact HLK.out.srt.get (Nat.lt_succ_self _) hlt
        clear hs hx hc hs0
        go_wp2
        obtain ⟨W, hW⟩ : ∃ W, W = wr.alloc (.cells #[.string s, .int .i64 x] 48) := ⟨_, rfl⟩
        rw [← hW]
        have g1 : W.cell? ⟨wr.heap.size, 0, none⟩ = some (.string s) := by rw [hW, World.cell?_alloc_new]; rfl
        have g2 : W.cell? ⟨wr.heap.size, 1, none⟩ = some (.int .i64 x) := by rw [hW, World.cell?_alloc_new]; rfl
        have hUW : Up wr W := by rw [hW]; exact (Up.refl wr).alloc _
        have hb3 : wr.heap.size < W.heap.size := by rw [hW]; simp
        have hb1 : b < wr.heap.size := ((hcb).grow HU.out).1
        have g3 := (hUW.cell (p := ⟨b, off + k0 * 2, none⟩) hb1).trans d3
        have hb2 : b < W.heap.size := Nat.lt_of_lt_of_le hb1 hUW.size
        have HUW := Lib.hid hUW
        have HT2 := Lib.hid ((HT.out.up HU.out).up hUW)
        clear hW d1 d2 d3 hUW hcb
        refine wp_region_gr (by kernel_rfl) (by kernel_rfl) ?_
        repeat (go_big_quiet_step (fail))
        refine wpQuiet_nil ?_
        intro _ hw'
        obtain ⟨gg, rfl⟩ := hw'
        have HT3 := Lib.hid (HT2.out.up (gr_up W gg))
        have n0 := (gr_up W gg).size
        go_wp2_with (go_at_call 25; refine (get_any p _ [] _ s _ HT3.out).mono ?_; rw [GS.out]; rintro e w5 ⟨rfl, h7⟩; have g1 := (h7.cell (p := ⟨wr.heap.size, 0, none⟩) (by show wr.heap.size < (gr W gg).heap.size; omega)).trans ((gr_cell W gg wr.heap.size 0 hb3).trans g1); have g2 := (h7.cell (p := ⟨wr.heap.size, 1, none⟩) (by show wr.heap.size < (gr W gg).heap.size; omega)).trans ((gr_cell W gg wr.heap.size 1 hb3).trans g2); have H7 := Lib.hid h7; clear h7)
        all_goals
          try (go_quiet (fail))
          try go_wp2
          go_roundw
          case rel => exact ⟨k0 + 1 + 1, by omega, by first | rfl | go_num, HU.out.trans ((HUW.out.trans (gr_up W gg)).trans (by first | exact H7.out | exact H7.out.drew | exact H7.out.drewN _))⟩
          case measure => simp [intOf]; omega
    · obtain rfl : k = L.length := by omega
      have SA := Lib.hid (HSA.out.up HU.out)
      go_wp2_with (first
        | (go_at_call 22; refine (new_any _ L _ SA.out HLK.out).mono ?_; rintro e w5 ⟨p2, rfl, h7, h8⟩; have H7 := Lib.hid h7; have H8 := Lib.hid h8; clear h7 h8)
        | (go_at_call 24; refine (all_any p2 _ [] _ _ H7.out).mono ?_; rintro e w6 ⟨vb, rfl, h9, h10⟩; have H9 := Lib.hid h9; have H10 := Lib.hid h10; clear h9 h10)
        | (go_at_call 26; refine (equalE_same _ _ L _ (own_src H9.out) (SA.out.up (H8.out.trans H10.out)) HLK.out.len).mono ?_; rintro e w7 ⟨rfl, h11⟩; have H11 := Lib.hid h11; clear h11))
      go_ret
      have u1 : Up w w3 := (((H1.out.trans H3.out).chg fun _ => False).trans H4.out.2 fun j hj e => by have := H1.out.size; have := e.1; omega).up fun _ _ e => e
      exact ⟨rfl, ((u1.trans (H6.out.trans HU.out)).trans (H8.out.trans H10.out)).trans H11.out⟩
end Go.Proofs.Ytoelcnfgjfccgaa.Sp
