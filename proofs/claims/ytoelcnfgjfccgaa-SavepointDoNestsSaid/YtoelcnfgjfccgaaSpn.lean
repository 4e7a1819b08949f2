/- SavepointReleaseKeepsEntries: the walk. -/
import Derived.Test.YtoelcnfgjfccgaaSpm
namespace Go.Proofs.Ytoelcnfgjfccgaa.Sp
open Go Go.RowKit Hp So
set_option linter.unusedVariables false

theorem spP_nil (l : Ws) : spP l [] = ([l], 1, 0) := rfl
/-- What a step keeps, seen from the law's start. -/
theorem seq_kept {w w1 w2 : World} {p : Nat} {l : Ws} {sp : List Ws} {F : Nat → Prop} (hF : ∀ k, F k → w.heap.size ≤ k) (hu : Up w w1) (h : TxR w2 p l sp (Fx F w1 w2) ∧ Chg F w1 w2) :
    TxR w2 p l sp (Fx F w1 w2) ∧ (∀ k, Fx F w1 w2 k → w.heap.size ≤ k) ∧ Up w w2 := by
  refine ⟨h.1, fun k hk => ?_, ((hu.chg fun _ => False).trans h.2 fun j hj e => absurd (hF j e) (by omega)).up fun _ _ e => e⟩
  rcases hk with hk | hk
  · exact hF k hk
  · have := hu.size; omega
/-- A row that was made since keeps off what a step changes. -/
theorem want_kept {w5 w6 w7 : World} {v : Value} {l : Ws} {F : Nat → Prop} (h : w6.ownsRow w5.heap.size 48 2 v l.length (ec l)) (hF : ∀ k, F k → k < w5.heap.size) (hc : Chg F w6 w7) : w7.ownsRow w5.heap.size 48 2 v l.length (ec l) :=
  own_chg h hc fun k hk e => by have := ((own_ty h) k hk).2; have := hF k e; omega
set_option maxRecDepth 100000 in
set_option maxHeartbeats 2000000 in
theorem walk28 (a2 : Option Addr) (len2 cap2 : Nat) (z2 : List Int) (a3 : Option Addr) (len3 cap3 : Nat) (z3 : List Int) (w : World) (hE : Elems w a2 len2 z2) (hl : len2 ≤ cap2) (hm : cap2 ≤ 9223372036854775807)
    (hE3 : Elems w a3 len3 z3) (hl3 : len3 ≤ cap3) (hm3 : cap3 ≤ 9223372036854775807) :
    Calls Try.prog 9 #[.slice a2 len2 cap2, .slice a3 len3 cap3] w fun e w' => e = .returned (.bool true) ∧ Up w w' := by
  have HE := Lib.hid hE
  have HE3 := Lib.hid hE3
  clear hE hE3
  obtain ⟨L, hL⟩ : ∃ L, L = modL [] ((List.range (min len2 60)).map fun i => z2.getD i 0) := ⟨_, rfl⟩
  obtain ⟨M, hM⟩ : ∃ M, M = modL L ((List.range (min len3 60)).map fun i => z3.getD i 0) := ⟨_, rfl⟩
  have HLK : Hid (WOk L) := by rw [hL]; exact modL_ok WOk.nil _
  have HMK : Hid (WOk M) := by rw [hM]; exact modL_ok HLK.out _
  have HLE := Lib.hid hL
  have HME := Lib.hid hM
  clear hL hM
  go_enter Try.func9, Try.ntmps9
  go_wp2_with (first
    | (go_at_call 28; refine (rb_no p M _ _ 1 _ H11.out.1 (by simp)).mono ?_; rintro e w10 ⟨rfl, h5⟩; have H12 := Lib.hid (seq_kept H9.out.2.1 H11.out.2 h5); clear h5)
    | (go_at_call 26; refine (equalE_same _ _ M _ (own_src HB.out) HW8.out HMK.out.len).mono ?_; rintro e w9 ⟨rfl, h5⟩; have H11 := Lib.hid (And.intro (H10.out.1.up h5) (H10.out.2.trans h5)); clear h5)
    | (go_at_call 24; refine (all_any p M _ _ _ H9.out.1).mono ?_; rintro e w8 ⟨vb, rfl, h5, h6⟩; have HB := Lib.hid h5; have HW8 := Lib.hid ((own_src HW.out).up h6); have H10 := Lib.hid (And.intro (H9.out.1.up h6) (H9.out.2.2.trans h6)); clear h5 h6)
    | (go_at_call 32; refine (rl_ok p M [L] _ 1 0 _ H8.out.1 (by omega) (by simp)).mono ?_; rintro e w7 ⟨rfl, h7⟩; have HW := Lib.hid (want_kept H7.out HL8.out h7.2); have H9 := Lib.hid (seq_kept H6.out.2.1 H8.out.2 h7); clear h7)
    | (go_at_call 24; refine (all_any p M [L] _ _ H6.out.1).mono ?_; rintro e w6 ⟨va, rfl, h5, h6⟩; obtain ⟨aa, ca, rfl, _, _, _⟩ := own_form h5; have H7 := Lib.hid h5; have H8 := Lib.hid (And.intro (H6.out.1.up h6) (H6.out.2.2.trans h6)); have HL8 := Lib.hid H6.out.1.lt; clear h5 h6)
    | (go_at_call 23; refine (modify_any p L [L] _ a3 len3 cap3 z3 w _ H5.out.1 HE3.out hl3 hm3 H5.out.2.2 H5.out.2.1).mono ?_; rw [← HME.out]; rintro e w5 ⟨rfl, h6⟩; have H6 := Lib.hid (seq_kept H5.out.2.1 H5.out.2.2 h6); clear h6)
    | (go_at_call 27; refine (sp_any p L [] _ _ H4.out.1).mono ?_; rw [spP_nil]; rintro e w4 ⟨rfl, h5⟩; have H5 := Lib.hid (seq_kept H4.out.2.1 H4.out.2.2 h5); clear h5)
    | (go_at_call 23; refine (modify_any p [] [] _ a2 len2 cap2 z2 w _ H2.out HE.out hl hm H3.out HF.out).mono ?_; rw [← HLE.out]; rintro e w3 ⟨rfl, h4⟩; have H4 := Lib.hid (seq_kept HF.out H3.out h4); clear h4)
    | (go_at_call 22; refine (new_any _ [] _ (src_nil _) WOk.nil).mono ?_; rintro e w2 ⟨p, rfl, h2, h3⟩; have H2 := Lib.hid h2; have H3 := Lib.hid (H1.out.trans h3); have HF := Lib.hid (fun k (hk : w1.heap.size ≤ k ∧ k < w2.heap.size) => Nat.le_trans H1.out.size hk.1); clear h2 h3)
    | (go_at_call 21; refine (works_any _).mono ?_; rintro e w1 ⟨rfl, h1⟩; have H1 := Lib.hid h1; clear h1))
  go_ret
  exact ⟨rfl, H12.out.2.2⟩
end Go.Proofs.Ytoelcnfgjfccgaa.Sp
