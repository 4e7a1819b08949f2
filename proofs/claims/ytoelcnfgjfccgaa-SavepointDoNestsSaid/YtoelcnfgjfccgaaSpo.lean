/- SavepointRollbackRestoresEntries: the walk. -/
import Derived.Test.YtoelcnfgjfccgaaSpn
namespace Go.Proofs.Ytoelcnfgjfccgaa.Sp
open Go Go.RowKit Hp So
set_option linter.unusedVariables false

/-- A row of rows of integers. -/
def Rows2 (w : World) (a : Option Addr) (len : Nat) : Prop := ∀ i, i < len → ∃ b off ai li ci zi, a = some ⟨b, off, none⟩ ∧ At w b (off + i) (.slice ai li ci) ∧ Elems w ai li zi ∧ li ≤ ci ∧ ci ≤ 9223372036854775807
theorem spP_lt (l : Ws) (sp : List Ws) (h : ¬ sp.length = 20) : spP l sp = (sp ++ [l], ((sp.length + 1 : Nat) : Int), 0) := by unfold spP; rw [if_neg h]
/-- What the rounds keep. -/
def Kept24 (w wr : World) (p k : Nat) (L : Ws) (v : Value) (B : Nat) : Prop :=
  ∃ M sp F, TxR wr p M sp F ∧ sp.length = k + 1 ∧ sp[0]? = some L ∧ (∀ j, F j → w.heap.size ≤ j) ∧ Up w wr ∧ wr.ownsRow B 48 2 v L.length (ec L) ∧ ∀ j, v.ownBlock = some j → ¬ F j
theorem spP_k (l : Ws) (sp : List Ws) (k : Nat) (h : sp.length = k + 1) (hk : k < 19) : spP l sp = (sp ++ [l], (k : Int) + 2, 0) := by
  rw [spP_lt l sp (by omega), h]
  have : ((k + 1 + 1 : Nat) : Int) = (k : Int) + 2 := by omega
  rw [this]
theorem keep24_start {w w3 w4 w5 : World} {p : Nat} {L : Ws} {v : Value} {F : Nat → Prop} (h5 : w4.ownsRow w3.heap.size 48 2 v L.length (ec L)) (h6 : TxR w4 p L [] F ∧ (∀ k, F k → w.heap.size ≤ k) ∧ Up w w4 ∧ ∀ k, F k → k < w3.heap.size)
    (h : TxR w5 p L [L] (Fx F w4 w5) ∧ Chg F w4 w5) : Kept24 w w5 p 0 L v w3.heap.size := by
  obtain ⟨a, b, c⟩ := seq_kept h6.2.1 h6.2.2.1 h
  refine ⟨L, [L], _, a, rfl, rfl, b, c, want_kept h5 h6.2.2.2 h.2, fun j hj e => ?_⟩
  have h1 := (own_ty h5) j hj
  rcases e with e | e
  · have := h6.2.2.2 j e; omega
  · have := own_lt h5 j hj; omega
theorem Kept24.step {w wr w5 w6 : World} {p k : Nat} {L M' : Ws} {sp : List Ws} {v : Value} {B : Nat} {F : Nat → Prop} (hs : sp.length = k + 1) (h0 : sp[0]? = some L) (hF : ∀ j, F j → w.heap.size ≤ j) (hu : Up w wr) (hv : wr.ownsRow B 48 2 v L.length (ec L)) (hn : ∀ j, v.ownBlock = some j → ¬ F j)
    (h1 : Chg F wr w5) (h2 : TxR w6 p M' (sp ++ [M']) (Fx (Fx F wr w5) w5 w6) ∧ Chg (Fx F wr w5) w5 w6) (hl : ∀ j, F j → j < wr.heap.size) : Kept24 w w6 p (k + 1) L v B := by
  obtain ⟨a, b⟩ := TxR.two hl h1 h2
  obtain ⟨c, d, e⟩ := seq_kept hF hu ⟨a, b⟩
  refine ⟨M', sp ++ [M'], _, c, by rw [List.length_append, hs]; rfl, by rw [List.getElem?_append_left (by omega)]; exact h0, d, e, own_chg hv b fun j hj hx => hn j hj hx, fun j hj hx => ?_⟩
  rcases hx with hx | hx
  · exact hn j hj hx
  · have := own_lt hv j hj; omega
set_option maxRecDepth 100000 in
set_option maxHeartbeats 2000000 in
theorem walk24 (a2 : Option Addr) (len2 cap2 : Nat) (z2 : List Int) (a3 : Option Addr) (len3 cap3 : Nat) (w : World) (hE : Elems w a2 len2 z2) (hl : len2 ≤ cap2) (hm : cap2 ≤ 9223372036854775807)
    (hE3 : Rows2 w a3 len3) (hl3 : len3 ≤ cap3) (hm3 : cap3 ≤ 9223372036854775807) :
    Calls Try.prog 7 #[.slice a2 len2 cap2, .slice a3 len3 cap3] w fun e w' => e = .returned (.bool true) ∧ Up w w' := by
  have HE := Lib.hid hE
  have HE3 := Lib.hid hE3
  clear hE hE3
  obtain ⟨L, hL⟩ : ∃ L, L = modL [] ((List.range (min len2 60)).map fun i => z2.getD i 0) := ⟨_, rfl⟩
  have HLK : Hid (WOk L) := by rw [hL]; exact modL_ok WOk.nil _
  have HLE := Lib.hid hL
  clear hL
  obtain ⟨m, hmin', hm1, hm2⟩ := min_len 10 len3
  have hmin : (if (10 : Int) < (len3 : Int) then (10 : Int) else (len3 : Int)) = (m : Int) := hmin'
  clear hmin'
  have hmc : (m : Int) ≤ (cap3 : Int) := by omega
  go_enter Try.func7, Try.ntmps7
  go_wp2_with (first
    | (go_at_call 27; refine (sp_any p L [] _ _ H6.out.1).mono ?_; rw [spP_nil]; rintro e w5 ⟨rfl, h7⟩; have H7 := Lib.hid (keep24_start H5.out H6.out h7); clear h7)
    | (go_at_call 24; refine (all_any p L [] _ _ H4.out.1).mono ?_; rintro e w4 ⟨va, rfl, h5, h6⟩; obtain ⟨aa, ca, rfl, _, _, _⟩ := own_form h5; have H5 := Lib.hid h5; have H6 := Lib.hid (And.intro (H4.out.1.up h6) (And.intro H4.out.2.1 (And.intro (H4.out.2.2.trans h6) H4.out.1.lt))); clear h5 h6)
    | (go_at_call 23; refine (modify_any p [] [] _ a2 len2 cap2 z2 w _ H2.out HE.out hl hm H3.out HF.out).mono ?_; rw [← HLE.out]; rintro e w3 ⟨rfl, h4⟩; have H4 := Lib.hid (seq_kept HF.out H3.out h4); clear h4)
    | (go_at_call 22; refine (new_any _ [] _ (src_nil _) WOk.nil).mono ?_; rintro e w2 ⟨p, rfl, h2, h3⟩; have H2 := Lib.hid h2; have H3 := Lib.hid (H1.out.trans h3); have HF := Lib.hid (fun k (hk : w1.heap.size ≤ k ∧ k < w2.heap.size) => Nat.le_trans H1.out.size hk.1); clear h2 h3)
    | (go_at_call 21; refine (works_any _).mono ?_; rintro e w1 ⟨rfl, h1⟩; have H1 := Lib.hid h1; clear h1))
  clear hmin
  go_loopw [47] (fun iv wr => ∃ k : Nat, k ≤ m ∧ iv = .int .i64 k ∧ Kept24 w wr p k L (.slice aa L.length ca) w3.heap.size) (fun iv _ => m - (intOf iv).toNat)
  case atStart => exact ⟨0, by omega, rfl, H7.out⟩
  case round =>
    obtain ⟨k, hk, rfl, M, sp, F, hT, hs, hs0, hF, hu, hv, hn⟩ := hrel
    have HT := Lib.hid hT
    have HS0 := Lib.hid hs0
    have HFF := Lib.hid hF
    have HU := Lib.hid hu
    have HV := Lib.hid hv
    have HN := Lib.hid hn
    have HSL := Lib.hid hs
    clear hT hs0 hF hu hv hn
    by_cases hlt : k < m
    · obtain ⟨b, off, ai, li, ci, zi, rfl, hat, hEi, hli, hci⟩ := HE3.out k (by omega)
      have d1 := (hat.grow HU.out).2
      have HEI := Lib.hid hEi
      have hlk : (k : Int) < (m : Int) := by omega
      obtain ⟨M', hM'⟩ : ∃ M', M' = modL M ((List.range (min li 60)).map fun i => zi.getD i 0) := ⟨_, rfl⟩
      have HM := Lib.hid hM'
      clear hat hEi hM' hs
      go_wp2_with (fail)
      refine (modify_any p M sp _ ai li ci zi w _ HT.out HEI.out hli hci HU.out HFF.out).mono ?_
      rw [← HM.out]
      rintro e w6 ⟨rfl, h4⟩
      have G1 := Lib.hid h4
      clear h4
      go_wp2_with (fail)
      refine (sp_any p M' sp _ _ G1.out.1).mono ?_
      rw [spP_k M' sp k HSL.out (by omega)]
      rintro e w7 ⟨rfl, h7⟩
      have G2 := Lib.hid (Kept24.step HSL.out HS0.out HFF.out HU.out HV.out HN.out G1.out.2 h7 HT.out.lt)
      clear h7
      go_wp2
      go_roundw
      case rel => exact ⟨k + 1, by omega, by go_num, G2.out⟩
      case measure => simp [intOf]; omega
    · obtain rfl : k = m := by omega
      obtain ⟨tl, rfl⟩ : ∃ tl, sp = L :: tl := by
        cases sp with
        | nil => simp at hs
        | cons x tl => exact ⟨tl, by have := HS0.out; simp at this; rw [this]⟩
      clear hs
      go_wp2_with (fail)
      refine (rb_ok p M (L :: tl) _ 1 0 _ HT.out (by omega) (by simp)).mono ?_
      rintro e w6 ⟨rfl, h5⟩
      have h5' : TxR w6 p L [L] (Fx F wr w6) ∧ Chg F wr w6 := h5
      have KW := Lib.hid (own_chg HV.out h5'.2 fun j hj e => HN.out j hj e)
      have K1 := Lib.hid (seq_kept HFF.out HU.out h5')
      clear h5 h5'
      go_wp2_with (fail)
      refine (all_any p L _ _ _ K1.out.1).mono ?_
      rintro e w7 ⟨vb, rfl, h5, h6⟩
      have K2 := Lib.hid (And.intro h5 (And.intro (K1.out.1.up h6) (And.intro (K1.out.2.2.trans h6) ((own_src KW.out).up h6))))
      clear h5 h6
      go_wp2_with (fail)
      refine (equalE_same _ _ L _ (own_src K2.out.1) K2.out.2.2.2 HLK.out.len).mono ?_
      rintro e w8 ⟨rfl, h5⟩
      have K3 := Lib.hid (And.intro (K2.out.2.1.up h5) (K2.out.2.2.1.trans h5))
      clear h5
      go_wp2_with (fail)
      refine (rb_no p L [L] _ 2 _ K3.out.1 (by simp)).mono ?_
      rintro e w9 ⟨rfl, h5⟩
      have K4 := Lib.hid (seq_kept K1.out.2.1 K3.out.2 h5)
      clear h5
      go_wp2_with (fail)
      refine (rb_ok p L [L] _ 1 0 _ K4.out.1 (by omega) (by simp)).mono ?_
      rintro e w10 ⟨rfl, h5⟩
      have K5 := Lib.hid (seq_kept K4.out.2.1 K4.out.2.2 h5)
      clear h5
      go_wp2
      go_ret
      exact ⟨rfl, K5.out.2.2⟩
end Go.Proofs.Ytoelcnfgjfccgaa.Sp
