/- Interleavings: Equivalent, Check. -/
import Derived.Test.YthcldanmppkkjaaInh
namespace Go.Proofs.Ythcldanmppkkjaa.In
open Go Go.RowKit Hp
set_option linter.unusedVariables false

theorem hvalid_mem {l : List Hop} (h : HValid l) : ∀ x ∈ l, x.tx < 20 := fun x hx => by
  obtain ⟨i, hi, rfl⟩ := List.getElem_of_mem hx
  have := h.tx i hi
  simpa [List.getD, hi] using this
set_option maxRecDepth 100000 in
set_option maxHeartbeats 4000000 in
/-- Equivalent. -/
theorem equiv_any (u v : Value) (a b : List Hop) (bu bv : Nat) (w : World) (hu : OpsO w bu u a) (hv : OpsO w bv v b) (ha : HValid a) (hb : HValid b) :
    Calls Try.prog 14 #[u, v] w fun e w' => e = .returned (.tuple #[.bool (decide (nfH a = nfH b)), .int .i64 0]) ∧ Up w w' := by
  have HA := Lib.hid hu
  have HB := Lib.hid hv
  have VA := Lib.hid ha
  have VB := Lib.hid hb
  have hla : (nfH a).length ≤ 1000 := by
    have h1 := (nfn_eqv (dep := depH) a.length a (hvalid_mem ha) rfl).perm.length_eq
    have := ha.len
    unfold nfH nf
    omega
  have hlb : (nfH b).length ≤ 1000 := by
    have h1 := (nfn_eqv (dep := depH) b.length b (hvalid_mem hb) rfl).perm.length_eq
    have := hb.len
    unfold nfH nf
    omega
  have NA := Lib.hid (fun W hW => nform_any u a bu W hW (by have := VA.out.len; omega) (hvalid_mem VA.out))
  have NB := Lib.hid (fun W hW => nform_any v b bv W hW (by have := VB.out.len; omega) (hvalid_mem VB.out))
  obtain ⟨A, hA⟩ : ∃ A, A = nfH a := ⟨_, rfl⟩
  obtain ⟨B, hB⟩ : ∃ B, B = nfH b := ⟨_, rfl⟩
  rw [← hA] at hla NA ⊢
  rw [← hB] at hlb NB ⊢
  have EQ := Lib.hid (fun u v W h h' => equalO_any u v A B W h h' hla hlb)
  generalize decide (A = B) = bb at *
  clear hu hv ha hb hA hB
  go_enter Try.func14, Try.ntmps14
  go_wp2_with (first
    | (go_at_call 22; with_reducible refine (hcheck_any u a _ (hops_own HA.out) VA.out).mono ?_; rintro e w1 ⟨rfl, h1⟩; have U1 := Lib.hid h1; clear h1)
    | (go_at_call 22; with_reducible refine (hcheck_any v b _ (hops_own (own_up HB.out U1.out)) VB.out).mono ?_; rintro e w2 ⟨rfl, h2⟩; have U2 := Lib.hid (U1.out.trans h2); clear h2)
    | (go_at_call 24; with_reducible refine (NA.out _ (own_up HA.out U2.out)).mono ?_; rintro e w3 ⟨v3, rfl, h3, h4⟩; have U3 := Lib.hid (U2.out.trans h4); have N3 := Lib.hid h3; clear h3 h4)
    | (go_at_call 24; with_reducible refine (NB.out _ (own_up HB.out U3.out)).mono ?_; rintro e w4 ⟨v4, rfl, h3, h4⟩; have U4 := Lib.hid (U3.out.trans h4); have N4 := Lib.hid h3; have N3' := Lib.hid (own_up N3.out h4); clear h3 h4)
    | (go_at_call 23; with_reducible refine (EQ.out v3 v4 _ (own_src N3'.out) (own_src N4.out)).mono ?_; rintro e w5 ⟨rfl, h5⟩; have U5 := Lib.hid (U4.out.trans h5); clear h5)
    | fail)
  go_ret2
  exact ⟨rfl, U5.out⟩

/-- What Check asks of a list of transactions. -/
structure TValid (L : List (List Hop)) : Prop where
  len : L.length ≤ 4
  tot : L.flatten.length ≤ 12
  each : ∀ i (h : i < L.length), HValid L[i]
  own : ∀ i (h : i < L.length), ∀ x ∈ L[i], x.tx = i
set_option maxRecDepth 100000 in
set_option maxHeartbeats 4000000 in
theorem check_any (v : Value) (L : List (List Hop)) (w : World) (h : TxR w 0 v L) (hv : TValid L) :
    Calls Try.prog 19 #[v] w fun e w' => e = .returned (.int .i64 0) ∧ Up w w' := by
  have HC := Lib.hid (concat_any v L)
  obtain ⟨ta, tc, rfl, _, _, _⟩ := h.form
  have HT := Lib.hid h
  have VT := Lib.hid hv
  have hlen := hv.len
  have htot := hv.tot
  have HC2 := Lib.hid (fun W hW => HC.out W hW (by omega) (by omega))
  obtain ⟨z, hz⟩ : ∃ z, z = L.flatten := ⟨_, rfl⟩
  rw [← hz] at HC2 htot
  have h4 : ¬ 4 < L.length := by omega
  have h4d : decide (4 < (L.length : Int)) = false := decide_eq_false (by omega)
  have h12 : ¬ (12 : Int) < (z.length : Int) := by omega
  have h12d : decide (12 < (z.length : Int)) = false := decide_eq_false (by omega)
  clear h hv HC hz
  go_enter Try.func19, Try.ntmps19
  go_wp2_with (first
    | (go_at_call 13; refine (HC2.out _ HT.out).mono ?_; rintro e w1 ⟨v1, rfl, h1, h2⟩; obtain ⟨va, vc, rfl, _, _, _⟩ := own_form h1; have U1 := Lib.hid h2; clear h1 h2)
    | fail)
  go_loopw [19] (fun iv wr => ∃ q : Nat, q ≤ L.length ∧ iv = .int .i64 q ∧ Hid (Up w wr)) (fun iv _ => L.length - (intOf iv).toNat)
  case atStart => exact ⟨0, by omega, rfl, U1.out⟩
  case round =>
    obtain ⟨q, hq, rfl, HU⟩ := hrel
    by_cases hq2 : q < L.length
    · obtain ⟨g, u, uc, rfl, gl, b0, h5, _⟩ := (HT.out.up HU.out).row hq2
      have HV := Lib.hid (VT.out.each q hq2)
      have HOW := Lib.hid (VT.out.own q hq2)
      have H5 := Lib.hid h5
      have hln : L[q].length ≤ 200 := HV.out.len
      generalize L[q] = l at *
      clear h5
      go_wp2_with (first
        | (go_at_call 22; refine (hcheck_any _ l _ (hops_own H5.out) HV.out).mono ?_; rintro e w2 ⟨rfl, h2⟩; have U2 := Lib.hid h2; clear h2)
        | fail)
      go_loopw [31] (fun kv wi => ∃ k : Nat, k ≤ l.length ∧ kv = .int .i64 k ∧ Hid (Up w2 wi)) (fun kv _ => l.length - (intOf kv).toNat)
      case atStart => exact ⟨0, by omega, rfl, Up.refl _⟩
      case round =>
        obtain ⟨k, hk, rfl, HI⟩ := hrel
        have UI := Lib.hid (U2.out.trans HI.out)
        by_cases hk2 : k < l.length
        · obtain ⟨_, _, hve, _, _, _, h6⟩ := Arr.grow hopR_grows (hops_own H5.out) UI.out
          obtain ⟨b, off, hve, h7⟩ := h6 k hk2
          cases hve
          obtain ⟨_, ⟨hbb, c0⟩, ⟨_, c1⟩, _, c2⟩ := h7
          have hto := HOW.out l[k] (List.getElem_mem hk2)
          clear h6
          generalize l[k] = x at *
          obtain ⟨x1, x2, x3⟩ := x
          dsimp only at c0 c1 c2 hto
          subst hto
          have hxx : ((x1 : Int) != (x1 : Int)) = false := by simp
          go_wp2
          go_roundw
          case rel => exact ⟨k + 1, by omega, by go_num, HI.out.alloc _⟩
          case measure => simp [intOf]; omega
        · obtain rfl : k = l.length := by omega
          go_wp2
          go_roundw
          case rel => exact ⟨q + 1, by omega, by go_num, HU.out.trans UI.out⟩
          case measure => simp [intOf]; omega
    · obtain rfl : q = L.length := by omega
      go_wp2
      go_ret
      exact ⟨rfl, HU.out⟩
end Go.Proofs.Ythcldanmppkkjaa.In
