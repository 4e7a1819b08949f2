/- Locks: Held. -/
import Derived.Test.YtbimkciejfbodaaLkp
namespace Go.Proofs.Ytbimkciejfbodaa.Lk
open Go Go.RowKit Hp
open Go.Sort (grow flatK HoldsK)
set_option linter.unusedVariables false

def SortedL (l : List Lk) : Prop := l.Pairwise (fun a b => ¬ ltL b a)
theorem sortL_any (B : Nat) (v : Value) (rs : List Lk) (w : World) (hown : w.ownsRow B 33 4 v rs.length (lkC rs)) (hr : RgL rs) (hl : rs.length ≤ 100000) :
    Calls Try.prog 51 #[v, .func (.func 52) #[] #[]] w fun e w' => e = .returned (.tuple #[]) ∧ ∃ rs', rs'.Perm rs ∧ SortedL rs' ∧ w'.ownsRow B 33 4 v rs.length (lkC rs') ∧ Chg (fun j => v.ownBlock = some j) w w' := by
  rcases Nat.eq_zero_or_pos rs.length with h0 | h0
  · obtain ⟨a, cap, rfl, _⟩ := own_form hown
    have hn := AnyF.slices_SortFunc_none { Try.sortRec with } a cap (.func (.func 52) #[] #[]) w
    change Calls Try.prog 51 _ _ _ at hn
    rw [h0]
    refine hn.mono ?_
    rintro e w' ⟨rfl, rfl⟩
    have : rs = [] := List.length_eq_zero_iff.1 h0
    subst this
    exact ⟨rfl, [], List.Perm.refl _, List.Pairwise.nil, hown, Chg.refl _ _⟩
  · obtain ⟨g, cap, rfl, h1, h2, hgl, _, _⟩ := own_some hown h0
    have eg : ∀ args w, (callFunc 52 args).run Try.prog w = .ok (.enter 52 args) w := enters_of Try.func52 (by kernel_rfl) rfl
    have hcon := AnyQ.slices_SortFunc { Try.sortRec with } 4 Try.isAgg33 Try.sizeOf33 encL (fun _ => rfl) (fun x u hu => by
      obtain ⟨⟨t, a, k, m⟩, hx⟩ := x
      simp [encL, lkC1] at hu
      rcases hu with rfl | rfl | rfl | rfl <;> rfl) (fun x y => cmpL x.1 y.1) swoL 52 #[] g 0 cap (toLS rs hr) w eg (fun _ _ _ _ x y => cmpL_any x y _) (hold_own hown h0 rfl hr) hgl (by rw [toLS_size]; omega)
    rw [toLS_size] at hcon
    change Calls Try.prog 51 _ _ _ at hcon
    refine hcon.mono ?_
    rintro e w' ⟨rfl, d', n, os, ⟨hp1, _, hp3⟩, hs, rfl⟩
    rw [toLS_size] at hp1
    obtain ⟨ho, hc⟩ := sort_own (m := n) (os := os) hown hp1
    have e1 : (d'.extract 0 rs.length) = d' := by rw [← hp1]; exact Array.extract_size
    have e2 : ((toLS rs hr).extract 0 rs.length) = toLS rs hr := by rw [← toLS_size rs hr]; exact Array.extract_size
    rw [e1, e2] at hp3
    refine ⟨rfl, d'.toList.map (·.1), by have := hp3.map (·.1); rwa [toLS_val] at this, ?_, ho, hc.mono fun k _ e => by rw [e]; rfl⟩
    refine List.pairwise_iff_getElem.2 fun i j hi hj hij => ?_
    have hi' : i < d'.size := by simpa using hi
    have hj' : j < d'.size := by simpa using hj
    have := hs i j (Nat.zero_le _) hij (by omega)
    rw [getElem!_pos d' i hi', getElem!_pos d' j hj'] at this
    have h3 := of_decide_eq_false this
    simp only [List.getElem_map, Array.getElem_toList]
    exact fun e => h3 (cmpL_lt.2 e)
set_option maxRecDepth 100000 in
set_option maxHeartbeats 1000000 in
theorem held_any (p : Nat) (M : Mg) (F : Nat → Prop) (w : World) (h : ManR w p M F) (hr : RgL M.gr) (hl : M.gr.length ≤ 1000) :
    Calls Try.prog 24 #[.pointer (some ⟨p, 0, none⟩)] w fun e w' => ∃ v rs, e = .returned v ∧ rs.Perm M.gr ∧ SortedL rs ∧ w'.ownsRow w.heap.size 33 4 v rs.length (lkC rs) ∧ Up w w' := by
  obtain ⟨gv, qv, hP⟩ := h
  obtain ⟨hpl, c0⟩ := hP.blk.at (i := 0) rfl
  have GO := Lib.hid (own_src hP.go)
  obtain ⟨ga, gc, rfl, hg1, hg2, _⟩ := own_form hP.go
  have HRG := Lib.hid hr
  clear hP hr
  go_enter Try.func24, Try.ntmps24
  go_wp2_with (first
    | (go_at_call 50; refine (cloneL _ _ _ _ GO.out (lkC_one _) (by omega)).mono ?_; rintro e w2 ⟨v, rfl, h2, h3⟩; have H2 := Lib.hid h2; have H3 := Lib.hid h3; clear h2 h3)
    | (go_at_call 51; refine (sortL_any w.heap.size v M.gr _ H2.out HRG.out (by omega)).mono ?_; rintro e w3 ⟨rfl, rs, h4, h5, h6, h7⟩; have H4 := Lib.hid h4; have H5 := Lib.hid h5; have H6 := Lib.hid h6; have H7 := Lib.hid h7; clear h4 h5 h6 h7)
    | fail)
  go_ret
  exact ⟨v, rs, rfl, H4.out, H5.out, by rw [H4.out.length_eq]; exact H6.out, ((H3.out.chg _).trans H7.out fun _ _ e => e).up fun k hk e => by have := ((own_ty H2.out) k e).2; omega⟩
end Go.Proofs.Ytbimkciejfbodaa.Lk
