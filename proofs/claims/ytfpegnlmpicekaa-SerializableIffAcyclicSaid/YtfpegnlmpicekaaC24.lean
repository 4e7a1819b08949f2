/- SwappingIndependentOperationsPreservesConflicts. -/
import Derived.Test.YtfpegnlmpicekaaC23
namespace Go.Proofs.Ytfpegnlmpicekaa.C
open Go Go.RowKit Hp
set_option linter.unusedVariables false

/-! ### The plain law -/
theorem cfIn_iff (l : List Hop) (j m c : Nat) : cfIn l j m c = true ↔ ∃ i, i < m ∧ hitc (l.getD i h0) (l.getD j h0) c = true := by
  unfold cfIn
  rw [List.any_eq_true]
  exact ⟨fun ⟨i, hi, h⟩ => ⟨i, List.mem_range.1 hi, h⟩, fun ⟨i, hi, h⟩ => ⟨i, List.mem_range.2 hi, h⟩⟩
theorem cfN_iff (l : List Hop) (n c : Nat) : cfN l n c = true ↔ ∃ i j, i < j ∧ j < n ∧ hitc (l.getD i h0) (l.getD j h0) c = true := by
  unfold cfN
  rw [List.any_eq_true]
  constructor
  · rintro ⟨j, hj, h⟩
    obtain ⟨i, hi, h'⟩ := (cfIn_iff _ _ _ _).1 h
    exact ⟨i, j, hi, List.mem_range.1 hj, h'⟩
  · rintro ⟨i, j, hi, hj, h⟩
    exact ⟨j, List.mem_range.2 hj, (cfIn_iff _ _ _ _).2 ⟨i, hi, h⟩⟩
theorem confl_symm (a b : Hop) : confl a b = confl b a := by
  unfold confl
  have e1 : (a.tx == b.tx) = (b.tx == a.tx) := by rw [Bool.eq_iff_iff, beq_iff_eq, beq_iff_eq]; exact eq_comm
  have e2 : (a.key.toList == b.key.toList) = (b.key.toList == a.key.toList) := by rw [Bool.eq_iff_iff, beq_iff_eq, beq_iff_eq]; exact eq_comm
  rw [e1, e2, Bool.or_comm]
theorem hgetD (l : List Hop) {i : Nat} (h : i < l.length) : l.getD i h0 = l[i] := by simp [List.getD, h]
def sig (p i : Nat) : Nat := if i = p then p + 1 else if i = p + 1 then p else i
theorem cfN_swap1 {l l' : List Hop} {p n : Nat} (hp : p + 1 < n) (h : ∀ i, i < n → l'.getD (sig p i) h0 = l.getD i h0) (hc : confl (l.getD p h0) (l.getD (p + 1) h0) = false) (c : Nat) (hx : cfN l n c = true) : cfN l' n c = true := by
  obtain ⟨i, j, hij, hj, hh⟩ := (cfN_iff _ _ _).1 hx
  have hne : ¬ (i = p ∧ j = p + 1) := fun ⟨e1, e2⟩ => by
    subst e1; subst e2
    unfold hitc at hh; rw [hc] at hh; simp at hh
  refine (cfN_iff _ _ _).2 ⟨sig p i, sig p j, ?_, ?_, by rw [h i (by omega), h j hj]; exact hh⟩
  · unfold sig; split <;> split <;> (try split) <;> (try split) <;> omega
  · unfold sig; split <;> (try split) <;> omega
def swap (l : List Hop) (p : Nat) : List Hop := (l.set p (l.getD (p + 1) h0)).set (p + 1) (l.getD p h0)
theorem swap_len (l : List Hop) (p : Nat) : (swap l p).length = l.length := by simp [swap]
theorem swap_at (l : List Hop) {p : Nat} (hp : p + 1 < l.length) : ∀ i, i < l.length → (swap l p).getD (sig p i) h0 = l.getD i h0 := fun i hi => by
  unfold swap sig
  by_cases e1 : i = p
  · subst e1; rw [if_pos rfl]; simp [List.getD, hp]
  · by_cases e2 : i = p + 1
    · subst e2
      rw [if_neg e1, if_pos rfl]
      simp only [List.getD]
      rw [List.getElem?_set_ne (by omega), List.getElem?_set_self (by omega)]; simp [hp]
    · rw [if_neg e1, if_neg e2]
      simp only [List.getD]
      rw [List.getElem?_set_ne (by omega), List.getElem?_set_ne (by omega)]
theorem sig_sig (p i : Nat) : sig p (sig p i) = i := by unfold sig; split <;> (try split) <;> (try split) <;> omega
theorem sig_lt {p i n : Nat} (hp : p + 1 < n) (hi : i < n) : sig p i < n := by unfold sig; split <;> (try split) <;> omega
theorem cfN_swap (l : List Hop) {p : Nat} (hp : p + 1 < l.length) (hc : confl (l.getD p h0) (l.getD (p + 1) h0) = false) : cfN (swap l p) (swap l p).length = cfN l l.length := by
  rw [swap_len]
  funext c
  rw [Bool.eq_iff_iff]
  have h1 := swap_at l hp
  have h2 : ∀ i, i < l.length → l.getD (sig p i) h0 = (swap l p).getD i h0 := fun i hi => by
    have := h1 (sig p i) (sig_lt hp hi)
    rw [sig_sig] at this
    exact this.symm
  have e1 : (swap l p).getD p h0 = l.getD (p + 1) h0 := by
    have := h1 (p + 1) hp; rwa [show sig p (p + 1) = p by simp [sig]] at this
  have e2 : (swap l p).getD (p + 1) h0 = l.getD p h0 := by
    have := h1 p (by omega); rwa [show sig p p = p + 1 by simp [sig]] at this
  exact ⟨cfN_swap1 (l := swap l p) hp h2 (by rw [e1, e2, confl_symm]; exact hc) c, cfN_swap1 hp h1 hc c⟩
theorem hcells_set : ∀ (l : List Hop) (p : Nat) (t : Nat) (k : Int) (s : ByteArray), (((hcells l).set (p * 3) (.int .i64 (t : Int))).set (p * 3 + 1) (.int .i64 k)).set (p * 3 + 2) (.string s) = hcells (l.set p ⟨t, k, s⟩)
  | [], p, t, k, s => by simp [hcells]
  | a :: l, 0, t, k, s => by simp [hcells]
  | a :: l, p + 1, t, k, s => by
    have := hcells_set l p t k s
    simp only [hcells, List.flatMap_cons, List.set_cons_succ] at this ⊢
    rw [show (p + 1) * 3 = p * 3 + 3 by omega]
    simp only [List.cons_append, List.nil_append, List.set_cons_succ, show p * 3 + 3 + 1 = p * 3 + 1 + 3 by omega, show p * 3 + 3 + 2 = p * 3 + 2 + 3 by omega]
    rw [this]

set_option maxRecDepth 100000 in
set_option maxHeartbeats 4000000 in
theorem walk10 (a2 : Option Addr) (len2 cap2 : Nat) (z2 : List Int) (i1 : Int) (w : World) (hE : Elems w a2 len2 z2) (hl : len2 ≤ cap2) (hm : cap2 ≤ 9223372036854775807) :
    Calls Try.prog 6 #[.slice a2 len2 cap2, .int .i64 i1] w fun e w' => e = .returned (.bool true) ∧ Up w w' := by
  have HE := Lib.hid hE
  clear hE
  go_enter Try.func6, Try.ntmps6
  go_wp2_with (go_at_call 17; refine (sworks_any _).mono ?_; rintro e w1 ⟨rfl, u1⟩)
  refine (hist_any a2 len2 cap2 z2 w1 (elems_up HE.out u1) hl hm).mono ?_
  rintro e w2 ⟨v, l, rfl, hown, hok, hl60, u2⟩
  obtain ⟨a, cap, rfl⟩ := own_len hown
  have OK := Lib.hid hok
  clear hok
  have hu2 := Up.trans u1 u2
  by_cases h2 : l.length < 2
  · go_wp2
    go_ret
    exact ⟨rfl, hu2⟩
  · go_wp2_with fail
    refine (modn_any i1 ((l.length : Int) - 1) _ (by omega) (by omega)).mono ?_
    rintro e w' ⟨p, rfl, hp, rfl⟩
    have hp1 : p + 1 < l.length := by omega
    obtain ⟨g, cap', hs, hg, hty⟩ := own_shape hown (by omega)
    simp only [Value.slice.injEq, true_and] at hs
    obtain ⟨rfl, rfl⟩ := hs
    have hgl := hty.lt
    have OX := OK.out (l.getD p h0) (by rw [hgetD l (by omega : p < l.length)]; exact List.getElem_mem _)
    have OY := OK.out (l.getD (p + 1) h0) (by rw [hgetD l hp1]; exact List.getElem_mem _)
    have HC := hcells_at l
    have cx := HC p (by omega)
    have cy := HC (p + 1) hp1
    rw [← hgetD l (by omega : p < l.length)] at cx
    rw [← hgetD l hp1] at cy
    clear HC
    obtain ⟨x, hx⟩ : ∃ x, x = l.getD p h0 := ⟨_, rfl⟩
    obtain ⟨y, hy⟩ : ∃ y, y = l.getD (p + 1) h0 := ⟨_, rfl⟩
    rw [← hx] at cx OX
    rw [← hy] at cy OY
    have HX := Lib.hid hx
    have HY := Lib.hid hy
    clear hx hy
    obtain ⟨tx, kx, sx⟩ := x
    obtain ⟨ty, ky, sy⟩ := y
    have c0 := (hown.cellAt (p * 3) (by omega)).trans cx.1
    have c1 := (hown.cellAt (p * 3 + 1) (by omega)).trans cx.2.1
    have c2 := (hown.cellAt (p * 3 + 2) (by omega)).trans cx.2.2
    have d0 := (hown.cellAt ((p + 1) * 3) (by omega)).trans cy.1
    have d1 := (hown.cellAt ((p + 1) * 3 + 1) (by omega)).trans cy.2.1
    have d2 := (hown.cellAt ((p + 1) * 3 + 2) (by omega)).trans cy.2.2
    clear cx cy
    dsimp only at *
    obtain ⟨cf, CF⟩ : ∃ x, Hid (confl ⟨tx, kx, sx⟩ ⟨ty, ky, sy⟩ = x) := ⟨_, rfl⟩
    by_cases hxy : tx = ty
    · subst hxy
      have hd : ((tx : Int) == (tx : Int)) = true := by simp
      go_wp2
      refine wp_region_gr (by kernel_rfl) (by kernel_rfl) ?_
      repeat (go_big_quiet_step (fail))
      refine wpQuiet_nil ?_
      intro _ hw'
      obtain ⟨g', rfl⟩ := hw'
      go_wp2
      go_ret
      exact ⟨rfl, Up.trans hu2 (gr_up w2 g')⟩
    · have hd : ((tx : Int) == (ty : Int)) = false := by simp; omega
      cases cf with
      | true =>
        go_wp2
        refine wp_region_gr (by kernel_rfl) (by kernel_rfl) ?_
        repeat (go_big_quiet_step ((go_at_call 19; exact gr_callb (confl_any ⟨tx, kx, sx⟩ ⟨ty, ky, sy⟩ _) CF.out)))
        refine wpQuiet_nil ?_
        intro _ hw'
        obtain ⟨g', rfl⟩ := hw'
        go_wp2
        go_ret
        exact ⟨rfl, Up.trans hu2 (gr_up w2 g')⟩
      | false =>
        go_wp2
        refine wp_region_gr (by kernel_rfl) (by kernel_rfl) ?_
        repeat (go_big_quiet_step ((go_at_call 19; exact gr_callb (confl_any ⟨tx, kx, sx⟩ ⟨ty, ky, sy⟩ _) CF.out)))
        refine wpQuiet_nil ?_
        intro _ hw'
        obtain ⟨g', rfl⟩ := hw'
        have HV := Lib.hid (hok_valid OK.out hl60)
        have hown2 := own_up hown (gr_up w2 g')
        have hu3 := Up.trans hu2 (gr_up w2 g')
        go_wp2_with fail
        refine (graph_any _ l _ (hops_own hown2) HV.out).mono ?_
        rintro e w3 ⟨v1, rfl, hv1, u3⟩
        have hown3 := own_up hown2 u3
        have hu4 := hu3.trans u3
        have hgl3 : g < (gr w2 g').heap.size := Nat.lt_of_lt_of_le hgl (gr_up w2 g').size
        have c0 := (u3.cell (p := ⟨g, p * 3, none⟩) hgl3).trans (((gr_up w2 g').cell (p := ⟨g, p * 3, none⟩) hgl).trans c0)
        have c1 := (u3.cell (p := ⟨g, p * 3 + 1, none⟩) hgl3).trans (((gr_up w2 g').cell (p := ⟨g, p * 3 + 1, none⟩) hgl).trans c1)
        have c2 := (u3.cell (p := ⟨g, p * 3 + 2, none⟩) hgl3).trans (((gr_up w2 g').cell (p := ⟨g, p * 3 + 2, none⟩) hgl).trans c2)
        have d0 := (u3.cell (p := ⟨g, (p + 1) * 3, none⟩) hgl3).trans (((gr_up w2 g').cell (p := ⟨g, (p + 1) * 3, none⟩) hgl).trans d0)
        have d1 := (u3.cell (p := ⟨g, (p + 1) * 3 + 1, none⟩) hgl3).trans (((gr_up w2 g').cell (p := ⟨g, (p + 1) * 3 + 1, none⟩) hgl).trans d1)
        have d2 := (u3.cell (p := ⟨g, (p + 1) * 3 + 2, none⟩) hgl3).trans (((gr_up w2 g').cell (p := ⟨g, (p + 1) * 3 + 2, none⟩) hgl).trans d2)
        have f0 := hown3.frozenAt (p * 3)
        have f1 := hown3.frozenAt (p * 3 + 1)
        have f2 := hown3.frozenAt (p * 3 + 2)
        have f3 := hown3.frozenAt ((p + 1) * 3)
        have f4 := hown3.frozenAt ((p + 1) * 3 + 1)
        have f5 := hown3.frozenAt ((p + 1) * 3 + 2)
        go_wp2
        go_region
        have EQ : Hid (cfN (swap l p) (swap l p).length = cfN l l.length) := cfN_swap l hp1 (by rw [← HX.out, ← HY.out]; exact CF.out)
        have hp1v := pairs_own hv1
        obtain ⟨a1, k1, rfl⟩ := own_len hv1
        obtain ⟨s1, g1⟩ := hown3.stored (p * 3) (.int .i64 (ty : Int))
        obtain ⟨s2, g2⟩ := s1.stored (p * 3 + 1) (.int .i64 ky)
        obtain ⟨s3, g3⟩ := s2.stored (p * 3 + 2) (.string sy)
        obtain ⟨s4, g4⟩ := s3.stored ((p + 1) * 3) (.int .i64 (tx : Int))
        obtain ⟨s5, g5⟩ := s4.stored ((p + 1) * 3 + 1) (.int .i64 kx)
        obtain ⟨s6, g6⟩ := s5.stored ((p + 1) * 3 + 2) (.string sx)
        rw [hcells_set, hcells_set] at s6
        have hsw : Hid ((l.set p ⟨ty, ky, sy⟩).set (p + 1) ⟨tx, kx, sx⟩ = swap l p) := by unfold Hid swap; rw [← HX.out, ← HY.out]
        rw [hsw.out] at s6
        have hgw : w.heap.size ≤ g := Nat.le_trans u1.size hg
        have hU : Up w _ := (((((hu4.set hgw (p * 3) none (.int .i64 (ty : Int))).set hgw (p * 3 + 1) none (.int .i64 ky)).set hgw (p * 3 + 2) none (.string sy)).set hgw ((p + 1) * 3) none (.int .i64 (tx : Int))).set hgw ((p + 1) * 3 + 1) none (.int .i64 kx)).set hgw ((p + 1) * 3 + 2) none (.string sx)
        have tyo : ∀ {W : World} {xs : List Value}, W.ownsRow w1.heap.size 42 3 (.slice (some ⟨g, 0, none⟩) l.length cap) l.length xs → Ty W g 42 := fun h => (own_ty h g rfl).1
        have hE := (((((upE_setCell w3 g (p * 3) none (.int .i64 (ty : Int)) (tyo hown3)).trans (upE_setCell _ g (p * 3 + 1) none (.int .i64 ky) (tyo s1))).trans (upE_setCell _ g (p * 3 + 2) none (.string sy) (tyo s2))).trans (upE_setCell _ g ((p + 1) * 3) none (.int .i64 (tx : Int)) (tyo s3))).trans (upE_setCell _ g ((p + 1) * 3 + 1) none (.int .i64 kx) (tyo s4))).trans (upE_setCell _ g ((p + 1) * 3 + 2) none (.string sx) (tyo s5))
        have hp2v := pairs_upE hp1v (by decide) hE
        have HVS : Hid (HValid (swap l p)) := by
          refine hok_valid (fun z hz => ?_) (by rw [swap_len]; exact hl60)
          rw [← hsw.out] at hz
          rcases List.mem_or_eq_of_mem_set hz with hz | rfl
          · rcases List.mem_or_eq_of_mem_set hz with hz | rfl
            · exact OK.out z hz
            · exact OY
          · exact OX
        have s7 := World.ownsRow.drew s6
        have hp3v : Hid (Arr PairR 2 (World.drew _) _ (cgr (cfN l l.length) 20)) := hp2v.grow pairR_grows (Up.refl _).drew
        have hUd := hU.drew
        have SL := Lib.hid (swap_len l p)
        rw [← SL.out] at s7
        clear s1 s2 s3 s4 s5 s6 g1 g2 g3 g4 g5 g6 hE hp2v hp1v hv1 hU tyo hown hown2 hown3
        have HH := Lib.hid (hops_own s7)
        have HU := Lib.hid hUd
        clear s7 hUd
        rw [SL.out] at HH
        go_wp2_with fail
        refine (graph_any _ (swap l p) _ HH.out HVS.out).mono ?_
        rintro e w5 ⟨v2, rfl, hv2, u5⟩
        have hu6 := Up.trans HU.out u5
        rw [EQ.out] at hv2
        have Q2 := Lib.hid (pairs_own hv2)
        have Q1 := Lib.hid (hp3v.out.grow pairR_grows u5)
        obtain ⟨a2', k2, rfl⟩ := own_len hv2
        clear hv2
        go_wp2_with (go_at_call 21; refine (equalP_any _ _ _ _ _ Q1.out Q2.out).mono ?_; rintro e w6 ⟨rfl, u6⟩; rw [decide_eq_true rfl])
        go_ret
        exact ⟨rfl, Up.trans hu6 u6⟩
end Go.Proofs.Ytfpegnlmpicekaa.C
