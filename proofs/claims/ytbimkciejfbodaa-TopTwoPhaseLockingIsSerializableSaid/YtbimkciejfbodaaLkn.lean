/- Locks: reaches. -/
import Derived.Test.YtbimkciejfbodaaLkm
namespace Go.Proofs.Ytbimkciejfbodaa.Lk
open Go Go.RowKit Hp
set_option linter.unusedVariables false

open Classical in
noncomputable def unvW (w : World) (mb : Nat) : Nat := if h : ∃ x : Nat × List Int, MV w mb x.1 x.2 then unv (Classical.choose h).2 else 0
theorem MV.same {w : World} {mb n n' : Nat} {V V' : List Int} (h : MV w mb n V) (h' : MV w mb n' V') (x : Int) : (x ∈ V) ↔ (x ∈ V') := by
  obtain ⟨D, ⟨es, clock, hb, _, _, hD⟩, hv⟩ := h
  obtain ⟨D', ⟨es', clock', hb', _, _, hD'⟩, hv'⟩ := h'
  rw [hb] at hb'
  cases hb'
  rw [← hD] at hD'
  subst hD'
  have := (hv x).symm.trans (hv' x)
  simpa using this
theorem unv_congr {V V' : List Int} (h : ∀ x, x ∈ V ↔ x ∈ V') : unv V = unv V' := by
  unfold unv
  congr 1
  refine List.filter_congr fun i _ => ?_
  simp [h]
theorem unvW_eq {w : World} {mb n : Nat} {V : List Int} (h : MV w mb n V) : unvW w mb = unv V := by
  have hx : ∃ x : Nat × List Int, MV w mb x.1 x.2 := ⟨(n, V), h⟩
  unfold unvW
  rw [dif_pos hx]
  exact unv_congr fun x => MV.same (Classical.choose_spec hx) h x
theorem unv_nil : unv [] = 20 := by decide
def lenV : Value → Nat
  | .slice _ n _ => n
  | _ => 0
/-- The state at the outer loop's head. -/
structure RS (w wr : World) (M : Mg) (fs : List Int) (tx : Int) (pv : Value) (V P : List Int) : Prop where
  off : OffR wr (w.heap.size + 1) pv P
  map : MV wr w.heap.size V.length V
  up : Up w wr
  inv : RI M fs tx V P
  vn : V.length + unv V ≤ 20
  pn : P.length + unv V * 3000000 ≤ 63000000
  lt : w.heap.size < wr.heap.size
/-- The inner loop's. -/
structure RJ (w wr : World) (M : Mg) (t : Int) (pv : Value) (V P : List Int) (k : Nat) : Prop where
  off : OffR wr (w.heap.size + 1) pv (P ++ addL M t k)
  map : MV wr w.heap.size V.length V
  up : Up w wr
  lt : w.heap.size < wr.heap.size
set_option maxRecDepth 100000 in
set_option maxHeartbeats 1000000 in
theorem reach_any (p : Nat) (M : Mg) (F : Nat → Prop) (v : Value) (fs : List Int) (tx : Int) (w : World) (h : ManR w p M F) (hv : Src w 1 v fs.length (icI fs)) (hg : M.gr.length ≤ 1000) (hq : M.qu.length ≤ 1000) (hf : fs.length ≤ 20000)
    (hM : ∀ x ∈ M.gr ++ M.qu, 0 ≤ x.tx ∧ x.tx < 20) (hfr : ∀ u ∈ fs, 0 ≤ u ∧ u < 20) :
    Calls Try.prog 39 #[.pointer (some ⟨p, 0, none⟩), v, .int .i64 tx] w fun e w' => ∃ b, e = .returned (.bool b) ∧ (b = true ↔ Rch M fs tx) ∧ Up w w' := by
  have HR := Lib.hid h
  have HV := Lib.hid hv
  have HRG := Lib.hid (fun u => @rch_range M fs hM hfr u)
  obtain ⟨va, vc, rfl⟩ := src_rn hv
  have hmm := @run_makeMap Try.prog
  have HCL := Lib.hid (fun w' h => cloneI (.slice va fs.length vc) fs.length (icI fs) w' h (icI_one _) (by omega))
  have MN := Lib.hid (MV.new w)
  clear hv hM hfr h
  go_enter Try.func39, Try.ntmps39
  go_wp2_with (first
    | (go_at_call 61; refine (HCL.out _ (HV.out.up ((Up.refl w).alloc (.map #[] 0)))).mono ?_; rintro e w1 ⟨pv, rfl, h1, h2⟩; have H1 := Lib.hid h1; have H2 := Lib.hid h2; clear h1 h2)
    | fail)
  have S0 : Hid (RS w w1 M fs tx pv [] fs) := ⟨.of_own (own_base' H1.out fun k hk => by have := ((own_ty H1.out) k hk).2; simpa using this), MN.out.up H2.out, ((Up.refl w).alloc (.map #[] 0)).trans H2.out, RI.start _ _ _, by decide, by rw [unv_nil]; omega, by have := H2.out.size; simp at this; omega⟩
  go_loopw [8] (fun pv wr => ∃ V P, Hid (RS w wr M fs tx pv V P)) (fun pv wr => unvW wr w.heap.size * 3000000 + lenV pv)
  case atStart => exact ⟨[], fs, S0.out⟩
  case round =>
    obtain ⟨V, P, HS⟩ := hrel
    obtain ⟨wo, hwo⟩ : ∃ wo : World, wo = wr := ⟨_, rfl⟩
    rw [← hwo] at HS ⊢
    clear hwo
    cases P with
    | nil =>
      obtain ⟨pa, pc, rfl⟩ := HS.out.off.form
      go_wp2
      go_ret
      exact ⟨false, rfl, by have := HS.out.inv.done; simp [this], HS.out.up⟩
    | cons t P =>
      obtain ⟨g, off, cap, rfl, c0, cl, hc1, hc2, hc3, hc4⟩ := HS.out.off.cons
      have hc0 : (0 : Int) < ((P.length + 1 : Nat) : Int) := by omega
      have hcc : (1 : Int) ≤ ((P.length + 1 : Nat) : Int) := by omega
      obtain ⟨ht0, ht1⟩ := HRG.out t (HS.out.inv.p t List.mem_cons_self)
      have hlk := HS.out.map.look ht0 ht1
      have MU := unvW_eq HS.out.map
      --TAIL
      rcases Decidable.em (cap = 1) with hcap | hcap
      · subst hcap
        obtain rfl : P = [] := List.length_eq_zero_iff.1 (by omega)
        have HT : Hid (OffR wo (w.heap.size + 1) (.slice (some ⟨g, off, none⟩) 0 0) []) := hc3 rfl
        clear hc3 hc4
        by_cases htx : t = tx
        · subst htx
          have HX : Hid (Rch M fs t) := HS.out.inv.p t List.mem_cons_self
          go_wp2
          go_ret
          first | exact Or.inr ⟨rfl, HX.out, HS.out.up⟩ | exact ⟨true, rfl, by simp [HX.out], HS.out.up⟩
        · have htb : (t == tx) = false := beq_eq_false_iff_ne.2 htx
          have HNX := Lib.hid htx
          by_cases hvis : t ∈ V
          · rw [decide_eq_true hvis] at hlk
            have HV2 := Lib.hid hvis
            clear hvis
            go_wp2
            go_roundw
            case rel => exact ⟨V, [], ⟨HT.out, HS.out.map, HS.out.up, HS.out.inv.skip HV2.out, HS.out.vn, by have := HS.out.pn; simp only [List.length_cons] at this; omega, HS.out.lt⟩⟩
            case measure => rw [MU]; simp only [lenV]; omega
          · rw [decide_eq_false hvis] at hlk
            have HV2 := Lib.hid hvis
            have UC := unv_cons ht0 ht1 hvis
            have hvn := HS.out.vn
            have hpn := HS.out.pn
            simp only [List.length_cons] at hpn
            obtain ⟨w3, r1, r2, r3⟩ := HS.out.map.put (n := V.length) (by omega) ht0 ht1
            have U3 : Hid (Up w w3) := Below.grown HS.out.up r3 HS.out.up.size fun k hk => by cases hk; exact Nat.le_refl _
            have J0 : Hid (RJ w w3 M t (.slice (some ⟨g, off, none⟩) 0 0) (t :: V) [] 0) := ⟨by
                simp only [addL, List.append_nil]
                exact HT.out.chg ((Chg.refl (fun k => some w.heap.size = some k) wo).grown r3 fun k hk => .inl hk) fun k hk _ e => by cases e; omega, r2, U3.out, Nat.lt_of_lt_of_le HS.out.lt r3.size⟩
            obtain ⟨gv, qv, hP⟩ := HR.out
            obtain ⟨hpl0, c10⟩ := hP.blk.at (i := 1) rfl
            have c1 := (U3.out.cell (p := ⟨p, 1, none⟩) hpl0).trans c10
            have hpl := Nat.lt_of_lt_of_le hpl0 U3.out.size
            obtain ⟨qa, qc, rfl, hq1, hq2, _⟩ := own_form hP.qo
            have QO := Lib.hid (own_src hP.qo)
            clear r2 r3 hP hvis c10 hpl0
            have HAL := Lib.hid (fun k => addL_len M t k)
            go_wp2
            go_loopw [8, 36] (fun pv iv wi => ∃ k : Nat, k ≤ M.qu.length ∧ iv = .int .i64 k ∧ Hid (RJ w wi M t pv (t :: V) [] k)) (fun _ iv _ => M.qu.length - (intOf iv).toNat)
            case atStart => exact ⟨0, Nat.zero_le _, rfl, J0.out⟩
            case round =>
              obtain ⟨k, hk, rfl, HJ⟩ := hrel
              obtain ⟨wi, hwi⟩ : ∃ wi : World, wi = wr := ⟨_, rfl⟩
              rw [← hwi] at HJ ⊢
              clear hwi
              obtain ⟨pa, pc, rfl⟩ := HJ.out.off.form
              have hpl2 : ([] ++ addL M t k).length ≤ 66000000 := by
                have h1 := HAL.out k
                have h2 : k * (M.gr.length + M.qu.length) ≤ 1000 * 2000 := Nat.mul_le_mul (by omega) (by omega)
                simp only [List.length_append, List.length_nil]; omega
              obtain ⟨L, hL⟩ : ∃ L, [] ++ addL M t k = L := ⟨_, rfl⟩
              have HJO : Hid (OffR wi (w.heap.size + 1) (.slice pa L.length pc) L) := by have := HJ.out.off; rw [hL] at this; exact this
              rw [hL] at hpl2 ⊢
              have HL := Lib.hid hL
              clear hL
              by_cases hlt : k < M.qu.length
              · obtain ⟨qb, qo, rfl, hcq⟩ := src_at QO.out (by omega)
                obtain ⟨g0, g1, g2, g3⟩ := lkC_get M.qu k hlt
                have d0 := ((hcq _ _ g0).grow HJ.out.up).2
                have d1 := ((hcq _ _ g1).grow HJ.out.up).2
                have d2 := ((hcq _ _ g2).grow HJ.out.up).2
                have d3 := ((hcq _ _ g3).grow HJ.out.up).2
                have d4 := ((hcq _ _ g0).grow HJ.out.up).1
                rw [← Nat.add_assoc] at d1 d2 d3
                have hlk2 : (k : Int) < (M.qu.length : Int) := by omega
                have HAH := Lib.hid (@addL_hit M t k hlt)
                have HAM := Lib.hid (@addL_miss M t k hlt)
                have HBL := Lib.hid (fun W hu => blk_any p M F M.qu[k] k W (HR.out.up hu) hk (by omega) (by omega))
                have HBN := Lib.hid (blkL_len (M.gr ++ M.qu.take k) M.qu[k])
                have HTN : (M.gr ++ M.qu.take k).length ≤ 2000 := by rw [List.length_append, List.length_take]; omega
                unfold lkV at HBL
                generalize M.qu[k] = q at *
                clear hcq g0 g1 g2 g3
                by_cases hqt : q.tx = t
                · have hqb : (q.tx == t) = true := beq_iff_eq.2 hqt
                  rw [hqt] at HBL
                  go_wp2_with (first
                    | (go_at_call 28; refine (HBL.out _ (HJ.out.up.alloc _)).mono ?_; rintro e w5 ⟨bv, rfl, h5, h6⟩; obtain ⟨ba, bc, rfl, _, _, _⟩ := own_form h5; have H5 := Lib.hid h5; have H6 := Lib.hid (((Up.refl wi).alloc _).trans h6); clear h5 h6)
                    | (at_builtin; obtain ⟨v', w6, r6, r7, r8⟩ := run_append_off (HJO.out.up H6.out) (Nat.le_trans HJ.out.lt H6.out.size) rfl (own_src H5.out) (by have := HBN.out; omega) 23; refine Lib.wpList_append_run _ rfl (.tmp 45) (.tmp 49) 23 23 rfl _ _ rfl rfl _ _ r6 ?_; have J6 : Hid (RJ w w6 M t v' (t :: V) [] (k + 1)) := ⟨by rw [HAH.out hqt, ← List.append_assoc, HL.out]; exact r7, (HJ.out.map.up H6.out).chg (S := fun j => w.heap.size + 1 ≤ j) ⟨r8.os, r8.tape, r8.output, r8.size, fun j _ hj => r8.block j (by omega)⟩ (by omega), Below.trans (HJ.out.up.trans H6.out) (r8.mono (Nat.le_succ _)), Nat.lt_of_lt_of_le HJ.out.lt (Nat.le_trans H6.out.size r8.size)⟩; clear r7 r8)
                    | fail)
                  refine ⟨⟨_, _, _, _, _, _, _, _, _, _, _, _, _, _, _, _, _, _, _, ⟨k + 1, by omega, by go_num, J6.out⟩, rfl⟩, ?_⟩
                  simp [intOf]; omega
                · have hqb : (q.tx == t) = false := beq_eq_false_iff_ne.2 hqt
                  go_wp2
                  go_roundw
                  case rel => exact ⟨k + 1, by omega, by go_num, ⟨by rw [HAM.out hqt, HL.out]; exact HJO.out.up ((Up.refl _).alloc _), HJ.out.map.up ((Up.refl _).alloc _), HJ.out.up.alloc _, by have := HJ.out.lt; simp; omega⟩⟩
                  case measure => simp [intOf]; omega
              · obtain rfl : k = M.qu.length := by omega
                have MU2 := unvW_eq HJ.out.map
                have HAL2 := HAL.out M.qu.length
                have hal3 : M.qu.length * (M.gr.length + M.qu.length) ≤ 1000 * 2000 := Nat.mul_le_mul (by omega) (by omega)
                have hpl3 : L.length ≤ ([] : List Int).length + 2000000 := by rw [← HL.out]; simp only [List.length_append, List.length_nil]; omega
                go_wp2
                go_roundw
                case rel => exact ⟨t :: V, L, ⟨HJO.out, HJ.out.map, HJ.out.up, by rw [← HL.out]; exact HS.out.inv.visit HNX.out, by simp only [List.length_cons]; omega, by omega, HJ.out.lt⟩⟩
                case measure => rw [MU, MU2]; simp only [lenV]; omega
      · have HT : Hid (OffR wo (w.heap.size + 1) (.slice (some ⟨g, off + 1, none⟩) P.length (cap - 1)) P) := hc4 hcap
        clear hc3 hc4
        by_cases htx : t = tx
        · subst htx
          have HX : Hid (Rch M fs t) := HS.out.inv.p t List.mem_cons_self
          go_wp2
          go_ret
          first | exact Or.inr ⟨rfl, HX.out, HS.out.up⟩ | exact ⟨true, rfl, by simp [HX.out], HS.out.up⟩
        · have htb : (t == tx) = false := beq_eq_false_iff_ne.2 htx
          have HNX := Lib.hid htx
          by_cases hvis : t ∈ V
          · rw [decide_eq_true hvis] at hlk
            have HV2 := Lib.hid hvis
            clear hvis
            go_wp2
            go_roundw
            case rel => exact ⟨V, P, ⟨HT.out, HS.out.map, HS.out.up, HS.out.inv.skip HV2.out, HS.out.vn, by have := HS.out.pn; simp only [List.length_cons] at this; omega, HS.out.lt⟩⟩
            case measure => rw [MU]; simp only [lenV]; omega
          · rw [decide_eq_false hvis] at hlk
            have HV2 := Lib.hid hvis
            have UC := unv_cons ht0 ht1 hvis
            have hvn := HS.out.vn
            have hpn := HS.out.pn
            simp only [List.length_cons] at hpn
            obtain ⟨w3, r1, r2, r3⟩ := HS.out.map.put (n := V.length) (by omega) ht0 ht1
            have U3 : Hid (Up w w3) := Below.grown HS.out.up r3 HS.out.up.size fun k hk => by cases hk; exact Nat.le_refl _
            have J0 : Hid (RJ w w3 M t (.slice (some ⟨g, off + 1, none⟩) P.length (cap - 1)) (t :: V) P 0) := ⟨by
                simp only [addL, List.append_nil]
                exact HT.out.chg ((Chg.refl (fun k => some w.heap.size = some k) wo).grown r3 fun k hk => .inl hk) fun k hk _ e => by cases e; omega, r2, U3.out, Nat.lt_of_lt_of_le HS.out.lt r3.size⟩
            obtain ⟨gv, qv, hP⟩ := HR.out
            obtain ⟨hpl0, c10⟩ := hP.blk.at (i := 1) rfl
            have c1 := (U3.out.cell (p := ⟨p, 1, none⟩) hpl0).trans c10
            have hpl := Nat.lt_of_lt_of_le hpl0 U3.out.size
            obtain ⟨qa, qc, rfl, hq1, hq2, _⟩ := own_form hP.qo
            have QO := Lib.hid (own_src hP.qo)
            clear r2 r3 hP hvis c10 hpl0
            have HAL := Lib.hid (fun k => addL_len M t k)
            go_wp2
            go_loopw [8, 36] (fun pv iv wi => ∃ k : Nat, k ≤ M.qu.length ∧ iv = .int .i64 k ∧ Hid (RJ w wi M t pv (t :: V) P k)) (fun _ iv _ => M.qu.length - (intOf iv).toNat)
            case atStart => exact ⟨0, Nat.zero_le _, rfl, J0.out⟩
            case round =>
              obtain ⟨k, hk, rfl, HJ⟩ := hrel
              obtain ⟨wi, hwi⟩ : ∃ wi : World, wi = wr := ⟨_, rfl⟩
              rw [← hwi] at HJ ⊢
              clear hwi
              obtain ⟨pa, pc, rfl⟩ := HJ.out.off.form
              have hpl2 : (P ++ addL M t k).length ≤ 66000000 := by
                have h1 := HAL.out k
                have h2 : k * (M.gr.length + M.qu.length) ≤ 1000 * 2000 := Nat.mul_le_mul (by omega) (by omega)
                simp only [List.length_append]; omega
              obtain ⟨L, hL⟩ : ∃ L, P ++ addL M t k = L := ⟨_, rfl⟩
              have HJO : Hid (OffR wi (w.heap.size + 1) (.slice pa L.length pc) L) := by have := HJ.out.off; rw [hL] at this; exact this
              rw [hL] at hpl2 ⊢
              have HL := Lib.hid hL
              clear hL
              by_cases hlt : k < M.qu.length
              · obtain ⟨qb, qo, rfl, hcq⟩ := src_at QO.out (by omega)
                obtain ⟨g0, g1, g2, g3⟩ := lkC_get M.qu k hlt
                have d0 := ((hcq _ _ g0).grow HJ.out.up).2
                have d1 := ((hcq _ _ g1).grow HJ.out.up).2
                have d2 := ((hcq _ _ g2).grow HJ.out.up).2
                have d3 := ((hcq _ _ g3).grow HJ.out.up).2
                have d4 := ((hcq _ _ g0).grow HJ.out.up).1
                rw [← Nat.add_assoc] at d1 d2 d3
                have hlk2 : (k : Int) < (M.qu.length : Int) := by omega
                have HAH := Lib.hid (@addL_hit M t k hlt)
                have HAM := Lib.hid (@addL_miss M t k hlt)
                have HBL := Lib.hid (fun W hu => blk_any p M F M.qu[k] k W (HR.out.up hu) hk (by omega) (by omega))
                have HBN := Lib.hid (blkL_len (M.gr ++ M.qu.take k) M.qu[k])
                have HTN : (M.gr ++ M.qu.take k).length ≤ 2000 := by rw [List.length_append, List.length_take]; omega
                unfold lkV at HBL
                generalize M.qu[k] = q at *
                clear hcq g0 g1 g2 g3
                by_cases hqt : q.tx = t
                · have hqb : (q.tx == t) = true := beq_iff_eq.2 hqt
                  rw [hqt] at HBL
                  go_wp2_with (first
                    | (go_at_call 28; refine (HBL.out _ (HJ.out.up.alloc _)).mono ?_; rintro e w5 ⟨bv, rfl, h5, h6⟩; obtain ⟨ba, bc, rfl, _, _, _⟩ := own_form h5; have H5 := Lib.hid h5; have H6 := Lib.hid (((Up.refl wi).alloc _).trans h6); clear h5 h6)
                    | (at_builtin; obtain ⟨v', w6, r6, r7, r8⟩ := run_append_off (HJO.out.up H6.out) (Nat.le_trans HJ.out.lt H6.out.size) rfl (own_src H5.out) (by have := HBN.out; omega) 23; refine Lib.wpList_append_run _ rfl (.tmp 45) (.tmp 49) 23 23 rfl _ _ rfl rfl _ _ r6 ?_; have J6 : Hid (RJ w w6 M t v' (t :: V) P (k + 1)) := ⟨by rw [HAH.out hqt, ← List.append_assoc, HL.out]; exact r7, (HJ.out.map.up H6.out).chg (S := fun j => w.heap.size + 1 ≤ j) ⟨r8.os, r8.tape, r8.output, r8.size, fun j _ hj => r8.block j (by omega)⟩ (by omega), Below.trans (HJ.out.up.trans H6.out) (r8.mono (Nat.le_succ _)), Nat.lt_of_lt_of_le HJ.out.lt (Nat.le_trans H6.out.size r8.size)⟩; clear r7 r8)
                    | fail)
                  go_roundw
                  case rel => exact ⟨k + 1, by omega, by go_num, J6.out⟩
                  case measure => simp [intOf]; omega
                · have hqb : (q.tx == t) = false := beq_eq_false_iff_ne.2 hqt
                  go_wp2
                  go_roundw
                  case rel => exact ⟨k + 1, by omega, by go_num, ⟨by rw [HAM.out hqt, HL.out]; exact HJO.out.up ((Up.refl _).alloc _), HJ.out.map.up ((Up.refl _).alloc _), HJ.out.up.alloc _, by have := HJ.out.lt; simp; omega⟩⟩
                  case measure => simp [intOf]; omega
              · obtain rfl : k = M.qu.length := by omega
                have MU2 := unvW_eq HJ.out.map
                have HAL2 := HAL.out M.qu.length
                have hal3 : M.qu.length * (M.gr.length + M.qu.length) ≤ 1000 * 2000 := Nat.mul_le_mul (by omega) (by omega)
                have hpl3 : L.length ≤ P.length + 2000000 := by rw [← HL.out]; simp only [List.length_append]; omega
                go_wp2
                go_roundw
                case rel => exact ⟨t :: V, L, ⟨HJO.out, HJ.out.map, HJ.out.up, by rw [← HL.out]; exact HS.out.inv.visit HNX.out, by simp only [List.length_cons]; omega, by omega, HJ.out.lt⟩⟩
                case measure => rw [MU, MU2]; simp only [lenV]; omega
end Go.Proofs.Ytbimkciejfbodaa.Lk
