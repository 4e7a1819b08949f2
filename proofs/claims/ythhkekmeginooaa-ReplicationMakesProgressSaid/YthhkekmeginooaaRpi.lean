/- Replication: valid, isLeader, advanceCommit. -/
import Derived.Test.YthhkekmeginooaaRph
import Derived.Test.YthhkekmeginooaaRpg
import Derived.Deep.CutRange
import Derived.Deep.RegionHeld3
namespace Go.Proofs.Ythhkekmeginooaa.Rp
open Go Go.RowKit Hp
set_option linter.unusedVariables false

section
variable {w : World} {p : Nat} {C : Clu} {F : Nat → Prop} {sv lv nw : Value} {ss : List MS} {ms : List MM}
theorem valid_any (h : CluR w p C F) (i : Nat) (hi : i < C.srv.length) :
    Calls Try.prog 23 #[.pointer (some ⟨p, 0, none⟩), .int .i64 (i : Int)] w fun e w' => e = .returned (.bool true) ∧ w = w' := by
  obtain ⟨sv, lv, nw, ss, ms, h⟩ := h
  rw [← h.slen] at hi
  obtain ⟨g, c, rfl, _⟩ := h.cells i hi
  have c0 := (h.blk.at (i := 0) rfl).2
  have hpl := h.blk.lt
  have h1 : (0 : Int) ≤ (i : Int) := by omega
  have h2 : (i : Int) < (ss.length : Int) := by omega
  clear h
  go_enter Try.func23, Try.ntmps23
  go_wp2
  go_ret
  exact ⟨rfl, rfl⟩
set_option maxRecDepth 100000 in
set_option maxHeartbeats 1000000 in
theorem isl_any (h : CluR w p C F) (i : Nat) (hi : i < C.srv.length) (ht : (C.s i).term < C.lead.length) :
    Calls Try.prog 24 #[.pointer (some ⟨p, 0, none⟩), .int .i64 (i : Int)] w fun e w' => e = .returned (.bool (C.isL i)) ∧ Up w w' := by
  obtain ⟨sv, lv, nw, ss, ms, h⟩ := h
  rw [← h.slen] at hi
  obtain ⟨g, c, rfl, _, hgl, t0, _, _, _, _⟩ := h.cells i hi
  have hs := h.s i hi
  obtain ⟨gl, cl, rfl, _, _, hll, hlc, _⟩ := own_some h.lead (by omega)
  have c0 := (h.blk.at (i := 0) rfl).2
  have c1 := (h.blk.at (i := 1) rfl).2
  have hpl := h.blk.lt
  have ht' : ss[i].term < C.lead.length := by rw [hs] at ht; exact ht
  have l0 := hlc _ _ (icN_get C.lead ss[i].term ht')
  have HD : Hid (C.isL i = decide (C.lead[ss[i].term] = i)) := by
    unfold Hid Clu.isL Clu.ld
    rw [hs]
    show decide (C.lead.getD ss[i].term 0 = i) = _
    simp [List.getD, ht']
  generalize C.lead[ss[i].term] = x at *
  generalize ss[i].term = t at *
  have h1 : (i : Int) < (ss.length : Int) := by omega
  have h2 : (t : Int) < (C.lead.length : Int) := by omega
  clear h hlc hs
  go_enter Try.func24, Try.ntmps24
  go_upto_region 1 with fail
  go_quiet (fail)
  go_wp2
  go_ret
  refine ⟨?_, (Up.refl w).drewN _⟩
  rw [HD.out]
  refine ret_bool ?_
  by_cases e : x = i
  · subst e; simp
  · rw [decide_eq_false e]
    simp only [beq_eq_false_iff_ne]
    omega
theorem icI_ci (l : List Nat) : icI (ci l) = icN l := by unfold icI ci icN; rw [List.map_map]; rfl
theorem mem_set_le {l : List Nat} {i a b : Nat} (h : ∀ x ∈ l, x ≤ b) (ha : a ≤ b) : ∀ x ∈ l.set i a, x ≤ b := fun x hx => (List.mem_or_eq_of_mem_set hx).elim (h x) fun e => by rw [e]; exact ha
set_option maxRecDepth 100000 in
set_option maxHeartbeats 2000000 in
theorem adv_any (h : CluR w p C F) (i : Nat) (hi : i < C.srv.length) (hn : C.srv.length ≤ 5) (hm : (C.s i).mat.length = C.srv.length) (hl : (C.s i).log.length ≤ 60) (hmx : ∀ x ∈ (C.s i).mat, x ≤ (C.s i).log.length) :
    Calls Try.prog 25 #[.pointer (some ⟨p, 0, none⟩), .int .i64 (i : Int)] w fun e w' => e = .returned (.tuple #[]) ∧ CluPost p (C.put i ((C.s i).adv i)) F w w' := by
  obtain ⟨sv, lv, nw, ss, ms, h⟩ := h
  have H := Lib.hid h
  rw [← h.slen] at hi hm hn
  obtain ⟨g, c, rfl, _, hgl, t0, t1, t2, t3, tf⟩ := h.cells i hi
  have hs := h.s i hi
  rw [hs] at hm hl hmx ⊢
  have im := List.getElem_mem hi
  have hml := h.mats _ im
  have hll := h.logs _ im
  obtain ⟨sm, hsm⟩ : ∃ sm, sm = ss[i] := ⟨_, rfl⟩
  rw [← hsm] at t0 t1 t2 t3 hm hl hmx hml hll ⊢
  have HSM := Lib.hid hsm
  obtain ⟨term, com, lgv, log, mtv, mat⟩ := sm
  simp only [erS] at hm hl hmx hml hll t0 t1 t2 t3 ⊢
  obtain ⟨gm, cm, rfl, hm1, hm2, hml2, hmc, hmf⟩ := own_some hml (by omega)
  obtain ⟨la, lc, rfl, hl1, hl2, hl3⟩ := own_form hll
  have c0 := (h.blk.at (i := 0) rfl).2
  have hpl := h.blk.lt
  have h1 : (i : Int) < (ss.length : Int) := by omega
  have h2 : (i : Int) < (mat.length : Int) := by omega
  have hml5 : (mat.length : Int) ≤ 5 := by omega
  have hne : ¬ gm = g := fun e => by
    subst e
    exact ((own_ty h.srv) _ rfl).1.ne (by decide) ((own_ty hml) _ rfl).1
  obtain ⟨x0, m0⟩ : ∃ x0, w.cell? ⟨gm, i, none⟩ = some x0 := ⟨_, hmc _ _ (icN_get mat i (by omega))⟩
  have mf := hmf i
  obtain ⟨M, hM⟩ : ∃ M, M = mat.set i log.length := ⟨_, rfl⟩
  have hMl : M.length = mat.length := by rw [hM, List.length_set]
  obtain ⟨k, hk⟩ : ∃ k, k = mid M := ⟨_, rfl⟩
  have hkl : k ≤ log.length := by rw [hk]; exact mid_le M (by omega) _ (by rw [hM]; exact mem_set_le hmx (Nat.le_refl _))
  have HMG := Lib.hid (mid_get M (by omega))
  rw [← hk] at HMG
  have HADV : Hid ((Srv.mk term com log mat).adv i = if com < k ∧ log[k - 1]?.map Ent.term = some term then Srv.mk term k log M else Srv.mk term com log M) := by
    unfold Hid Srv.adv
    rw [hk, hM]
  have HK := Lib.hid hk
  have HM := Lib.hid hM
  have HSET : Hid (icN M = (icN mat).set i (nv log.length)) := by unfold Hid; rw [hM]; exact List.map_set
  have HML := Lib.hid hMl
  have HM0 : Hid (0 < mat.length ∧ mat.length ≤ 5) := ⟨by omega, by omega⟩
  have HMM := Lib.hid hml
  have HLL := Lib.hid hll
  have HMS := Lib.hid hm
  have hi3 : i < (icN mat).length := by rw [icN_len]; omega
  clear h hmc hs hk hM hmf hm hMl hml hll hmx
  go_enter Try.func25, Try.ntmps25
  go_upto_region 1 with fail
  go_cut [] from 13 to 23 (fun wx => (w.setCell ⟨gm, i, none⟩ (nv log.length)).drew = wx)
  case first =>
    go_region_law (fail)
    all_goals
      go_wp2
      go_meet
      exact rfl
  case rest =>
    obtain rfl := hcut
    have O1 : Hid ((w.setCell ⟨gm, i, none⟩ (nv log.length)).drew.ownsRow 0 3 1 (.slice (some ⟨gm, 0, none⟩) mat.length cm) mat.length (icN M)) := by
      have := own_set HMM.out i hi3 (nv log.length)
      rw [← HSET.out] at this
      exact this
    have hc1 := (chg_set w gm i none (nv log.length)).drew
    have y3 := ((hc1.cell (o := i * 4 + 3) hgl (fun e => hne e.symm)).trans t3)
    have y2 := ((hc1.cell (o := i * 4 + 2) hgl (fun e => hne e.symm)).trans t2)
    have y1 := ((hc1.cell (o := i * 4 + 1) hgl (fun e => hne e.symm)).trans t1)
    have y0 := ((hc1.cell (o := i * 4) hgl (fun e => hne e.symm)).trans t0)
    have HC1 := Lib.hid hc1
    have HO : Hid (w.ownsRow 0 53 4 (.slice (some ⟨g, 0, none⟩) ss.length c) ss.length (msC ss)) := H.out.srv
    generalize (w.setCell ⟨gm, i, none⟩ (nv log.length)).drew = w1 at *
    have HCL : Hid (∀ W, Up w1 W → Calls Try.prog 32 #[.slice (some ⟨gm, 0, none⟩) mat.length cm] W fun e w' => ∃ v', e = .returned v' ∧ Hid (w'.ownsRow W.heap.size 3 1 v' M.length (icI (ci M))) ∧ Hid (Up W w')) := fun W hW => by
      have h9 : W.ownsRow 0 3 1 (.slice (some ⟨gm, 0, none⟩) mat.length cm) mat.length (icN M) := own_up O1.out hW
      refine (cloneI _ mat.length (icN M) W (own_src h9) (icN_one M) (by omega)).mono ?_
      rintro e w' ⟨v', rfl, a1, a2⟩
      rw [icI_ci, HML.out]
      exact ⟨v', rfl, a1, a2⟩
    go_upto_region 3 with (first
      | (go_at_call 32; refine (HCL.out _ (Up.refl w1)).mono ?_; rintro e w2 ⟨v2, rfl, O2, U2⟩)
      | fail)
    have O2' := O2.out
    rw [HML.out] at O2'
    obtain ⟨g2, c2, rfl, hg1, hg2, hg3, _, _⟩ := own_some O2' (by omega)
    have hg2b := ((own_ty O2') g2 rfl).2
    have HSO : Hid (Calls Try.prog 33 #[.slice (some ⟨g2, 0, none⟩) mat.length c2] w2 fun e w' => e = .returned (.tuple #[]) ∧ w'.cell? ⟨g2, (mat.length - 1) / 2, none⟩ = some (nv k) ∧ Hid (Up w1 w')) := by
      have hcl : (ci M).length = mat.length := by rw [List.length_map]; exact HML.out
      refine (sortI_any w1.heap.size (.slice (some ⟨g2, 0, none⟩) mat.length c2) (ci M) w2 (by rw [hcl]; exact O2') (by rw [hcl]; omega)).mono ?_
      rintro e w' ⟨rfl, a1, a2⟩
      rw [hcl] at a1
      refine ⟨rfl, ?_, ?_⟩
      · obtain ⟨g', c', e, _, _, _, hcl2, _⟩ := own_some a1 (by omega)
        simp only [Value.slice.injEq, Option.some.injEq, Addr.mk.injEq, and_true, true_and] at e
        obtain ⟨rfl, _⟩ := e
        obtain ⟨hj, he⟩ := HMG.out
        have := icI_get _ _ hj
        rw [he] at this
        rw [show (mat.length - 1) / 2 = (M.length - 1) / 2 by rw [HML.out]]
        exact hcl2 _ _ this
      · exact Below.trans U2.out (a2.below U2.out.size fun j hj e => by
          obtain rfl : g2 = j := Option.some.inj e
          omega)
    have hml1 : (0 : Int) < (mat.length : Int) := by have := HM0.out.1; omega
    go_upto_region 4 with (first
      | (go_at_call 33; refine HSO.out.mono ?_; rintro e w3 ⟨rfl, k3, U3⟩)
      | fail)
    have z3 := (U3.out.cell (p := ⟨g, i * 4 + 2, none⟩) (Nat.lt_of_lt_of_le hgl HC1.out.size)).trans y2
    have z1 := (U3.out.cell (p := ⟨g, i * 4 + 1, none⟩) (Nat.lt_of_lt_of_le hgl HC1.out.size)).trans y1
    have z0 := (U3.out.cell (p := ⟨g, i * 4, none⟩) (Nat.lt_of_lt_of_le hgl HC1.out.size)).trans y0
    have hdv : ((mat.length : Int) - 1).tdiv 2 = (((mat.length - 1) / 2 : Nat) : Int) := by rw [Int.tdiv_eq_ediv_of_nonneg (by omega)]; omega
    have hdl : (((mat.length - 1) / 2 : Nat) : Int) < (mat.length : Int) := by omega
    obtain ⟨md, hmd⟩ : ∃ md, md = (mat.length - 1) / 2 := ⟨_, rfl⟩
    rw [← hmd] at hdv hdl k3
    have hmd5 : (md : Int) ≤ 5 := by omega
    clear hmd
    go_upto_region 5 with fail
    have hgl3 : g < w3.heap.size := Nat.lt_of_lt_of_le (Nat.lt_of_lt_of_le hgl HC1.out.size) U3.out.size
    have hcom : (com : Int) < (k : Int) ∨ ¬ (com : Int) < (k : Int) := Int.lt_or_le .. |>.imp id fun h => by omega
    have hkl2 : (k : Int) ≤ (log.length : Int) := by omega
    have hkl60 : (k : Int) ≤ 60 := by omega
    have O3 : Hid (w3.ownsRow 0 3 1 (.slice (some ⟨gm, 0, none⟩) mat.length cm) M.length (icN M)) := by rw [HML.out]; exact own_up O1.out U3.out
    have HC3 : Hid (Chg (· = gm) w w3) := HC1.out.trans (Below.chg (· = gm) U3.out) fun _ _ e => e
    have HL3 : Hid (w3.ownsRow 0 44 2 (.slice la log.length lc) log.length (enC log)) := own_chg HLL.out HC3.out fun j hj e => by
      subst e
      exact ((own_ty HLL.out) _ hj).1.ne (by decide) ((own_ty HMM.out) _ rfl).1
    have HS3 : Hid (w3.ownsRow 0 53 4 (.slice (some ⟨g, 0, none⟩) ss.length c) ss.length (msC ss)) := own_chg H.out.srv HC3.out fun j hj e => by
      subst e
      exact ((own_ty H.out.srv) _ hj).1.ne (by decide) ((own_ty HMM.out) _ rfl).1
    have zf := own_free HS3.out (i * 4 + 1)
    clear O1 O2 O2' HCL HSO U2 k3 HMG y0 y1 y2 y3 m0 mf t0 t1 t2 t3 HO hne
    have hi4 : i * 4 + 1 < (msC ss).length := by rw [msC_len]; omega
    have FIN1 : Hid ((Srv.mk term com log mat).adv i = Srv.mk term k log M → ∀ q, CluPost p (C.put i ((Srv.mk term com log mat).adv i)) F w ((w3.drewN q).setCell ⟨g, i * 4 + 1, none⟩ (nv k))) := fun e q => by
      have HS3 := Lib.hid (own_up HS3.out ((Up.refl w3).drewN q))
      have HL3 := Lib.hid (own_up HL3.out ((Up.refl w3).drewN q))
      have O3 := Lib.hid (own_up O3.out ((Up.refl w3).drewN q))
      have HC3 : Hid (Chg (· = gm) w (w3.drewN q)) := HC3.out.drewN q
      generalize w3.drewN q = w3 at *
      have hc4 := chg_set w3 g (i * 4 + 1) none (nv k)
      have hrow : (w3.setCell ⟨g, i * 4 + 1, none⟩ (nv k)).ownsRow 0 53 4 (.slice (some ⟨g, 0, none⟩) ss.length c) ss.length (msC (ss.set i ⟨term, k, .slice la log.length lc, log, .slice (some ⟨gm, 0, none⟩) mat.length cm, M⟩)) := by
        have := own_set HS3.out (i * 4 + 1) hi4 (nv k)
        rw [show (msC ss).set (i * 4 + 1) (nv k) = msC (ss.set i ⟨term, k, .slice la log.length lc, log, .slice (some ⟨gm, 0, none⟩) mat.length cm, M⟩) from fm_set (k := 4) (f := msC1) (fun _ => rfl) ss i 1 hi (by decide) _ _ (by rw [← HSM.out]; rfl)] at this
        exact this
      have hg0 := blk_ty H.out.blk
      have tg : Ty w3 g 53 := ((own_ty HS3.out) _ rfl).1
      have key := H.out.serv i hi ⟨term, k, .slice la log.length lc, log, .slice (some ⟨gm, 0, none⟩) mat.length cm, M⟩ (S := fun j => j = gm ∨ j = g) ((HC3.out.mono fun j _ e => Or.inl e).trans (hc4.mono fun j _ e => Or.inr e) fun j _ e => e) (fun j _ e => by
        rcases e with e | e
        · right; right; rw [← HSM.out, e]; rfl
        · left; rw [e]; rfl) hrow (own_chg HL3.out hc4 fun j hj e => by
          subst e
          exact ((own_ty HL3.out) _ hj).1.ne (by decide) tg) (fun j hj => .inl (by rw [← HSM.out]; exact hj)) (by
          rw [HML.out]
          exact own_chg (by have := O3.out; rw [HML.out] at this; exact this) hc4 fun j hj e => by
            subst e
            exact ((own_ty HMM.out) _ (by exact hj)).1.ne (E' := 53) (by decide) ((own_ty H.out.srv) _ rfl).1) (fun j hj => .inl (by rw [← HSM.out]; exact hj))
      rw [e]
      exact ⟨⟨_, _, _, _, _, key.1⟩, key.2⟩
    have FIN0 : Hid ((Srv.mk term com log mat).adv i = Srv.mk term com log M → ∀ q, CluPost p (C.put i ((Srv.mk term com log mat).adv i)) F w (w3.drewN q)) := fun e q => by
      have U4 : Up w3 (w3.drewN q) := (Up.refl w3).drewN q
      have hrow : w3.ownsRow 0 53 4 (.slice (some ⟨g, 0, none⟩) ss.length c) ss.length (msC (ss.set i ⟨term, com, .slice la log.length lc, log, .slice (some ⟨gm, 0, none⟩) mat.length cm, M⟩)) := by
        have e1 : msC (ss.set i ⟨term, com, .slice la log.length lc, log, .slice (some ⟨gm, 0, none⟩) mat.length cm, M⟩) = msC ss := by
          exact fm_same (f := msC1) ss i hi _ (by rw [← HSM.out]; rfl)
        rw [e1]; exact HS3.out
      have key := H.out.serv i hi ⟨term, com, .slice la log.length lc, log, .slice (some ⟨gm, 0, none⟩) mat.length cm, M⟩ (S := fun j => j = gm) (HC3.out.trans (Below.chg (· = gm) U4) fun j _ e => e) (fun j _ e => by
        right; right; rw [← HSM.out, e]; rfl) (own_up hrow U4) (own_up HL3.out U4) (fun j hj => .inl (by rw [← HSM.out]; exact hj)) (by
          rw [HML.out]
          exact own_up (by have := O3.out; rw [HML.out] at this; exact this) U4) (fun j hj => .inl (by rw [← HSM.out]; exact hj))
      rw [e]
      exact ⟨⟨_, _, _, _, _, key.1⟩, key.2⟩
    rcases hcom with hck | hck
    · have hk0 : 0 < k := by omega
      obtain ⟨gl, cl, hlv, _, _, hgll, hlcell, _⟩ := own_some HL3.out (by omega)
      simp only [Value.slice.injEq, true_and] at hlv
      obtain ⟨rfl, rfl⟩ := hlv
      have hkb : k - 1 < log.length := by omega
      have x0 := hlcell _ _ (enC_get log (k - 1) hkb).1
      obtain ⟨tk, htk⟩ : ∃ tk, tk = log[k - 1].term := ⟨_, rfl⟩
      rw [← htk] at x0
      have HTK : Hid (log[k - 1]?.map Ent.term = some tk) := by unfold Hid; rw [List.getElem?_eq_getElem hkb, htk]; rfl
      have HKC : Hid (com < k) := by unfold Hid; omega
      obtain ⟨k1, hk1⟩ : ∃ k1, k1 = k - 1 := ⟨_, rfl⟩
      rw [← hk1] at x0 hkb
      have hk1i : (k : Int) - 1 = (k1 : Int) := by omega
      have hkbi : (k1 : Int) < (log.length : Int) := by omega
      have HK1 := Lib.hid hk1
      clear hlcell htk hk1
      by_cases htt : tk = term
      · subst htt
        go_quiet (fail)
        go_wp2
        go_end0
        refine ⟨rfl, FIN1.out ?_ _⟩
        rw [HADV.out, if_pos ⟨HKC.out, HTK.out⟩]
      · have htt2 : ¬ (tk : Int) = (term : Int) := by omega
        go_quiet (fail)
        go_wp2
        go_end0
        refine ⟨rfl, FIN0.out ?_ _⟩
        rw [HADV.out, if_neg]
        rintro ⟨_, e⟩
        rw [HTK.out] at e
        exact htt (Option.some.inj e)
    · go_quiet (fail)
      go_wp2
      go_end0
      refine ⟨rfl, FIN0.out ?_ _⟩
      rw [HADV.out, if_neg]
      rintro ⟨e, _⟩
      omega
end
end Go.Proofs.Ythhkekmeginooaa.Rp
