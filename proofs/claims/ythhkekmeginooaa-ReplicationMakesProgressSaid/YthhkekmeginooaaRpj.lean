/- Replication: Append. -/
import Derived.Test.YthhkekmeginooaaRpi
namespace Go.Proofs.Ythhkekmeginooaa.Rp
open Go Go.RowKit Hp
set_option linter.unusedVariables false

theorem Ok.term {C : Clu} {LL : Nat → Lg} {ack : Nat → Nat → Nat} (h : Ok C LL ack) {i : Nat} (hi : i < C.srv.length) : (C.s i).term < C.lead.length := (h.inv.tm i hi).2
theorem Ok.mats {C : Clu} {LL : Nat → Lg} {ack : Nat → Nat → Nat} (h : Ok C LL ack) {i : Nat} (hi : i < C.srv.length) (hd : C.isL i = true) : (C.s i).mat.length = C.srv.length ∧ ∀ x ∈ (C.s i).mat, x ≤ (C.s i).log.length := by
  have hd' : C.ld (C.s i).term = i := of_decide_eq_true hd
  obtain ⟨m1, m2⟩ := h.inv.mat i hi hd'
  obtain ⟨t1, t2⟩ := h.inv.tm i hi
  refine ⟨m1, fun x hx => ?_⟩
  obtain ⟨j, hj, rfl⟩ := List.getElem_of_mem hx
  have g1 := m2 j (by omega)
  have g2 := h.inv.akL (C.s i).term j (by omega) t1 t2
  rw [h.inv.ldl i hi hd']
  simp only [List.getD] at g1
  rw [List.getElem?_eq_getElem hj, Option.getD_some] at g1
  omega
def Clu.appC (C : Clu) (i : Nat) (y : ByteArray) : Clu := if C.isL i = true ∧ (C.s i).log.length < 60 then C.app i y else C
def Clu.appE (C : Clu) (i : Nat) : Int := if C.isL i = true then (if (C.s i).log.length < 60 then 0 else 18) else 15
theorem put_put (C : Clu) (i : Nat) (s t : Srv) : (C.put i s).put i t = C.put i t := by unfold Clu.put; simp
theorem put_at (C : Clu) (i : Nat) (s : Srv) (h : i < C.srv.length) : (C.put i s).s i = s := by rw [put_s _ _ _ h, upd_at]
section
variable {w : World} {p : Nat} {C : Clu} {F : Nat → Prop} {LL : Nat → Lg} {ack : Nat → Nat → Nat}
set_option maxRecDepth 100000 in
set_option maxHeartbeats 2000000 in
theorem app_any (h : CluR w p C F) (ok : Ok C LL ack) (i : Nat) (hi : i < C.srv.length) (y : ByteArray) (hy : y.size ≤ 24) :
    Calls Try.prog 11 #[.pointer (some ⟨p, 0, none⟩), .int .i64 (i : Int), .string y] w fun e w' => e = .returned (.int .i64 (C.appE i)) ∧ CluPost p (C.appC i y) F w w' := by
  have HV := Lib.hid (valid_any h i hi)
  have HI := Lib.hid (isl_any h i hi (ok.term hi))
  have hlt := h.lt
  have HLT := Lib.hid hlt
  have HSELF := Lib.hid h.self
  have HOK := Lib.hid ok
  have HIC := Lib.hid hi
  have hl60 := ok.loglen hi
  have hn5 := ok.n5
  obtain ⟨sv, lv, nw, ss, ms, h⟩ := h
  have H := Lib.hid h
  rw [← h.slen] at hi hn5
  obtain ⟨g, c, rfl, _, hgl, t0, t1, t2, t3, tf⟩ := h.cells i hi
  have hs := h.s i hi
  have HS := Lib.hid hs
  have hll := h.logs _ (List.getElem_mem hi)
  rw [hs] at hl60
  obtain ⟨sm, hsm⟩ : ∃ sm, sm = ss[i] := ⟨_, rfl⟩
  rw [← hsm] at t0 t1 t2 t3 hl60 hll
  have HSM := Lib.hid hsm
  obtain ⟨term, com, lgv, log, mtv, mat⟩ := sm
  simp only [erS] at hl60 hll t0 t1 t2 t3
  obtain ⟨la, lc, rfl, hl1, hl2, hl3⟩ := own_form hll
  have c0 := (h.blk.at (i := 0) rfl).2
  have hpl := h.blk.lt
  have h1 : (i : Int) < (ss.length : Int) := by omega
  have hy2 : ¬ (24 : Int) < (y.size : Int) := by omega
  have HLL := Lib.hid hll
  have HS2 : Hid (C.s i = ⟨term, com, log, mat⟩) := by unfold Hid; rw [hs, ← hsm]; rfl
  clear h hs hsm hll hlt
  cases hL : C.isL i with
  | false =>
    rw [hL] at HI
    have HE : Hid (C.appE i = 15 ∧ ∀ y, C.appC i y = C) := ⟨by unfold Clu.appE; rw [hL]; rfl, fun y => by unfold Clu.appC; rw [hL, if_neg (fun e => by cases e.1)]⟩
    clear hL
    go_enter Try.func11, Try.ntmps11
    go_wp2_with (first
      | (go_at_call 24; refine HI.out.mono ?_; rintro e w1 ⟨rfl, h1⟩; have U1 := Lib.hid h1; clear h1)
      | (go_at_call 23; refine HV.out.mono ?_; rintro e w' ⟨rfl, rfl⟩)
      | fail)
    go_ret
    exact ⟨by rw [HE.out.1]; rfl, by rw [HE.out.2]; exact HSELF.out.up U1.out HLT.out⟩
  | true =>
    rw [hL] at HI
    by_cases hf : log.length < 60
    · have hfi : ¬ (log.length : Int) = 60 := by omega
      have HE : Hid (C.appE i = 0 ∧ ∀ y, C.appC i y = C.app i y) := ⟨by unfold Clu.appE; rw [hL, HS2.out, if_pos rfl, if_pos hf], fun y => by unfold Clu.appC; rw [HS2.out, if_pos ⟨hL, hf⟩]⟩
      have HMT := Lib.hid (ok.mats HIC.out hL)
      clear hL
      obtain ⟨ie, hie, hze0, hze1, hze2⟩ := info_parts Try.infoEn
      go_enter Try.func11, Try.ntmps11
      go_upto_region 7 with (first
        | (go_at_call 24; refine HI.out.mono ?_; rintro e w1 ⟨rfl, h1⟩; have U1 := Lib.hid h1; clear h1)
        | (go_at_call 23; refine HV.out.mono ?_; rintro e w' ⟨rfl, rfl⟩)
        | fail)
      have H1 := Lib.hid (H.out.up U1.out)
      have r0 := (H1.out.blk.at (i := 0) rfl).2
      have rl := H1.out.blk.lt
      have u0 := (U1.out.cell (p := ⟨g, i * 4, none⟩) hgl).trans t0
      have u2 := (U1.out.cell (p := ⟨g, i * 4 + 2, none⟩) hgl).trans t2
      have uf := own_free H1.out.srv (i * 4 + 2)
      have ugl := own_glt H1.out.srv
      have OL1 := Lib.hid (own_up HLL.out U1.out)
      clear t0 t1 t2 t3 tf c0 hpl hgl
      go_upto_region 10 with fail
      have OWN1 : Hid (((w1.alloc (.cells #[nv term, .string y] 44)).drew).ownsRow 0 44 2 (.slice la log.length lc) log.length (enC log)) := own_up OL1.out ((Up.refl w1).alloc _).drew
      have HNEWS := Lib.hid (cells_new w1 #[nv term, .string y] 44)
      have HUA := Lib.hid ((Up.refl w1).alloc (.cells #[nv term, .string y] 44)).drew
      go_cut [] from 30 to 45 (fun wx => Hid (CluPost p (C.put i ⟨term, com, log ++ [⟨term, y⟩], mat⟩) F w wx))
      case first =>
        go_region_law (first
          | (refine step_append_lies _ rfl (.tmp 35) (.tmp 42) 33 rfl 0 44 ie (.agg #[.int .i64 0, .string ByteArray.empty]) 2 24 Try.underlying33 hie hze0 hze1 hze2 rfl (by decide) (.slice la log.length lc) log.length _ (by simp [Act.eval]) OWN1.out ⟨w1.heap.size, 0, none⟩ 1 1 [nv term, .string y] (by simp [Act.eval]) rfl HNEWS.out (by intro u' hu'; simp at hu'; rcases hu' with rfl | rfl <;> rfl) (by decide) (by unfold maxLen; omega) (by omega) (by omega) _ rfl ?_
             intro g9 c9 w9 hown9 hgrow9 hat9 hlt9
             have HO9 := Lib.hid hown9
             have HG9 := Lib.hid hgrow9
             have HA9 := Lib.hid hat9
             have hc9 : Chg (fun j => (Value.slice la log.length lc).ownBlock = some j) w1 w9 := (HUA.out.chg _).grown hgrow9 fun j hj => .inl hj
             have HC9 := Lib.hid hc9
             have s9 := own_chg H1.out.srv hc9 fun j hj e => ((own_ty H1.out.srv) _ hj).1.ne (E' := 44) (by decide) ((own_ty OL1.out) _ e).1
             have HS9 := Lib.hid s9
             have qf := own_free s9 (i * 4 + 2)
             have ql := own_glt s9
             have q2 := (hc9.cell (o := i * 4 + 2) ugl (fun e => ((own_ty H1.out.srv) _ rfl).1.ne (E' := 44) (by decide) ((own_ty OL1.out) _ e).1)).trans u2
             clear hown9 hgrow9 hat9 hc9 s9)
          | fail)
        all_goals
          go_wp2
          go_meet
          have hc4 := chg_set w9 g (i * 4 + 2) none (.slice (some ⟨g9, 0, none⟩) (log.length + 1) c9)
          have hi4 : i * 4 + 2 < (msC ss).length := by rw [msC_len]; omega
          have hrow := own_set HS9.out (i * 4 + 2) hi4 (.slice (some ⟨g9, 0, none⟩) (log.length + 1) c9)
          rw [show (msC ss).set (i * 4 + 2) (.slice (some ⟨g9, 0, none⟩) (log.length + 1) c9) = msC (ss.set i ⟨term, com, .slice (some ⟨g9, 0, none⟩) (log.length + 1) c9, log ++ [⟨term, y⟩], mtv, mat⟩) from fm_set (k := 4) (f := msC1) (fun _ => rfl) ss i 2 hi (by decide) _ _ (by rw [← HSM.out]; rfl)] at hrow
          have hcc : Chg (fun j => (Value.slice la log.length lc).ownBlock = some j ∨ j = g) w1 _ := (HC9.out.mono fun j _ e => Or.inl e).trans (hc4.mono fun j _ e => Or.inr e) fun j _ e => e
          have key := H1.out.serv i hi ⟨term, com, .slice (some ⟨g9, 0, none⟩) (log.length + 1) c9, log ++ [⟨term, y⟩], mtv, mat⟩ hcc (fun j _ e => by
            rcases e with e | e
            · right; left; rw [← HSM.out]; exact e
            · left; rw [e]; rfl) hrow (by
            show World.ownsRow _ _ _ _ _ (log ++ [(⟨term, y⟩ : Ent)]).length (enC (log ++ [⟨term, y⟩]))
            rw [List.length_append, enC_app]
            exact own_chg HO9.out hc4 fun j hj e => by
              subst e
              exact ((own_ty HO9.out) _ hj).1.ne (E' := 53) (by decide) ((own_ty HS9.out) _ rfl).1) (fun j hj => by
            obtain rfl : g9 = j := Option.some.inj hj
            rcases HA9.out with e | e
            · left; rw [← HSM.out]; exact e
            · right; rw [e]; exact HUA.out.size) (by
            have := own_chg (H1.out.mats _ (List.getElem_mem hi)) hcc fun j hj e => by
              have ht := ((own_ty (H1.out.mats _ (List.getElem_mem hi))) j hj).1
              rcases e with e | e
              · exact ht.ne (E' := 44) (by decide) ((own_ty OL1.out) _ e).1
              · subst e
                exact ht.ne (E' := 53) (by decide) ((own_ty H1.out.srv) _ rfl).1
            rw [← HSM.out] at this
            exact this) (fun j hj => .inl (by rw [← HSM.out]; exact hj))
          exact CluPost.behind U1.out ⟨⟨_, _, _, _, _, key.1⟩, key.2⟩ HLT.out
      case rest =>
        have HP := Lib.hid hcut.out
        have hn1 : C.srv.length = (C.put i ⟨term, com, log ++ [⟨term, y⟩], mat⟩).srv.length := (put_n ..).symm
        have hat := put_at C i ⟨term, com, log ++ [⟨term, y⟩], mat⟩ HIC.out
        have hmt := HMT.out
        rw [HS2.out] at hmt
        have HADV := Lib.hid (adv_any HP.out.1 i (by rw [← hn1]; exact HIC.out) (by rw [← hn1]; exact HOK.out.n5) (by rw [hat, ← hn1]; exact hmt.1) (by rw [hat]; show (log ++ [_]).length ≤ 60; rw [List.length_append, List.length_singleton]; omega) (by
          rw [hat]
          intro x hx
          have := hmt.2 x hx
          show x ≤ (log ++ [_]).length
          rw [List.length_append]
          simp only at this
          omega))
        rw [hat, put_put] at HADV
        have HE2 : Hid (C.app i y = C.put i (Srv.adv ⟨term, com, log ++ [⟨term, y⟩], mat⟩ i)) := by unfold Hid Clu.app; rw [HS2.out]
        clear hn1 hat hmt hcut
        go_wp2_with (first
          | (go_at_call 25; refine HADV.out.mono ?_; rintro e w12 ⟨rfl, h12⟩; have P12 := Lib.hid h12; clear h12)
          | fail)
        go_ret
        refine ⟨by rw [HE.out.1]; rfl, ?_⟩
        rw [HE.out.2, HE2.out]
        exact HP.out.trans P12.out HLT.out
    · have hfi : (log.length : Int) = 60 := by omega
      have HE : Hid (C.appE i = 18 ∧ ∀ y, C.appC i y = C) := ⟨by unfold Clu.appE; rw [hL, HS2.out, if_pos rfl, if_neg hf], fun y => by unfold Clu.appC; rw [HS2.out, if_neg (fun e => hf e.2)]⟩
      clear hL
      go_enter Try.func11, Try.ntmps11
      go_upto_region 7 with (first
        | (go_at_call 24; refine HI.out.mono ?_; rintro e w1 ⟨rfl, h1⟩; have U1 := Lib.hid h1; clear h1)
        | (go_at_call 23; refine HV.out.mono ?_; rintro e w' ⟨rfl, rfl⟩)
        | fail)
      have r0 := ((H.out.up U1.out).blk.at (i := 0) rfl).2
      have rl := (H.out.up U1.out).blk.lt
      have u2 := (U1.out.cell (p := ⟨g, i * 4 + 2, none⟩) hgl).trans t2
      go_wp2
      go_ret
      exact ⟨by rw [HE.out.1]; rfl, by rw [HE.out.2]; exact HSELF.out.up U1.out HLT.out⟩
end
end Go.Proofs.Ythhkekmeginooaa.Rp
