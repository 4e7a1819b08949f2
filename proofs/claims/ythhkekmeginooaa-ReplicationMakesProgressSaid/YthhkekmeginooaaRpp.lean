/- Replication: Deliver. -/
import Derived.Test.YthhkekmeginooaaRpo
import Derived.StillTailTactics
namespace Go.Proofs.Ythhkekmeginooaa.Rp
open Go Go.RowKit Hp
set_option linter.unusedVariables false

def Clu.netE (C : Clu) (k : Nat) : Int := if k < C.net.length then 0 else 4
section
variable {w : World} {p : Nat} {C : Clu} {F : Nat → Prop} {LL : Nat → Lg} {ack : Nat → Nat → Nat}
/-- The way through a cluster whose entry in the row of matches is stored into. -/
theorem CluP.setM {W : World} {g c n gm cm : Nat} {lv nw : Value} {ss : List MS} {ms : List MM} (h : CluP w p C F (.slice (some ⟨g, 0, none⟩) n c) lv nw ss ms) (hU : Up w W) (i : Nat) (hi : i < ss.length) (hv : ss[i].mv = .slice (some ⟨gm, 0, none⟩) ss[i].mat.length cm) (j x : Nat) (hj : j < ss[i].mat.length) :
    CluP (W.setCell ⟨gm, j, none⟩ (Rp.nv x)) p (C.put i { C.s i with mat := (C.s i).mat.set j x }) (Fx F w (W.setCell ⟨gm, j, none⟩ (Rp.nv x))) (.slice (some ⟨g, 0, none⟩) n c) lv nw (ss.set i { ss[i] with mat := ss[i].mat.set j x }) ms ∧ Chg F w (W.setCell ⟨gm, j, none⟩ (Rp.nv x)) := by
  obtain rfl := h.svn
  have im := List.getElem_mem hi
  have hm := h.mats _ im
  rw [hv] at hm
  have hc : Chg (· = gm) w (W.setCell ⟨gm, j, none⟩ (Rp.nv x)) := (Below.chg (· = gm) hU).trans (chg_set W gm j none (Rp.nv x)) fun _ _ e => e
  have tm := ((own_ty hm) gm rfl).1
  have hrow := own_set (own_up hm hU) j (by rw [icN_len]; exact hj) (Rp.nv x)
  rw [show (icN ss[i].mat).set j (Rp.nv x) = icN (ss[i].mat.set j x) from List.map_set.symm] at hrow
  have key := h.serv i hi { ss[i] with mat := ss[i].mat.set j x } hc (fun k _ e => by right; right; rw [hv, e]; rfl) (by
    rw [show msC (ss.set i { ss[i] with mat := ss[i].mat.set j x }) = msC ss from fm_same (f := msC1) ss i hi _ rfl]
    exact own_chg h.srv hc fun k hk e => by
      subst e
      exact ((own_ty h.srv) k hk).1.ne (E' := 3) (by decide) tm) (own_chg (h.logs ss[i] im) hc fun k hk e => by
      subst e
      exact ((own_ty (h.logs ss[i] im)) k hk).1.ne (E' := 3) (by decide) tm) (fun k hk => .inl hk) (by
    show World.ownsRow _ _ _ _ ss[i].mv (ss[i].mat.set j x).length (icN (ss[i].mat.set j x))
    rw [hv, List.length_set]
    exact hrow) (fun k hk => .inl hk)
  rw [h.s i hi]
  exact key
theorem Clu.drop_s (C : Clu) (k v : Nat) : (C.drop k).s v = C.s v := rfl
set_option maxRecDepth 100000 in
set_option maxHeartbeats 4000000 in
theorem deliver_any (h : CluR w p C F) (ok : Ok C LL ack) (k : Nat) :
    Calls Try.prog 14 #[.pointer (some ⟨p, 0, none⟩), .int .i64 (k : Int)] w fun e w' => e = .returned (.int .i64 (C.netE k)) ∧ CluPost p (C.deliver k) F w w' := by
  have HLT := Lib.hid h.lt
  have HSELF := Lib.hid h.self
  have h2 : ¬ (k : Int) < 0 := by omega
  have hn : C.net.length ≤ 100 := ok.net
  by_cases hk : k < C.net.length
  · have HM := Lib.hid (ok.inv.net _ (List.getElem_mem hk))
    have OKD := Lib.hid (ok.drop k hk).ok
    have HE : Hid (C.netE k = 0 ∧ C.deliver k = (C.drop k).del C.net[k]) := ⟨by unfold Clu.netE; rw [if_pos hk], by unfold Clu.deliver; rw [dif_pos hk]⟩
    obtain ⟨m, hm⟩ : ∃ m, m = C.net[k] := ⟨_, rfl⟩
    rw [← hm] at HM HE
    obtain ⟨sv, lv, nw, ss, ms, h⟩ := h
    have H := Lib.hid h
    have hk' := hk
    rw [← h.mlen] at hk hn
    have hme : m = erM ms[k] := by
      rw [hm]
      have : C.net[k]? = (ms.map erM)[k]? := by rw [h.em]
      rw [List.getElem?_eq_getElem hk', List.getElem?_map, List.getElem?_eq_getElem hk] at this
      exact Option.some.inj this
    clear hm hk'
    obtain ⟨gn, cn, rfl, _, hgl, hcell⟩ := msg_cells h k hk
    have hev := h.ents _ (List.getElem_mem hk)
    have c2 := (h.blk.at (i := 2) rfl).2
    have hpl := h.blk.lt
    have h1 : (k : Int) < (ms.length : Int) := by omega
    obtain ⟨ms2, hms2⟩ : ∃ ms2, ms2 = ms.take k ++ ms.drop (k + 1) := ⟨_, rfl⟩
    have HM2 := Lib.hid hms2
    have HDEL : Hid (∀ v1 w0 w1, Hid (w1.ownsRow w0 59 8 v1 ms.length (mmC ms)) → Calls Try.prog 26 #[v1, .int .i64 (k : Int), .int .i64 ((k : Int) + 1)] w1 fun e w' => ∃ a2 c2, e = .returned (.slice a2 ms2.length c2) ∧ Hid (w'.ownsRow w0 59 8 (.slice a2 ms2.length c2) ms2.length (mmC ms2)) ∧ Hid (w1.grownBy w' v1.ownBlock)) := fun v1 w0 w1 o1 => by
      refine (del_any v1 ms.length k (mmC ms) w1 (own_base' o1.out fun _ _ => Nat.zero_le _) hk (by omega) H.out.mone).mono ?_
      rintro e w' ⟨v', rfl, a1, a2, a3⟩
      have e1 : ms2.length = ms.length - 1 := by rw [hms2, List.length_append, List.length_take, List.length_drop]; omega
      rw [mmC_take, mmC_drop, ← mmC_app, ← hms2, ← e1] at a1
      obtain ⟨x, y, rfl, _, _, _⟩ := own_form a1
      have hb : ∀ j, (Value.slice x ms2.length y).ownBlock = some j → w0 ≤ j := fun j hj => by
        rw [a3] at hj
        exact ((own_ty o1.out) j hj).2
      exact ⟨x, y, rfl, own_base' a1 hb, a2⟩
    obtain ⟨mm, hmm⟩ : ∃ mm, mm = ms[k] := ⟨_, rfl⟩
    rw [← hmm] at hcell hev hme
    obtain ⟨kind, frm, tgt, term, idx, prev, com, ev, ents⟩ := mm
    simp only at hev
    obtain ⟨ea, ec, rfl, _, _, _⟩ := own_form hev
    simp only [erM] at hme
    subst hme
    have d0 := hcell 0 _ rfl
    have d1 := hcell 1 _ rfl
    have d2 := hcell 2 _ rfl
    have d3 := hcell 3 _ rfl
    have d4 := hcell 4 _ rfl
    have d5 := hcell 5 _ rfl
    have d6 := hcell 6 _ rfl
    have d7 := hcell 7 _ rfl
    rw [Nat.add_zero] at d0
    have HTC : Hid (tgt < C.srv.length) := HM.out.to
    have HEV := Lib.hid hev
    clear h hms2 hcell hev hmm
    go_enter Try.func14, Try.ntmps14
    go_upto_region 4 with fail
    have BM := Lib.hid (Blk.new w #[nv kind, nv frm, nv tgt, nv term, nv idx, nv prev, nv com, .slice ea ents.length ec] 59)
    have UW := Lib.hid ((Up.refl w).alloc (.cells #[nv kind, nv frm, nv tgt, nv term, nv idx, nv prev, nv com, .slice ea ents.length ec] 59))
    have e2 := ((H.out.up UW.out).blk.at (i := 2) rfl).2
    have ef := (H.out.up UW.out).blk.free 2
    have el := (H.out.up UW.out).blk.lt
    have HBP : Hid (¬ w.heap.size = p) := by unfold Hid; omega
    clear d0 d1 d2 d3 d4 d5 d6 d7 c2 hgl
    generalize hbx : w.heap.size = bx at BM HBP ⊢
    generalize w.alloc (.cells #[nv kind, nv frm, nv tgt, nv term, nv idx, nv prev, nv com, .slice ea ents.length ec] 59) = W at *
    have HCL : Hid (Calls Try.prog 27 #[.slice (some ⟨gn, 0, none⟩) ms.length cn] W fun e w' => ∃ v', e = .returned v' ∧ Hid (w'.ownsRow W.heap.size 59 8 v' ms.length (mmC ms)) ∧ Hid (Up W w')) := cloneM _ ms.length (mmC ms) W (own_src (own_up H.out.net UW.out)) H.out.mone (by omega)
    go_upto_region 5 with (first
      | (go_at_call 26; refine (HDEL.out _ _ _ O1).mono ?_; rintro e w2 ⟨a2, c2', rfl, O2, G2⟩; have U2 : Hid (Up W w2) := Below.grown U1.out G2.out U1.out.size fun j hj => ((own_ty O1.out) j hj).2; have B2 := (H.out.up (UW.out.trans U2.out)).blk; have y2 := (B2.at (i := 2) rfl).2; have yf := B2.free 2; have yl := B2.lt; clear B2)
      | (go_at_call 27; refine HCL.out.mono ?_; rintro e w1 ⟨v1, rfl, O1, U1⟩)
      | fail)
    have U2 : Hid (Up W w2) := Below.grown U1.out G2.out U1.out.size fun j hj => ((own_ty O1.out) j hj).2
    have UU := Lib.hid (UW.out.trans U2.out)
    have hc2 := chg_set w2 p 2 none (.slice a2 ms2.length c2')
    have H2 := H.out.up UU.out
    have K3 : Hid (CluP (w2.setCell ⟨p, 2, none⟩ (.slice a2 ms2.length c2')) p (C.drop k) (Fx F w (w2.setCell ⟨p, 2, none⟩ (.slice a2 ms2.length c2'))) sv lv (.slice a2 ms2.length c2') ss ms2 ∧ Chg F w (w2.setCell ⟨p, 2, none⟩ (.slice a2 ms2.length c2'))) := by
      have key := H.out.netw (nw' := .slice a2 ms2.length c2') (ms' := ms2) ((Below.chg (· = p) UU.out).trans hc2 fun _ _ e => e) (fun j _ e => .inl e) (H2.blk.set 2 _) (own_base' (own_chg O2.out hc2 fun j hj e => by
        subst e
        exact ((own_ty O2.out) _ hj).1.ne (E' := 51) (by decide) (blk_ty H2.blk)) fun _ _ => Nat.zero_le _) (fun j hj => .inr (Nat.le_trans UW.out.size ((own_ty O2.out) j hj).2)) (fun m hm => .inl (by
          rw [HM2.out] at hm
          rcases List.mem_append.1 hm with e | e
          · exact List.mem_of_mem_take e
          · exact List.mem_of_mem_drop e))
      have e1 : ({ C with net := ms2.map erM } : Clu) = C.drop k := by
        unfold Clu.drop cut
        rw [← H.out.em, HM2.out, List.map_append, List.map_take, List.map_drop]
      rw [e1] at key
      exact key
    have BM3 := Lib.hid ((BM.out.up U2.out).chg hc2 HBP.out)
    have HEV3 := Lib.hid (own_chg (own_up HEV.out UU.out) hc2 fun j hj e => by
      subst e
      exact ((own_ty HEV.out) _ hj).1.ne (E' := 51) (by decide) (blk_ty H.out.blk))
    clear y2 yf yl hc2 H2 e2 ef el
    generalize w2.setCell ⟨p, 2, none⟩ (.slice a2 ms2.length c2') = w3 at *
    have K3R : Hid (CluR w3 p (C.drop k) (Fx F w w3)) := ⟨_, _, _, _, _, K3.out.1⟩
    have HLT3 := Lib.hid K3R.out.lt
    have hts : tgt < ss.length := by rw [H.out.slen]; exact HTC.out
    obtain ⟨g, c, rfl, _, hgl, t0, t1, t2, t3, tf⟩ := K3.out.1.cells tgt hts
    have hs := K3.out.1.s tgt hts
    rw [Clu.drop_s] at hs
    have HS := Lib.hid hs
    obtain ⟨sm, hsm⟩ : ∃ sm, sm = ss[tgt] := ⟨_, rfl⟩
    rw [← hsm] at t0 t1 t2 t3 hs
    have HSM := Lib.hid hsm
    obtain ⟨x, lcom, lgv, log, mtv, mat⟩ := sm
    simp only [erS] at t0 t1 t2 t3 hs
    have HS2 := Lib.hid hs
    have r0 := (K3.out.1.blk.at (i := 0) rfl).2
    have rl := K3.out.1.blk.lt
    have b0 := (BM3.out.at (i := 0) rfl).2
    have b1 := (BM3.out.at (i := 1) rfl).2
    have b2 := (BM3.out.at (i := 2) rfl).2
    have b3 := (BM3.out.at (i := 3) rfl).2
    have b4 := (BM3.out.at (i := 4) rfl).2
    have b5 := (BM3.out.at (i := 5) rfl).2
    have b6 := (BM3.out.at (i := 6) rfl).2
    have b7 := (BM3.out.at (i := 7) rfl).2
    have bl := BM3.out.lt
    have htsi : (tgt : Int) < (ss.length : Int) := by omega
    have HP3 : Hid (CluPost p (C.drop k) F w w3) := ⟨K3R.out, K3.out.2⟩
    clear hs hsm HEV U1 U2 UU O1 O2 G2 HCL HDEL
    have hkt : kind = 1 ∨ kind = 2 := HM.out.knd.imp (fun e => e.1) fun e => e.1
    go_quiet (fail)
    obtain ⟨n1, rfl⟩ : ∃ n, n = nq := ⟨_, rfl⟩
    go_upto_region 6 with fail
    by_cases hst : term < x
    · have hsti : (term : Int) < (x : Int) := by omega
      have HD : Hid ((C.drop k).del ⟨kind, frm, tgt, term, idx, prev, com, ents⟩ = C.drop k) := by unfold Hid Clu.del; rw [Clu.drop_s, HS2.out]; exact if_pos hst
      go_quiet (fail)
      go_wp2
      go_ret
      refine ⟨by rw [HE.out.1]; rfl, ?_⟩
      rw [HE.out.2, HD.out]
      exact HP3.out.up (by first | exact (Up.refl w3).drewN _ | exact ((Up.refl w3).drewN _).drewN _ | exact (((Up.refl w3).drewN _).drewN _).drewN _) HLT.out
    · have hsti : ¬ (term : Int) < (x : Int) := by omega
      have hxt : x ≤ term := by omega
      have hlg := OKD.out.loglen (v := tgt) HTC.out
      rw [Clu.drop_s, HS2.out] at hlg
      simp only at hlg
      have hnd := OKD.out.net
      go_quiet (fail)
      obtain ⟨n2, rfl⟩ : ∃ n, n = nq := ⟨_, rfl⟩
      rcases hkt with hk1 | hk2
      · obtain ⟨_, kl, k3, k4, k5, _⟩ := HM.out.knd.resolve_right fun e => by have := e.1; simp only at this; omega
        simp only at k3
        have hln := ok.inv.len _ HM.out.t1 HM.out.tT
        simp only at hln
        have HREC := Lib.hid (fun W (hu : Up w3 W) => recv_any (K3R.out.up hu) ⟨kind, frm, tgt, term, idx, prev, com, ents⟩ (.slice ea ents.length ec) (own_up HEV3.out hu) HTC.out (by rw [Clu.drop_s, HS2.out]; exact hlg) (by show idx + ents.length ≤ 60; omega) hnd)
        simp only at HREC
        have HD : Hid ((C.drop k).del ⟨kind, frm, tgt, term, idx, prev, com, ents⟩ = (C.drop k).recv ⟨kind, frm, tgt, term, idx, prev, com, ents⟩) := by
          unfold Hid Clu.del
          rw [Clu.drop_s, HS2.out, if_neg (by show ¬ term < x; omega), if_pos hk1]
        have hkb : ((kind : Int) == 1) = true := by rw [show (kind : Int) = 1 by omega]; rfl
        clear hk1
        clear kl k3 k4 k5 hln
        go_wp2_with (first
          | (go_at_call 28; refine (HREC.out _ ((Up.refl w3).drewN _)).mono ?_; rintro e w4 ⟨rfl, hp⟩; have P4 := Lib.hid (CluPost.behind ((Up.refl w3).drewN _) hp HLT3.out); clear hp)
          | fail)
        go_ret
        refine ⟨by rw [HE.out.1]; rfl, ?_⟩
        rw [HE.out.2, HD.out]
        exact HP3.out.trans P4.out HLT.out
      · have hki : ¬ (kind : Int) = 1 := by omega
        have hkb : ((kind : Int) == 1) = false := beq_eq_false_iff_ne.2 hki
        have hk1 : ¬ kind = 1 := by omega
        go_upto_region 9 with fail
        by_cases hxe : term = x
        · have hxb : ((term : Int) == (x : Int)) = true := by rw [hxe]; simp
          have HXE := Lib.hid hxe
          clear hxe hxt hsti hst
          obtain ⟨b, hb⟩ : ∃ b, b = (C.drop k).isL tgt := ⟨_, rfl⟩
          have HB := Lib.hid hb
          have HISL := Lib.hid (fun W (hu : Up w3 W) => isl_any (K3R.out.up hu) tgt HTC.out (OKD.out.term HTC.out))
          rw [← hb] at HISL
          clear hb
          have U34 := (Up.refl w3).drewN (n1 + n2)
          have v0 := (U34.cell (p := ⟨bx, 0, none⟩) bl).trans b0
          have v1' := (U34.cell (p := ⟨bx, 1, none⟩) bl).trans b1
          have v2 := (U34.cell (p := ⟨bx, 2, none⟩) bl).trans b2
          have v3 := (U34.cell (p := ⟨bx, 3, none⟩) bl).trans b3
          have v4 := (U34.cell (p := ⟨bx, 4, none⟩) bl).trans b4
          have y0 := (U34.cell (p := ⟨g, tgt * 4, none⟩) hgl).trans t0
          have y3 := (U34.cell (p := ⟨g, tgt * 4 + 3, none⟩) hgl).trans t3
          have vl := Nat.lt_of_lt_of_le bl U34.size
          have yl := Nat.lt_of_lt_of_le hgl U34.size
          have U4 := Lib.hid U34
          clear U34 b0 b1 b2 b3 b4 b5 b6 b7 bl t0 t1 t2 t3 tf hgl r0 rl
          generalize w3.drewN (n1 + n2) = w4 at *
          refine wp_region_gr (by kernel_rfl) (by kernel_rfl) ?_
          repeat (go_big_quiet_step (first
            | (go_at_call 24; exact gr_callb (HISL.out _ (U4.out.trans (gr_up _ _))) rfl)
            | fail))
          refine wpQuiet_nil ?_
          intro _ hw'
          obtain ⟨g1, rfl⟩ := hw'
          have U45 := gr_up w4 g1
          have z1 := (U45.cell (p := ⟨bx, 1, none⟩) vl).trans v1'
          have z2 := (U45.cell (p := ⟨bx, 2, none⟩) vl).trans v2
          have z4 := (U45.cell (p := ⟨bx, 4, none⟩) vl).trans v4
          have q3 := (U45.cell (p := ⟨g, tgt * 4 + 3, none⟩) yl).trans y3
          have zl := Nat.lt_of_lt_of_le vl U45.size
          have ql := Nat.lt_of_lt_of_le yl U45.size
          have U5 := Lib.hid (U4.out.trans U45)
          clear U45 v0 v1' v2 v3 v4 y0 y3 vl yl HISL
          generalize gr w4 g1 = w5 at *
          cases b with
          | false =>
            have HD : Hid ((C.drop k).del ⟨kind, frm, tgt, term, idx, prev, com, ents⟩ = C.drop k) := by
              unfold Hid Clu.del
              rw [Clu.drop_s, HS2.out, if_neg (by show ¬ term < x; have := HXE.out; omega), if_neg hk1, if_neg (fun e => by rw [← HB.out] at e; cases e.2)]
            go_wp2
            go_ret
            refine ⟨by rw [HE.out.1]; rfl, ?_⟩
            rw [HE.out.2, HD.out]
            exact HP3.out.up U5.out HLT.out
          | true =>
            have HD : Hid ((C.drop k).del ⟨kind, frm, tgt, term, idx, prev, com, ents⟩ = (C.drop k).acked ⟨kind, frm, tgt, term, idx, prev, com, ents⟩) := by
              unfold Hid Clu.del
              rw [Clu.drop_s, HS2.out, if_neg (by show ¬ term < x; have := HXE.out; omega), if_neg hk1, if_pos ⟨HXE.out, HB.out.symm⟩]
            obtain ⟨_, hak⟩ := HM.out.knd.resolve_left fun e => hk1 e.1
            have hld : (C.drop k).ld ((C.drop k).s tgt).term = tgt := of_decide_eq_true HB.out.symm
            have hlog := OKD.out.inv.ldl tgt HTC.out hld
            have hakl := ok.inv.akL term frm HM.out.frm HM.out.t1 HM.out.tT
            obtain ⟨hmt1, hmt2⟩ := OKD.out.mats HTC.out HB.out.symm
            rw [Clu.drop_s, HS2.out] at hlog hmt1 hmt2
            simp only at hak hlog hmt1 hmt2
            have hil : idx ≤ log.length := by rw [hlog, ← HXE.out]; exact Nat.le_trans hak hakl
            have hfm : frm < mat.length := by rw [hmt1]; exact HM.out.frm
            have K5 := K3.out.1.up U5.out
            have hmr := K5.mats _ (List.getElem_mem hts)
            have hsm := HSM.out
            rw [← hsm] at hmr
            simp only at hmr
            obtain ⟨gm, cm, hmv, _, _, hgml, hmcell, hmfree⟩ := own_some hmr (by omega)
            subst hmv
            have m0 := hmcell _ _ (icN_get mat frm hfm)
            have mf := hmfree frm
            obtain ⟨y, hy⟩ : ∃ y, y = mat[frm] := ⟨_, rfl⟩
            rw [← hy] at m0
            obtain ⟨z, hz⟩ : ∃ z, z = max y idx := ⟨_, rfl⟩
            have hmax1 : (if (y : Int) < (idx : Int) then (idx : Int) else (y : Int)) = (z : Int) := by split <;> omega
            have hmax2 : max (y : Int) (idx : Int) = (z : Int) := by omega
            have hfmi : (frm : Int) < (mat.length : Int) := by omega
            have HY : Hid (mat.getD frm 0 = y) := by unfold Hid; rw [hy]; simp [List.getD, hfm]
            have HK5 := Lib.hid K5
            have HZ := Lib.hid hz
            have HNE : Hid (¬ bx = gm) := fun e => by
              subst e
              exact ((own_ty hmr) _ rfl).1.ne (E' := 59) (by decide) (blk_ty (BM3.out.up U5.out))
            have HFM : Hid (frm < mat.length ∧ y ∈ mat ∧ idx ≤ log.length) := ⟨hfm, by rw [hy]; exact List.getElem_mem hfm, hil⟩
            have HMT := Lib.hid hmt1
            have HMT2 := Lib.hid hmt2
            clear hak hld hlog hakl hmt1 hmt2 hil hfm K5 hmr hsm hmcell hmfree hy hz
            go_upto_region 10 with fail
            go_still_tail 18, (by kernel_rfl)
            change wpList _ _ _ _ _ w5.drew
            go_upto_region 11 with fail
            all_goals
              have key := CluP.setM HK5.out (Up.refl w5) tgt hts (by rw [← HSM.out]) frm z (by rw [← HSM.out]; exact HFM.out.1)
              rw [Clu.drop_s, HS2.out] at key
              simp only at key
              have l5 : ∀ j, Fx F w w3 j → j < w5.heap.size := fun j hj => Nat.lt_of_lt_of_le (HLT3.out j hj) U5.out.size
              have A5 : Hid (CluPost p ((C.drop k).put tgt ⟨x, lcom, log, mat.set frm z⟩) (Fx F w w3) w5 (w5.setCell ⟨gm, frm, none⟩ (.int .i64 (z : Int))).drew) := CluPost.up ⟨⟨_, _, _, _, _, key.1⟩, key.2⟩ (Up.refl _).drew l5
              have hc5 := (chg_set w5 gm frm none (.int .i64 (z : Int))).drew
              have b2' := (hc5.cell (b := bx) (o := 2) zl HNE.out).trans z2
              have bl' : bx < (w5.setCell ⟨gm, frm, none⟩ (.int .i64 (z : Int))).drew.heap.size := Nat.lt_of_lt_of_le zl hc5.size
              clear hc5 key
              generalize (w5.setCell ⟨gm, frm, none⟩ (.int .i64 (z : Int))).drew = w6 at *
              have hat := put_at (C.drop k) tgt ⟨x, lcom, log, mat.set frm z⟩ HTC.out
              have hn1 : ((C.drop k).put tgt ⟨x, lcom, log, mat.set frm z⟩).srv.length = C.srv.length := put_n ..
              have HADV := Lib.hid (adv_any A5.out.1 tgt (by rw [hn1]; exact HTC.out) (by rw [hn1]; exact ok.n5) (by rw [hat, hn1]; show (mat.set frm z).length = _; rw [List.length_set]; exact HMT.out) (by rw [hat]; exact hlg) (by
                rw [hat]
                refine mem_set_le HMT2.out ?_
                have := HMT2.out _ HFM.out.2.1
                have := HFM.out.2.2
                have := HZ.out
                show z ≤ log.length
                omega))
              rw [hat, put_put] at HADV
              have HD2 : Hid ((C.drop k).acked ⟨kind, frm, tgt, term, idx, prev, com, ents⟩ = (C.drop k).put tgt (Srv.adv ⟨x, lcom, log, mat.set frm z⟩ tgt)) := by
                unfold Hid Clu.acked
                rw [Clu.drop_s, HS2.out]
                simp only
                rw [HY.out, ← HZ.out]
              clear hat hn1 z1 z2 z4 zl
              go_wp2_with (first
                | (go_at_call 25; refine HADV.out.mono ?_; rintro e w7 ⟨rfl, h7⟩; have P7 := Lib.hid h7; clear h7)
                | fail)
              go_ret
              refine ⟨by rw [HE.out.1]; rfl, ?_⟩
              rw [HE.out.2, HD.out, HD2.out]
              exact HP3.out.trans (CluPost.behind U5.out (A5.out.trans P7.out l5) HLT3.out) HLT.out
        · have hxi : ¬ (term : Int) = (x : Int) := by omega
          have hxb : ((term : Int) == (x : Int)) = false := beq_eq_false_iff_ne.2 hxi
          have HD : Hid ((C.drop k).del ⟨kind, frm, tgt, term, idx, prev, com, ents⟩ = C.drop k) := by
            unfold Hid Clu.del
            rw [Clu.drop_s, HS2.out, if_neg (by show ¬ term < x; omega), if_neg hk1, if_neg (fun e => hxe e.1)]
          go_quiet (fail)
          go_wp2
          go_ret
          refine ⟨by rw [HE.out.1]; rfl, ?_⟩
          rw [HE.out.2, HD.out]
          exact HP3.out.up (by first | exact (Up.refl w3).drewN _ | exact ((Up.refl w3).drewN _).drewN _ | exact (((Up.refl w3).drewN _).drewN _).drewN _) HLT.out
  · have HE : Hid (C.netE k = 4 ∧ C.deliver k = C) := ⟨by unfold Clu.netE; rw [if_neg hk], by unfold Clu.deliver; rw [dif_neg hk]⟩
    obtain ⟨sv, lv, nw, ss, ms, h⟩ := h
    rw [← h.mlen] at hk hn
    obtain ⟨na, nc, rfl, _⟩ := own_form h.net
    have c2 := (h.blk.at (i := 2) rfl).2
    have hpl := h.blk.lt
    have h1 : ¬ (k : Int) < (ms.length : Int) := by omega
    have h3 : (ms.length : Int) ≤ (k : Int) := by omega
    clear h
    go_enter Try.func14, Try.ntmps14
    go_wp2
    go_ret
    exact ⟨by rw [HE.out.1]; rfl, by rw [HE.out.2]; exact HSELF.out⟩
end
end Go.Proofs.Ythhkekmeginooaa.Rp
