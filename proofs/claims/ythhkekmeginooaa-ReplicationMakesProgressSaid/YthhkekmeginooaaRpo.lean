/- Replication: receiveEntries. -/
import Derived.Test.YthhkekmeginooaaRpn
import Derived.StillTailTactics
namespace Go.Proofs.Ythhkekmeginooaa.Rp
open Go Go.RowKit Hp
set_option linter.unusedVariables false

theorem fits_no {m : Msg} {s : Srv} (h : m.fits s = false) : s.log.length < m.idx ∨ (0 < m.idx ∧ m.idx ≤ s.log.length ∧ ¬ s.log[m.idx - 1]?.map Ent.term = some m.prev) := by
  unfold Msg.fits at h
  by_cases h1 : m.idx ≤ s.log.length
  · right
    rw [decide_eq_true h1, Bool.true_and, Bool.or_eq_false_iff] at h
    have h2 := of_decide_eq_false h.1
    exact ⟨by omega, h1, of_decide_eq_false h.2⟩
  · exact .inl (by omega)
theorem fits_yes {m : Msg} {s : Srv} (h : m.fits s = true) : m.idx ≤ s.log.length ∧ (m.idx = 0 ∨ (0 < m.idx ∧ s.log[m.idx - 1]?.map Ent.term = some m.prev)) := by
  unfold Msg.fits at h
  rw [Bool.and_eq_true, Bool.or_eq_true] at h
  refine ⟨of_decide_eq_true h.1, ?_⟩
  rcases Nat.eq_zero_or_pos m.idx with h0 | h0
  · exact .inl h0
  · exact .inr ⟨h0, of_decide_eq_true (h.2.resolve_left fun e => by have := of_decide_eq_true e; omega)⟩
/-- The cluster in the midst of receiving: nothing but the servers' row has been stored into. -/
def St (w wr : World) (p : Nat) (C : Clu) (F : Nat → Prop) (g c n : Nat) (lv nw : Value) (ms : List MM) : Prop :=
  ∃ ss, CluP wr p C (Fx F w wr) (.slice (some ⟨g, 0, none⟩) n c) lv nw ss ms ∧ Chg F w wr ∧ Chg (· = g) w wr
section
variable {w wr W : World} {p : Nat} {C : Clu} {F : Nat → Prop} {g c n : Nat} {lv nw : Value} {ms : List MM}
theorem St.up (h : St w wr p C F g c n lv nw ms) (hU : Up wr W) (hl : ∀ k, F k → k < w.heap.size) : St w W p C F g c n lv nw ms := by
  obtain ⟨ss, h1, h2, h3⟩ := h
  exact ⟨ss, (h1.up hU).mono (fun k hk => hk.imp id fun e => ⟨e.1, Nat.lt_of_lt_of_le e.2 hU.size⟩) (fx_lt hl (Nat.le_trans h2.size hU.size)), h2.trans (Below.chg F hU) fun _ _ e => e, h3.trans (Below.chg _ hU) fun _ _ e => e⟩
theorem St.setL (h : St w wr p C F g c n lv nw ms) (hU : Up wr W) (i : Nat) (hi : i < C.srv.length) (v : Value) (l : Lg) (ho : W.ownsRow wr.heap.size 44 2 v l.length (enC l)) (hl : ∀ k, F k → k < w.heap.size) :
    St w (W.setCell ⟨g, i * 4 + 2, none⟩ v) p (C.put i { C.s i with log := l }) F g c n lv nw ms := by
  obtain ⟨ss, h1, h2, h3⟩ := h
  obtain ⟨a, b⟩ := CluP.join h2 (h1.setL hU i (by rw [h1.slen]; exact hi) v l ho) hl
  exact ⟨_, a, b, (h3.trans (Below.chg _ hU) fun _ _ e => e).trans (chg_set W g (i * 4 + 2) none v) fun _ _ e => e⟩
theorem St.setC (h : St w wr p C F g c n lv nw ms) (hU : Up wr W) (i : Nat) (hi : i < C.srv.length) (x : Nat) (hl : ∀ k, F k → k < w.heap.size) :
    St w (W.setCell ⟨g, i * 4 + 1, none⟩ (Rp.nv x)) p (C.put i { C.s i with com := x }) F g c n lv nw ms := by
  obtain ⟨ss, h1, h2, h3⟩ := h
  obtain ⟨a, b⟩ := CluP.join h2 (h1.setC hU i (by rw [h1.slen]; exact hi) x) hl
  exact ⟨_, a, b, (h3.trans (Below.chg _ hU) fun _ _ e => e).trans (chg_set W g (i * 4 + 1) none (Rp.nv x)) fun _ _ e => e⟩
end
section
variable {w : World} {p : Nat} {C : Clu} {F : Nat → Prop}
set_option maxRecDepth 100000 in
set_option maxHeartbeats 4000000 in
theorem recv_any (h : CluR w p C F) (m : Msg) (ev : Value) (hev : w.ownsRow 0 44 2 ev m.ents.length (enC m.ents)) (hto : m.to < C.srv.length) (hl : (C.s m.to).log.length ≤ 60) (hidx : m.idx + m.ents.length ≤ 60) (hnet : C.net.length ≤ 100) :
    Calls Try.prog 28 #[.pointer (some ⟨p, 0, none⟩), .agg #[nv m.kind, nv m.frm, nv m.to, nv m.term, nv m.idx, nv m.prev, nv m.com, ev]] w fun e w' => e = .returned (.tuple #[]) ∧ CluPost p (C.recv m) F w w' := by
  have HLT := Lib.hid h.lt
  obtain ⟨M, hM⟩ : ∃ M, M = m := ⟨_, rfl⟩
  obtain ⟨kind, frm, tgt, term, idx, prev, com, ents⟩ := m
  simp only at hev hto hl hidx ⊢
  have HTC := Lib.hid hto
  obtain ⟨sv, lv, nw, ss, ms, h⟩ := h
  have H := Lib.hid h
  rw [← h.slen] at hto
  rw [← h.mlen] at hnet
  have HML := Lib.hid h.mlen
  obtain ⟨g, c, rfl, _, hgl, t0, t1, t2, t3, tf⟩ := h.cells tgt hto
  obtain ⟨ea, ec, rfl, he1, he2, he3⟩ := own_form hev
  have hs := h.s tgt hto
  have c0 := (h.blk.at (i := 0) rfl).2
  have hpl := h.blk.lt
  have h1 : (tgt : Int) < (ss.length : Int) := by omega
  have HEV := Lib.hid hev
  have HGB : Hid (g < w.heap.size) := hgl
  have HS := Lib.hid hs
  have HT := Lib.hid hto
  have hl0 := hl
  rw [hs] at hl0
  have HL60 : Hid (ss[tgt].log.length ≤ 60) := hl0
  clear hl hl0
  have H1 := Lib.hid (fun W (hU : Up w W) => h.setT hU tgt hto term)
  have htl : tgt * 4 < (msC ss).length := by rw [msC_len]; omega
  clear h hs hev
  go_enter Try.func28, Try.ntmps28
  have UB := Lib.hid ((Up.refl w).alloc (.cells #[nv kind, nv frm, nv tgt, nv term, nv idx, nv prev, nv com, .slice ea ents.length ec] 59))
  have BB := Blk.new w #[nv kind, nv frm, nv tgt, nv term, nv idx, nv prev, nv com, .slice ea ents.length ec] 59
  go_upto_region 1 with fail
  go_quiet (fail)
  go_upto_region 3 with fail
  have UQ : Hid (Up w ((w.alloc (.cells #[nv kind, nv frm, nv tgt, nv term, nv idx, nv prev, nv com, .slice ea ents.length ec] 59)).drewN nq)) := UB.out.drewN nq
  have BQ := BB.up ((Up.refl _).drewN nq)
  have J1 := Lib.hid (H1.out _ UQ.out)
  have G1 := Lib.hid (((Below.chg (· = g) UQ.out).trans (chg_set ((w.alloc (.cells #[nv kind, nv frm, nv tgt, nv term, nv idx, nv prev, nv com, .slice ea ents.length ec] 59)).drewN nq) g (tgt * 4) none (nv term)) fun _ _ e => e))
  have B1 := Lib.hid (BQ.chg (chg_set _ g (tgt * 4) none (nv term)) fun e => by omega)
  have hbw : w.heap.size ≤ w.heap.size := Nat.le_refl _
  have hbg : ¬ w.heap.size = g := by omega
  clear BB BQ UB UQ t0 t1 t2 t3 tf c0 hpl H1
  generalize ((w.alloc (.cells #[nv kind, nv frm, nv tgt, nv term, nv idx, nv prev, nv com, .slice ea ents.length ec] 59)).drewN nq).setCell ⟨g, tgt * 4, none⟩ (nv term) = w1 at *
  generalize hbx : w.heap.size = bx at *
  have HPA := Lib.hid (put_at C tgt { C.s tgt with term := term } HTC.out)
  obtain ⟨la, lc, q0, q1, q2, ql, qf, qg, qlc, qlc2⟩ := J1.out.1.at_ tgt (by rw [put_n]; exact HTC.out)
  rw [HPA.out] at q0 q1 q2 ql qlc
  simp only at q0 q1 q2 ql qlc
  have QL := Lib.hid ql
  obtain ⟨ss1, J1⟩ : ∃ ss1, Hid (CluP w1 p (C.put tgt { C.s tgt with term := term }) (Fx F w w1) (.slice (some ⟨g, 0, none⟩) ss.length c) lv nw ss1 ms ∧ Chg F w w1) := ⟨_, J1⟩
  have b4 := (B1.out.at (i := 4) rfl).2
  have b5 := (B1.out.at (i := 5) rfl).2
  have b7 := (B1.out.at (i := 7) rfl).2
  have bl := B1.out.lt
  obtain ⟨S, hS⟩ : ∃ S, S = C.s tgt := ⟨_, rfl⟩
  rw [← hS] at J1 q1 q2 QL qlc HPA
  have HL : Hid (S.log.length ≤ 60) := by have := HL60.out; unfold Hid; rw [hS, HS.out]; exact this
  have hl60 : S.log.length ≤ 60 := HL.out
  have HSE := Lib.hid hS
  have hidx2 : (idx : Int) ≤ 60 := by omega
  cases hf : M.fits S with
  | false =>
    have HR : Hid (C.recv ⟨kind, frm, tgt, term, idx, prev, com, ents⟩ = C.put tgt { S with term := term }) := by
      unfold Hid Clu.recv Srv.take
      subst hM
      rw [← HSE.out]
      simp only [hf]
      rfl
    have HFN := Lib.hid (fits_no hf)
    clear hf ql hS
    have FIN : ∀ W, Up w1 W → CluPost p (C.put tgt { S with term := term }) F w W := fun W hW => CluPost.up ⟨⟨_, _, _, _, _, J1.out.1⟩, J1.out.2⟩ hW (fun k hk => by rw [hbx]; exact HLT.out k hk)
    have HFIN := Lib.hid FIN
    clear FIN
    have hfn := HFN.out
    rw [hM] at hfn
    simp only at hfn
    rcases hfn with h2 | ⟨h2, h3, h4⟩
    · have h2i : (S.log.length : Int) < (idx : Int) := by omega
      go_quiet (fail)
      go_wp2
      (try simp only [Exit.inBlock, Exit.then])
      refine bodyPost_ret (results_none rfl _ _ _) rfl ?_
      exact ⟨rfl, by rw [HR.out]; exact HFIN.out _ ((Up.refl w1).drewN _)⟩
    · have h2i : ¬ (S.log.length : Int) < (idx : Int) := by omega
      have h2j : (0 : Int) < (idx : Int) := by omega
      obtain ⟨gl, cl, hlv, _, _, hgll, hlcell, _⟩ := own_some QL.out (by omega)
      simp only [Value.slice.injEq, true_and] at hlv
      obtain ⟨rfl, rfl⟩ := hlv
      have hxb : idx - 1 < S.log.length := by omega
      have x0 := hlcell _ _ (enC_get S.log (idx - 1) hxb).1
      rw [List.getElem?_eq_getElem hxb] at h4
      obtain ⟨tx, htx⟩ : ∃ tx, tx = S.log[idx - 1].term := ⟨_, rfl⟩
      have h5 : ¬ (tx : Int) = (prev : Int) := by rw [htx]; intro e; exact h4 (by show some _ = _; congr 1; omega)
      rw [← htx] at x0
      obtain ⟨x1, hx1⟩ : ∃ x1, x1 = idx - 1 := ⟨_, rfl⟩
      rw [← hx1] at x0 hxb
      have hx1i : (idx : Int) - 1 = (x1 : Int) := by omega
      have hxbi : (x1 : Int) < (S.log.length : Int) := by omega
      clear hlcell h4 htx hx1
      go_quiet (fail)
      go_wp2
      (try simp only [Exit.inBlock, Exit.then])
      refine bodyPost_ret (results_none rfl _ _ _) rfl ?_
      exact ⟨rfl, by rw [HR.out]; exact HFIN.out _ ((Up.refl w1).drewN _)⟩
  | true =>
    have HR : Hid (C.recv ⟨kind, frm, tgt, term, idx, prev, com, ents⟩ = { C.put tgt { S with term := term, com := max S.com (min com (idx + ents.length)), log := recvL S.log idx ents } with net := if C.net.length < 100 then C.net ++ [⟨2, tgt, frm, term, idx + ents.length, 0, 0, []⟩] else C.net }) := by
      unfold Hid Clu.recv Srv.take
      subst hM
      rw [← HSE.out]
      simp only [hf, Bool.true_and, decide_eq_true_eq, if_true]
      rfl
    have HFN := Lib.hid (fits_yes hf)
    clear hf ql hS
    have hfn := HFN.out
    rw [hM] at hfn
    simp only at hfn
    have h2i : ¬ (S.log.length : Int) < (idx : Int) := by omega
    have HIL := Lib.hid hfn.1
    go_cut [48] from 21 to 47 (fun s48 wx => s48 = .bool false ∧ Hid (Up w1 wx))
    case first =>
      rcases hfn.2 with h0 | ⟨h0, h4⟩
      · have h2j : ¬ (0 : Int) < (idx : Int) := by omega
        have h2k : ¬ 0 < idx := by omega
        have h2m : decide (0 < idx) = false := decide_eq_false h2k
        clear h0 hfn
        go_quiet (fail)
        go_wp2
        go_meet
        exact ⟨rfl, (Up.refl w1).drewN _⟩
      · have h2j : (0 : Int) < (idx : Int) := by omega
        obtain ⟨gl, cl, hlv, _, _, hgll, hlcell, _⟩ := own_some QL.out (by omega)
        simp only [Value.slice.injEq, true_and] at hlv
        obtain ⟨rfl, rfl⟩ := hlv
        have hxb : idx - 1 < S.log.length := by omega
        have x0 := hlcell _ _ (enC_get S.log (idx - 1) hxb).1
        rw [List.getElem?_eq_getElem hxb] at h4
        have h5 : S.log[idx - 1].term = prev := Option.some.inj h4
        rw [h5] at x0
        obtain ⟨x1, hx1⟩ : ∃ x1, x1 = idx - 1 := ⟨_, rfl⟩
        rw [← hx1] at x0 hxb
        have hx1i : (idx : Int) - 1 = (x1 : Int) := by omega
        have hxbi : (x1 : Int) < (S.log.length : Int) := by omega
        clear hlcell h4 h5 hx1 hfn
        go_quiet (fail)
        go_wp2
        go_meet
        exact ⟨rfl, (Up.refl w1).drewN _⟩
    case rest =>
      obtain ⟨rfl, U1⟩ := hcut
      have HLTB : Hid (∀ k, F k → k < w.heap.size) := by unfold Hid; rw [hbx]; exact HLT.out
      have HEA : Hid (w.heap.size = bx) := hbx
      have ST0 : Hid (St w wc p (C.put tgt { S with term := term }) F g c ss.length lv nw ms ∧ Blk wc bx [nv kind, nv frm, nv tgt, nv term, nv idx, nv prev, nv com, .slice ea ents.length ec] 59) := ⟨St.up ⟨ss1, J1.out.1, J1.out.2, G1.out⟩ U1.out HLTB.out, B1.out.up U1.out⟩
      have b7' := (ST0.out.2.at (i := 7) rfl).2
      have bl' := ST0.out.2.lt
      clear q0 q1 q2 qf qg qlc qlc2 b4 b5 b7 bl J1 B1 U1 h2i hfn hbg hbw HPA
      go_wp2
      go_loopw [52] (fun iv wr => ∃ k : Nat, iv = .int .i64 (k : Int) ∧ k ≤ ents.length ∧ Hid (St w wr p (C.put tgt { S with term := term, log := recvL S.log idx (ents.take k) }) F g c ss.length lv nw ms ∧ Blk wr bx [nv kind, nv frm, nv tgt, nv term, nv idx, nv prev, nv com, .slice ea ents.length ec] 59)) (fun iv _ => ents.length - (intOf iv).toNat)
      case atStart => exact ⟨0, rfl, Nat.zero_le _, ST0⟩
      case round =>
        obtain ⟨k, rfl, hk, SR⟩ := hrel
        by_cases hlt : k < ents.length
        · have hli := recvL_ge (ents.take k) S.log idx HIL.out
          have hl6 := recvL_le (ents.take k) S.log idx 60 (by omega) (by rw [List.length_take]; omega)
          rw [List.length_take, show min k ents.length = k by omega] at hli
          obtain ⟨L, hL⟩ : ∃ L, L = recvL S.log idx (ents.take k) := ⟨_, rfl⟩
          have HLE := Lib.hid hL
          rw [← hL] at hli hl6 SR
          clear hL
          obtain ⟨n, hn⟩ : ∃ n, n = idx + k := ⟨_, rfl⟩
          have HN := Lib.hid hn
          rw [← hn] at hli
          have hni : (idx : Int) + (k : Int) = (n : Int) := by omega
          have hnp : (0 : Int) ≤ (n : Int) := by omega
          have hn6 : (n : Int) ≤ 60 := by omega
          have hkx : (k : Int) ≤ 60 := by omega
          have hki : (k : Int) < (ents.length : Int) := by omega
          obtain ⟨ssx, hp, hch, hcg⟩ := SR.out.1
          obtain ⟨la, lc, q0, q1, q2, ql, qf, qg, qlc, qlc2⟩ := hp.at_ tgt (by rw [put_n]; exact HTC.out)
          rw [put_at _ _ _ HTC.out] at q0 q1 q2 ql qlc
          simp only at q0 q1 q2 ql qlc
          have hevr := own_chg HEV.out hcg fun k hk e => by
            subst e
            exact ((own_ty HEV.out) k hk).1.ne (E' := 53) (by decide) ((own_ty H.out.srv) k rfl).1
          obtain ⟨ge, ce, hlv, _, _, hegl, hecell, _⟩ := own_some hevr (by omega)
          simp only [Value.slice.injEq, true_and] at hlv
          obtain ⟨rfl, rfl⟩ := hlv
          obtain ⟨d0, d1⟩ := enC_get ents k hlt
          have d0 := hecell _ _ d0
          have d1 := hecell _ _ d1
          obtain ⟨te, pe, hte⟩ : ∃ te pe, ents[k] = ⟨te, pe⟩ := ⟨_, _, rfl⟩
          rw [hte] at d0 d1
          simp only at d0 d1
          have HTE := Lib.hid hte
          have HST : Hid (recvL S.log idx (ents.take (k + 1)) = stepL L n ⟨te, pe⟩) := by unfold Hid; rw [List.take_succ_eq_append_getElem hlt, recvL_snoc, ← HLE.out, hte, List.length_take, show min k ents.length = k by omega, ← HN.out]
          have b4 := (SR.out.2.at (i := 4) rfl).2
          have bl := SR.out.2.lt
          have QL := Lib.hid ql
          clear hp hch hcg hevr hecell hte ql hn
          go_upto_region 8 with fail
          have BE := Blk.new wr #[nv te, .string pe] 44
          have UW := Lib.hid ((Up.refl wr).alloc (.cells #[nv te, .string pe] 44))
          have u2 := (UW.out.cell (p := ⟨g, tgt * 4 + 2, none⟩) qg).trans q2
          have ug := Nat.lt_of_lt_of_le qg UW.out.size
          have e0 := (BE.at (i := 0) rfl).2
          have e1 := (BE.at (i := 1) rfl).2
          have el := BE.lt
          have uf : ((wr.alloc (.cells #[nv te, .string pe] 44))).frozen? ⟨g, tgt * 4 + 2, none⟩ = false := by
            obtain ⟨ssx, hp, _, _⟩ := SR.out.1.up UW.out HLTB.out
            obtain ⟨_, _, _, _, _, _, qf', _⟩ := hp.at_ tgt (by rw [put_n]; exact HTC.out)
            exact qf' _
          have HBE := Lib.hid BE
          have QW := Lib.hid (own_up QL.out UW.out)
          clear d0 d1 b4 bl q0 q1 q2 qf qg BE
          generalize wr.alloc (.cells #[nv te, .string pe] 44) = W at *
          generalize hbe : wr.heap.size = be at *
          obtain ⟨b, hb⟩ : ∃ b, b = decide (L[n]?.map Ent.term = some te) := ⟨_, rfl⟩
          have HB := Lib.hid hb
          go_cut [80] from 53 to 94 (fun s80 wx => s80 = .bool b ∧ Hid (Up W wx))
          case first =>
            rcases Nat.lt_or_ge n L.length with hnl | hnl
            · obtain ⟨gl, cl, hlv, _, _, hgll, hlcell, _⟩ := own_some QW.out (by omega)
              simp only [Value.slice.injEq, true_and] at hlv
              obtain ⟨rfl, rfl⟩ := hlv
              have x0 := hlcell _ _ (enC_get L n hnl).1
              have hb2 : b = decide (L[n].term = te) := by rw [hb, List.getElem?_eq_getElem hnl]; simp
              obtain ⟨tx, htx⟩ : ∃ tx, tx = L[n].term := ⟨_, rfl⟩
              rw [← htx] at x0 hb2
              have hnli : (n : Int) < (L.length : Int) := by omega
              clear hb htx hlcell hli hl6
              by_cases htt : tx = te
              · subst htt
                have hbt : b = true := by rw [hb2]; simp
                clear hb2 HB
                subst hbt
                go_quiet (fail)
                go_wp2
                go_meet
                exact ⟨rfl, (Up.refl W).drewN _⟩
              · have htti : ¬ (tx : Int) = (te : Int) := by omega
                have httb : ((tx : Int) == (te : Int)) = false := beq_eq_false_iff_ne.2 htti
                have hbt : b = false := by rw [hb2]; simp [htt]
                clear hb2 HB
                subst hbt
                go_quiet (fail)
                go_wp2
                go_meet
                exact ⟨rfl, (Up.refl W).drewN _⟩
            · have hnli : ¬ (n : Int) < (L.length : Int) := by omega
              have hbt : b = false := by rw [hb, List.getElem?_eq_none hnl]; simp
              clear hb HB hli hl6 hnl
              subst hbt
              go_quiet (fail)
              go_wp2
              go_meet
              exact ⟨rfl, (Up.refl W).drewN _⟩
          case rest =>
            obtain ⟨rfl, U5⟩ := hcut
            clear hb
            cases b with
            | true =>
              go_wp2
              go_roundw
              case rel =>
                have hst : stepL L n ⟨te, pe⟩ = L := by unfold stepL; rw [if_pos (of_decide_eq_true HB.out.symm)]
                exact ⟨k + 1, by go_num, hlt, by rw [HST.out, hst]; exact ⟨SR.out.1.up (UW.out.trans U5.out) HLTB.out, SR.out.2.up (UW.out.trans U5.out)⟩⟩
              case measure => simp [intOf]; omega
            | false =>
              have hst : Hid (stepL L n ⟨te, pe⟩ = L.take n ++ [⟨te, pe⟩]) := by unfold Hid stepL; rw [if_neg (of_decide_eq_false HB.out.symm)]
              have hnl : n ≤ L.length := by omega
              have hnlc : (n : Int) ≤ (lc : Int) := by omega
              have HQ := Lib.hid (src_preE (own_src (own_up QW.out U5.out)) hnl)
              have v2 := (U5.out.cell (p := ⟨g, tgt * 4 + 2, none⟩) ug).trans u2
              have vg := Nat.lt_of_lt_of_le ug U5.out.size
              have BV := HBE.out.up U5.out
              have z0 := (BV.at (i := 0) rfl).2
              have z1 := (BV.at (i := 1) rfl).2
              have zl := BV.lt
              have HBV := Lib.hid BV
              have SV := Lib.hid (SR.out.1.up (UW.out.trans U5.out) HLTB.out)
              have HUV := Lib.hid (UW.out.trans U5.out)
              have HFZ : Hid (∀ W2, Up wc W2 → W2.frozen? ⟨g, tgt * 4 + 2, none⟩ = false) := fun W2 hW => by
                obtain ⟨ssx, hp, _, _⟩ := SV.out.up hW HLTB.out
                obtain ⟨_, _, _, _, _, _, qf', _⟩ := hp.at_ tgt (by rw [put_n]; exact HTC.out)
                exact qf' _
              have HCLN : Hid (∀ W2, Up wc W2 → Calls Try.prog 21 #[.slice la n lc] W2 fun e w' => ∃ a3 c3, e = .returned (.slice a3 n c3) ∧ Hid (w'.ownsRow wc.heap.size 44 2 (.slice a3 n c3) n (enC (L.take n))) ∧ Hid (Up wc w') ∧ Hid (Up W2 w')) := fun W2 hW => by
                refine (cloneE _ n _ W2 (HQ.out.up hW) (enC_one _) (by omega)).mono ?_
                rintro e w' ⟨v', rfl, a1, a2⟩
                obtain ⟨a3, c3, rfl, _⟩ := own_form a1
                exact ⟨a3, c3, rfl, own_base' a1 fun j hj => Nat.le_trans hW.size ((own_ty a1) j hj).2, hW.trans a2, a2⟩
              obtain ⟨ie, hie, hze0, hze1, hze2⟩ := info_parts Try.infoEn
              have HCL1 := Lib.hid (HCLN.out _ (Up.refl wc).drew)
              have HCL2 := Lib.hid (HCLN.out _ ((Up.refl wc).alloc (.cells #[nv te, .string pe] 44)).drew)
              have HNW : Hid (∀ w3, Up (wc.alloc (.cells #[nv te, .string pe] 44)).drew w3 → ∀ (j : Nat) u, [nv te, .string pe][j]? = some u → w3.cell? ((⟨wc.heap.size, 0, none⟩ : Addr).add j) = some u) := fun w3 hu j u hj => (hu.cell (p := (⟨wc.heap.size, 0, none⟩ : Addr).add j) (by rw [show ((⟨wc.heap.size, 0, none⟩ : Addr).add j).block = wc.heap.size by unfold Addr.add; split <;> rfl]; simp)).trans (cells_new wc #[nv te, .string pe] 44 j u hj)
              clear BV u2 ug uf e0 e1 el
              go_wp2
              go_region_law (first
                | (go_simp; go_at_call 21; refine HCL1.out.mono ?_; rintro e w3 ⟨a3, c3, rfl, O3, U3, U3'⟩; have B3 := HBV.out.up U3.out; have y0 := (B3.at (i := 0) rfl).2; have y1 := (B3.at (i := 1) rfl).2; have yl := B3.lt; have yv := (U3.out.cell (p := ⟨g, tgt * 4 + 2, none⟩) vg).trans v2; have yg := Nat.lt_of_lt_of_le vg U3.out.size; clear B3)
                | (go_simp; go_at_call 21; refine HCL2.out.mono ?_; rintro e w3 ⟨a3, c3, rfl, O3, U3, U3'⟩; have NW3 := Lib.hid (HNW.out _ U3'.out); have B3 := HBV.out.up U3.out; have y0 := (B3.at (i := 0) rfl).2; have y1 := (B3.at (i := 1) rfl).2; have yl := B3.lt; have yv := (U3.out.cell (p := ⟨g, tgt * 4 + 2, none⟩) vg).trans v2; have yg := Nat.lt_of_lt_of_le vg U3.out.size; clear B3)
                | (refine step_append_lies _ rfl (.tmp 88) (.tmp 90) 33 rfl wc.heap.size 44 ie (.agg #[.int .i64 0, .string ByteArray.empty]) 2 24 Try.underlying33 hie hze0 hze1 hze2 rfl (by decide) (.slice a3 n c3) n _ (by simp [Act.eval]) O3.out ⟨wc.heap.size, 0, none⟩ 1 1 [nv te, .string pe] (by simp [Act.eval]) rfl NW3.out (by intro u' hu'; simp at hu'; rcases hu' with rfl | rfl <;> rfl) (by decide) (by unfold maxLen; omega) (by omega) U3.out.size _ rfl ?_
                   intro g9 c9 w9 hown9 hgrow9 hat9 hlt9
                   have HO9 := Lib.hid hown9
                   have U9 : Hid (Up wc w9) := Below.grown (U3.out) hgrow9 (U3.out).size fun j hj => ((own_ty O3.out) j hj).2
                   have qf := HFZ.out w9 U9.out
                   have qg := Nat.lt_of_lt_of_le vg U9.out.size
                   have q2 := (U9.out.cell (p := ⟨g, tgt * 4 + 2, none⟩) vg).trans v2
                   clear hown9 hgrow9 hat9)
                | (refine step_append_lies _ rfl (.tmp 88) (.tmp 90) 33 rfl wc.heap.size 44 ie (.agg #[.int .i64 0, .string ByteArray.empty]) 2 24 Try.underlying33 hie hze0 hze1 hze2 rfl (by decide) (.slice a3 n c3) n _ (by simp [Act.eval]) (own_up O3.out ((Up.refl w3).alloc _)) ⟨w3.heap.size, 0, none⟩ 1 1 [nv te, .string pe] (by simp [Act.eval]) rfl (cells_new w3 #[nv te, .string pe] 44) (by intro u' hu'; simp at hu'; rcases hu' with rfl | rfl <;> rfl) (by decide) (by unfold maxLen; omega) (by omega) (by have := U3.out.size; simp; omega) _ rfl ?_
                   intro g9 c9 w9 hown9 hgrow9 hat9 hlt9
                   have HO9 := Lib.hid hown9
                   have U9 : Hid (Up wc w9) := Below.grown (U3.out.trans ((Up.refl w3).alloc _)) hgrow9 (U3.out.trans ((Up.refl w3).alloc _)).size fun j hj => ((own_ty O3.out) j hj).2
                   have qf := HFZ.out w9 U9.out
                   have qg := Nat.lt_of_lt_of_le vg U9.out.size
                   have q2 := (U9.out.cell (p := ⟨g, tgt * 4 + 2, none⟩) vg).trans v2
                   clear hown9 hgrow9 hat9)
                | fail)
              all_goals
                go_wp2
                go_roundw
                case rel =>
                  have hl1 : (L.take n ++ [(⟨te, pe⟩ : Ent)]).length = n + 1 := by rw [List.length_append, List.length_take, List.length_singleton]; omega
                  have key := SV.out.setL U9.out tgt (by rw [put_n]; exact HTC.out) (.slice (some ⟨g9, 0, none⟩) (n + 1) c9) (L.take n ++ [⟨te, pe⟩]) (by rw [hl1, enC_app]; exact HO9.out) HLTB.out
                  rw [put_at _ _ _ HTC.out, put_put] at key
                  exact ⟨k + 1, by go_num, hlt, by rw [HST.out, hst.out]; exact ⟨key, (SR.out.2.up (HUV.out.trans U9.out)).chg (chg_set w9 g (tgt * 4 + 2) none _) (by intro e; have := HGB.out; omega)⟩⟩
                case measure => simp [intOf]; omega
        · obtain rfl : k = ents.length := by omega
          rw [List.take_length] at SR
          obtain ⟨L, hL⟩ : ∃ L, L = recvL S.log idx ents := ⟨_, rfl⟩
          rw [← hL] at SR HR
          clear hL
          obtain ⟨ssx, hp, hch, hcg⟩ := SR.out.1
          obtain ⟨la, lc, q0, q1, q2, ql, qf, qg, qlc, qlc2⟩ := hp.at_ tgt (by rw [put_n]; exact HTC.out)
          rw [put_at _ _ _ HTC.out] at q0 q1
          simp only at q0 q1
          obtain ⟨na, nc, rfl, hn1, hn2, hn3⟩ := own_form hp.net
          have b1 := (SR.out.2.at (i := 1) rfl).2
          have b2 := (SR.out.2.at (i := 2) rfl).2
          have b3 := (SR.out.2.at (i := 3) rfl).2
          have b4 := (SR.out.2.at (i := 4) rfl).2
          have b6 := (SR.out.2.at (i := 6) rfl).2
          have b7 := (SR.out.2.at (i := 7) rfl).2
          have bl := SR.out.2.lt
          obtain ⟨z, hz⟩ : ∃ z, z = idx + ents.length := ⟨_, rfl⟩
          rw [← hz] at HR
          have hzi : (idx : Int) + (ents.length : Int) = (z : Int) := by omega
          have hz0 : (0 : Int) ≤ (z : Int) := by omega
          have hz6 : (z : Int) ≤ 60 := by omega
          have hle6 : (ents.length : Int) ≤ 60 := by omega
          obtain ⟨sc, hsc⟩ : ∃ sc, sc = S.com := ⟨_, rfl⟩
          rw [← hsc] at q1 HR SR hp
          obtain ⟨m0, hm0⟩ : ∃ m0, m0 = min com z := ⟨_, rfl⟩
          obtain ⟨y, hy⟩ : ∃ y, y = max sc m0 := ⟨_, rfl⟩
          have hmin1 : (if (z : Int) < (com : Int) then (z : Int) else (com : Int)) = (m0 : Int) := by split <;> omega
          have hmin2 : min (com : Int) (z : Int) = (m0 : Int) := by omega
          have hmax1 : (if (sc : Int) < (m0 : Int) then (m0 : Int) else (sc : Int)) = (y : Int) := by split <;> omega
          have hmax2 : max (sc : Int) (m0 : Int) = (y : Int) := by omega
          rw [← hm0, ← hy] at HR
          have q1f := qf (tgt * 4 + 1)
          have HNB := Lib.hid hp.blk
          clear hz hm0 hy hsc hp hch hcg ql q2 qlc qlc2 qf
          go_upto_region 12 with fail
          go_cut [] from 101 to 112 (fun wx => Hid (St w wx p (C.put tgt { S with term := term, com := y, log := L }) F g c ss.length lv (.slice na ms.length nc) ms ∧ Blk wx bx [nv kind, nv frm, nv tgt, nv term, nv idx, nv prev, nv com, .slice ea ents.length ec] 59))
          case first =>
            go_still_tail 12, (by kernel_rfl)
            change wpList _ _ _ _ _ wr.drew
            go_wp2
            go_meet
            have key := SR.out.1.setC (Up.refl wr) tgt (by rw [put_n]; exact HTC.out) y HLTB.out
            rw [put_at _ _ _ HTC.out, put_put] at key
            exact ⟨key.up (Up.refl _).drew HLTB.out, (SR.out.2.chg (chg_set wr g (tgt * 4 + 1) none (.int .i64 (y : Int))) (by intro e; have := HGB.out; have := HEA.out; omega)).up (Up.refl _).drew⟩
          case rest =>
            have S6 := hcut
            clear hcut SR b1 b2 b3 b4 b6 b7 bl q0 q1 q1f qg hmin1 hmin2 hmax1 hmax2 HNB
            have f1 := (S6.out.2.at (i := 1) rfl).2
            have f2 := (S6.out.2.at (i := 2) rfl).2
            have f3 := (S6.out.2.at (i := 3) rfl).2
            have fl := S6.out.2.lt
            obtain ⟨ssy, hp, hch, hcg⟩ := S6.out.1
            have r2 := (hp.blk.at (i := 2) rfl).2
            have rf := hp.blk.free 2
            have rl := hp.blk.lt
            have H5 := Lib.hid hp
            have HCH := Lib.hid hch
            clear hp hch hcg
            by_cases hf : ms.length < 100
            · have hfi : (ms.length : Int) < 100 := by omega
              have hfc : C.net.length < 100 := by rw [← HML.out]; exact hf
              obtain ⟨im, him, hmz0, hmz1, hmz2⟩ := info_parts Try.infoM
              go_upto_region 14 with fail
              have HNEWS := Lib.hid (cells_new wc #[.int .i64 2, nv tgt, nv frm, nv term, nv z, .int .i64 0, .int .i64 0, .slice none 0 0] 59)
              have HUA := Lib.hid ((Up.refl wc).alloc (.cells #[.int .i64 2, nv tgt, nv frm, nv term, nv z, .int .i64 0, .int .i64 0, .slice none 0 0] 59)).drew
              have ON := Lib.hid (own_up H5.out.net HUA.out)
              have HFAR : Hid (∀ w2, ((wc.alloc (.cells #[.int .i64 2, nv tgt, nv frm, nv term, nv z, .int .i64 0, .int .i64 0, .slice none 0 0] 59)).drew).grownBy w2 (Value.slice na ms.length nc).ownBlock → Blk w2 p [.slice (some ⟨g, 0, none⟩) ss.length c, lv, .slice na ms.length nc] 51) := fun w2 hg => fld_far H5.out.blk (by decide) H5.out.net HUA.out hg
              go_region_law (first
                | (refine step_append_lies _ rfl (.tmp 123) (.tmp 132) 41 rfl 0 59 im _ 8 80 Try.underlying41 him hmz0 hmz1 hmz2 rfl (by decide) (.slice na ms.length nc) ms.length _ (by simp [Act.eval]) ON.out ⟨wc.heap.size, 0, none⟩ 1 1 [.int .i64 2, nv tgt, nv frm, nv term, nv z, .int .i64 0, .int .i64 0, .slice none 0 0] (by simp [Act.eval]) rfl HNEWS.out (by intro u' hu'; simp at hu'; rcases hu' with rfl | rfl | rfl | rfl | rfl | rfl | rfl | rfl <;> rfl) (by decide) (by unfold maxLen; omega) (by omega) (by omega) _ rfl ?_
                   intro g9 c9 w9 hown9 hgrow9 hat9 hlt9
                   have HO9 := Lib.hid hown9
                   have HG9 := Lib.hid hgrow9
                   have HA9 := Lib.hid hat9
                   have b9 := HFAR.out w9 hgrow9
                   have q2 := (b9.at (i := 2) rfl).2
                   have qf := b9.free 2
                   have ql := b9.lt
                   clear hown9 hgrow9 hat9 b9)
                | fail)
              all_goals
                go_wp2
                go_end0
                refine ⟨rfl, ?_⟩
                obtain ⟨k1, k2, k3, k4, k5, k6, k7⟩ := fld_append (i := 2) H5.out.blk (by decide) H5.out.net HUA.out HO9.out HG9.out HA9.out HUA.out.size
                have key := H5.out.netw (nw' := .slice (some ⟨g9, 0, none⟩) (ms.length + 1) c9) (ms' := ms ++ [⟨2, tgt, frm, term, z, 0, 0, .slice none 0 0, []⟩]) k4 (fun j _ e => e.symm) k1 (by
                  rw [List.length_append, mmC_app]
                  exact k2) (fun j hj => by
                  obtain rfl : g9 = j := Option.some.inj hj
                  exact k5.imp id fun e => e) (fun m hm => by
                  rcases List.mem_append.1 hm with e | e
                  · exact .inl e
                  · right
                    rw [List.mem_singleton.1 e]
                    exact ⟨World.ownsRow_nil _ _ _ _, fun j hj => (by cases hj)⟩)
                have key2 := CluP.join HCH.out key HLTB.out
                rw [HR.out, if_pos hfc, ← H.out.em, show (ms.map erM ++ [(⟨2, tgt, frm, term, z, 0, 0, []⟩ : Msg)]) = (ms ++ [(⟨2, tgt, frm, term, z, 0, 0, .slice none 0 0, []⟩ : MM)]).map erM by rw [List.map_append]; rfl]
                exact ⟨⟨_, _, _, _, _, key2.1⟩, key2.2⟩
            · have hfi : ¬ (ms.length : Int) < 100 := by omega
              have hfc : ¬ C.net.length < 100 := by rw [← HML.out]; exact hf
              go_wp2
              go_end0
              refine ⟨rfl, ?_⟩
              rw [HR.out, if_neg hfc]
              exact ⟨⟨_, _, _, _, _, H5.out⟩, HCH.out⟩
end
end Go.Proofs.Ythhkekmeginooaa.Rp
