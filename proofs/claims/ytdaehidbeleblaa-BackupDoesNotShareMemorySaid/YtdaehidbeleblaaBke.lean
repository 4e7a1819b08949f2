/- The archive: StateAt. -/
import Derived.Test.YtdaehidbeleblaaBkd
namespace Go.Proofs.Ytdaehidbeleblaa.Bk
open Go Go.RowKit Hp
open Mv (Val rowC rowC_len rowC_one rowC_get RM rmC rmC1 rmC_len rmC_get erR RecsR RecsS Srt pos has pos_le has_pos fm_len fm_take fm_drop fm_get fm_set fm_one cloneR)
set_option linter.unusedVariables false

set_option maxRecDepth 100000 in
set_option maxHeartbeats 4000000 in
theorem state_any (p : Nat) (A : Ar) (F : Nat → Prop) (t : Int) (w : World) (h : ArR w p A F) (ht : A.earl ≤ t) :
    Calls Try.prog 14 #[.pointer (some ⟨p, 0, none⟩), .int .i64 t] w fun e w' => ∃ v, e = .returned (.tuple #[v, .int .i64 0]) ∧ RecsR w' w.heap.size v (stA A t) ∧ Up w w' := by
  obtain ⟨i0, hi0, hz0, hz1, hz2⟩ := info_parts Mv.Try.infoRec
  have HR := Lib.hid h
  obtain ⟨rs, bs, cs, rv, fv, bv, cv, hP, e1, e2, e3, ok⟩ := h
  have hb0 : 0 < bs.length := by have := ok.ne; rw [← e2, List.length_map] at this; exact this
  have hb1 : bs.length ≤ 20 := by have := ok.bl; rw [← e2, List.length_map] at this; exact this
  have hc1 : cs.length ≤ 200 := by have := ok.cl; rw [← e3, List.length_map] at this; exact this
  obtain ⟨bg, bc, rfl, hbc, hbm, hbat⟩ := bak_form hP.bak hb0
  have HP := Lib.hid hP
  have HE := Lib.hid (And.intro e1 (And.intro e2 (And.intro e3 ok)))
  have HBA := Lib.hid hbat
  have a4 := (hP.blk.at (i := 4) rfl)
  have a2 := (hP.blk.at (i := 2) rfl)
  obtain ⟨hpl, c4⟩ := a4
  obtain ⟨_, c2⟩ := a2
  obtain ⟨_, c3⟩ := (hP.blk.at (i := 3) rfl)
  obtain ⟨ca, cc, rfl, hcc1, hcc2, _⟩ := own_form hP.chg
  have ht' : ¬ t < A.earl := by omega
  clear hP e1 e2 e3 ok hbat
  go_enter Try.func14, Try.ntmps14
  go_wp2
  have HBL := Lib.hid (base_zero w t (bs.map erB))
  go_loopw [27] (fun iv wr => ∃ k : Nat, k ≤ bs.length ∧ iv = .int .i64 k ∧ Hid (BaseI w wr t (bs.map erB) k)) (fun iv _ => bs.length - (intOf iv).toNat)
  case atStart => exact ⟨0, by omega, rfl, HBL.out⟩
  case round =>
    obtain ⟨k, hk, rfl, HB⟩ := hrel
    obtain ⟨bt, bv, idx, hB, hu, hq, ho⟩ := HB.out
    have q0 := hB.cell 0
    have q1 := hB.cell 1
    rw [show ([Value.int .i64 bt, bv])[0]? = some (.int .i64 bt) from rfl] at q0
    rw [show ([Value.int .i64 bt, bv])[1]? = some bv from rfl] at q1
    have f0 := hB.free 0
    have f1 := hB.free 1
    have hwl := hB.lt
    by_cases hlt : k < bs.length
    · obtain ⟨t0, t1⟩ := HBA.out k hlt
      have hbl : bg < wr.heap.size := Nat.lt_of_lt_of_le t0.1 hu.size
      have d0 := (t0.grow hu).2
      have d1 := (t1.grow hu).2
      have hbw : bg < w.heap.size := t0.1
      have HO := Lib.hid (HP.out.idx _ (List.getElem_mem hlt))
      have HQ := Lib.hid hq
      have HU := Lib.hid hu
      have HBB := Lib.hid hB
      have HER : Hid ((bs.map erB)[k]'(by rw [List.length_map]; exact hlt) = (bs[k].time, bs[k].idx)) := by unfold Hid; rw [List.getElem_map]; rfl
      generalize bs[k].time = x at *
      generalize bs[k].iv = xv at *
      generalize bs[k].idx = xi at *
      have HOO := Lib.hid ho
      obtain ⟨xa, xc, rfl, _, _, _⟩ := own_form HO.out
      obtain ⟨ya, yc, rfl, _, _, _⟩ := own_form ho
      clear t0 t1 hu hq hB ho HB
      by_cases hx : x ≤ t
      · go_wp2
        go_roundw
        case rel => exact ⟨k + 1, by omega, by go_num, base_hit (by rw [List.length_map]; exact hlt) HER.out hx HBB.out HU.out HO.out⟩
        case measure => simp [intOf]; omega
      · go_wp2
        go_roundw
        case rel => exact ⟨k + 1, by omega, by go_num, base_miss (by rw [List.length_map]; exact hlt) HER.out hx HBB.out HU.out HQ.out HOO.out⟩
        case measure => simp [intOf]; omega
    · obtain rfl : k = bs.length := by omega
      obtain ⟨ba, bcc, rfl, _, _, _⟩ := own_form ho
      have HQ := Lib.hid hq
      have HU := Lib.hid hu
      have HBB := Lib.hid hB
      have HOO := Lib.hid ho
      obtain ⟨hbq, hil, hilt, hsrt⟩ := base_info HE.out.2.2.2 HE.out.2.1 hq
      have HBQ := Lib.hid hbq
      have HIL := Lib.hid hilt
      have HSR := Lib.hid hsrt
      have c0 := (HP.out.blk.at (i := 0) rfl)
      obtain ⟨_, c0⟩ := c0
      have hrl : rs.length = A.recs.length := by rw [← HE.out.1, List.length_map]
      have HRL := Lib.hid hrl
      have hii := own_src ho
      have HII := Lib.hid hii
      clear hu hq hB ho HB hbq hilt hsrt hrl hii
      go_wp2
      have HST : Hid (StI w wr bt (.slice ba idx.length bcc) (.slice none 0 0) []) := ⟨RecsR.nil _ _, HU.out, HBB.out⟩
      go_loopw [9, 40] (fun sv iv wq => ∃ j : Nat, j ≤ idx.length ∧ iv = .int .i64 j ∧ Hid (StI w wq bt (.slice ba idx.length bcc) sv (stB A.recs (idx.take j)))) (fun _ iv _ => idx.length - (intOf iv).toNat)
      case atStart => exact ⟨0, by omega, rfl, HST.out⟩
      case round =>
        obtain ⟨j, hj, rfl, HS⟩ := hrel
        obtain ⟨⟨gs, g1, g2, g3, g4⟩, hu2, hB2⟩ := HS.out
        obtain ⟨sa, sc, rfl, _, _, _⟩ := own_form g2
        have G1 := Lib.hid g1
        have G2 := Lib.hid g2
        have G3 := Lib.hid g3
        have G4 := Lib.hid g4
        have U2 := Lib.hid hu2
        have B2 := Lib.hid hB2
        have hgl : gs.length ≤ 40 := by have := congrArg List.length g1; rw [List.length_map] at this; rw [this]; unfold stB; rw [List.length_map, List.length_take]; omega
        clear g1 g2 g3 g4 hu2 hB2
        by_cases hlt2 : j < idx.length
        · obtain ⟨ib, io, rfl, hic⟩ := Mv.src_at HII.out (by omega)
          have ix0 := hic _ _ (icN_get idx j hlt2)
          have hib := ix0.1
          have ix1 := (ix0.grow U2.out).2
          have hri : idx[j] < rs.length := by rw [HRL.out]; exact HIL.out _ (List.getElem_mem hlt2)
          have hre : Hid (recD A.recs idx[j] = (rs[idx[j]].key, rs[idx[j]].row)) := by
            unfold Hid recD
            rw [← HE.out.1]
            simp [List.getD, hri, erR]
          have STK := Lib.hid (stB_take A.recs idx j hlt2)
          obtain ⟨rg, rcap, hrv, hrc1, hrc2, hrg, hrat, _⟩ := own_some HP.out.rcs (by omega)
          subst hrv
          have r0 := hrat _ _ (rmC_get rs _ hri).1
          have r1 := hrat _ _ (rmC_get rs _ hri).2
          have RR := Lib.hid (own_src (HP.out.rrow _ (List.getElem_mem hri)))
          have hrow : rs[idx[j]].row.length ≤ 6 := (HE.out.2.2.2.rr (erR rs[idx[j]]) (by rw [← HE.out.1]; exact List.mem_map.2 ⟨_, List.getElem_mem hri, rfl⟩)).2
          obtain ⟨xa, xc, hxv⟩ := Mv.src_rn RR.out
          rw [hxv] at r1 RR
          have k0 := (U2.out.cell (p := ⟨p, 0, none⟩) hpl).trans c0
          have k1 := (U2.out.cell (p := ⟨rg, idx[j] * 2, none⟩) hrg).trans r0
          have k2 := (U2.out.cell (p := ⟨rg, idx[j] * 2 + 1, none⟩) hrg).trans r1
          have hrl := HRL.out
          have hbig := HE.out.2.2.2.big
          have hri2 : idx[j] < 100000 := by omega
          have hrl2 : rs.length ≤ 100000 := by omega
          clear hrat r0 r1 hic ix0 hxv hrl hbig
          generalize rs[idx[j]].key = key at *
          generalize rs[idx[j]].row = row at *
          generalize idx[j] = ri at *
          have hpq : p < wr.heap.size := Nat.lt_of_lt_of_le hpl U2.out.size
          have hrq : rg < wr.heap.size := Nat.lt_of_lt_of_le hrg U2.out.size
          have hri3 : (ri : Int) < (rs.length : Int) := by omega
          go_wp2
          have HC : Hid (∀ W, Up wr W → Calls Try.prog 22 #[.slice xa row.length xc] W fun e w' => ∃ v, e = .returned v ∧ w'.ownsRow W.heap.size 34 3 v row.length (rowC row) ∧ Up W w') := fun W hu => cloneR _ _ _ W ((RR.out.up U2.out).up hu) (rowC_one row) (by omega)
          go_region_law (first
            | (refine step_go (f := 22) Try.call22 #[.slice xa row.length xc] (by simp [Act.eval, Act.put]) (HC.out _ (by first | exact Up.refl wr | exact (Up.refl wr).drew)) ?_
               rintro e w2 ⟨v, rfl, h1, h2⟩
               refine ⟨_, rfl, ?_⟩
               obtain ⟨va, vc, rfl, _, _, _⟩ := own_form h1
               have h2' : Up wr w2 := (Up.refl wr).drew.trans h2
               have r0 := (h2'.cell (p := ⟨p, 0, none⟩) hpq).trans k0
               have r1 := (h2'.cell (p := ⟨rg, ri * 2, none⟩) hrq).trans k1
               have r2 := (h2'.cell (p := ⟨rg, ri * 2 + 1, none⟩) hrq).trans k2
               have hp1 : p < w2.heap.size := Nat.lt_of_lt_of_le hpq h2'.size
               have hr1 : rg < w2.heap.size := Nat.lt_of_lt_of_le hrq h2'.size
               have H2 := Lib.hid h1
               have H3 := Lib.hid h2'
               clear h1 h2 h2')
            | (refine step_append_lies _ rfl (.tmp 44) (.tmp 63) 36 rfl w.heap.size 40 i0 (.agg #[.string ByteArray.empty, .slice none 0 0]) 2 40 Try.underlying36 hi0 hz0 hz1 hz2 rfl (by decide) (.slice sa gs.length sc) gs.length (rmC gs) (by simp [Act.eval]) (by first | exact own_up G2.out (H3.out.alloc _)) ⟨w2.heap.size, 0, none⟩ 1 1 [.string key, .slice va row.length vc] (by simp [Act.eval]) rfl (cells_new w2 #[.string key, .slice va row.length vc] 40) (by intro u hu; simp at hu; rcases hu with rfl | rfl <;> rfl) (by omega) (by unfold maxLen; omega) (by omega) (by have := U2.out.size; have := H3.out.size; simp; omega) (w2.heap.size + 1) (by simp) ?_
               intro g2 c2 w3 hown2 hgrow2 hat2 hlt2
               have hown2 := Lib.hid hown2
               have hgrow2 := Lib.hid hgrow2
               have hat2 := Lib.hid hat2))
          all_goals
            go_wp2
            go_roundw
            case rel => exact ⟨j + 1, by omega, by go_num, by unfold Hid; rw [STK.out, hre.out]; exact sti_snoc U2.out B2.out G1.out G2.out G3.out G4.out H2.out H3.out hown2.out hgrow2.out⟩
            case measure => simp [intOf]; omega
        · obtain rfl : j = idx.length := by omega
          have k3 := (U2.out.cell (p := ⟨p, 3, none⟩) hpl).trans c3
          have HIX : Hid (idx.take idx.length = idx) := List.take_length
          rw [HIX.out] at G1
          have L0 := Lib.hid (congrArg List.length G1.out)
          go_wp2
          have HST2 : Hid (StI w wr bt (.slice ba idx.length bcc) (.slice sa gs.length sc) (foldC (stB A.recs idx) bt t ((cs.map erCh).take 0))) := ⟨⟨gs, G1.out, G2.out, G3.out, G4.out⟩, U2.out, B2.out⟩
          have hcsl : (cs.map erCh).length = cs.length := List.length_map _
          clear c2 k3
          have SRT : Hid (∀ k, Srt (foldC (stB A.recs idx) bt t ((cs.map erCh).take k)) ∧ (foldC (stB A.recs idx) bt t ((cs.map erCh).take k)).length ≤ 300) := fun k => by
            obtain ⟨h1, h2⟩ := foldC_ok HSR.out bt t ((cs.map erCh).take k)
            refine ⟨h1, ?_⟩
            have : ((cs.map erCh).take k).length ≤ cs.length := by rw [List.length_take, hcsl]; omega
            have : (stB A.recs idx).length ≤ 40 := by unfold stB; rw [List.length_map]; exact hil
            omega
          go_loopw [9, 71] (fun sv iv wq => ∃ k : Nat, k ≤ cs.length ∧ iv = .int .i64 k ∧ Hid (StI w wq bt (.slice ba idx.length bcc) sv (foldC (stB A.recs idx) bt t ((cs.map erCh).take k)))) (fun _ iv _ => cs.length - (intOf iv).toNat)
          case atStart => exact ⟨0, by omega, rfl, HST2.out⟩
          case round =>
            clear U2 B2 G1 G2 G3 G4 L0 hgl
            obtain ⟨k, hk, rfl, HS3⟩ := hrel
            obtain ⟨⟨qs, g1, g2, g3, g4⟩, hu2, hB2⟩ := HS3.out
            obtain ⟨va, vc, rfl, hvc1, hvc2, _⟩ := own_form g2
            have hql : qs.length ≤ 300 := by have := congrArg List.length g1; rw [List.length_map] at this; rw [this]; exact (SRT.out k).2
            have hsr := Lib.hid (SRT.out k).1
            by_cases hlt3 : k < cs.length
            · have FT := foldC_take (stB A.recs idx) bt t (cs.map erCh) k (by rw [hcsl]; exact hlt3)
              rw [List.getElem_map, show (erCh cs[k]).time = cs[k].time from rfl] at FT
              generalize foldC (stB A.recs idx) bt t ((cs.map erCh).take k) = S at *
              have FT := Lib.hid FT
              have G1 := Lib.hid g1
              have G2 := Lib.hid g2
              have G3 := Lib.hid g3
              have G4 := Lib.hid g4
              have U2 := Lib.hid hu2
              have B2 := Lib.hid hB2
              obtain ⟨cg, ccap, hcv, hcg1, hcg2, hcat⟩ := chg_form HP.out.chg (by omega)
              simp only [Value.slice.injEq] at hcv
              obtain ⟨rfl, _, rfl⟩ := hcv
              obtain ⟨x0, x1, x2⟩ := hcat k hlt3
              have CRW := Lib.hid (own_src (HP.out.crow _ (List.getElem_mem hlt3)))
              have hcrow : cs[k].row.length ≤ 6 := (HE.out.2.2.2.ch (erCh cs[k]) (by rw [← HE.out.2.2.1]; exact List.mem_map.2 ⟨_, List.getElem_mem hlt3, rfl⟩)).2
              obtain ⟨xa, xc, hxv⟩ := Mv.src_rn CRW.out
              rw [hxv] at x2 CRW
              have y0 := (x0.grow hu2).2
              have y1 := (x1.grow hu2).2
              have y2 := (x2.grow hu2).2
              have hcw : cg < w.heap.size := x0.1
              have bq := hB2.cell 0
              rw [show ([Value.int .i64 bt, Value.slice ba idx.length bcc])[0]? = some (.int .i64 bt) from rfl] at bq
              have hwl := hB2.lt
              clear x0 x1 x2 hcat hxv g1 g2 g3 g4 hu2 hB2 HS3
              rw [show erCh cs[k] = ⟨cs[k].time, cs[k].key, cs[k].row⟩ from rfl] at FT
              generalize cs[k].time = ct at *
              generalize cs[k].key = key at *
              generalize cs[k].row = row at *
              by_cases hin : bt < ct ∧ ct ≤ t
              · obtain ⟨hin1, hin2⟩ := hin
                have FT2 := FT.out
                rw [if_pos ⟨hin1, hin2⟩] at FT2
                have FT3 := Lib.hid FT2
                clear FT FT2
                obtain ⟨i, hi⟩ : ∃ i, pos S key = i := ⟨_, rfl⟩
                have PI := Lib.hid hi
                by_cases hh : has S key = true
                · obtain ⟨hp1, hp2⟩ := has_pos hh
                  rw [hi] at hp1
                  have hiq : i < qs.length := by rw [← G1.out, List.length_map] at hp1; exact hp1
                  have hiq2 : (i : Int) + 1 ≤ (qs.length : Int) := by omega
                  have HKY : Hid (qs[i].key = key) := by
                    unfold Hid
                    have : (S[pos S key]'(by rw [hi]; exact hp1)).1 = (S[i]'hp1).1 := by simp only [hi]
                    rw [← hp2, this]
                    simp only [← G1.out, List.getElem_map]
                    rfl
                  clear hp2 hp1 hi
                  rcases Nat.eq_zero_or_pos row.length with h0 | h0
                  · have CH : Hid (chStep S ⟨ct, key, row⟩ = S.take i ++ S.drop (i + 1)) := by unfold Hid chStep; rw [if_pos hh, if_pos h0, PI.out]
                    rw [h0] at y2
                    go_wp2_with (first
                      | (go_at_call 26; refine (Mv.del_any _ _ _ _ _ (own_base' (own_up G2.out H4.out) (fun _ _ => Nat.zero_le _)) hiq (by omega) (rmC_one qs G3.out)).mono ?_; rintro e w3 ⟨v3, rfl, h5, h6, h7⟩; have H5 := Lib.hid h5; have H6 := Lib.hid h6; have H7 := Lib.hid h7; clear h5 h6 h7)
                      | (go_at_call 23; refine (search_any _ qs S key _ G1.out (own_up G2.out ((Up.refl wr).alloc _)) hsr.out (by omega)).mono ?_; rw [PI.out, hh]; rintro e w2 ⟨rfl, h4⟩; have z1 := ((At.new wr #[.int .i64 ct, .string key, .slice xa 0 xc] 63 1 _ rfl).grow h4).2; have z2 := ((At.new wr #[.int .i64 ct, .string key, .slice xa 0 xc] 63 2 _ rfl).grow h4).2; have hzl : wr.heap.size < w2.heap.size := (by have := h4.size; simp at this; omega); have H4 := Lib.hid (((Up.refl wr).alloc _).trans h4); clear h4)
                      | fail)
                    go_roundw
                    case rel => exact ⟨k + 1, by omega, by go_num, by unfold Hid; rw [FT3.out, CH.out]; exact sti_cut U2.out B2.out G1.out G2.out G3.out G4.out H4.out H5.out H6.out H7.out hiq⟩
                    case measure => simp [intOf]; omega
                  · have h00 : ¬ row.length = 0 := by omega
                    have h01 : ((row.length : Int) == 0) = false := beq_eq_false_iff_ne.2 (by omega)
                    have CH : Hid (chStep S ⟨ct, key, row⟩ = S.set i (key, row)) := by unfold Hid chStep; rw [if_pos hh, if_neg h00, PI.out]
                    obtain ⟨sg, scp, hsv, _, _, hsg, _, hsf⟩ := own_some G2.out (by omega)
                    simp only [Value.slice.injEq] at hsv
                    obtain ⟨rfl, _, rfl⟩ := hsv
                    clear hsf
                    go_wp2_with (first
                      | (go_at_call 22; refine (cloneR _ _ _ _ ((CRW.out.up U2.out).up H4.out) (rowC_one row) (by omega)).mono ?_; rintro e w3 ⟨v3, rfl, h5, h6⟩; obtain ⟨v3a, v3c, rfl, _, _, _⟩ := own_form h5; obtain ⟨sg', scp', hsv', _, _, hsg', hsc', hsf'⟩ := own_some (own_up G2.out (H4.out.trans h6)) (by omega); simp only [Value.slice.injEq, Option.some.injEq, Addr.mk.injEq] at hsv'; obtain ⟨⟨rfl, _, _⟩, _, rfl⟩ := hsv'; have hsf2 := hsf' (i * 2 + 1); have hsc2 := hsc' _ _ (rmC_get qs i hiq).2; clear hsf' hsc'; have H5 := Lib.hid h5; have H6 := Lib.hid h6; clear h5 h6)
                      | (go_at_call 23; refine (search_any _ qs S key _ G1.out (own_up G2.out ((Up.refl wr).alloc _)) hsr.out (by omega)).mono ?_; rw [PI.out, hh]; rintro e w2 ⟨rfl, h4⟩; have z1 := ((At.new wr #[.int .i64 ct, .string key, .slice xa row.length xc] 63 1 _ rfl).grow h4).2; have z2 := ((At.new wr #[.int .i64 ct, .string key, .slice xa row.length xc] 63 2 _ rfl).grow h4).2; have hzl : wr.heap.size < w2.heap.size := (by have := h4.size; simp at this; omega); have H4 := Lib.hid (((Up.refl wr).alloc _).trans h4); clear h4)
                      | fail)
                    go_roundw
                    case rel => exact ⟨k + 1, by omega, by go_num, by unfold Hid; rw [FT3.out, CH.out]; exact sti_set U2.out B2.out G1.out G2.out G3.out G4.out H4.out H5.out H6.out hiq HKY.out⟩
                    case measure => simp [intOf]; omega
                · have hh : has S key = false := by simpa using hh
                  have hpl2 := pos_le S key
                  rw [hi] at hpl2
                  have hiq : i ≤ qs.length := by rw [← G1.out, List.length_map] at hpl2; exact hpl2
                  clear hpl2 hi
                  rcases Nat.eq_zero_or_pos row.length with h0 | h0
                  · have CH : Hid (chStep S ⟨ct, key, row⟩ = S) := by unfold Hid chStep; rw [if_neg (by rw [hh]; decide), if_pos h0]
                    rw [h0] at y2
                    go_wp2_with (first
                      | (go_at_call 23; refine (search_any _ qs S key _ G1.out (own_up G2.out ((Up.refl wr).alloc _)) hsr.out (by omega)).mono ?_; rw [PI.out, hh]; rintro e w2 ⟨rfl, h4⟩; have z1 := ((At.new wr #[.int .i64 ct, .string key, .slice xa 0 xc] 63 1 _ rfl).grow h4).2; have z2 := ((At.new wr #[.int .i64 ct, .string key, .slice xa 0 xc] 63 2 _ rfl).grow h4).2; have hzl : wr.heap.size < w2.heap.size := (by have := h4.size; simp at this; omega); have H4 := Lib.hid (((Up.refl wr).alloc _).trans h4); clear h4)
                      | fail)
                    go_roundw
                    case rel => exact ⟨k + 1, by omega, by go_num, by unfold Hid; rw [FT3.out, CH.out]; exact ⟨⟨qs, G1.out, own_up G2.out H4.out, fun r hr => own_up (G3.out r hr) H4.out, G4.out⟩, U2.out.trans H4.out, B2.out.below H4.out B2.out.lt⟩⟩
                    case measure => simp [intOf]; omega
                  · have h00 : ¬ row.length = 0 := by omega
                    have h01 : ((row.length : Int) == 0) = false := beq_eq_false_iff_ne.2 (by omega)
                    have h02 : (0 : Int) < (row.length : Int) := by omega
                    have CH : Hid (chStep S ⟨ct, key, row⟩ = S.take i ++ (key, row) :: S.drop i) := by unfold Hid chStep; rw [if_neg (by rw [hh]; decide), if_neg h00, PI.out]
                    go_wp2_with (first
                      | (go_at_call 23; refine (search_any _ qs S key _ G1.out (own_up G2.out ((Up.refl wr).alloc _)) hsr.out (by omega)).mono ?_; rw [PI.out, hh]; rintro e w2 ⟨rfl, h4⟩; have z1 := ((At.new wr #[.int .i64 ct, .string key, .slice xa row.length xc] 63 1 _ rfl).grow h4).2; have z2 := ((At.new wr #[.int .i64 ct, .string key, .slice xa row.length xc] 63 2 _ rfl).grow h4).2; have hzl : wr.heap.size < w2.heap.size := (by have := h4.size; simp at this; omega); have H4 := Lib.hid (((Up.refl wr).alloc _).trans h4); clear h4)
                      | fail)
                    have HC : Hid (∀ W, Up w2 W → Calls Try.prog 22 #[.slice xa row.length xc] W fun e w' => ∃ v, e = .returned v ∧ w'.ownsRow W.heap.size 34 3 v row.length (rowC row) ∧ Up W w') := fun W hu => cloneR _ _ _ W (((CRW.out.up U2.out).up H4.out).up hu) (rowC_one row) (by omega)
                    go_region_law (first
                      | (refine step_go (f := 22) Try.call22 #[.slice xa row.length xc] (by simp [Act.eval]) (HC.out _ (by first | exact Up.refl w2 | exact (Up.refl w2).drew)) ?_
                         rintro e w3 ⟨v, rfl, h1, h2⟩
                         refine ⟨_, rfl, ?_⟩
                         obtain ⟨v3a, v3c, rfl, _, _, _⟩ := own_form h1
                         have h2' : Up w2 w3 := (Up.refl w2).drew.trans h2
                         have r1 := (h2'.cell (p := ⟨wr.heap.size, 1, none⟩) hzl).trans z1
                         have r2 := (h2'.cell (p := ⟨wr.heap.size, 2, none⟩) hzl).trans z2
                         have hp1 : wr.heap.size < w3.heap.size := Nat.lt_of_lt_of_le hzl h2'.size
                         have HINS : Hid (Calls Try.prog 27 #[.slice va qs.length vc, .int .i64 i, .slice (some ⟨w3.heap.size, 0, none⟩) 1 1] (w3.alloc (.cells #[.string key, .slice v3a row.length v3c] 40)) fun e w' => ∃ v', e = .returned v' ∧ w'.ownsRow 0 40 2 v' (qs.length + 1) ((rmC qs).take (i * 2) ++ [.string key, .slice v3a row.length v3c] ++ (rmC qs).drop (i * 2)) ∧
                             (w3.alloc (.cells #[.string key, .slice v3a row.length v3c] 40)).grownBy w' (Value.slice va qs.length vc).ownBlock ∧ (v'.ownBlock = (Value.slice va qs.length vc).ownBlock ∨ ∃ g, v'.ownBlock = some g ∧ (w3.alloc (.cells #[.string key, .slice v3a row.length v3c] 40)).heap.size ≤ g)) :=
                           Mv.ins_any _ _ _ _ _ _ _ (own_base' (own_up G2.out ((H4.out.trans h2').alloc _)) fun _ _ => Nat.zero_le _) hiq (by omega) (Blk.new w3 _ _) rfl (fun e => by have := own_lt (own_up G2.out (H4.out.trans h2')) _ e; omega) (rmC_one qs G3.out) (by intro u hu; simp at hu; rcases hu with rfl | rfl <;> rfl)
                         have H5 := Lib.hid h1
                         have H6 := Lib.hid h2'
                         clear h1 h2 h2')
                      | (refine step_go (f := 27) Try.call27 #[.slice va qs.length vc, .int .i64 i, .slice (some ⟨w3.heap.size, 0, none⟩) 1 1] (by simp [Act.eval]) HINS.out ?_
                         rintro e w4 ⟨v4, rfl, h7, h8, h9⟩
                         refine ⟨_, rfl, ?_⟩
                         have H7 := Lib.hid h7
                         have H8 := Lib.hid h8
                         have H9 := Lib.hid h9
                         clear h7 h8 h9))
                    all_goals
                      go_wp2
                      go_roundw
                      case rel => exact ⟨k + 1, by omega, by go_num, by unfold Hid; rw [FT3.out, CH.out]; exact sti_put U2.out B2.out G1.out G2.out G3.out G4.out H4.out H5.out H6.out H7.out H8.out (H9.out.imp id fun ⟨g, e, hg⟩ => ⟨g, e, by simp at hg; omega⟩) hiq⟩
                      case measure => simp [intOf]; omega
              · have FT2 := FT.out
                rw [if_neg hin] at FT2
                have FT3 := Lib.hid FT2
                clear FT FT2
                have hin2 : ct ≤ bt ∨ (¬ ct ≤ bt ∧ t < ct) := by omega
                clear hin
                rcases hin2 with hin | ⟨hin, hin2⟩
                all_goals
                  go_wp2
                  go_roundw
                  case rel => exact ⟨k + 1, by omega, by go_num, by unfold Hid; rw [FT3.out]; exact ⟨⟨qs, G1.out, own_up G2.out ((Up.refl wr).alloc _), fun r hr => own_up (G3.out r hr) ((Up.refl wr).alloc _), G4.out⟩, U2.out.alloc _, B2.out.below ((Up.refl wr).alloc _) B2.out.lt⟩⟩
                  case measure => simp [intOf]; omega
            · obtain rfl : k = cs.length := by omega
              have G1 := Lib.hid g1
              have G2 := Lib.hid g2
              have G3 := Lib.hid g3
              have G4 := Lib.hid g4
              have U2 := Lib.hid hu2
              clear g1 g2 g3 g4 hu2 hB2 HS3
              have ST : Hid (foldC (stB A.recs idx) bt t ((cs.map erCh).take cs.length) = stA A t) := by
                unfold Hid stA
                rw [HBQ.out, ← hcsl, List.take_length, HE.out.2.2.1]
              go_wp2_with (first
                | (go_at_call 28; refine (Mv.cloneRec _ _ _ _ (own_src G2.out) (rmC_one qs G3.out) (by omega)).mono ?_; rintro e w3 ⟨v3, rfl, h5, h6⟩; obtain ⟨v3a, v3c, rfl, _, _, _⟩ := own_form h5; have H5 := Lib.hid h5; have H6 := Lib.hid h6; clear h5 h6)
                | fail)
              go_ret2
              refine ⟨_, rfl, ?_, U2.out.trans H6.out⟩
              rw [← ST.out]
              exact ⟨qs, G1.out, own_base' H5.out fun k hk => by have := ((own_ty H5.out) k hk).2; have := U2.out.size; omega, fun r hr => own_up (G3.out r hr) H6.out, G4.out⟩
end Go.Proofs.Ytdaehidbeleblaa.Bk
