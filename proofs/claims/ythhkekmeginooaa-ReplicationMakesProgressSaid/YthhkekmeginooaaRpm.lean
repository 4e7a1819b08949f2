/- Replication: Send. -/
import Derived.Test.YthhkekmeginooaaRpk
namespace Go.Proofs.Ythhkekmeginooaa.Rp
open Go Go.RowKit Hp
set_option linter.unusedVariables false

def Clu.sendC (C : Clu) (i tgt : Nat) : Clu := if i ≠ tgt ∧ C.isL i = true ∧ C.net.length < 100 then C.send i tgt else C
def Clu.sendE (C : Clu) (i tgt : Nat) : Int := if i = tgt then 1 else if C.isL i = true then (if C.net.length < 100 then 0 else 18) else 15
/-- A part of a log, as a slice reads it. -/
theorem src_part {w : World} {g n c x y : Nat} {log : Lg} {A : Option Addr} (h : w.ownsRow 0 44 2 (.slice (some ⟨g, 0, none⟩) n c) n (enC log)) (hn : n = log.length) (hx : x ≤ y) (hy : y ≤ n) (hc : n ≤ c) (hc2 : c ≤ 9223372036854775807) (hA : (if c = x then some (⟨g, 0, none⟩ : Addr) else some ⟨g, x * 2, none⟩) = A) :
    Src w 2 (.slice A (y - x) (c - x)) (y - x) (enC ((log.drop x).take (y - x))) := by
  have hl : ((log.drop x).take (y - x)).length = y - x := by rw [List.length_take, List.length_drop]; omega
  refine ⟨by rw [enC_len, hl], .inr ?_⟩
  by_cases e : c = x
  · rw [if_pos e] at hA
    subst hA
    refine ⟨g, 0, c - x, rfl, by omega, by omega, fun j u hj => ?_⟩
    have : j < (enC ((log.drop x).take (y - x))).length := (List.getElem?_eq_some_iff.1 hj).1
    rw [enC_len, hl] at this
    omega
  · rw [if_neg e] at hA
    subst hA
    refine ⟨g, x * 2, c - x, rfl, by omega, by omega, fun j u hj => ⟨own_glt h, own_cell h ?_⟩⟩
    rw [← enC_take, ← enC_drop, List.getElem?_take] at hj
    split at hj
    · rw [List.getElem?_drop] at hj; exact hj
    · cases hj
section
variable {w : World} {p : Nat} {C : Clu} {F : Nat → Prop} {LL : Nat → Lg} {ack : Nat → Nat → Nat}
set_option maxRecDepth 100000 in
set_option maxHeartbeats 4000000 in
theorem send_any (h : CluR w p C F) (ok : Ok C LL ack) (i tgt : Nat) (hi : i < C.srv.length) (ht : tgt < C.srv.length) :
    Calls Try.prog 13 #[.pointer (some ⟨p, 0, none⟩), .int .i64 (i : Int), .int .i64 (tgt : Int)] w fun e w' => e = .returned (.int .i64 (C.sendE i tgt)) ∧ CluPost p (C.sendC i tgt) F w w' := by
  have HV := Lib.hid (valid_any h i hi)
  have HT := Lib.hid (valid_any h tgt ht)
  have HI := Lib.hid (isl_any h i hi (ok.term hi))
  have HLT := Lib.hid h.lt
  have HSELF := Lib.hid h.self
  have hl60 := ok.loglen hi
  have hn5 := ok.n5
  have hnet := ok.net
  have HMATS := Lib.hid (fun hd => ok.mats hi hd)
  have HTN := Lib.hid ht
  obtain ⟨sv, lv, nw, ss, ms, h⟩ := h
  have H := Lib.hid h
  rw [← h.slen] at hi ht hn5
  rw [← h.mlen] at hnet
  have HML := Lib.hid h.mlen
  obtain ⟨g, c, rfl, _, hgl, t0, t1, t2, t3, tf⟩ := h.cells i hi
  have hs := h.s i hi
  have hll := h.logs _ (List.getElem_mem hi)
  have hmm := h.mats _ (List.getElem_mem hi)
  rw [hs] at hl60 HMATS
  obtain ⟨sm, hsm⟩ : ∃ sm, sm = ss[i] := ⟨_, rfl⟩
  rw [← hsm] at t0 t1 t2 t3 hl60 hll hmm hs HMATS
  clear hsm
  obtain ⟨term, com, lgv, log, mtv, mat⟩ := sm
  simp only [erS] at hl60 hll hmm t0 t1 t2 t3 HMATS hs
  have HS2 := Lib.hid hs
  obtain ⟨la, lc, rfl, hl1, hl2, hl3⟩ := own_form hll
  obtain ⟨ma, mc, rfl, hm1, hm2, hm3⟩ := own_form hmm
  obtain ⟨na, nc, rfl, hn1, hn2, hn3⟩ := own_form h.net
  have c0 := (h.blk.at (i := 0) rfl).2
  have c2 := (h.blk.at (i := 2) rfl).2
  have hpl := h.blk.lt
  have h1 : (i : Int) < (ss.length : Int) := by omega
  have HLL := Lib.hid hll
  have HMM := Lib.hid hmm
  clear h hs hll hmm
  by_cases hit : i = tgt
  · have HE : Hid (C.sendE i tgt = 1 ∧ C.sendC i tgt = C) := ⟨by unfold Clu.sendE; rw [if_pos hit], by unfold Clu.sendC; rw [if_neg (fun e => e.1 hit)]⟩
    subst hit
    go_enter Try.func13, Try.ntmps13
    go_wp2_with (first
      | (go_at_call 23; refine HV.out.mono ?_; rintro e w' ⟨rfl, rfl⟩)
      | fail)
    go_ret
    exact ⟨by rw [HE.out.1]; rfl, by rw [HE.out.2]; exact HSELF.out⟩
  · have hq : ¬ (i : Int) = (tgt : Int) := by omega
    cases hL : C.isL i with
    | false =>
      rw [hL] at HI
      have HE : Hid (C.sendE i tgt = 15 ∧ C.sendC i tgt = C) := ⟨by unfold Clu.sendE; rw [if_neg hit, hL]; rfl, by unfold Clu.sendC; rw [hL, if_neg (fun e => by cases e.2.1)]⟩
      clear hL
      go_enter Try.func13, Try.ntmps13
      go_wp2_with (first
        | (go_at_call 24; refine HI.out.mono ?_; rintro e w1 ⟨rfl, h1⟩; have U1 := Lib.hid h1; clear h1)
        | (go_at_call 23; have q9 := V1; clear q9; refine HT.out.mono ?_; rintro e w' ⟨rfl, rfl⟩)
        | (go_at_call 23; refine HV.out.mono ?_; rintro e w' ⟨rfl, rfl⟩; have V1 : Hid True := trivial)
        | fail)
      go_ret
      exact ⟨by rw [HE.out.1]; rfl, by rw [HE.out.2]; exact HSELF.out.up U1.out HLT.out⟩
    | true =>
      rw [hL] at HI
      by_cases hf : ms.length < 100
      · have hfi : ¬ (ms.length : Int) = 100 := by omega
        have hfb : ((ms.length : Int) == 100) = false := beq_eq_false_iff_ne.2 hfi
        have HE : Hid (C.sendE i tgt = 0 ∧ C.sendC i tgt = C.send i tgt) := by
          have hf' : C.net.length < 100 := by rw [← HML.out]; exact hf
          exact ⟨by unfold Clu.sendE; rw [if_neg hit, hL, if_pos rfl, if_pos hf'], by unfold Clu.sendC; rw [if_pos ⟨hit, hL, hf'⟩]⟩
        obtain ⟨hmt1, hmt2⟩ := HMATS.out hL
        have htm : tgt < mat.length := by rw [hmt1]; exact HTN.out
        obtain ⟨x, hx⟩ : ∃ x, x = mat[tgt] := ⟨_, rfl⟩
        have hxl : x ≤ log.length := by rw [hx]; exact hmt2 _ (List.getElem_mem htm)
        obtain ⟨gm, cm, hmv, _, _, hgml, hmcell, _⟩ := own_some HMM.out (by omega)
        simp only [Value.slice.injEq, true_and] at hmv
        obtain ⟨rfl, rfl⟩ := hmv
        have m0 := hmcell _ _ (icN_get mat tgt htm)
        rw [← hx] at m0
        have HX : Hid (mat.getD tgt 0 = x) := by unfold Hid; rw [hx]; simp [List.getD, htm]
        have htmi : (tgt : Int) < (mat.length : Int) := by omega
        obtain ⟨y, hy⟩ : ∃ y, y = min log.length (x + 3) := ⟨_, rfl⟩
        have hmin1 : (if (x : Int) + 3 < (log.length : Int) then (x : Int) + 3 else (log.length : Int)) = (y : Int) := by split <;> omega
        have hmin2 : min (log.length : Int) ((x : Int) + 3) = (y : Int) := by omega
        have hxy : x ≤ y := by omega
        have hyl : y ≤ log.length := by omega
        have HY : Hid ((log.drop x).take 3 = (log.drop x).take (y - x) ∧ y - x ≤ 3) := by
          refine ⟨?_, by omega⟩
          rw [show y - x = min 3 (log.drop x).length by rw [List.length_drop]; omega]
          exact List.take_eq_take_min
        have hx60 : (x : Int) ≤ 60 := by omega
        clear hL hx hmcell hy hmt1 hmt2 htm
        go_enter Try.func13, Try.ntmps13
        go_upto_region 5 with (first
          | (go_at_call 24; refine HI.out.mono ?_; rintro e w1 ⟨rfl, h1⟩; have U1 := Lib.hid h1; clear h1)
          | (go_at_call 23; have q9 := V1; clear q9; refine HT.out.mono ?_; rintro e w' ⟨rfl, rfl⟩)
          | (go_at_call 23; refine HV.out.mono ?_; rintro e w' ⟨rfl, rfl⟩; have V1 : Hid True := trivial)
          | fail)
        have u0 := (U1.out.cell (p := ⟨p, 0, none⟩) hpl).trans c0
        have u2 := (U1.out.cell (p := ⟨p, 2, none⟩) hpl).trans c2
        have ul := Nat.lt_of_lt_of_le hpl U1.out.size
        have s0 := (U1.out.cell (p := ⟨g, i * 4, none⟩) hgl).trans t0
        have s1 := (U1.out.cell (p := ⟨g, i * 4 + 1, none⟩) hgl).trans t1
        have s2 := (U1.out.cell (p := ⟨g, i * 4 + 2, none⟩) hgl).trans t2
        have s3 := (U1.out.cell (p := ⟨g, i * 4 + 3, none⟩) hgl).trans t3
        have sgl := Nat.lt_of_lt_of_le hgl U1.out.size
        have n0 := (U1.out.cell (p := ⟨gm, tgt, none⟩) hgml).trans m0
        have ngl := Nat.lt_of_lt_of_le hgml U1.out.size
        clear c0 c2 t0 t1 t2 t3 tf hpl hgl m0 hgml
        go_upto_region 10 with fail
        have BS := (Blk.new w1 #[nv term, nv com, .slice la log.length lc, .slice (some ⟨gm, 0, none⟩) mat.length mc] 53).up ((Up.refl _).alloc (.cells #[.int .i64 1, nv i, nv tgt, nv term, nv x, .int .i64 0, nv com, .slice none 0 0] 59))
        have BM := Blk.new (w1.alloc (.cells #[nv term, nv com, .slice la log.length lc, .slice (some ⟨gm, 0, none⟩) mat.length mc] 53)) #[.int .i64 1, nv i, nv tgt, nv term, nv x, .int .i64 0, nv com, .slice none 0 0] 59
        rw [show (w1.alloc (.cells #[nv term, nv com, .slice la log.length lc, .slice (some ⟨gm, 0, none⟩) mat.length mc] 53)).heap.size = w1.heap.size + 1 by simp] at BM
        have UW := Lib.hid (U1.out.trans (((Up.refl w1).alloc (.cells #[nv term, nv com, .slice la log.length lc, .slice (some ⟨gm, 0, none⟩) mat.length mc] 53)).alloc (.cells #[.int .i64 1, nv i, nv tgt, nv term, nv x, .int .i64 0, nv com, .slice none 0 0] 59)))
        have hsz := U1.out.size
        generalize (w1.alloc (.cells #[nv term, nv com, .slice la log.length lc, .slice (some ⟨gm, 0, none⟩) mat.length mc] 53)).alloc (.cells #[.int .i64 1, nv i, nv tgt, nv term, nv x, .int .i64 0, nv com, .slice none 0 0] 59) = W at *
        obtain ⟨bm, hbm⟩ : ∃ bm, bm = w1.heap.size + 1 := ⟨_, rfl⟩
        have hbs : ¬ bm = w1.heap.size := by omega
        have hbw : w.heap.size ≤ bm := by omega
        rw [← hbm] at BM ⊢
        clear hbm
        generalize w1.heap.size = bs at *
        have v2 := (BS.at (i := 2) rfl).2
        have vsl := BS.lt
        have vml := BM.lt
        have vf7 := BM.free 7
        have e7 := (BM.at (i := 7) rfl).2
        have HBS := Lib.hid BS
        have HBM := Lib.hid BM
        have hyi : (y : Int) ≤ (lc : Int) := by omega
        have hxi : (x : Int) ≤ (y : Int) := by omega
        have hx0 : (0 : Int) ≤ (x : Int) := by omega
        have hy0 : (0 : Int) ≤ (y : Int) := by omega
        clear BS BM u0 u2 ul s0 s1 s2 s3 sgl n0 ngl
        have FIN10 : Hid (∀ a3 c3 w3, Hid (w3.ownsRow W.heap.size 44 2 (.slice a3 (y - x) c3) (y - x) (enC ((log.drop x).take (y - x)))) → Hid (Up W w3) → Hid ((w3.setCell ⟨bm, 7, none⟩ (.slice a3 (y - x) c3)).ownsRow w.heap.size 44 2 (.slice a3 (y - x) c3) (y - x) (enC ((log.drop x).take (y - x)))) ∧ Hid (Blk (w3.setCell ⟨bm, 7, none⟩ (.slice a3 (y - x) c3)) bm [.int .i64 1, nv i, nv tgt, nv term, nv x, .int .i64 0, nv com, .slice a3 (y - x) c3] 59) ∧ Hid (Blk (w3.setCell ⟨bm, 7, none⟩ (.slice a3 (y - x) c3)) bs [nv term, nv com, .slice la log.length lc, .slice (some ⟨gm, 0, none⟩) mat.length mc] 53) ∧ Hid (Up w (w3.setCell ⟨bm, 7, none⟩ (.slice a3 (y - x) c3)))) := fun a3 c3 w3 o3 u3 => by
          have hc := chg_set w3 bm 7 none (.slice a3 (y - x) c3)
          refine ⟨own_base' (own_chg o3.out hc fun j hj e => by have := ((own_ty o3.out) j hj).2; have := HBM.out.lt; omega) fun j hj => Nat.le_trans UW.out.size ((own_ty o3.out) j hj).2, (HBM.out.up u3.out).set 7 _, (HBS.out.up u3.out).chg hc (fun e => hbs e.symm), Up.set (UW.out.trans u3.out) hbw 7 none _⟩
        have HCLN : Hid (∀ A, Src W 2 (.slice A (y - x) (lc - x)) (y - x) (enC ((log.drop x).take (y - x))) → Calls Try.prog 21 #[.slice A (y - x) (lc - x)] W fun e w' => ∃ a3 c3, e = .returned (.slice a3 (y - x) c3) ∧ Hid (w'.ownsRow W.heap.size 44 2 (.slice a3 (y - x) c3) (y - x) (enC ((log.drop x).take (y - x)))) ∧ Hid (Up W w')) := fun A hA => by
          refine (cloneE _ (y - x) _ W hA (enC_one _) (by have := HY.out.2; omega)).mono ?_
          rintro e w' ⟨v', rfl, a1, a2⟩
          obtain ⟨a3, c3, rfl, _⟩ := own_form a1
          exact ⟨a3, c3, rfl, a1, a2⟩
        go_cut [] from 55 to 66 (fun wx => ∃ a3 c3, Hid (wx.ownsRow w.heap.size 44 2 (.slice a3 (y - x) c3) (y - x) (enC ((log.drop x).take (y - x)))) ∧ Hid (Blk wx bm [.int .i64 1, nv i, nv tgt, nv term, nv x, .int .i64 0, nv com, .slice a3 (y - x) c3] 59) ∧ Hid (Blk wx bs [nv term, nv com, .slice la log.length lc, .slice (some ⟨gm, 0, none⟩) mat.length mc] 53) ∧ Hid (Up w wx))
        case first =>
          cases la with
          | none =>
            obtain rfl : lc = 0 := hl3 rfl
            have hx0' : x = 0 := by omega
            have hy0' : y = 0 := by omega
            subst hx0'
            subst hy0'
            have hm03 : min (log.length : Int) 3 = 0 := by omega
            have hm04 : (if (3 : Int) < (log.length : Int) then (3 : Int) else (log.length : Int)) = 0 := by split <;> omega
            have HC0 := Lib.hid (HCLN.out none ⟨by rw [enC_len]; rfl, .inl ⟨rfl, rfl⟩⟩)
            go_wp2_with (first
              | (go_at_call 21; refine HC0.out.mono ?_; rintro e w3 ⟨a3, c3, rfl, O3, U3⟩; have B3 := HBM.out.up U3.out; have g7 := (B3.at (i := 7) rfl).2; have gf := B3.free 7; have gl := B3.lt; clear B3)
              | fail)
            go_meet
            exact ⟨a3, c3, FIN10.out a3 c3 w3 O3 U3⟩
          | some la =>
            obtain ⟨gl, hgl⟩ : ∃ gl, la = ⟨gl, 0, none⟩ := by
              rcases HLL.out.2 with ⟨e, _⟩ | ⟨g', cap, cur, e, _⟩
              · cases e
              · simp only [Value.slice.injEq, Option.some.injEq] at e
                exact ⟨g', e.1⟩
            subst hgl
            obtain ⟨A, hif⟩ : ∃ A, (if lc = x then some (⟨gl, 0, none⟩ : Addr) else some ⟨gl, x * 2, none⟩) = A := ⟨_, rfl⟩
            have HC0 := Lib.hid (HCLN.out A (src_part (own_up HLL.out UW.out) rfl hxy hyl hl1 hl2 hif))
            go_wp2_with (first
              | (go_at_call 21; refine HC0.out.mono ?_; rintro e w3 ⟨a3, c3, rfl, O3, U3⟩; have B3 := HBM.out.up U3.out; have g7 := (B3.at (i := 7) rfl).2; have gf := B3.free 7; have gl := B3.lt; clear B3)
              | fail)
            go_meet
            exact ⟨a3, c3, FIN10.out a3 c3 w3 O3 U3⟩
        case rest =>
          obtain ⟨a3, c3, O3, BM3, BS3, U3⟩ := hcut
          clear FIN10 HCLN HBS HBM v2 vsl vml vf7 e7
          have v2 := (BS3.out.at (i := 2) rfl).2
          have vsl := BS3.out.lt
          have vml := BM3.out.lt
          have vf5 := BM3.out.free 5
          have e5 := (BM3.out.at (i := 5) rfl).2
          obtain ⟨P, hP⟩ : ∃ P, P = if x = 0 then 0 else (log[x - 1]?.map Ent.term).getD 0 := ⟨_, rfl⟩
          have HP := Lib.hid hP
          go_upto_if 68 with fail
          go_cut [] from 68 to 76 (fun wx => Hid (wx.ownsRow w.heap.size 44 2 (.slice a3 (y - x) c3) (y - x) (enC ((log.drop x).take (y - x)))) ∧ Hid (Blk wx bm [.int .i64 1, nv i, nv tgt, nv term, nv x, nv P, nv com, .slice a3 (y - x) c3] 59) ∧ Hid (Up w wx))
          case first =>
            rcases Nat.eq_zero_or_pos x with hx0' | hxp
            · have hP0 : P = 0 := by rw [hP, if_pos hx0']
              have hxn : ¬ (0 : Int) < (x : Int) := by omega
              have BM4 : Hid (Blk wc bm [.int .i64 1, nv i, nv tgt, nv term, nv x, nv P, nv com, .slice a3 (y - x) c3] 59) := by rw [hP0]; exact BM3.out
              clear hP hP0 hx0'
              go_wp2
              go_meet
              exact ⟨O3, BM4, U3⟩
            · obtain ⟨gl, cl, hlv, _, _, hgll, hlcell, _⟩ := own_some (own_up HLL.out U3.out) (by omega)
              simp only [Value.slice.injEq, true_and] at hlv
              obtain ⟨rfl, rfl⟩ := hlv
              have hxb : x - 1 < log.length := by omega
              have x0 := hlcell _ _ (enC_get log (x - 1) hxb).1
              have hP1 : P = log[x - 1].term := by rw [hP, if_neg (by omega), List.getElem?_eq_getElem hxb]; rfl
              rw [← hP1] at x0
              obtain ⟨x1, hx1⟩ : ∃ x1, x1 = x - 1 := ⟨_, rfl⟩
              rw [← hx1] at x0 hxb
              have hx1i : (x : Int) - 1 = (x1 : Int) := by omega
              have hxbi : (x1 : Int) < (log.length : Int) := by omega
              have hxpi : (0 : Int) < (x : Int) := by omega
              have BM4 := Lib.hid (BM3.out.set 5 (nv P))
              have hc5 := chg_set wc bm 5 none (nv P)
              have O4 : Hid ((wc.setCell ⟨bm, 5, none⟩ (nv P)).ownsRow w.heap.size 44 2 (.slice a3 (y - x) c3) (y - x) (enC ((log.drop x).take (y - x)))) := own_chg O3.out hc5 fun j hj e => by
                subst e
                exact ((own_ty O3.out) _ hj).1.ne (E' := 59) (by decide) (blk_ty BM3.out)
              have U4 : Hid (Up w (wc.setCell ⟨bm, 5, none⟩ (nv P))) := Up.set U3.out hbw 5 none _
              clear hlcell hP hP1 hx1 hc5
              go_wp2
              go_meet
              exact ⟨O4, BM4, U4⟩
          case rest =>
            obtain ⟨O5, BM5, U5⟩ := hcut
            clear O3 BM3 BS3 U3 v2 vsl vml vf5 e5 hP
            have H5 := Lib.hid (H.out.up U5.out)
            have r2 := (H5.out.blk.at (i := 2) rfl).2
            have rf := H5.out.blk.free 2
            have rl := H5.out.blk.lt
            have f0 := (BM5.out.at (i := 0) rfl).2
            have f1 := (BM5.out.at (i := 1) rfl).2
            have f2 := (BM5.out.at (i := 2) rfl).2
            have f3 := (BM5.out.at (i := 3) rfl).2
            have f4 := (BM5.out.at (i := 4) rfl).2
            have f5 := (BM5.out.at (i := 5) rfl).2
            have f6 := (BM5.out.at (i := 6) rfl).2
            have f7 := (BM5.out.at (i := 7) rfl).2
            have fl := BM5.out.lt
            obtain ⟨im, him, hmz0, hmz1, hmz2⟩ := info_parts Try.infoM
            go_upto_region 13 with fail
            have HNEWS := Lib.hid (cells_new wc #[.int .i64 1, nv i, nv tgt, nv term, nv x, nv P, nv com, .slice a3 (y - x) c3] 59)
            have HUA := Lib.hid ((Up.refl wc).alloc (.cells #[.int .i64 1, nv i, nv tgt, nv term, nv x, nv P, nv com, .slice a3 (y - x) c3] 59)).drew
            have ON := Lib.hid (own_up H5.out.net HUA.out)
            have HFAR : Hid (∀ w2, ((wc.alloc (.cells #[.int .i64 1, nv i, nv tgt, nv term, nv x, nv P, nv com, .slice a3 (y - x) c3] 59)).drew).grownBy w2 (Value.slice na ms.length nc).ownBlock → Blk w2 p [.slice (some ⟨g, 0, none⟩) ss.length c, lv, .slice na ms.length nc] 51) := fun w2 hg => fld_far H5.out.blk (by decide) H5.out.net HUA.out hg
            go_region_law (first
              | (refine step_append_lies _ rfl (.tmp 81) (.tmp 83) 41 rfl 0 59 im _ 8 80 Try.underlying41 him hmz0 hmz1 hmz2 rfl (by decide) (.slice na ms.length nc) ms.length _ (by simp [Act.eval]) ON.out ⟨wc.heap.size, 0, none⟩ 1 1 [.int .i64 1, nv i, nv tgt, nv term, nv x, nv P, nv com, .slice a3 (y - x) c3] (by simp [Act.eval]) rfl HNEWS.out (by intro u' hu'; simp at hu'; rcases hu' with rfl | rfl | rfl | rfl | rfl | rfl | rfl | rfl <;> rfl) (by decide) (by unfold maxLen; omega) (by omega) (by omega) _ rfl ?_
                 intro g9 c9 w9 hown9 hgrow9 hat9 hlt9
                 have HO9 := Lib.hid hown9
                 have HG9 := Lib.hid hgrow9
                 have HA9 := Lib.hid hat9
                 have b9 := HFAR.out w9 hgrow9
                 have q2 := (b9.at (i := 2) rfl).2
                 have qf := b9.free 2
                 have ql := b9.lt
                 clear hown9 hgrow9 hat9 b9)
              | fail)
            all_goals
              go_wp2
              go_ret
              obtain ⟨k1, k2, k3, k4, k5, k6, k7⟩ := fld_append (i := 2) H5.out.blk (by decide) H5.out.net HUA.out HO9.out HG9.out HA9.out HUA.out.size
              have hel : ((log.drop x).take (y - x)).length = y - x := by rw [List.length_take, List.length_drop]; omega
              have key := H.out.netw (nw' := .slice (some ⟨g9, 0, none⟩) (ms.length + 1) c9) (ms' := ms ++ [⟨1, i, tgt, term, x, P, com, .slice a3 (y - x) c3, (log.drop x).take (y - x)⟩]) ((Below.chg _ U5.out).trans k4 fun _ _ e => e) (fun j _ e => e.symm) k1 (by
                rw [List.length_append, mmC_app]
                exact k2) (fun j hj => by
                obtain rfl : g9 = j := Option.some.inj hj
                exact k5.imp id fun e => Nat.le_trans U5.out.size e) (fun m hm => by
                rcases List.mem_append.1 hm with e | e
                · exact .inl e
                · right
                  rw [List.mem_singleton.1 e]
                  refine ⟨?_, fun j hj => ((own_ty O5.out) j hj).2⟩
                  show World.ownsRow _ _ _ _ _ ((log.drop x).take (y - x)).length _
                  rw [hel]
                  exact own_base' (own_chg O5.out k4 fun j hj e => by
                    have ht := ((own_ty O5.out) j hj).1
                    rcases e with e | e
                    · exact ht.ne (E' := 59) (by decide) (k7 j e)
                    · subst e
                      exact ht.ne (E' := 51) (by decide) (blk_ty H5.out.blk)) fun _ _ => Nat.zero_le _)
              have e1 : ({ C with net := (ms ++ [(⟨1, i, tgt, term, x, P, com, .slice a3 (y - x) c3, (log.drop x).take (y - x)⟩ : MM)]).map erM } : Clu) = C.send i tgt := by
                unfold Clu.send Clu.msg
                rw [HS2.out, ← H.out.em, List.map_append]
                simp only [HX.out, List.map_cons, List.map_nil, erM]
                rw [HY.out.1, HP.out]
              rw [e1] at key
              exact ⟨by rw [HE.out.1]; rfl, by rw [HE.out.2]; exact ⟨⟨_, _, _, _, _, key.1⟩, key.2⟩⟩
      · have hfi : (ms.length : Int) = 100 := by omega
        have HE : Hid (C.sendE i tgt = 18 ∧ C.sendC i tgt = C) := by
          have hf' : ¬ C.net.length < 100 := by rw [← HML.out]; exact hf
          exact ⟨by unfold Clu.sendE; rw [if_neg hit, hL, if_pos rfl, if_neg hf'], by unfold Clu.sendC; rw [if_neg (fun e => hf' e.2.2)]⟩
        clear hL
        go_enter Try.func13, Try.ntmps13
        go_upto_region 5 with (first
          | (go_at_call 24; refine HI.out.mono ?_; rintro e w1 ⟨rfl, h1⟩; have U1 := Lib.hid h1; clear h1)
          | (go_at_call 23; have q9 := V1; clear q9; refine HT.out.mono ?_; rintro e w' ⟨rfl, rfl⟩)
          | (go_at_call 23; refine HV.out.mono ?_; rintro e w' ⟨rfl, rfl⟩; have V1 : Hid True := trivial)
          | fail)
        have u2 := (U1.out.cell (p := ⟨p, 2, none⟩) hpl).trans c2
        have ul := Nat.lt_of_lt_of_le hpl U1.out.size
        go_wp2
        go_ret
        exact ⟨by rw [HE.out.1]; rfl, by rw [HE.out.2]; exact HSELF.out.up U1.out HLT.out⟩
end
end Go.Proofs.Ythhkekmeginooaa.Rp
