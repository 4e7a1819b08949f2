/- The archive: Prune. -/
import Derived.Test.YtdaehidbeleblaaBko
namespace Go.Proofs.Ytdaehidbeleblaa.Bk
open Go Go.RowKit Hp
open Mv (Val rowC rowC_len rowC_one rowC_get RM rmC rmC1 rmC_len rmC_get erR RecsR RecsS Srt pos has pos_le has_pos fm_len fm_take fm_drop fm_get fm_set fm_one cloneR)
set_option linter.unusedVariables false

def PrunePost (p : Nat) (A : Ar) (F : Nat → Prop) (t : Int) (w : World) (e : Ending) (w' : World) : Prop :=
  ∃ A' n, e = .returned (.int .i64 0) ∧ ArPost p A' F w w' ∧ PrA A A' t n
set_option maxRecDepth 100000 in
set_option maxHeartbeats 8000000 in
theorem prune_any (p : Nat) (A : Ar) (F : Nat → Prop) (t : Int) (w : World) (h : ArR w p A F) (h1 : 0 ≤ t) (h2 : t ≤ 1099511627776) :
    Calls Try.prog 20 #[.pointer (some ⟨p, 0, none⟩), .int .i64 t] w (PrunePost p A F t w) := by
  have HR := Lib.hid h
  have h1' : ¬ t < 0 := by omega
  have h2' : ¬ 1099511627776 < t := by omega
  obtain ⟨rs, bs, cs, rv, fv, bv, cv, hP, e1, e2, e3, ok⟩ := h
  have hbl : bs.length = A.baks.length := by rw [← e2, List.length_map]
  have hb0 : 0 < bs.length := by rw [hbl]; exact ok.ne
  have hb1 : bs.length ≤ 20 := by rw [hbl]; exact ok.bl
  have hrb : rs.length ≤ 100000 := by have := ok.big; rw [← e1, List.length_map] at this; exact this
  have HBL := Lib.hid hbl
  obtain ⟨bg, bc, rfl, hbc1, hbc2, hbat⟩ := bak_form hP.bak hb0
  have hbgl := (hbat 0 hb0).1.1
  have HBAT := Lib.hid hbat
  have HP := Lib.hid hP
  have HE := Lib.hid (And.intro e1 (And.intro e2 (And.intro e3 ok)))
  obtain ⟨hpl, c2⟩ := (hP.blk.at (i := 2) rfl)
  have HBT : Hid (∀ i (h : i < bs.length), (A.baks.getD i (0, [])).1 = bs[i].time) := fun i h => by
    simp only [← e2, List.getD, List.getElem?_map, List.getElem?_eq_getElem h]
    rfl
  unfold PrunePost
  clear hP e1 e2 e3 ok hbl hbat
  go_enter Try.func20, Try.ntmps20
  go_wp2
  obtain ⟨W, hW⟩ : ∃ W, W = w.alloc (.cells #[.pointer (some ⟨p, 0, none⟩)] 24) := ⟨_, rfl⟩
  have HU0 : Hid (Up w W) := by rw [hW]; exact (Up.refl w).alloc _
  have HTB : Hid (Blk W w.heap.size [.pointer (some ⟨p, 0, none⟩)] 24) := by rw [hW]; exact Blk.new w _ _
  have HL : Hid (∀ j, ((A.baks.drop j).flatMap Prod.snd).length ≤ 800) := fun j => by
    have h1 := flat_len (l := A.baks.drop j) fun b hb => HE.out.2.2.2.il b (List.mem_of_mem_drop hb)
    rw [List.length_drop] at h1
    have := HE.out.2.2.2.bl
    omega
  have HEB : Hid (∀ j (h : j < bs.length) (h' : j < A.baks.length), A.baks[j].2 = bs[j].idx) := fun j h h' => by
    simp only [← HE.out.2.1, List.getElem_map]
    rfl
  have ST : Hid (PrM w W p F A bs cs rv fv (.slice (some ⟨bg, 0, none⟩) bs.length bc) cv (A.baks.flatMap Prod.snd)) := ⟨rs, A.refs, HP.out.up HU0.out, by rw [HE.out.1]; exact pri_start HE.out.2.2.2, Below.chg F HU0.out, by rw [← HE.out.1, List.length_map]⟩
  rw [← hW]
  have tb0 := (HTB.out.at (i := 0) rfl).2
  have tbl := HTB.out.lt
  have pc2 := (HU0.out.cell (p := ⟨p, 2, none⟩) hpl).trans c2
  have hplW : p < W.heap.size := Nat.lt_of_lt_of_le hpl HU0.out.size
  have hbgW : bg < W.heap.size := Nat.lt_of_lt_of_le hbgl HU0.out.size
  clear hW
  go_loopw [5] (fun nv wr => ∃ n : Nat, n < bs.length ∧ nv = .int .i64 n ∧ wr = W ∧ (n = 0 ∨ (A.baks.getD n (0, [])).1 ≤ t)) (fun nv _ => bs.length - (intOf nv).toNat)
  case atStart => exact ⟨0, hb0, rfl, (by first | rfl | trivial), .inl rfl⟩
  case round =>
    obtain ⟨n, hn, rfl, hww, hnt⟩ := hrel
    replace hww := hww.symm
    subst hww
    have HNT := Lib.hid hnt
    clear hnt
    by_cases hgo : n + 1 < bs.length ∧ (A.baks.getD (n + 1) (0, [])).1 ≤ t
    · obtain ⟨hlt, htm⟩ := hgo
      have HTM := Lib.hid htm
      rw [HBT.out (n + 1) hlt] at htm
      have b0 := (HU0.out.cell (p := ⟨bg, (n + 1) * 2, none⟩) hbgl).trans (HBAT.out (n + 1) hlt).1.2
      have hlt' : (n : Int) + 1 < (bs.length : Int) := by omega
      generalize bs[n + 1].time = bt at *
      go_wp2
      go_roundw
      case rel => exact ⟨n + 1, by omega, by go_num, (by first | rfl | trivial), .inr HTM.out⟩
      case measure => simp [intOf]; omega
    · have hex : ¬ n + 1 < bs.length ∨ ∃ h : n + 1 < bs.length, ¬ bs[n + 1].time ≤ t := by
        by_cases h : n + 1 < bs.length
        · exact .inr ⟨h, fun e => hgo ⟨h, by rw [HBT.out (n + 1) h]; exact e⟩⟩
        · exact .inl h
      clear hgo
      rcases hex with hex | ⟨hlt, hex⟩
      rotate_left
      have b0 := (HU0.out.cell (p := ⟨bg, (n + 1) * 2, none⟩) hbgl).trans (HBAT.out (n + 1) hlt).1.2
      have hlt' : (n : Int) + 1 < (bs.length : Int) := by omega
      generalize bs[n + 1].time = bt at *
      rotate_left
      have hlt' : ¬ (n : Int) + 1 < (bs.length : Int) := by omega
      all_goals
        have hnb : (n : Int) ≤ (bc : Int) := by omega
        go_wp2
        go_loopw [46] (fun iv wr => ∃ j : Nat, j ≤ n ∧ iv = .int .i64 j ∧ Hid (PrM w wr p F A bs cs rv fv (.slice (some ⟨bg, 0, none⟩) bs.length bc) cv ((A.baks.drop j).flatMap Prod.snd)) ∧ Hid (Blk wr w.heap.size [.pointer (some ⟨p, 0, none⟩)] 24)) (fun iv _ => n - (intOf iv).toNat)
        case atStart => exact ⟨0, by omega, rfl, by rw [List.drop_zero]; exact ST.out, HTB.out⟩
        case round =>
          obtain ⟨j, hj, rfl, HD, HT⟩ := hrel
          by_cases hlt : j < n
          · have hjb : j < bs.length := by omega
            have hjA : j < A.baks.length := by rw [← HBL.out]; exact hjb
            have FC := flat_cons hjA 0 rfl
            rw [HEB.out j hjb hjA] at FC
            have HL2 := HL.out (j + 1)
            have HIL : bs[j].idx.length ≤ 40 := by rw [← HEB.out j hjb hjA]; exact HE.out.2.2.2.il _ (List.getElem_mem hjA)
            generalize hR : (A.baks.drop (j + 1)).flatMap Prod.snd = R at *
            have HRR := Lib.hid hR
            clear hR
            have HD2 : Hid (PrM w wr p F A bs cs rv fv (.slice (some ⟨bg, 0, none⟩) bs.length bc) cv (bs[j].idx.drop 0 ++ R)) := by rw [← FC]; exact HD.out
            have tb1 := (HT.out.at (i := 0) rfl).2
            have tbl1 := HT.out.lt
            obtain ⟨_, _, a1, _, _, _⟩ := HD2.out
            have hx := a1.idx _ (List.getElem_mem hjb)
            obtain ⟨ya, yc, hyv, hyc1, hyc2, _⟩ := own_form hx
            obtain ⟨bg', bc', hbv, _, _, hbgr, hbat, _⟩ := own_some a1.bak hb0
            simp only [Value.slice.injEq, Option.some.injEq, Addr.mk.injEq, and_true, true_and] at hbv
            obtain ⟨rfl, rfl⟩ := hbv
            have d0 := hbat _ _ (bmC_get bs j hjb).1
            have d1 := hbat _ _ (bmC_get bs j hjb).2
            rw [hyv] at d1
            have HMEM := Lib.hid (List.getElem_mem hjb)
            have hjn : (j : Int) < (n : Int) := by omega
            have HDA : Hid (PrM w (wr.alloc (.cells #[.int .i64 bs[j].time, .slice ya bs[j].idx.length yc] 55)) p F A bs cs rv fv (.slice (some ⟨bg, 0, none⟩) bs.length bc) cv (bs[j].idx.drop 0 ++ R)) := HD2.out.up ((Up.refl wr).alloc _)
            have HTA : Hid (Blk (wr.alloc (.cells #[.int .i64 bs[j].time, .slice ya bs[j].idx.length yc] 55)) w.heap.size [.pointer (some ⟨p, 0, none⟩)] 24) := HT.out.up ((Up.refl wr).alloc _)
            have HYV := Lib.hid hyv
            clear hx hbat a1 hyv FC HD HD2
            generalize bs[j].time = tj at *
            generalize hxs : bs[j].idx = xs at *
            go_wp2
            go_loopw [53] (fun iv wr => ∃ k : Nat, k ≤ xs.length ∧ iv = .int .i64 k ∧ Hid (PrM w wr p F A bs cs rv fv (.slice (some ⟨bg, 0, none⟩) bs.length bc) cv (xs.drop k ++ R)) ∧ Hid (Blk wr w.heap.size [.pointer (some ⟨p, 0, none⟩)] 24)) (fun iv _ => xs.length - (intOf iv).toNat)
            case atStart => exact ⟨0, by omega, rfl, HDA.out, HTA.out⟩
            case round =>
              clear HDA HTA d0 d1 tb1 tbl1 hbgr HT
              obtain ⟨k, hk, rfl, HD, HT⟩ := hrel
              by_cases hlk : k < xs.length
              · have hrest : xs.drop k ++ R = xs[k] :: (xs.drop (k + 1) ++ R) := by rw [List.drop_eq_getElem_cons hlk]; rfl
                have hcl : ∀ i, (xs.drop (k + 1) ++ R).count i ≤ 1000 := fun i => by
                  have := List.count_le_length (a := i) (l := xs.drop (k + 1) ++ R)
                  rw [List.length_append, List.length_drop] at this
                  omega
                rw [hrest] at HD
                obtain ⟨rs', refs, a1, a2, a3, a4⟩ := HD.out
                have hxm := hxs.symm
                have hx := a1.idx _ HMEM.out
                rw [HYV.out] at hx
                have hg0 : xs[k] = bs[j].idx[k]'(by rw [hxs]; exact hlk) := by simp only [hxs]
                obtain ⟨yg, yc', hyv, _, _, hyg, hyat, _⟩ := own_some hx (by rw [hxs]; omega)
                simp only [Value.slice.injEq] at hyv
                obtain ⟨rfl, _, rfl⟩ := hyv
                have y0 := hyat _ _ (icN_get bs[j].idx k (by rw [hxs]; exact hlk))
                rw [← hg0] at y0
                obtain ⟨r1, r2⟩ := pri_ref a2
                have hi0 : xs[k] < rs'.length := by have := a2.lt _ (List.mem_cons_self ..); rwa [List.length_map] at this
                have hcb := hcl xs[k]
                generalize xs[k] = i0 at *
                generalize hcc : (xs.drop (k + 1) ++ R).count i0 = c at *
                obtain ⟨fg, fcp, hfv, _, _, hfg, hfat, hff⟩ := own_some a1.ref (by omega)
                subst hfv
                have f0 := hfat _ _ (icN_get refs i0 r1)
                have hr2 : refs[i0] = c + 1 := by simp only [List.getD, List.getElem?_eq_getElem r1, Option.getD_some] at r2; exact r2
                rw [hr2] at f0
                have f1 := hff i0
                obtain ⟨rg, rcp, hrv, _, _, hrg, hrat, hrf⟩ := own_some a1.rcs (by omega)
                subst hrv
                have g0 := hrat _ _ (rmC_get rs' i0 hi0).1
                have g1 := hrat _ _ (rmC_get rs' i0 hi0).2
                have g2 := hrf (i0 * 2)
                have g3 := hrf (i0 * 2 + 1)
                obtain ⟨hpw, p0⟩ := (a1.blk.at (i := 0) rfl)
                obtain ⟨_, p1⟩ := (a1.blk.at (i := 1) rfl)
                have tb1 := (HT.out.at (i := 0) rfl).2
                have tbl1 := HT.out.lt
                have hne1 : ¬ fg = p := fun e => by subst e; exact ((own_ty a1.ref) _ rfl).1.ne (E' := 59) (by decide) (blk_ty a1.blk)
                have hne2 : ¬ p = fg := fun e => hne1 e.symm
                have hne3 : ¬ fg = w.heap.size := fun e => by have h1 := a1.refF fg rfl; have := HR.out.lt fg h1; omega
                have hne4 : ¬ w.heap.size = fg := fun e => hne3 e.symm
                have hne5 : ¬ fg = rg := fun e => by subst e; exact ((own_ty a1.ref) _ rfl).1.ne (by decide) ((own_ty a1.rcs) _ rfl).1
                have hne6 : ¬ rg = fg := fun e => hne5 e.symm
                have hne7 : ¬ rg = w.heap.size := fun e => by have h1 := a1.rcsF rg rfl; have := HR.out.lt rg h1; omega
                have hi1 : (i0 : Int) < (refs.length : Int) := by omega
                have hi2 : (i0 : Int) < (rs'.length : Int) := by omega
                have hkx : (k : Int) < (xs.length : Int) := by omega
                have KK := Lib.hid (PrM.keep a1 a2 a3 a4)
                have KZ : Hid (c = 0 → PrM w (((wr.setCell ⟨fg, i0, none⟩ (.int .i64 ((xs.drop (k + 1) ++ R).count i0 : Nat))).setCell ⟨rg, i0 * 2, none⟩ (.string ByteArray.empty)).setCell ⟨rg, i0 * 2 + 1, none⟩ (.slice none 0 0)) p F A bs cs (.slice (some ⟨rg, 0, none⟩) rs'.length rcp) (.slice (some ⟨fg, 0, none⟩) refs.length fcp) (.slice (some ⟨bg, 0, none⟩) bs.length bc) cv (xs.drop (k + 1) ++ R)) := fun e => PrM.zero a1 a2 a3 a4 (by rw [hcc]; exact e)
                rw [hcc] at KK KZ
                clear hyat hfat hff hrat hrf a1 a2 a3 a4 hx HD hrest r2 hr2 hg0 hcc hcl hxm
                by_cases hc0 : c = 0
                · subst hc0
                  go_wp2
                  go_roundw
                  case rel => exact ⟨k + 1, by omega, by go_num, KZ.out rfl, HT.out.chg ((((chg_set wr fg i0 none (.int .i64 0)).mono (S' := fun j => j = fg ∨ j = rg) (fun _ _ e => .inl e)).set (b := rg) (.inl (.inr rfl)) (i0 * 2) none (.string ByteArray.empty)).set (b := rg) (.inl (.inr rfl)) (i0 * 2 + 1) none (.slice none 0 0)) (fun e => e.elim (fun e => hne4 e) fun e => hne7 e.symm)⟩
                  case measure => simp [intOf]; omega
                · have hc1 : ¬ (c : Int) = 0 := by omega
                  have hc2 : ((c : Int) == 0) = false := beq_eq_false_iff_ne.2 hc1
                  go_wp2
                  go_roundw
                  case rel => exact ⟨k + 1, by omega, by go_num, KK.out.2, HT.out.chg (chg_set wr fg i0 none _) (fun e => hne4 e)⟩
                  case measure => simp [intOf]; omega
              · obtain rfl : k = xs.length := by omega
                rw [List.drop_length, List.nil_append] at HD
                go_wp2
                go_roundw
                case rel => exact ⟨j + 1, by omega, by go_num, by rw [HRR.out]; exact HD.out, HT.out⟩
                case measure => simp [intOf]; omega
          · obtain rfl : j = n := by omega
            obtain ⟨rs', refs, a1, a2, a3, a4⟩ := HD.out
            have hnA : j < A.baks.length := by rw [← HBL.out]; exact hn
            obtain ⟨ok1, ok2⟩ := aok_prune (e := bs[j].time) HE.out.2.2.2 hnA a2
            have OK1 := Lib.hid ok1
            have OK2 := Lib.hid ok2
            have A2 := Lib.hid a2
            have A4 := Lib.hid a4
            clear a2 a4 ok1 ok2 HD
            obtain ⟨bg', bc', hbv, _, _, hbgr, hbat, _⟩ := own_some a1.bak hb0
            simp only [Value.slice.injEq, Option.some.injEq, Addr.mk.injEq, and_true, true_and] at hbv
            obtain ⟨rfl, rfl⟩ := hbv
            have SB : Hid (Src wr 2 (.slice (some ⟨bg, j * 2, none⟩) (bs.length - j) (bc - j)) (bs.length - j) (bmC (bs.drop j))) := ⟨by rw [bmC_len, List.length_drop], .inr ⟨bg, j * 2, bc - j, rfl, by omega, by omega, fun q u hq => by
              have h1 : (bmC bs).drop (j * 2) = bmC (bs.drop j) := fm_drop (f := bmC1) (k := 2) (fun _ => rfl) bs j
              rw [← h1, List.getElem?_drop] at hq
              exact ⟨hbgr, hbat _ _ hq⟩⟩⟩
            have HONE : Hid (∀ u ∈ bmC (bs.drop j), u.oneCell' = true) := fun u hu => by
              obtain ⟨b, hb, hu⟩ := List.mem_flatMap.1 hu
              obtain ⟨xa, xc, hxv, _⟩ := own_form (a1.idx b (List.mem_of_mem_drop hb))
              simp only [bmC1, List.mem_cons, List.mem_nil_iff, or_false] at hu
              rcases hu with rfl | rfl
              · rfl
              · rw [hxv]; rfl
            have HC : Hid (∀ W, Up wr W → Calls Try.prog 33 #[.slice (some ⟨bg, j * 2, none⟩) (bs.length - j) (bc - j)] W fun e w' => ∃ v, e = .returned v ∧ w'.ownsRow W.heap.size 55 2 v (bs.length - j) (bmC (bs.drop j)) ∧ Up W w') := fun W hu => Mv.cloneFB _ _ _ W (SB.out.up hu) HONE.out (by omega)
            obtain ⟨hpw, p2⟩ := (a1.blk.at (i := 2) rfl)
            have AP := Lib.hid a1
            have A3 := Lib.hid a3
            have tb1 := (HT.out.at (i := 0) rfl).2
            have tbl1 := HT.out.lt
            have hjc : (j : Int) ≤ (bs.length : Int) := by omega
            have hbcj : ¬ bc = j := by omega
            clear a1 a3 hbat
            go_wp2
            refine region_split (fun a a' W => ∃ v : Value, Hid (PrF w W p F rs' refs (bs.drop j) cs A.earl rv fv v cv) ∧ a' = ((((((((((a.put (some 83) (.pointer (some ⟨p, 0, none⟩))).put (some 84) (.pointer (some ⟨p, 0, none⟩))).put (some 85) (.pointer (some ⟨p, 0, none⟩))).put (some 86) (.pointer (some ⟨p, 2, none⟩))).put (some 87) (.slice (some ⟨bg, 0, none⟩) bs.length bc)).put (some 88) (.int .i64 j)).put (some 89) (.slice (some ⟨bg, j * 2, none⟩) (bs.length - j) (bc - j))).put (some 90) v).put (some 91) (.pointer (some ⟨p, 0, none⟩))).put (some 92) (.pointer (some ⟨p, 2, none⟩)))) ?_ ?_
            · simp only [Act.put, List.setIfInBounds_toArray, List.set_cons_zero, List.set_cons_succ]
              go_region_law (first
                | (refine step_go (f := 33) Try.call33 #[.slice (some ⟨bg, j * 2, none⟩) (bs.length - j) (bc - j)] (by simp [Act.eval] <;> rfl) (HC.out _ (by first | exact Up.refl wr | exact (Up.refl wr).drew)) ?_
                   rintro e w3 ⟨v3, rfl, h5, h6⟩
                   refine ⟨_, rfl, ?_⟩
                   obtain ⟨va, vc, rfl, _, _, _⟩ := own_form h5
                   have U3 : Up wr w3 := (Up.refl wr).drew.trans h6
                   have T3 := HT.out.up U3
                   have s1 := (T3.at (i := 0) rfl).2
                   have tbl3 := T3.lt
                   have B3 := AP.out.blk.up U3
                   have hp3 := B3.lt
                   have q1 := (B3.at (i := 2) rfl).2
                   have q2 := B3.free 2
                   have FIN := Lib.hid (PrF.bak AP.out HR.out.lt A3.out HT.out U3 (bs' := bs.drop j) (v := .slice va (bs.length - j) vc) (by rw [List.length_drop]; exact h5) fun b hb => List.mem_of_mem_drop hb)
                   clear h5 h6 U3 T3 B3)
                | fail)
              all_goals exact OnNormal.of ⟨_, FIN.out, rfl⟩
            · simp only [Act.put, List.setIfInBounds_toArray, List.set_cons_zero, List.set_cons_succ]
              rintro a' W5 ⟨v, hf, rfl⟩
              have HF := Lib.hid hf.out
              clear hf
              go_wp2
              obtain ⟨g2, c2', hv2, _, _, hg2, hat2, _⟩ := own_some HF.out.ar.bak (by rw [List.length_drop]; omega)
              subst hv2
              have hdr : bs.drop j = bs[j] :: bs.drop (j + 1) := List.drop_eq_getElem_cons hn
              have t0 := hat2 0 (.int .i64 bs[j].time) (by rw [hdr]; rfl)
              have hdl : 0 < (bs.drop j).length := by rw [List.length_drop]; omega
              have s1 := (HF.out.tb.at (i := 0) rfl).2
              have s1l := HF.out.tb.lt
              have BB := HF.out.ar.blk
              have s2 := (BB.at (i := 2) rfl).2
              have s3 := (BB.at (i := 4) rfl).2
              have s4 := BB.free 4
              have s5 := BB.lt
              have hdl' : (0 : Int) < ((bs.drop j).length : Int) := by omega
              have hne1 : ¬ g2 = p := fun e => by subst e; exact ((own_ty HF.out.ar.bak) _ rfl).1.ne (E' := 59) (by decide) (blk_ty BB)
              have hne2 : ¬ w.heap.size = p := ne_tb HF.out.ar HF.out.tb
              have hne3 : ¬ p = w.heap.size := fun e => hne2 e.symm
              have hne4 : ¬ p = g2 := fun e => hne1 e.symm
              clear hat2 hdr
              have HPF := Lib.hid AP.out.fp
              have HBTJ := Lib.hid (HBT.out j hn)
              obtain ⟨tj, htj⟩ : ∃ tj, tj = bs[j].time := ⟨_, rfl⟩
              rw [← htj] at t0
              have HTJ := Lib.hid htj
              clear htj
              obtain ⟨bn, hbn⟩ : ∃ bn, (bs.drop j).length = bn := ⟨_, rfl⟩
              have HBN := Lib.hid hbn
              rw [hbn] at HF s2 hdl hdl' BB
              clear hbn
              have k2 := ((BB.set 4 (.int .i64 tj)).at (i := 2) rfl).2
              have k1 := ((chg_set W5 p 4 none (.int .i64 tj)).cell (o := 0) s1l hne2).trans s1
              have k3 := ((chg_set W5 p 4 none (.int .i64 tj)).cell (o := 0) hg2 hne1).trans t0
              clear BB
              go_region_held3 (fun w' => w'.cell? ⟨w.heap.size, 0, none⟩ = some (.pointer (some ⟨p, 0, none⟩)) ∧ w'.cell? ⟨p, 2, none⟩ = some (.slice (some ⟨g2, 0, none⟩) bn c2') ∧ w'.cell? ⟨g2, 0, none⟩ = some (.int .i64 tj)) (first | exact ⟨k1, k2, k3⟩ | go_keep) (fail)
              clear k1 k2 k3
              have FE := Lib.hid ((HF.out.earl (e' := tj) HR.out.lt HPF.out).up HR.out.lt ((Up.refl _).drew))
              obtain ⟨W6, hW6⟩ : ∃ W6, W6 = (W5.setCell ⟨p, 4, none⟩ (.int .i64 tj)).drew := ⟨_, rfl⟩
              rw [← hW6] at FE ⊢
              clear hW6 s1 s2 s3 s4 s5 t0 HF s1l hg2
              obtain ⟨ca, cc, rfl, _, _, _⟩ := own_form FE.out.ar.chg
              have t1 := (FE.out.tb.at (i := 0) rfl).2
              have t1l := FE.out.tb.lt
              have t2 := (FE.out.ar.blk.at (i := 3) rfl).2
              have t5 := FE.out.ar.blk.lt
              have hcl : cs.length ≤ 200 := by have := HE.out.2.2.2.cl; rw [← HE.out.2.2.1, List.length_map] at this; exact this
              have HDF : Hid (∀ W, Up W6 W → Calls Try.prog 34 #[.slice ca cs.length cc, (.func (.func 35) #[] #[.pointer (some ⟨w.heap.size, 0, none⟩)])] W (DelPost 0 tj (.slice ca cs.length cc) cs W)) := fun W hu => delf_any w.heap.size p tj 0 _ cs W ⟨(FE.out.tb.up hu).at rfl, (FE.out.ar.blk.up hu).at rfl⟩
                ⟨fun e => ((own_ty FE.out.ar.chg) _ e).1.ne (by decide) (blk_ty FE.out.tb), fun e => ((own_ty FE.out.ar.chg) _ e).1.ne (by decide) (blk_ty FE.out.ar.blk)⟩ (own_up FE.out.ar.chg hu) (fun c hc => by obtain ⟨xa, xc, hxv, _⟩ := own_form (FE.out.ar.crow c hc); exact ⟨_, _, _, hxv⟩) (by omega)
              go_wp2
              refine region_split (fun a a' W => ∃ v2 : Value, Hid (PrF w W p F rs' refs (bs.drop j) (keepC tj cs) tj rv fv (.slice (some ⟨g2, 0, none⟩) bn c2') v2) ∧ a' = (((((((((a.put (some 103) (.pointer (some ⟨p, 0, none⟩))).put (some 104) (.pointer (some ⟨p, 0, none⟩))).put (some 105) (.pointer (some ⟨p, 0, none⟩))).put (some 106) (.pointer (some ⟨p, 3, none⟩))).put (some 107) (.slice ca cs.length cc)).put (some 108) (.func (.func 35) #[] #[.pointer (some ⟨w.heap.size, 0, none⟩)])).put (some 109) v2).put (some 110) (.pointer (some ⟨p, 0, none⟩))).put (some 111) (.pointer (some ⟨p, 3, none⟩)))) ?_ ?_
              · simp only [Act.put, List.setIfInBounds_toArray, List.set_cons_zero, List.set_cons_succ]
                go_region_law (first
                  | (refine step_go (f := 34) Try.call34 #[.slice ca cs.length cc, (.func (.func 35) #[] #[.pointer (some ⟨w.heap.size, 0, none⟩)])] (by simp [Act.eval] <;> first | rfl | exact ⟨rfl, rfl⟩) (HDF.out _ (by first | exact Up.refl W6 | exact (Up.refl W6).drew)) ?_
                     rintro e w3 ⟨v3, rfl, h5, h6, h7⟩
                     refine ⟨_, rfl, ?_⟩
                     obtain ⟨va, vc, rfl, _, _, _⟩ := own_form h5
                     have C6 : Chg (fun k => (Value.slice ca cs.length cc).ownBlock = some k) W6 w3 := (Chg.refl (fun k => (Value.slice ca cs.length cc).ownBlock = some k) W6).drew.trans h6 fun _ _ e => e
                     have T3 := FE.out.tb.chg C6 fun e => ((own_ty FE.out.ar.chg) _ e).1.ne (by decide) (blk_ty FE.out.tb)
                     have s1 := (T3.at (i := 0) rfl).2
                     have tbl3 := T3.lt
                     have B3 := FE.out.ar.blk.chg C6 fun e => ((own_ty FE.out.ar.chg) _ e).1.ne (by decide) (blk_ty FE.out.ar.blk)
                     have hp3 := B3.lt
                     have q1 := (B3.at (i := 3) rfl).2
                     have q2 := B3.free 3
                     have FIN := Lib.hid (PrF.chgs FE.out HR.out.lt HPF.out C6 h5 h7 fun c hc => (List.mem_filter.1 hc).1)
                     clear h5 h6 h7 T3 B3 C6)
                  | fail)
                all_goals exact OnNormal.of ⟨_, FIN.out, rfl⟩
              · simp only [Act.put, List.setIfInBounds_toArray, List.set_cons_zero, List.set_cons_succ]
                rintro a' W7 ⟨v2, hf, rfl⟩
                have HF := Lib.hid hf.out
                clear hf
                go_wp2
                go_ret
                have hj' : j < A.baks.length := by rw [← HBL.out]; exact hn
                refine ⟨⟨rs'.map erR, refs, A.baks.drop j, A.chgs.filter fun c => !decide (c.time ≤ tj), tj⟩, j, rfl, ⟨⟨rs', bs.drop j, keepC tj cs, rv, fv, _, v2, HF.out.ar, rfl, ?_, ?_, ?_⟩, HF.out.chg⟩, ⟨hj', HNT.out, rfl, ?_, ?_, ?_, ?_⟩⟩
                · rw [List.map_drop, HE.out.2.1]
                · rw [keepC_map, HE.out.2.2.1]
                · rw [HTJ.out]; exact OK1.out
                · show tj = _; rw [HBTJ.out, HTJ.out]
                · rw [HBTJ.out, ← HTJ.out]
                · exact OK2.out
                · show (rs'.map erR).length = _; rw [List.length_map]; exact A4.out
end Go.Proofs.Ytdaehidbeleblaa.Bk
