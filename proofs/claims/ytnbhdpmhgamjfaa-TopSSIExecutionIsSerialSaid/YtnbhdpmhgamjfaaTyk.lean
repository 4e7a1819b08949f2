/- Top 16: the walk. -/
import Derived.Test.YtnbhdpmhgamjfaaTym
import Derived.Deep.RegionLawGrows
namespace Go.Proofs.Ytnbhdpmhgamjfaa.Sn
open Go Go.RowKit Hp
open Mv (Val PC PV Srt SOk pos has cnt fm_len fm_get)
open C (Tx TxR Txs tx0 Valid admV admL cur wk cur_snoc ic)
set_option linter.unusedVariables false

set_option maxRecDepth 100000 in
set_option maxHeartbeats 16000000 in
theorem walk16 (a : Option Addr) (len cap : Nat) (zs : List Int) (w : World) (hE : Elems w a len zs) (hl : len ≤ cap) (hm : cap ≤ 9223372036854775807) :
    Calls Try.prog 3 #[.slice a len cap] w fun e w' => e = .returned (.bool true) ∧ Up w w' := by
  have HE := Lib.hid hE
  obtain ⟨m, hmin', hm1, hm3⟩ := min_len 60 len
  have hmin : (if (60 : Int) < (len : Int) then (60 : Int) else (len : Int)) = (m : Int) := hmin'
  have hmc : (m : Int) ≤ (cap : Int) := by omega
  have hmi2 : min (len : Int) 60 = (m : Int) := by split at hmin <;> omega
  clear hE hmin'
  go_enter Try.func3, Try.ntmps3
  go_wp2_with (first
    | (go_at_call 4; refine (newO w).mono ?_; rintro e w2 ⟨p, rfl, h1⟩; have H2 := Lib.hid h1; clear h1)
    | fail)
  clear hmin hmi2
  have START : Hid (LST w (w2.alloc (.cells #[.pointer none, .pointer none, .pointer none, .pointer none] 28)) p w2.heap.size (.slice none 0 0) (.slice none 0 0) 0) := by
    refine ⟨_, _, [none, none, none, none], [], ⟨H2.out.alloc _, fun k hk => ?_, Blk.new _ _ _, .inr rfl, World.ownsRow_nil _ _ _ _, fun k hk => (by cases hk), World.ownsRow_nil _ _ _ _, fun k hk => (by cases hk), fun m hm => (by cases hm), fun s q m h => ?_, fun s s' q q' m m' h => ?_⟩, inv0⟩
    · rcases hk with hk | hk
      · exact hk.elim
      · rw [hk]; exact H2.out.upw.size
    · rcases s with _ | _ | _ | _ | s <;> simp at h
    · rcases s with _ | _ | _ | _ | s <;> simp at h
  go_loopw [4, 5, 32] (fun va ve iv wr => ∃ i : Nat, i ≤ m ∧ iv = .int .i64 i ∧ Hid (LST w wr p w2.heap.size va ve i)) (fun _ _ iv _ => m - (intOf iv).toNat)
  case atStart => exact ⟨0, by omega, rfl, START.out⟩
  case round =>
    obtain ⟨i, hi, rfl, HS⟩ := hrel
    obtain ⟨wo, rfl⟩ : ∃ x, x = wr := ⟨_, rfl⟩
    obtain ⟨K, d, oms, ms, hS, hI⟩ := HS.out
    have HM := Lib.hid hS
    have HI := Lib.hid hI
    by_cases hlt : i < m
    · obtain ⟨b, off, rfl, hb, hx⟩ := elems_up HE.out hS.own.upw i (by omega)
      obtain ⟨op, hop⟩ : ∃ op, op = zs.getD i 0 := ⟨_, rfl⟩
      rw [← hop] at hx
      have hl4 : oms.length = 4 := by have := hI.len; rwa [List.length_map] at this
      obtain ⟨s, hs⟩ : ∃ s : Nat, modV op 4 = (s : Int) := ⟨(modV op 4).toNat, by have := modV_nonneg op 4 (by omega); omega⟩
      have hs4 : s < 4 := by have := modV_lt op 4 (by omega); omega
      have kb6 := hS.box.cell s
      have kb6l := hS.box.lt
      obtain ⟨o, ho⟩ : ∃ o, oms[s]? = some o := ⟨_, List.getElem?_eq_getElem (by omega)⟩
      rw [List.getElem?_map, ho] at kb6
      have HO := Lib.hid ho
      have hs4i : (s : Int) < 4 := by omega
      have HMOD : Hid (∀ W, Calls Try.prog 5 #[.int .i64 op, .int .i64 4] W fun e w' => e = .returned (.int .i64 (s : Int)) ∧ W = w') := fun W => by
        have := rvmod_any op 4 W (by decide) (by decide)
        rw [hs] at this
        exact this
      have hi60 : i < 60 := by omega
      clear hS hI hop HS hs ho
      cases o with
      | none =>
        --[none
        simp only [Option.map_some, ptrV] at kb6
        go_wp2_with (first
          | (go_at_call 6; refine (beginO HM.out.own (by have := HI.out.last; omega) (by have := HI.out.act4; omega)).mono ?_; rintro e w3 ⟨rfl, h3⟩; have H3 := Lib.hid h3; clear h3)
          | (go_at_call 5; refine (HMOD.out _).mono ?_; rintro e w' ⟨rfl, rfl⟩)
          | fail)
        have HC0 := Lib.hid (Cur.new w3 ⟨d.last + 1, ⟨(i : Int), 0, [], []⟩, []⟩ rfl rfl rfl)
        have HM3 := Lib.hid (HM.out.step H3.out)
        have HTR : Hid (tr (begD d) (d.last + 1) = some ⟨d.last + 1, d.clock, []⟩) := by unfold Hid; rw [tr_beg HM.out.own.ok, if_pos rfl]
        have HRD : Hid (∀ (k : ByteArray) (W : World), Up w3 W → Calls Try.prog 7 #[.pointer (some ⟨p, 0, none⟩), .int .i64 (d.last + 1), .string k] W fun e w' => e = .returned (.tuple #[.int .i64 (stN (ms.map MRec.r) (ms.map MRec.r).length k), .bool true]) ∧ Up W w') := fun k W hW =>
          rvread_any (H3.out.1.up hW) HTR.out (get_rd (HI.out.rd.beg) H3.out.1.ok rfl rfl k) (stN_bd HI.out.ok (Nat.le_refl _) k).1 (stN_bd HI.out.ok (Nat.le_refl _) k).2
        generalize (w3.alloc (.cells #[.int .i64 (d.last + 1), .int .i64 (i : Int), .int .i64 0, .slice none 0 0, .slice none 0 0, .slice none 0 0] 37)) = w4 at HC0 ⊢
        clear kb6 kb6l hb hx
        go_loopw [56] (fun iv wj => ∃ (k : Nat) (M : MRec), k ≤ 3 ∧ iv = .int .i64 k ∧ Hid (CurI w3 wj M (d.last + 1) (i : Int) (stN (ms.map MRec.r) (ms.map MRec.r).length) k k)) (fun iv _ => 3 - (intOf iv).toNat)
        case atStart => exact ⟨0, _, by omega, rfl, HC0.out, rfl, rfl, rfl, rfl, Nat.le_refl _, Nat.le_refl _, fun y hy => by rcases hy with hy | hy <;> cases hy⟩
        case round =>
          obtain ⟨k, M, hk, rfl, HQ⟩ := hrel
          obtain ⟨wj, rfl⟩ : ∃ x, x = wr := ⟨_, rfl⟩
          by_cases hlk : k < 3
          · have hk3 : (k : Int) < 3 := by omega
            go_upto_if 65 with (first
              | (go_at_call 5; refine (rvmod_any _ 8 _ (by decide) (by decide)).mono ?_; rintro e w' ⟨rfl, rfl⟩)
              | fail)
            go_cut [56] from 56 to 125 (fun s56 wx => s56 = .int .i64 k ∧ ∃ M' : MRec, Hid (CurI w3 wx M' (d.last + 1) (i : Int) (stN (ms.map MRec.r) (ms.map MRec.r).length) (k + 1) k))
            case first =>
              --[first
              have hcv := conv1 (P := Try.prog) 38 9 5 Try.underlying38 Try.underlying5 Try.underlying9
              go_wp2_with (first
                | (go_at_call 7; refine (HRD.out _ _ (HQ.out.cur.up.alloc _)).mono ?_; rintro e w5 ⟨rfl, h5⟩; have H5 := Lib.hid h5; clear h5)
                | fail)
              · obtain ⟨sk, hsk⟩ : ∃ x, x = one (120 + (k : Int)) := ⟨_, rfl⟩
                obtain ⟨y, hy⟩ : ∃ y, y = stN (ms.map MRec.r) ms.length sk := ⟨_, rfl⟩
                have C5 : Hid (Cur w3 w5 M) := HQ.out.cur.grow (((Up.refl _).alloc _).trans H5.out)
                rw [← hsk, ← hy]
                have HSK := Lib.hid hsk
                have HYY := Lib.hid hy
                have hrl := HQ.out.rl
                have hrr : M.r.read.length ≤ k := by rw [HQ.out.rd, List.length_map]; exact hrl
                clear hsk hy
                refine region_split (fun a a' W => ∃ v88 v89 v95 v96 : Value, Hid (Cur w3 W (addRd M sk y v89 v96)) ∧ a' = ((((((((((((((((((((((a.put (some 80) (.pointer (some ⟨w3.heap.size, 0, none⟩))).put (some 81) (.pointer (some ⟨w3.heap.size, 0, none⟩))).put (some 82) (.pointer (some ⟨w3.heap.size, 0, none⟩))).put (some 83) (.pointer (some ⟨w3.heap.size, 0, none⟩))).put (some 84) (.pointer (some ⟨w3.heap.size, 1, none⟩))).put (some 85) (.pointer (some ⟨w3.heap.size, 3, none⟩))).put (some 86) (M.rv)).put (some 87) (.string sk)).put (some 88) (v88)).put (some 89) (v89)).put (some 90) (.pointer (some ⟨w3.heap.size, 0, none⟩))).put (some 91) (.pointer (some ⟨w3.heap.size, 0, none⟩))).put (some 92) (.pointer (some ⟨w3.heap.size, 5, none⟩))).put (some 93) (M.xv)).put (some 94) (.int .i64 y)).put (some 95) (v95)).put (some 96) (v96)).put (some 97) (.pointer (some ⟨w3.heap.size, 0, none⟩))).put (some 98) (.pointer (some ⟨w3.heap.size, 1, none⟩))).put (some 99) (.pointer (some ⟨w3.heap.size, 3, none⟩))).put (some 100) (.pointer (some ⟨w3.heap.size, 0, none⟩))).put (some 101) (.pointer (some ⟨w3.heap.size, 5, none⟩)))) ?_ ?_
                · exact reg25 hlk hrl hrr C5 rfl
                · simp only [Act.put, List.setIfInBounds_toArray, List.set_cons_zero, List.set_cons_succ]
                  rintro a' W5 ⟨v88, v89, v95, v96, hf, rfl⟩
                  have HF := Lib.hid hf.out
                  clear hf
                  go_wp2
                  go_meet
                  case rel =>
                    refine ⟨rfl, _, HF.out, HQ.out.id, HQ.out.st, HQ.out.com, ?_, ?_, HQ.out.wl, fun z hz => ?_⟩
                    · show M.r.read ++ [y] = (M.r.tx.reads ++ [sk]).map _
                      rw [List.map_append, HQ.out.rd, HYY.out, List.length_map]; rfl
                    · show (M.r.tx.reads ++ [sk]).length ≤ k + 1
                      have := HQ.out.rl
                      rw [List.length_append]; simp; omega
                    · rcases hz with hz | hz
                      · rcases List.mem_append.1 hz with hz | hz
                        · exact HQ.out.keys z (.inl hz)
                        · rw [List.mem_singleton.1 hz, HSK.out]
                          show 1 ≤ 24
                          decide
                      · exact HQ.out.keys z (.inr hz)
              · go_meet
                case rel => exact ⟨rfl, M, HQ.out.cur, HQ.out.id, HQ.out.st, HQ.out.com, HQ.out.rd, by have := HQ.out.rl; omega, HQ.out.wl, HQ.out.keys⟩
              --]first
            case rest =>
              obtain ⟨rfl, M', hq'⟩ := hcut
              have HR := Lib.hid hq'.out
              clear hq' HQ
              go_wp2_with (first
                | (go_at_call 5; refine (rvmod_any _ 8 _ (by decide) (by decide)).mono ?_; rintro e w' ⟨rfl, rfl⟩)
                | fail)
              ·
                --[r27
                refine region_split (fun a a' W => ∃ v116 v117 v118 v120 v121 : Value, Hid (Cur w3 W (addWr M' (one (120 + (k : Int))) v121)) ∧ a' = ((((((((((((((((a.put (some 109) (.pointer (some ⟨w3.heap.size, 0, none⟩))).put (some 110) (.pointer (some ⟨w3.heap.size, 0, none⟩))).put (some 111) (.pointer (some ⟨w3.heap.size, 0, none⟩))).put (some 112) (.pointer (some ⟨w3.heap.size, 1, none⟩))).put (some 113) (.pointer (some ⟨w3.heap.size, 4, none⟩))).put (some 114) M'.wv).put (some 115) (.int .i64 (k : Int))).put (some 116) v116).put (some 117) v117).put (some 118) v118).put (some 119) (.string (one (120 + (k : Int))))).put (some 120) v120).put (some 121) v121).put (some 122) (.pointer (some ⟨w3.heap.size, 0, none⟩))).put (some 123) (.pointer (some ⟨w3.heap.size, 1, none⟩))).put (some 124) (.pointer (some ⟨w3.heap.size, 4, none⟩)))) ?_ ?_
                · exact reg27 hlk HR.out.wl (Lib.hid HR.out.cur) rfl
                · simp only [Act.put, List.setIfInBounds_toArray, List.set_cons_zero, List.set_cons_succ]
                  rintro a' W5 ⟨v116, v117, v118, v120, v121, hf, rfl⟩
                  have HF := Lib.hid hf.out
                  clear hf
                  go_wp2
                  go_roundw
                  case rel =>
                    have h := HR.out
                    refine ⟨k + 1, _, by omega, by push_cast; rfl, HF.out, h.id, h.st, h.com, h.rd, h.rl, ?_, fun z hz => ?_⟩
                    · show (M'.r.tx.writes ++ [one (120 + (k : Int))]).length ≤ k + 1
                      have := h.wl
                      rw [List.length_append]; simp; omega
                    · rcases hz with hz | hz
                      · exact h.keys z (.inl hz)
                      · rcases List.mem_append.1 hz with hz | hz
                        · exact h.keys z (.inr hz)
                        · rw [List.mem_singleton.1 hz]
                          show 1 ≤ 24
                          decide
                  case measure => simp [intOf]; omega
                --]r27
              · go_roundw
                case rel =>
                  have h := HR.out
                  exact ⟨k + 1, M', by omega, by push_cast; rfl, h.cur, h.id, h.st, h.com, h.rd, h.rl, Nat.le_succ_of_le h.wl, h.keys⟩
                case measure => simp [intOf]; omega
          · have hge : ¬ (k : Int) < 3 := by omega
            have H3Q : Hid (CurI w3 wj M (d.last + 1) (i : Int) (stN (ms.map MRec.r) (ms.map MRec.r).length) 3 3) := by
              have h := HQ.out
              rw [show k = 3 by omega] at h
              exact h
            have BX := Lib.hid (HM3.out.box.up HQ.out.cur.up)
            have kb := BX.out.cell s
            rw [List.getElem?_map, HO.out] at kb
            simp only [Option.map_some, ptrV] at kb
            have kbf := BX.out.free s
            have kbl := BX.out.lt
            have FIN := Lib.hid (lst_beg HM3.out HI.out HM.out.own.ok hi60 HO.out H3Q.out)
            go_wp2
            go_roundw
            case rel => exact ⟨i + 1, by omega, by push_cast; rfl, FIN.out⟩
            case measure => simp [intOf]; omega
        --]none
      | some x =>
        obtain ⟨q, mr⟩ := x
        simp only [Option.map_some, ptrV] at kb6
        have kb6f := HM.out.box.free s
        have HB := Lib.hid (HM.out.opn s q mr HO.out)
        have HLV := Lib.hid (HM.out.leave HO.out (i : Int))
        have kq2 := HB.out.blk.cell 2
        have kq2f := HB.out.blk.free 2
        have kql := HB.out.blk.lt
        simp only [mrC1, List.getElem?_cons_zero, List.getElem?_cons_succ] at kq2
        have hbq : ¬ w2.heap.size = q := fun e => by
          have h1 := blk_ty HM.out.box
          have h2 := blk_ty HB.out.blk
          rw [e] at h1
          exact h1.ne (by decide) h2
        obtain ⟨aa, ac, rfl, ha1, ha2, _⟩ := own_form HM.out.att
        obtain ⟨ea, ec, rfl, he1, he2, _⟩ := own_form HM.out.fin
        go_upto_region 32 with (first
          | (go_at_call 5; refine (HMOD.out _).mono ?_; rintro e w' ⟨rfl, rfl⟩)
          | fail)
        generalize (World.setCell _ ⟨q, 2, none⟩ _) = W0 at HLV ⊢
        have HMR : Hid (Sn.stamp mr (i : Int) = Sn.stamp mr (i : Int)) := rfl
        unfold Hid at HMR
        generalize hM0 : Sn.stamp mr (i : Int) = M at HLV HMR
        have HST := Lib.hid hM0
        clear HMR hM0
        have hml : ms.length ≤ 40 := by
          have := HI.out.hv.len
          simpa [txs] using this
        by_cases h40 : (ms.length : Int) = 40
        · have hb40 : ((ms.length : Int) == 40) = true := by simp [h40]
          go_wp2
          go_ret
          exact ⟨rfl, HLV.out.1.own.upw⟩
        · have hb40 : ((ms.length : Int) == 40) = false := by simp [h40]
          go_upto_region 34 with (fail)
          refine region_split (fun a a' W => ∃ (v144 v150 : Value) (g c g' c' : Nat), Hid (∃ K', SMm w W K' p w2.heap.size d (oms.set s none) (.slice (some ⟨g, 0, none⟩) (ms.length + 1) c) (.slice (some ⟨g', 0, none⟩) (ms.length + 1) c') (ms ++ [M]) ∧ BOk w W K' (.slice (some ⟨g', 0, none⟩) (ms.length + 1) c') q M) ∧ a' = (((((((((((((((a.put (some 139) (.slice aa ms.length ac)).put (some 140) (.pointer (some ⟨q, 0, none⟩))).put (some 141) (.pointer (some ⟨q, 0, none⟩))).put (some 142) (.pointer (some ⟨q, 1, none⟩))).put (some 143) (.agg #[.int .i64 M.r.tx.start, .int .i64 M.r.tx.commit, M.rv, M.wv])).put (some 144) v144).put (some 145) (.slice (some ⟨g, 0, none⟩) (ms.length + 1 : Nat) c)).put (some 146) (.slice ea ms.length ec)).put (some 147) (.pointer (some ⟨q, 0, none⟩))).put (some 148) (.pointer (some ⟨q, 0, none⟩))).put (some 149) (.agg #[.int .i64 M.r.id, .int .i64 M.r.tx.start, .int .i64 M.r.tx.commit, M.rv, M.wv, M.xv])).put (some 150) v150).put (some 151) (.slice (some ⟨g', 0, none⟩) (ms.length + 1 : Nat) c')).put (some 4) (.slice (some ⟨g, 0, none⟩) (ms.length + 1 : Nat) c)).put (some 5) (.slice (some ⟨g', 0, none⟩) (ms.length + 1 : Nat) c'))) ?_ ?_
          · exact reg34 hml HLV rfl
          · simp only [Act.put, List.setIfInBounds_toArray, List.set_cons_zero, List.set_cons_succ]
            rintro a' W1 ⟨v144, v150, g, c, g', c', hf, rfl⟩
            obtain ⟨K1, hs1, hb1⟩ := hf.out
            have HS1 := Lib.hid hs1
            have HB1 := Lib.hid hb1
            have HEND : Hid (EndH d oms ms mr M i s q) := ⟨HI.out, hi60, HO.out, fun e => h40 (by rw [e]; rfl), HST.out⟩
            have HADM := Lib.hid (HEND.out.admc HS1.out)
            obtain ⟨ad, had⟩ : ∃ x, x = (admV (txs (ms.map MRec.r ++ [M.r]))).getD (ms.map MRec.r).length false := ⟨_, rfl⟩
            rw [← had] at HADM
            have HAD := Lib.hid had.symm
            have hwm : IntKind.i64.wrap (ms.length : Int) = (ms.length : Int) := by rw [IntKind.wrap_i64]; omega
            clear hf hs1 hb1 had h40 hb40
            cases ad with
            | false =>
              go_wp2_with (first
                | (go_at_call 8; refine HADM.out.mono ?_; rintro e w5 ⟨ga, rfl, hu5, hga, hca⟩; have HU5 := Lib.hid hu5; have c0 := (six_of (HB1.out.blk.up hu5)).1; clear hu5)
                | (go_at_call 9; refine (HEND.out.rollc HS1.out HAD.out HU5.out).mono ?_; rintro e w6 ⟨rfl, hl6⟩; have HL6 := Lib.hid hl6; clear hl6)
                | fail)
              go_roundw
              case rel => exact ⟨i + 1, by omega, by push_cast; rfl, HL6.out⟩
              case measure => simp [intOf]; omega
            | true =>
              go_upto_region 41 with (first
                | (go_at_call 8; refine HADM.out.mono ?_; rintro e w5 ⟨ga, rfl, hu5, hga, hca⟩; have HU5 := Lib.hid hu5; clear hu5)
                | fail)
              obtain ⟨s0, ht0, hwl3, hkey, hp0⟩ := HEND.out.put0 HS1.out HB1.out
              have HT0 := Lib.hid ht0
              have HKEY := Lib.hid hkey
              have HP0 := Lib.hid (hp0.up HU5.out)
              obtain ⟨wa, wc, hwv, hw1, hw2, hw0⟩ := own_form HB1.out.ok.wr
              have c4 := (six_of HP0.out.box.blk).2.2.2.2.1
              have c4l := HP0.out.box.blk.lt
              rw [hwv] at c4
              have HWV := Lib.hid hwv
              clear ht0 hkey hp0 hwv hw0
              go_wp2
              clear c4 c4l hga hca
              go_loopw [186] (fun iv wr => ∃ (k : Nat) (dm : Db), k ≤ M.r.tx.writes.length ∧ iv = .int .i64 k ∧ Hid (PSt w wr K1 p w2.heap.size d dm (oms.set s none) (.slice (some ⟨g, 0, none⟩) (ms.length + 1) c) (.slice (some ⟨g', 0, none⟩) (ms.length + 1) c') (ms ++ [M]) q M s0 k)) (fun iv _ => M.r.tx.writes.length - (intOf iv).toNat)
              case atStart => exact ⟨0, d, by omega, rfl, HP0.out⟩
              case round =>
                obtain ⟨k, dm, hk, rfl, HP⟩ := hrel
                obtain ⟨wk, rfl⟩ : ∃ x, x = wr := ⟨_, rfl⟩
                by_cases hlk : k < M.r.tx.writes.length
                · have hst1 := HP.out.box.ok.vals.2.1
                  rw [HWV.out] at hst1
                  obtain ⟨bs, ofs, rfl, hsx⟩ := strs_at hst1 hlk
                  obtain ⟨st, hst⟩ : ∃ x, x = M.r.tx.writes.getD k ByteArray.empty := ⟨_, rfl⟩
                  rw [← hst] at hsx
                  have kst := hsx.2
                  have kstl := hsx.1
                  have hlki : (k : Int) < (M.r.tx.writes.length : Int) := by omega
                  have HSTX := Lib.hid hst
                  clear hst1 hsx hst
                  go_upto_region 44 with (fail)
                  refine region_split (fun a a' W => ∃ (v201 : Value) (dm' : Db), Hid (PSt w W K1 p w2.heap.size d dm' (oms.set s none) (.slice (some ⟨g, 0, none⟩) (ms.length + 1) c) (.slice (some ⟨g', 0, none⟩) (ms.length + 1) c') (ms ++ [M]) q M s0 (k + 1)) ∧ a' = ((((((((((((((a.put (some 190) (.pointer (some ⟨p, 0, none⟩))).put (some 191) (.pointer (some ⟨q, 0, none⟩))).put (some 192) (.pointer (some ⟨q, 0, none⟩))).put (some 193) (.pointer (some ⟨q, 0, none⟩))).put (some 194) (.int .i64 M.r.id)).put (some 195) (.string st)).put (some 196) (.pointer (some ⟨q, 0, none⟩))).put (some 197) (.pointer (some ⟨q, 0, none⟩))).put (some 198) (.agg #[.int .i64 M.r.id, .int .i64 M.r.tx.start, .int .i64 M.r.tx.commit, M.rv, M.wv, M.xv])).put (some 199) (.int .i64 (resV M.r))).put (some 200) (.agg #[.int .i64 1, .int .i64 (resV M.r), .string ByteArray.empty])).put (some 201) v201).put (some 202) (.int .i64 0)).put (some 203) (.bool false))) ?_ ?_
                  · exact reg44 hlk hwl3 HKEY HSTX HP rfl
                  · simp only [Act.put, List.setIfInBounds_toArray, List.set_cons_zero, List.set_cons_succ]
                    rintro a' W6 ⟨v201, dm', HP6, rfl⟩
                    go_wp2
                    go_roundw
                    case rel => exact ⟨k + 1, dm', by omega, by push_cast; rfl, HP6.out⟩
                    case measure => simp [intOf]; omega
                · have hge2 : ¬ (k : Int) < (M.r.tx.writes.length : Int) := by omega
                  have HPE : Hid (PSt w wk K1 p w2.heap.size d dm (oms.set s none) (.slice (some ⟨g, 0, none⟩) (ms.length + 1) c) (.slice (some ⟨g', 0, none⟩) (ms.length + 1) c') (ms ++ [M]) q M s0 M.r.tx.writes.length) := by
                    have h := HP.out
                    rw [show k = M.r.tx.writes.length by omega] at h
                    exact h
                  have c0 := (six_of HP.out.box.blk).1
                  have c0l := HP.out.box.blk.lt
                  go_wp2_with (first
                    | (go_at_call 13; refine (HEND.out.comc HPE.out HT0.out HAD.out (Up.refl wk)).mono ?_; rintro e w6 ⟨⟨x, rfl⟩, hl6⟩; have HL6 := Lib.hid hl6; clear hl6)
                    | fail)
                  go_roundw
                  case rel => exact ⟨i + 1, by omega, by push_cast; rfl, HL6.out⟩
                  case measure => simp [intOf]; omega
    · have hge : ¬ (i : Int) < m := by omega
      go_wp2_with (first
        | (go_at_call 14; refine (serial_any HM.out.own _ _ (ms.map MRec.r) HM.out.txs HM.out.arr (HI.out.fin (by omega))).mono ?_; rintro e w' ⟨rfl, hu⟩; have HU := Lib.hid hu; clear hu)
        | fail)
      go_ret
      exact ⟨rfl, HU.out⟩
end Go.Proofs.Ytnbhdpmhgamjfaa.Sn
