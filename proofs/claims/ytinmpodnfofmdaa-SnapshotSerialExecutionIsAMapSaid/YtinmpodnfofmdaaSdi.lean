/- SnapshotSerialExecutionIsAMap: the walk. -/
import Derived.Test.YtinmpodnfofmdaaSdh
namespace Go.Proofs.Ytinmpodnfofmdaa.Sn
open Go Go.RowKit Hp
open Mv (Val PC PV rowC rowC_one fm_len fm_take fm_drop fm_get fm_set fm_one RowIn StR Srt SOk pos has fx_lt fx_up ty_chg has_pos pos_le RM rmC rmC1 rmC_len rmC_get erR RecsR RecsS scanL scan_srt cloneR rowV row_any equalR_same eqrecs_any cnt getL vis1 addL adL vacL scan_vac scan_ad)
set_option linter.unusedVariables false

set_option maxRecDepth 100000 in
set_option maxHeartbeats 8000000 in
theorem walk57 (a : Option Addr) (len cap : Nat) (zs : List Int) (w : World) (hE : Elems w a len zs) (hl : len ≤ cap) (hm : cap ≤ 9223372036854775807) :
    Calls Try.prog 12 #[.slice a len cap] w fun e w' => e = .returned (.bool true) ∧ Up w w' := by
  have HE := Lib.hid hE
  obtain ⟨m, hmin', hm1, hm3⟩ := min_len 60 len
  have hmin : (if (60 : Int) < (len : Int) then (60 : Int) else (len : Int)) = (m : Int) := hmin'
  have hmc : (m : Int) ≤ (cap : Int) := by omega
  have hmi2 : min (len : Int) 60 = (m : Int) := by split at hmin <;> omega
  have hmm := @run_makeMap Try.prog
  clear hE hmin'
  go_enter Try.func12, Try.ntmps12
  go_wp2_with (first
    | (go_at_call 32; refine (newO w1).mono ?_; rintro e w2 ⟨p, rfl, h1⟩; have H2 := Lib.hid h1; clear h1)
    | (go_at_call 31; refine (works_any w).mono ?_; rintro e w1 ⟨rfl, h1⟩; have H1 := Lib.hid h1; clear h1)
    | fail)
  clear hmin hmi2
  have START := Lib.hid (And.intro (H2.out.alloc (.map #[] 0)) (MR.zero (K := fun k => False ∨ k = w2.heap.size) H2.out.upw (.inr rfl)))
  go_loopw [27] (fun iv wr => ∃ k : Nat, k ≤ m ∧ iv = .int .i64 k ∧ Hid (∃ K d D, Own w1 K wr p d ∧ Solo d k k ∧ MR w1 wr K w2.heap.size k (scanL d.st k) D)) (fun iv _ => m - (intOf iv).toNat)
  case atStart => exact ⟨0, by omega, rfl, _, _, _, START.out.1, solo0, START.out.2⟩
  case round =>
    obtain ⟨k, hk, rfl, HD⟩ := hrel
    obtain ⟨K, d, D, hO, hS, hM⟩ := HD.out
    have HO := Lib.hid hO
    have HS := Lib.hid hS
    have HM := Lib.hid hM
    by_cases hlt : k < m
    · obtain ⟨b, off, rfl, hb, hx⟩ := elems_up HE.out (H1.out.trans hO.upw) k (by omega)
      obtain ⟨op, hop⟩ : ∃ op, op = zs.getD k 0 := ⟨_, rfl⟩
      rw [← hop] at hx
      clear hO hS hM hop HD
      obtain ⟨md, hmd⟩ : ∃ md : Nat, modV op 4 = (md : Int) := ⟨(modV op 4).toNat, by have := modV_nonneg op 4 (by omega); omega⟩
      by_cases h0 : md = 0
      · subst h0
        go_wp2_with (first
          | (have tok := M9; go_at_call 36; refine (commitO O9.out P7.out.1.tr (by have := P7.out.1.clock; omega)).mono ?_; rw [C7.out.1]; rintro e w10 ⟨rfl, h⟩; have H10 := Lib.hid h; have M10 := Lib.hid ((M9.out.mono (Nat.le_succ k)).step h); clear h)
          | (at_delete; refine wpList_delete_own _ rfl _ _ 73 9 rfl 32 (Maps.string_keyed Try.underlying9) Try.underlying73 R57 w2.heap.size k D rfl M8.out.own _ _ rfl (key_of (by rw [keyB_size]; omega)) ?_; intro w9 hown9 hturn9; have O9 := Lib.hid (M8.out.turn (H7.out.1.up K8.out) hturn9.grown); have M9 := Lib.hid (M8.out.del hown9 hturn9.grown (scan_srt HO.out.ok.st.srt _) C7.out.2.2.1 (by have := C7.out.2.2.2; rwa [P7.out.2] at this)); clear hown9 hturn9)
          | (have tok := H7; go_at_call 18; refine (key_any _ _).mono ?_; rintro e w8 ⟨rfl, h3⟩; have K8 := Lib.hid h3; have M8 := Lib.hid (M7.out.up h3); clear h3)
          | (have tok := K6; go_at_call 43; refine (deleteO (H5.out.1.up K6.out) P5.out.tr (k := keyB (wrap64 (op.tdiv 4))) (by rw [keyB_size]; omega)).mono ?_; rw [Q7.out.1]; rintro e w7 ⟨rfl, h⟩; have P7 := Lib.hid Q7.out.2; have C7 := Lib.hid (one57_com h.1.ok P7.out.1 (by omega) (by rw [keyB_size]; omega) (by simp)); have M7 := Lib.hid ((HM.out.step H5.out).up K6.out |>.step h); have H7 := Lib.hid h; clear h)
          | (have tok := H5; go_at_call 18; refine (key_any _ _).mono ?_; rintro e w6 ⟨rfl, h3⟩; have K6 := Lib.hid h3; clear h3)
          | (go_at_call 22; refine (mod_any _ _ _ (by omega) (by omega)).mono ?_; rw [hmd]; rintro e w' ⟨rfl, rfl⟩)
          | (go_at_call 33; refine (beginO HO.out (by have := HS.out.last; omega) (by rw [HS.out.act]; simp)).mono ?_; rw [HS.out.last]; rintro e w5 ⟨rfl, h5⟩; have P5 := Lib.hid (solo_beg HS.out); have Q7 := Lib.hid (one57_put h5.1.ok P5.out (k := keyB (wrap64 (op.tdiv 4))) (x := ⟨true, []⟩) (by rw [keyB_size]; omega) (by simp)); have H5 := Lib.hid h5; clear h5)
          | fail)
        go_roundw
        case rel => exact ⟨k + 1, by omega, by go_num, K, _, _, H10.out.1, by push_cast; exact C7.out.2.1, by push_cast; exact M10.out⟩
        case measure => simp [intOf]; omega
      · have h00 : ¬ (md : Int) = 0 := by omega
        have h01 : ((md : Int) == 0) = false := beq_eq_false_iff_ne.2 h00
        have RL : Hid ((rowV (wrap64 (op.tdiv 32))).length ≤ 6) := rowV_len6 _
        go_wp2_with (first
          | (have tok := M9; go_at_call 36; refine (commitO O9.out P7.out.1.tr (by have := P7.out.1.clock; omega)).mono ?_; rw [C7.out.1]; rintro e w10 ⟨rfl, h⟩; have H10 := Lib.hid h; have M10 := Lib.hid (M9.out.step h); clear h)
          | (at_mapUpdate; refine wpList_mapUpdate_own _ rfl _ _ _ 73 rfl 9 32 (Maps.string_keyed Try.underlying9) Try.underlying73 R57 w2.heap.size k D rfl M8.out.own (by unfold maxLen; omega) _ _ _ rfl rfl (key_of (by rw [keyB_size]; omega)) _ [] rfl ?_; intro w9 hown9 hgrow9; have O9 := Lib.hid (M8.out.turn O8.out hgrow9); have M9 := Lib.hid (M8.out.put hown9 hgrow9 R8.out.1 R8.out.2 (scan_srt HO.out.ok.st.srt _) C7.out.2.2.1 (by have := C7.out.2.2.2; rwa [P7.out.2] at this)); clear hown9 hgrow9)
          | (have tok := K8; go_at_call 21; refine (row_any _ _).mono ?_; rintro e w8' ⟨rfl, h3, h4⟩; have O8 := Lib.hid ((H7.out.1.up K8.out).widen h4); have M8 := Lib.hid (((M7.out.up K8.out).up h4).wide (K' := fun j => K j ∨ (w8.heap.size ≤ j ∧ j < w8'.heap.size)) (fun k hk => .inl hk)); have R8 := Lib.hid (row57 (K := K) h3 (H7.out.1.upw.trans K8.out)); clear h3 h4)
          | (have tok := H7; go_at_call 18; refine (key_any _ _).mono ?_; rintro e w8 ⟨rfl, h3⟩; have K8 := Lib.hid h3; clear h3)
          | (have tok := K7; go_at_call 34; refine (putO (H5.out.1.up (K6.out.trans K7.out)) P5.out.tr (k := keyB (wrap64 (op.tdiv 4))) (by rw [keyB_size]; omega) RL.out (own_src R7.out)).mono ?_; rw [Q7.out.1]; rintro e w7 ⟨rfl, h⟩; have P7 := Lib.hid Q7.out.2; have C7 := Lib.hid (one57_com h.1.ok P7.out.1 (by omega) (by rw [keyB_size]; omega) RL.out); have M7 := Lib.hid ((HM.out.step H5.out).up (K6.out.trans K7.out) |>.step h); have H7 := Lib.hid h; clear h)
          | (have tok := K6; go_at_call 21; refine (row_any _ _).mono ?_; rintro e w6' ⟨rfl, h3, h4⟩; have R7 := Lib.hid h3; have K7 := Lib.hid h4; clear h3 h4)
          | (have tok := H5; go_at_call 18; refine (key_any _ _).mono ?_; rintro e w6 ⟨rfl, h3⟩; have K6 := Lib.hid h3; clear h3)
          | (go_at_call 22; refine (mod_any _ _ _ (by omega) (by omega)).mono ?_; rw [hmd]; rintro e w' ⟨rfl, rfl⟩)
          | (go_at_call 33; refine (beginO HO.out (by have := HS.out.last; omega) (by rw [HS.out.act]; simp)).mono ?_; rw [HS.out.last]; rintro e w5 ⟨rfl, h5⟩; have P5 := Lib.hid (solo_beg HS.out); have Q7 := Lib.hid (one57_put h5.1.ok P5.out (k := keyB (wrap64 (op.tdiv 4))) (x := ⟨false, rowV (wrap64 (op.tdiv 32))⟩) (by rw [keyB_size]; omega) RL.out); have H5 := Lib.hid h5; clear h5)
          | fail)
        go_roundw
        case rel => exact ⟨k + 1, by omega, by go_num, _, _, _, H10.out.1, by push_cast; exact C7.out.2.1, by push_cast; exact M10.out⟩
        case measure => simp [intOf]; omega
    · obtain rfl : k = m := by omega
      have P5 := Lib.hid (solo_beg HS.out)
      clear hO hS hM HD
      go_wp2_with (first
        | (have tok := M5; go_at_call 44; refine (scanO H5.out.1 P5.out.tr).mono ?_; rintro e w6 ⟨v1, l1, rfl, h6, h7, h8, h9⟩; rw [scanT_nil] at h8; obtain ⟨rs, q1, q2, q3, q4⟩ := id h6; have hq := srt_perm h7 (scan_srt HO.out.ok.st.srt _) h8 (List.Perm.refl _); have hrl : rs.length ≤ 1000 := (by have := (perm_scan H5.out.1.ok h8).1; rw [← q1, List.length_map] at this; exact this); obtain ⟨ra, rc, rfl, _, _, _⟩ := own_form q2; have hsz : Maps.size D = rs.length := (by rw [M5.out.size, ← hq, ← q1, List.length_map]); have hlen := (M5.out.up h9).own.len Try.underlying73 3; rw [hsz] at hlen; have Q1 := Lib.hid (q1.trans hq); have Q2 := Lib.hid q2; have Q3 := Lib.hid q3; have M6 := Lib.hid (M5.out.up h9); have H6 := Lib.hid h9; clear h6 h7 h8 h9 hq q1 q2 q3 q4)
        | (go_at_call 33; refine (beginO HO.out (by have := HS.out.last; omega) (by rw [HS.out.act]; simp)).mono ?_; rw [HS.out.last]; rintro e w5 ⟨rfl, h5⟩; have M5 := Lib.hid (HM.out.step h5); have H5 := Lib.hid h5; clear h5)
        | fail)
      have HSA := Lib.hid (own_src Q2.out)
      have SK := Lib.hid (scan_key HO.out.ok.st (k : Int))
      have SR := Lib.hid (Mv.scan_row HO.out.ok.st (k : Int))
      have SS := Lib.hid (scan_srt HO.out.ok.st.srt (k : Int))
      generalize scanL d.st (k : Int) = A at *
      clear hlen hsz
      go_loopw [111] (fun iv wr => ∃ j : Nat, j ≤ rs.length ∧ iv = .int .i64 j ∧ Up w6 wr) (fun iv _ => rs.length - (intOf iv).toNat)
      case atStart => exact ⟨0, by omega, rfl, Up.refl _⟩
      case round =>
        obtain ⟨j, hj, rfl, hu⟩ := hrel
        have HU := Lib.hid hu
        clear hu
        by_cases hlt2 : j < rs.length
        · obtain ⟨b, off, rfl, hc⟩ := Mv.src_at HSA.out (by omega)
          obtain ⟨g0, g1⟩ := rmC_get rs j hlt2
          have hmem : erR rs[j] ∈ A := by rw [← Q1.out]; exact List.mem_map.2 ⟨_, List.getElem_mem hlt2, rfl⟩
          have r1 := own_src (Q3.out _ (List.getElem_mem hlt2))
          obtain ⟨ea, ec, hea⟩ := Mv.src_rn r1
          rw [hea] at g1 r1
          have hcb := hc _ _ g0
          have d1 := ((hc _ _ g0).grow HU.out).2
          have d2 := ((hc _ _ g1).grow HU.out).2
          rw [← Nat.add_assoc] at d2
          obtain ⟨vm, hlk, hvm⟩ := M6.out.look hmem (SK.out _ hmem)
          have hrow := SR.out _ hmem
          obtain ⟨vma, vmc, rfl, _, _, _⟩ := own_form hvm
          have HLK := Lib.hid hlk
          have VM := Lib.hid (own_src hvm)
          have R1 := Lib.hid r1
          have HR6 := Lib.hid hrow
          unfold erR at HLK VM HR6
          obtain ⟨s, hs⟩ : ∃ s, s = rs[j].key := ⟨_, rfl⟩
          obtain ⟨row, hx⟩ : ∃ row, row = rs[j].row := ⟨_, rfl⟩
          simp only [← hs, ← hx] at d1 d2 HLK VM R1 HR6
          have hlk2 : (j : Int) < (rs.length : Int) := by omega
          clear hmem r1 hea hrow hvm hlk g0 g1
          rcases Nat.eq_zero_or_pos j with h0 | h0
          · subst h0
            clear hs hx hc
            rw [Nat.zero_mul, Nat.add_zero] at d1 d2
            go_wp2
            obtain ⟨W, hW⟩ : ∃ W, W = wr.alloc (.cells #[.string s, .slice ea row.length ec] 45) := ⟨_, rfl⟩
            rw [← hW]
            have g1 : W.cell? ⟨wr.heap.size, 0, none⟩ = some (.string s) := by rw [hW, World.cell?_alloc_new]; rfl
            have g2 : W.cell? ⟨wr.heap.size, 1, none⟩ = some (.slice ea row.length ec) := by rw [hW, World.cell?_alloc_new]; rfl
            have hUW : Up wr W := by rw [hW]; exact (Up.refl wr).alloc _
            have hb3 : wr.heap.size < W.heap.size := by rw [hW]; simp
            have HUW := Lib.hid (HU.out.trans hUW)
            have hlk : ∀ g : Gr W, Sem.run Try.prog (Instr.lookup 73 (.map (some w2.heap.size)) (.string s) false) (gr W g) = .ok (.slice vma row.length vmc) (gr W g) := fun g => HLK.out _ (HUW.out.trans (gr_up W g))
            have HEQ : Hid (∀ g : Gr W, Calls Try.prog 24 #[.slice vma row.length vmc, .slice ea row.length ec] (gr W g) fun e w' => e = .returned (.bool true) ∧ Up (gr W g) w') := fun g => equalR_same _ _ row _ (VM.out.up (HUW.out.trans (gr_up W g))) (R1.out.up (HUW.out.trans (gr_up W g))) (by have := HR6.out; omega)
            clear hW d1 d2 hUW hcb
            refine wp_region_gr (by kernel_rfl) (by kernel_rfl) ?_
            repeat (go_big_quiet_step (first | (go_at_call 24; exact gr_call (HEQ.out _)) | fail))
            refine wpQuiet_nil ?_
            intro _ hw'
            obtain ⟨gg, rfl⟩ := hw'
            go_wp2
            go_roundw
            case rel => exact ⟨0 + 1, by omega, by first | rfl | go_num, HUW.out.trans (gr_up W gg)⟩
            case measure => simp [intOf]; omega
          · obtain ⟨j0, rfl⟩ : ∃ j0, j = j0 + 1 := ⟨j - 1, by omega⟩
            have d3 := ((hc _ _ (rmC_get rs j0 (by omega)).1).grow HU.out).2
            obtain ⟨s0, hs0⟩ : ∃ s, s = rs[j0].key := ⟨_, rfl⟩
            rw [← hs0] at d3
            have hls : Op.bytesLess s0.toList s.toList = true := by
              have hq : Srt (rs.map erR) := by rw [Q1.out]; exact SS.out
              have := hq.get (i := j0) (j := j0 + 1) (by omega) (by rw [List.length_map]; exact hlt2)
              rw [List.getElem_map, List.getElem_map] at this
              rw [So.less_iff, hs, hs0]
              exact this
            clear hs hx hc hs0
            go_wp2
            obtain ⟨W, hW⟩ : ∃ W, W = wr.alloc (.cells #[.string s, .slice ea row.length ec] 45) := ⟨_, rfl⟩
            rw [← hW]
            have g1 : W.cell? ⟨wr.heap.size, 0, none⟩ = some (.string s) := by rw [hW, World.cell?_alloc_new]; rfl
            have g2 : W.cell? ⟨wr.heap.size, 1, none⟩ = some (.slice ea row.length ec) := by rw [hW, World.cell?_alloc_new]; rfl
            have hUW : Up wr W := by rw [hW]; exact (Up.refl wr).alloc _
            have hb3 : wr.heap.size < W.heap.size := by rw [hW]; simp
            have hb1 : b < wr.heap.size := ((hcb).grow HU.out).1
            have g3 := (hUW.cell (p := ⟨b, off + j0 * 2, none⟩) hb1).trans d3
            have hb2 : b < W.heap.size := Nat.lt_of_lt_of_le hb1 hUW.size
            have HUW := Lib.hid (HU.out.trans hUW)
            have hlk : ∀ g : Gr W, Sem.run Try.prog (Instr.lookup 73 (.map (some w2.heap.size)) (.string s) false) (gr W g) = .ok (.slice vma row.length vmc) (gr W g) := fun g => HLK.out _ (HUW.out.trans (gr_up W g))
            have HEQ : Hid (∀ g : Gr W, Calls Try.prog 24 #[.slice vma row.length vmc, .slice ea row.length ec] (gr W g) fun e w' => e = .returned (.bool true) ∧ Up (gr W g) w') := fun g => equalR_same _ _ row _ (VM.out.up (HUW.out.trans (gr_up W g))) (R1.out.up (HUW.out.trans (gr_up W g))) (by have := HR6.out; omega)
            clear hW d1 d2 d3 hUW hcb
            refine wp_region_gr (by kernel_rfl) (by kernel_rfl) ?_
            repeat (go_big_quiet_step (first | (go_at_call 24; exact gr_call (HEQ.out _)) | fail))
            refine wpQuiet_nil ?_
            intro _ hw'
            obtain ⟨gg, rfl⟩ := hw'
            go_wp2
            go_roundw
            case rel => exact ⟨j0 + 1 + 1, by omega, by first | rfl | go_num, HUW.out.trans (gr_up W gg)⟩
            case measure => simp [intOf]; omega
        · obtain rfl : j = rs.length := by omega
          go_wp2
          go_ret
          exact ⟨rfl, ((H1.out.trans H5.out.1.upw).trans H6.out).trans HU.out⟩
end Go.Proofs.Ytinmpodnfofmdaa.Sn
