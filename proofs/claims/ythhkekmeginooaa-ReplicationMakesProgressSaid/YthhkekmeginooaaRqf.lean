/- Replication: a newly elected leader has all committed entries: the walk. -/
import Derived.Test.YthhkekmeginooaaRqe
namespace Go.Proofs.Ythhkekmeginooaa.Rp
open Go Go.RowKit Hp
set_option linter.unusedVariables false

/-- Behind a won election. -/
structure Won (C' : Clu) (i : Nat) : Prop where
  ok : OkE C'
  ld : C'.ld (C'.lead.length - 1) = i
  l1 : 1 ≤ C'.lead.length ∧ C'.lead.length ≤ 61
  all : ∀ v, v < C'.srv.length → (C'.s v).com ≤ (C'.s v).log.length ∧ pre (C'.s i).log ((C'.s v).log.take (C'.s v).com) = true
theorem OkE.won {C : Clu} (h : OkE C) (i : Nat) (hi : i < C.srv.length) (V : List Nat) (hV : ∀ v ∈ V, v < C.srv.length) (h0 : C.electE i V = 0) : Won (C.won i V) i := by
  obtain ⟨LL, ack, ok⟩ := h
  obtain ⟨ack', h1, h2⟩ := ok.won i hi V hV h0
  have hs := won_s C i V hi hV
  have hlog : ((C.won i V).s i).log = (C.s i).log := by rw [hs, if_pos rfl]
  have hll : (C.won i V).lead.length = C.lead.length + 1 := by rw [h2, List.length_append, List.length_singleton]
  refine ⟨⟨_, _, h1.ok⟩, ?_, ⟨by omega, h1.ok.t61⟩, fun v hv => ⟨(h1.ok.inv.com v hv).le, ?_⟩⟩
  · unfold Clu.ld
    rw [hll, h2]
    simp [List.getD]
  · have hc := (h1.ok.inv.com v hv).cert (h1.ok.inv.tm v hv).2
    unfold pre
    refine decide_eq_true ?_
    rw [hlog]
    rcases hc with hc | ⟨t0, k0, c, a1, a2, a3, a4, a5, a6⟩
    · rw [hc]; exact List.nil_prefix
    · have key := h1.ok.inv.held (t' := C.lead.length) a1 (by omega) (by omega) a4 a5
      rw [updL_at] at key
      rw [a6]
      exact (take_pre_take _ a3).trans key
set_option maxRecDepth 100000 in
set_option maxHeartbeats 4000000 in
theorem walk54 (s : Int) (a : Option Addr) (len cap : Nat) (zs : List Int) (c v o : Int) (w : World) (hE : Elems w a len zs) (hl : len ≤ cap) (hm : cap ≤ 9223372036854775807) :
    Calls Try.prog 7 #[.int .i64 s, .slice a len cap, .int .i64 c, .int .i64 v, .int .i64 o] w fun e w' => e = .returned (.bool true) ∧ Up w w' := by
  have HE := Lib.hid hE
  clear hE
  obtain ⟨m, hmin, hm1, hm2⟩ := min_len 150 len
  have hmc : (m : Int) ≤ (cap : Int) := by omega
  have hmin2 : min (len : Int) 150 = (m : Int) := by rw [← hmin]; simp only [Int.min_def]; split <;> split <;> omega
  obtain ⟨x, hx1, hx2⟩ := modV_nat s 5 (by omega)
  have HX := Lib.hid hx1
  clear hx1
  obtain ⟨n, hn⟩ : ∃ n, n = 1 + x := ⟨_, rfl⟩
  have hxn : (1 : Int) + (x : Int) = (n : Int) := by omega
  have HN : Hid (1 ≤ n ∧ n ≤ 5) := ⟨by omega, by omega⟩
  have hx3 : (x : Int) ≤ 4 := by omega
  obtain ⟨i, hi1, hi2⟩ := modV_nat c (n : Int) (by omega)
  obtain ⟨t, ht1, ht2⟩ := modV_nat v (n : Int) (by omega)
  obtain ⟨u, hu1, hu2⟩ := modV_nat o (n : Int) (by omega)
  have M0 := Lib.hid (fun W => mod_any c (n : Int) W (by omega) (by omega))
  have M1 := Lib.hid (fun W => mod_any v (n : Int) W (by omega) (by omega))
  have M2 := Lib.hid (fun W => mod_any o (n : Int) W (by omega) (by omega))
  rw [hi1] at M0
  rw [ht1] at M1
  rw [hu1] at M2
  have HI : Hid (i < n ∧ t < n ∧ u < n) := ⟨by omega, by omega, by omega⟩
  clear hn hx2 hi1 ht1 hu1 hi2 ht2 hu2
  go_enter Try.func7, Try.ntmps7
  go_wp2_with (first
    | (go_at_call 10; refine (new_any n HN.out.1 HN.out.2 _).mono ?_; rintro e w1 ⟨p, F0, rfl, hO0⟩; have H0 : Hid (Hist w w1 p n (newC n) F0) := Hist.new HN.out.1 HN.out.2 U1.out hO0; clear hO0)
    | (go_at_call 8; refine (works_any _).mono ?_; rintro e w1 ⟨rfl, h1⟩; have U1 := Lib.hid h1; clear h1)
    | (go_at_call 9; refine (mod_any s 5 _ (by omega) (by omega)).mono ?_; rw [HX.out]; rintro e w' ⟨rfl, rfl⟩)
    | fail)
  clear hmin hmin2
  go_loopw [45] (fun iv wr => ∃ k : Nat, k ≤ m ∧ iv = .int .i64 k ∧ Hid (HistE w wr p n)) (fun iv _ => m - (intOf iv).toNat)
  case atStart => exact ⟨0, Nat.zero_le _, rfl, ⟨_, _, H0.out⟩⟩
  case round =>
    obtain ⟨k, hk, rfl, HI2⟩ := hrel
    obtain ⟨wo, hwo⟩ : ∃ wo : World, wo = wr := ⟨_, rfl⟩
    rw [← hwo] at HI2 ⊢
    clear hwo
    obtain ⟨C, F, hH⟩ := HI2.out
    have HH := Lib.hid hH
    clear hH HI2
    by_cases hlt : k < m
    · obtain ⟨b, off, rfl, hbl, hcell⟩ := elems_up HE.out HH.out.own.up k (by omega)
      have hkm : (k : Int) < (m : Int) := by omega
      generalize zs.getD k 0 = z at *
      go_wp2_with (first
        | (go_at_call 16; refine (stepH HH.out z).mono ?_; rintro e w3 ⟨rfl, C', F', H3, N3, _⟩)
        | fail)
      go_roundw
      case rel => exact ⟨k + 1, by omega, by go_num, ⟨_, _, H3.out⟩⟩
      case measure => simp [intOf]; omega
    · obtain rfl : k = m := by omega
      clear H0 hlt
      have HV2 : Hid (∀ v ∈ [t, u], v < C.srv.length) := fun v hv => by
        simp only [List.mem_cons, List.not_mem_nil, or_false] at hv
        have := HI.out
        rw [HH.out.n]
        rcases hv with rfl | rfl <;> omega
      have HIC : Hid (i < C.srv.length) := by unfold Hid; rw [HH.out.n]; exact HI.out.1
      have HE2 := Lib.hid (fun (W : World) (hW : Up wo W) (vv : Value) => electO (HH.out.own.grow hW) HH.out.ok i HIC.out [t, u] HV2.out (by show (2 : Nat) ≤ 1000; omega) vv)
      by_cases h0 : C.electE i [t, u] = 0
      · have HW := Lib.hid (HH.out.ok.won i HIC.out [t, u] HV2.out h0)
        have HEC : Hid (C.electC i [t, u] = C.won i [t, u]) := by unfold Hid Clu.electC; rw [if_pos h0]
        rw [h0, HEC.out] at HE2
        have HN2 : Hid ((C.won i [t, u]).srv.length = n) := ((put_n ..).trans (elts_n _ _ _).1).trans HH.out.n
        generalize C.won i [t, u] = C' at *
        clear h0
        have HIC2 : Hid (i < C'.srv.length) := by unfold Hid; rw [HN2.out]; exact HI.out.1
        have hii : ((i : Int) != (i : Int)) = false := by simp
        go_wp2_with (first
          | (go_at_call 9; have q9 := V2; clear q9; refine (M2.out _).mono ?_; rintro e w' ⟨rfl, rfl⟩)
          | (go_at_call 9; have q9 := V1; clear q9; refine (M1.out _).mono ?_; rintro e w' ⟨rfl, rfl⟩; have V2 : Hid True := trivial)
          | (go_at_call 9; refine (M0.out _).mono ?_; rintro e w' ⟨rfl, rfl⟩; have V1 : Hid True := trivial)
          | (go_at_call 17; refine (HE2.out _ ((Up.refl wo).alloc _) _ (blk_src (Blk.new wo #[nv t, nv u] 3) rfl (Nat.le_refl 2) (by omega))).mono ?_; rintro e w3 ⟨rfl, ⟨F3, O3⟩, _⟩; have HLD := Lib.hid (leader_any O3.out.clu HW.out.l1.1 (by have := HW.out.l1.2; omega)); rw [HW.out.ld] at HLD)
          | (go_at_call 18; refine HLD.out.mono ?_; rintro e w' ⟨rfl, rfl⟩)
          | (go_at_call 15; refine (logO O3.out HW.out.ok i HIC2.out).mono ?_; rintro e w4 ⟨va, rfl, L4, U4, O4⟩; obtain ⟨la, lc, rfl, _, _, _⟩ := own_form L4.out)
          | fail)
        have hla := HW.out.ok.loglen HIC2.out
        go_loopw [88] (fun jv wr => ∃ j : Nat, j ≤ n ∧ jv = .int .i64 j ∧ Hid (Up w4 wr)) (fun jv _ => n - (intOf jv).toNat)
        case atStart => exact ⟨0, Nat.zero_le _, rfl, Up.refl _⟩
        case round =>
          obtain ⟨j, hj, rfl, HU⟩ := hrel
          obtain ⟨wj, hwj⟩ : ∃ wj : World, wj = wr := ⟨_, rfl⟩
          rw [← hwj] at HU ⊢
          clear hwj
          by_cases hlt2 : j < n
          · have hjn : (j : Int) < (n : Int) := by omega
            have HJC : Hid (j < C'.srv.length) := by unfold Hid; rw [HN2.out]; exact hlt2
            have HO5 := Lib.hid (O4.out.grow HU.out)
            have HA := Lib.hid (HW.out.all j HJC.out)
            have hlb := HW.out.ok.loglen HJC.out
            have HLA : Hid (∀ W, Up wj W → Src W 2 (.slice la (C'.s i).log.length lc) (C'.s i).log.length (enC (C'.s i).log)) := fun W hW => own_src (own_up L4.out (HU.out.trans hW))
            have g1 : ((C'.s j).com : Int) ≤ ((C'.s j).log.length : Int) := by have := HA.out.1; omega
            have g4 : ((C'.s j).com : Int) ≤ 60 := by omega
            have n2 : ¬ (C'.s j).log.length < (C'.s j).com := by omega
            have n4 : decide ((C'.s j).log.length < (C'.s j).com) = false := decide_eq_false n2
            have HPL : Hid (((C'.s j).log.take (C'.s j).com).length = (C'.s j).com) := by unfold Hid; rw [List.length_take]; omega
            go_wp2_with (first
              | (go_at_call 15; refine (logO HO5.out HW.out.ok j HJC.out).mono ?_; rintro e w5 ⟨vb, rfl, L5, U5, O5⟩; obtain ⟨ba, bc, rfl, hbc1, hbc2, _⟩ := own_form L5.out; have g3 : ((C'.s j).com : Int) ≤ (bc : Int) := (by omega); have HS := Lib.hid (starts_any (.slice la (C'.s i).log.length lc) (.slice ba (C'.s j).com bc) (C'.s i).log ((C'.s j).log.take (C'.s j).com) w5 (HLA.out _ U5.out) (by rw [HPL.out]; exact src_preE (own_src L5.out) HA.out.1) (by omega) (by rw [HPL.out]; omega)); rw [HA.out.2] at HS)
              | (go_at_call 20; refine HS.out.mono ?_; rintro e w6 ⟨rfl, h6⟩; have U6 := Lib.hid h6; clear h6)
              | fail)
            go_roundw
            case rel => exact ⟨j + 1, by omega, by go_num, (HU.out.trans U5.out).trans U6.out⟩
            case measure => simp [intOf]; omega
          · obtain rfl : j = n := by omega
            go_wp2
            go_ret
            exact ⟨rfl, O4.out.up.trans HU.out⟩
      · have h0b : (C.electE i [t, u] == 0) = false := beq_eq_false_iff_ne.2 h0
        generalize C.electE i [t, u] = ee at *
        go_wp2_with (first
          | (go_at_call 9; have q9 := V2; clear q9; refine (M2.out _).mono ?_; rintro e w' ⟨rfl, rfl⟩)
          | (go_at_call 9; have q9 := V1; clear q9; refine (M1.out _).mono ?_; rintro e w' ⟨rfl, rfl⟩; have V2 : Hid True := trivial)
          | (go_at_call 9; refine (M0.out _).mono ?_; rintro e w' ⟨rfl, rfl⟩; have V1 : Hid True := trivial)
          | (go_at_call 17; refine (HE2.out _ ((Up.refl wo).alloc _) _ (blk_src (Blk.new wo #[nv t, nv u] 3) rfl (Nat.le_refl 2) (by omega))).mono ?_; rintro e w3 ⟨rfl, ⟨F3, O3⟩, _⟩)
          | fail)
        go_ret
        exact ⟨rfl, O3.out.up⟩
end Go.Proofs.Ythhkekmeginooaa.Rp
