/- Replication: progress: the walk. -/
import Derived.Test.YthhkekmeginooaaRqi
import Derived.Deep.CutBlock
namespace Go.Proofs.Ythhkekmeginooaa.Rp
open Go Go.RowKit Hp
set_option linter.unusedVariables false

section
variable {w W : World} {p : Nat} {C : Clu} {F : Nat → Prop}
theorem electF (h : OwnC w W p C F) (k : OkE C) (i : Nat) (hi : i < C.srv.length) (V : List Nat) (hV : ∀ v ∈ V, v < C.srv.length) (hVl : V.length ≤ 1000) (vv : Value) (hvv : Src W 1 vv V.length (icN V)) :
    Calls Try.prog 17 #[.pointer (some ⟨p, 0, none⟩), .int .i64 (i : Int), vv] W fun e w' => e = .returned (.int .i64 (C.electE i V)) ∧ Hid (OwnC w w' p (C.electC i V) (Fx F W w')) ∧ Hid (Chg F W w') := by
  obtain ⟨LL, ack, ok⟩ := k
  exact (elect_any h.clu ok i hi V hV hVl vv hvv).mono fun e w' ⟨a, b⟩ => ⟨a, h.step b, b.2⟩
theorem leaderO (h : OwnC w W p C F) (k : OkE C) :
    Calls Try.prog 18 #[.pointer (some ⟨p, 0, none⟩)] W fun e w' => e = .returned (.tuple #[.int .i64 (C.ld (C.lead.length - 1) : Int), .int .i64 ((C.lead.length - 1 : Nat) : Int)]) ∧ W = w' := by
  obtain ⟨LL, ack, ok⟩ := k
  exact leader_any h.clu (by have := ok.t2; omega) (by have := ok.t61; omega)
theorem flightO (h : OwnC w W p C F) (k : OkE C) (hs : NetS C) :
    Calls Try.prog 19 #[.pointer (some ⟨p, 0, none⟩)] W fun e w' => ∃ a c, e = .returned (.slice a C.net.length c) ∧ Hid (Up W w') := by
  obtain ⟨LL, ack, ok⟩ := k
  exact flight_any h.clu ok.net fun m hm => Nat.le_trans (hs m hm) (by decide)
end
/-- The row of all servers, apart from the cluster. -/
structure AllR (wl wr : World) (F : Nat → Prop) (n : Nat) (av : Value) : Prop where
  own : wr.ownsRow wl.heap.size 3 1 av n (icN (List.range n))
  far : ∀ k, av.ownBlock = some k → ¬ F k
theorem AllR.step {wl wr w' : World} {F : Nat → Prop} {n : Nat} {av : Value} (h : AllR wl wr F n av) (hc : Chg F wr w') : AllR wl w' (Fx F wr w') n av :=
  ⟨own_chg h.own hc h.far, fun k hk e => e.elim (h.far k hk) fun e => by have := own_lt h.own k hk; omega⟩
def lastB : ByteArray := ⟨#[108, 97, 115, 116]⟩
/-- Ahead of the deliveries of a round; behind them; in the midst of the sending. -/
def G0 (w wr : World) (p ld T : Nat) (L : Lg) (n r : Nat) : Prop := ∃ C F LL ack, OwnC w wr p C F ∧ Pg C LL ack ld T L ∧ Stg C ld T L r ∧ (1 ≤ r → Stq C ld L (r - 1)) ∧ C.srv.length = n
def G1 (w wr : World) (p ld T : Nat) (L : Lg) (n r t : Nat) : Prop := ∃ C F LL ack, OwnC w wr p C F ∧ Pg C LL ack ld T L ∧ Stg C ld T L r ∧ (wt C.net + t ≤ 200 ∨ C.net = []) ∧ C.srv.length = n
def G2 (w wr : World) (p ld T : Nat) (L : Lg) (n r : Nat) : Prop := ∃ C F LL ack, OwnC w wr p C F ∧ Pg C LL ack ld T L ∧ Stq C ld L r ∧ C.net = [] ∧ C.srv.length = n
def G3 (w wr : World) (p ld T : Nat) (L : Lg) (n r k : Nat) : Prop := ∃ C F LL ack, OwnC w wr p C F ∧ Pg C LL ack ld T L ∧ Stn C ld T L r k ∧ C.srv.length = n
theorem wt_zero {l : List Msg} (h : wt l = 0) : l = [] := by
  cases l with
  | nil => rfl
  | cons m l => rw [wt_cons] at h; split at h <;> omega
theorem lastC {L : Lg} {l : Lg} {T : Nat} (h : L = l ++ [⟨T, lastB⟩]) (hp : 0 < L.length) : (L[L.length - 1]'(by omega)).pay = lastB := by
  subst h; simp
set_option maxRecDepth 100000 in
set_option maxHeartbeats 8000000 in
theorem walk51 (s : Int) (a : Option Addr) (len cap : Nat) (zs : List Int) (w : World) (hE : Elems w a len zs) (hl : len ≤ cap) (hm : cap ≤ 9223372036854775807) :
    Calls Try.prog 4 #[.int .i64 s, .slice a len cap] w fun e w' => e = .returned (.bool true) ∧ Up w w' := by
  have HE := Lib.hid hE
  clear hE
  obtain ⟨m, hmin, hm1, hm2⟩ := min_len 60 len
  have hmc : (m : Int) ≤ (cap : Int) := by omega
  have hmin2 : min (len : Int) 60 = (m : Int) := by rw [← hmin]; simp only [Int.min_def]; split <;> split <;> omega
  obtain ⟨x, hx1, hx2⟩ := modV_nat s 5 (by omega)
  have HX := Lib.hid hx1
  clear hx1
  obtain ⟨n, hn⟩ : ∃ n, n = 1 + x := ⟨_, rfl⟩
  have hxn : (1 : Int) + (x : Int) = (n : Int) := by omega
  have HN : Hid (1 ≤ n ∧ n ≤ 5) := ⟨by omega, by omega⟩
  have hx3 : (x : Int) ≤ 4 := by omega
  have hn5 : n ≤ 5 := by omega
  obtain ⟨ii, hii, hze0, hze1, hze2⟩ := info_parts Try.infoI
  clear hn hx2
  go_enter Try.func4, Try.ntmps4
  go_wp2_with (first
    | (go_at_call 10; refine (new_any n HN.out.1 HN.out.2 _).mono ?_; rintro e w1 ⟨p, F0, rfl, hO0⟩; have H0 : Hid (Hist w w1 p n (newC n) F0) := Hist.new HN.out.1 HN.out.2 U1.out hO0; clear hO0)
    | (go_at_call 8; refine (works_any _).mono ?_; rintro e w1 ⟨rfl, h1⟩; have U1 := Lib.hid h1; clear h1)
    | (go_at_call 9; refine (mod_any s 5 _ (by omega) (by omega)).mono ?_; rw [HX.out]; rintro e w' ⟨rfl, rfl⟩)
    | fail)
  clear hmin hmin2
  go_loopw [42] (fun iv wr => ∃ k : Nat, k ≤ m ∧ iv = .int .i64 k ∧ Hid (HistE w wr p n)) (fun iv _ => m - (intOf iv).toNat)
  case atStart => exact ⟨0, Nat.zero_le _, rfl, ⟨_, _, H0.out⟩⟩
  case round =>
    obtain ⟨k, hk, rfl, HI2⟩ := hrel
    obtain ⟨wo, hwo⟩ : ∃ wo : World, wo = wr := ⟨_, rfl⟩
    rw [← hwo] at HI2 ⊢
    clear hwo
    obtain ⟨C, F, hH⟩ := HI2.out
    have HH := Lib.hid hH
    clear hH HI2
    by_cases hlt : k < m
    · obtain ⟨b, off, rfl, hbl, hcell⟩ := elems_up HE.out HH.out.own.up k (by omega)
      have hkm : (k : Int) < (m : Int) := by omega
      generalize zs.getD k 0 = z at *
      go_wp2_with (first
        | (go_at_call 16; refine (stepH HH.out z).mono ?_; rintro e w3 ⟨rfl, C', F', H3, N3, _⟩)
        | fail)
      go_roundw
      case rel => exact ⟨k + 1, by omega, by go_num, ⟨_, _, H3.out⟩⟩
      case measure => simp [intOf]; omega
    · obtain rfl : k = m := by omega
      clear H0 hlt
      go_wp2
      go_loopw [9, 52] (fun av iv wr => ∃ j : Nat, j ≤ n ∧ iv = .int .i64 j ∧ Hid (wr.ownsRow wo.heap.size 3 1 av j (icN (List.range j)) ∧ Up wo wr)) (fun _ iv _ => n - (intOf iv).toNat)
      case atStart => exact ⟨0, Nat.zero_le _, rfl, World.ownsRow_nil _ _ _ _, Up.refl _⟩
      case round =>
        obtain ⟨j, hj, rfl, HQ⟩ := hrel
        obtain ⟨wj, hwj⟩ : ∃ wj : World, wj = wr := ⟨_, rfl⟩
        rw [← hwj] at HQ ⊢
        clear hwj
        obtain ⟨aa, ac, rfl, _, _, _⟩ := own_form HQ.out.1
        by_cases hlt : j < n
        · have hjn : (j : Int) < (n : Int) := by omega
          go_wp2_with (first
            | (at_builtin; refine wpList_append_lies _ rfl (.tmp 55) (.tmp 57) 22 rfl wo.heap.size 3 ii (.int .i64 0) 1 8 Try.underlying22 hii hze0 hze1 hze2 rfl (by decide) (.slice aa j ac) j (icN (List.range j)) rfl (own_up HQ.out.1 ((Up.refl wj).alloc _)) ⟨wj.heap.size, 0, none⟩ 1 1 [nv j] rfl rfl (cell_nv _ _ _ _ rfl) (by intro u hu; rw [List.mem_singleton.1 hu]; rfl) (by decide) (by unfold maxLen; omega) (by omega) (by have := HQ.out.2.size; simp; omega) _ rfl ?_; intro g2 c2 w5 hown2 hgrow2 hat2 hlt2; have N5 : Hid (w5.ownsRow wo.heap.size 3 1 (.slice (some ⟨g2, 0, none⟩) (j + 1) c2) (j + 1) (icN (List.range (j + 1))) ∧ Up wo w5) := ⟨by rw [List.range_succ]; simpa [icN] using hown2, Below.grown (HQ.out.2.trans ((Up.refl wj).alloc _)) hgrow2 (HQ.out.2.trans ((Up.refl wj).alloc _)).size fun q hq => ((own_ty HQ.out.1) q hq).2⟩; clear hown2 hgrow2 hat2)
            | fail)
          go_roundw
          case rel => exact ⟨j + 1, by omega, by go_num, N5.out⟩
          case measure => simp [intOf]; omega
        · obtain rfl : j = n := by omega
          clear hlt
          have HO2 := Lib.hid (HH.out.own.grow HQ.out.2)
          have HAR : Hid (AllR wo wj F j (.slice aa j ac)) := ⟨HQ.out.1, fun q hq e => by have := ((own_ty HQ.out.1) q hq).2; have := HH.out.own.clu.lt q e; omega⟩
          go_wp2
          go_loopw [11, 61] (fun lv iv wr => ∃ i : Nat, i ≤ j ∧ iv = .int .i64 i ∧ Hid ((lv = .int .i64 (-1) ∧ (∃ F', OwnC w wr p C F' ∧ AllR wo wr F' j (.slice aa j ac)) ∧ ∀ q, q < i → ¬ C.electE q (List.range j) = 0) ∨ ∃ ld : Nat, lv = .int .i64 (ld : Int) ∧ ld < j ∧ C.electE ld (List.range j) = 0 ∧ ∃ F', OwnC w wr p (C.won ld (List.range j)) F')) (fun _ iv _ => j - (intOf iv).toNat)
          case atStart => exact ⟨0, Nat.zero_le _, rfl, .inl ⟨rfl, ⟨_, HO2.out, HAR.out⟩, fun q h => by omega⟩⟩
          case round =>
            obtain ⟨i, hi, rfl, HC⟩ := hrel
            obtain ⟨wi, hwi⟩ : ∃ wi : World, wi = wr := ⟨_, rfl⟩
            rw [← hwi] at HC ⊢
            clear hwi
            have hVR : ∀ v ∈ List.range j, v < C.srv.length := fun v hv => by rw [HH.out.n]; exact List.mem_range.1 hv
            have HVR := Lib.hid hVR
            clear hVR
            rcases HC.out with ⟨rfl, ⟨F', o1, o2⟩, hno⟩ | ⟨ld, rfl, hld, h0, F', o1⟩
            · have O1 := Lib.hid o1
              have O2 := Lib.hid o2
              have HNO := Lib.hid hno
              clear o1 o2 hno HC
              by_cases hlt : i < j
              · have hij : (i : Int) < (j : Int) := by omega
                have HEL := Lib.hid (electF O1.out HH.out.ok i (by rw [HH.out.n]; exact hlt) (List.range j) HVR.out (by rw [List.length_range]; omega) (.slice aa j ac) (by rw [List.length_range]; exact own_src O2.out.own))
                by_cases h0 : C.electE i (List.range j) = 0
                · have HEC : Hid (C.electC i (List.range j) = C.won i (List.range j)) := by unfold Hid Clu.electC; rw [if_pos h0]
                  rw [h0, HEC.out] at HEL
                  have H0 := Lib.hid h0
                  clear h0
                  go_wp2_with (first
                    | (go_at_call 17; refine HEL.out.mono ?_; rintro e w5 ⟨rfl, O5, G5⟩)
                    | fail)
                  go_roundw
                  case rel => exact ⟨i + 1, by omega, by go_num, .inr ⟨i, rfl, hlt, H0.out, _, O5.out⟩⟩
                  case measure => simp [intOf]; omega
                · have HEC : Hid (C.electC i (List.range j) = C) := by unfold Hid Clu.electC; rw [if_neg h0]
                  rw [HEC.out] at HEL
                  have H0 := Lib.hid h0
                  have hb : (C.electE i (List.range j) == 0) = false := beq_eq_false_iff_ne.2 h0
                  generalize hee : C.electE i (List.range j) = ee at HEL hb h0
                  clear hee
                  go_wp2_with (first
                    | (go_at_call 17; refine HEL.out.mono ?_; rintro e w5 ⟨rfl, O5, G5⟩)
                    | fail)
                  go_roundw
                  case rel => exact ⟨i + 1, by omega, by go_num, .inl ⟨rfl, ⟨_, O5.out, O2.out.step G5.out⟩, fun q hq => by
                    rcases Nat.lt_or_ge q i with e | e
                    · exact HNO.out q e
                    · obtain rfl : q = i := by omega
                      exact H0.out⟩⟩
                  case measure => simp [intOf]; omega
              · obtain rfl : i = j := by omega
                have H60 : Hid (60 < C.lead.length) := elect_can C (by rw [HH.out.n]; exact HN.out.1) (by rw [HH.out.n]; exact HNO.out)
                have HLD := Lib.hid (leaderO O1.out HH.out.ok)
                have hT : (60 : Int) ≤ ((C.lead.length - 1 : Nat) : Int) := by have := H60.out; omega
                have hT2 : 60 ≤ C.lead.length - 1 := by omega
                generalize C.lead.length - 1 = T0 at HLD hT hT2
                go_wp2_with (first
                  | (go_at_call 18; refine HLD.out.mono ?_; rintro e w' ⟨rfl, rfl⟩)
                  | fail)
                go_ret
                exact ⟨rfl, O1.out.up⟩
            · have O1 := Lib.hid o1
              have H0 := Lib.hid h0
              clear o1 h0 HC
              have hl0 : ¬ (ld : Int) < 0 := by omega
              by_cases hlt : i < j
              · have hij : (i : Int) < (j : Int) := by omega
                go_wp2
                go_roundw
                case rel => exact ⟨i + 1, by omega, by go_num, .inr ⟨ld, rfl, hld, H0.out, _, O1.out⟩⟩
                case measure => simp [intOf]; omega
              · obtain rfl : i = j := by omega
                clear hlt
                obtain ⟨Wc, hW⟩ : ∃ Wc, Wc = C.won ld (List.range C.srv.length) := ⟨_, rfl⟩
                rw [show C.won ld (List.range i) = Wc by rw [hW, HH.out.n]] at O1
                have HNX : Hid (Next C Wc) := by
                  have := Next.elect C ld (by rw [HH.out.n]; exact hld) (List.range C.srv.length) (range_lt _)
                  unfold Clu.electC at this
                  rw [if_pos (by rw [HH.out.n]; exact H0.out), ← hW] at this
                  exact this
                have HWN : Hid (Wc.srv.length = i) := HNX.out.n.trans HH.out.n
                have HAP := Lib.hid (appO O1.out (HNX.out.okE HH.out.ok) ld (by rw [HWN.out]; exact hld) lastB (by decide))
                have HNA := Lib.hid (Next.app Wc ld (by rw [HWN.out]; exact hld) lastB)
                by_cases ha : Wc.appE ld = 0
                · have HST : Hid (∃ LL ack, Pg (Wc.appC ld lastB) LL ack ld C.lead.length ((Wc.s ld).log ++ [⟨C.lead.length, lastB⟩]) ∧ Stg (Wc.appC ld lastB) ld C.lead.length ((Wc.s ld).log ++ [⟨C.lead.length, lastB⟩]) 0) :=
                    Pg.start HH.out.ok HH.out.net (by rw [HH.out.n]; exact hld) (by rw [HH.out.n]; exact H0.out) Wc hW ha
                  rw [ha] at HAP
                  have HSN : Hid ((Wc.appC ld lastB).srv.length = i) := HNA.out.n.trans HWN.out
                  obtain ⟨L, hL⟩ : ∃ L, L = (Wc.s ld).log ++ [⟨C.lead.length, lastB⟩] := ⟨_, rfl⟩
                  rw [← hL] at HST
                  have HLL := Lib.hid (lastC hL)
                  generalize Wc.appC ld lastB = C1 at *
                  generalize C.lead.length = T at *
                  clear ha hW hL HNA HNX HWN
                  go_wp2_with (first
                    | (go_at_call 11; refine HAP.out.mono ?_; rintro e w5 ⟨rfl, F5, O5⟩)
                    | fail)
                  have HG : Hid (G0 w w5 p ld T L i 0) := by
                    obtain ⟨LL, ack, h1, h2⟩ := HST.out
                    exact ⟨C1, F5, LL, ack, O5.out, h1, h2, fun h => by omega, HSN.out⟩
                  clear HST HSN O5
                  go_loopw [94] (fun rv wr => ∃ r : Nat, r ≤ 140 ∧ rv = .int .i64 r ∧ Hid (G0 w wr p ld T L i r)) (fun rv _ => 140 - (intOf rv).toNat)
                  case atStart => exact ⟨0, by omega, rfl, HG.out⟩
                  case round =>
                    obtain ⟨r, hr, rfl, HG0⟩ := hrel
                    obtain ⟨wq, hwq⟩ : ∃ wq : World, wq = wr := ⟨_, rfl⟩
                    rw [← hwq] at HG0 ⊢
                    clear hwq HG
                    by_cases hlt : r < 140
                    · have hri : (r : Int) < 140 := by omega
                      go_upto_block 8 with (fail)
                      go_cut [] from 96 to 105 (fun wx => Hid (G2 w wx p ld T L i r))
                      case first =>
                        go_wp2
                        go_loopw [96] (fun tv wr => ∃ t : Nat, t ≤ 200 ∧ tv = .int .i64 t ∧ Hid (G1 w wr p ld T L i r t)) (fun tv _ => 200 - (intOf tv).toNat)
                        case atStart =>
                          obtain ⟨C2, F2, LL, ack, h1, h2, h3, _, h5⟩ := HG0.out
                          exact ⟨0, by omega, rfl, C2, F2, LL, ack, h1, h2, h3, .inl (by have := wt_le C2.net; have := h2.ok.net; omega), h5⟩
                        case round =>
                          obtain ⟨t, ht, rfl, HG1⟩ := hrel
                          obtain ⟨wt1, hwt1⟩ : ∃ wt : World, wt = wr := ⟨_, rfl⟩
                          rw [← hwt1] at HG1 ⊢
                          clear hwt1
                          obtain ⟨C2, F2, LL, ack, h1, h2, h3, h4, h5⟩ := HG1.out
                          have HO := Lib.hid h1
                          have HP := Lib.hid h2
                          have HS := Lib.hid h3
                          have HWT := Lib.hid h4
                          have HN5 := Lib.hid h5
                          clear h1 h2 h3 h4 h5 HG1
                          have HOE : Hid (OkE C2) := ⟨_, _, HP.out.ok⟩
                          by_cases hlt2 : t < 200
                          · have hti : (t : Int) < 200 := by omega
                            have HFL := flightO HO.out HOE.out HP.out.small
                            cases hnet : C2.net with
                            | nil =>
                              rw [show C2.net.length = 0 by rw [hnet]; rfl] at HFL
                              have HFL := Lib.hid HFL
                              have HNE := Lib.hid hnet
                              clear hnet
                              go_wp2_with (first
                                | (go_at_call 19; refine HFL.out.mono ?_; rintro e w7 ⟨fa, fc, rfl, U7⟩)
                                | fail)
                              go_meet
                              exact ⟨C2, F2, LL, ack, HO.out.grow U7.out, HP.out, HS.out.quiet HNE.out, HNE.out, HN5.out⟩
                            | cons m rest =>
                              obtain ⟨fl, hfl⟩ : ∃ fl, fl = C2.net.length := ⟨_, rfl⟩
                              have hfl0 : ¬ (fl : Int) = 0 := by rw [hfl, hnet, List.length_cons]; omega
                              have hflb : ((fl : Int) == 0) = false := beq_eq_false_iff_ne.2 hfl0
                              rw [← hfl] at HFL
                              have HFL := Lib.hid HFL
                              have HNE := Lib.hid hnet
                              have HDL := Lib.hid (fun W (hW : Up wt1 W) => deliverO (HO.out.grow hW) HOE.out 0)
                              have hE0 : C2.netE 0 = 0 := by unfold Clu.netE; rw [if_pos (by rw [hnet]; exact Nat.succ_pos _)]
                              rw [hE0] at HDL
                              clear hnet hfl hE0
                              go_wp2_with (first
                                | (go_at_call 19; refine HFL.out.mono ?_; rintro e w7 ⟨fa, fc, rfl, U7⟩)
                                | (go_at_call 14; refine (HDL.out _ U7.out).mono ?_; rintro e w8 ⟨rfl, F8, O8⟩)
                                | fail)
                              have HG2 : Hid (G1 w w8 p ld T L i r (t + 1)) := by
                                obtain ⟨ack', k1, k2, _, _⟩ := HP.out.deliver HNE.out
                                have k3 := HP.out.wt HNE.out
                                refine ⟨C2.deliver 0, F8, LL, ack', O8.out, k1, HP.out.stg HNE.out HS.out, ?_, k2.trans HN5.out⟩
                                rcases HWT.out with e | e
                                · left; omega
                                · rw [HNE.out] at e; cases e
                              go_roundw
                              case rel => exact ⟨t + 1, by omega, by go_num, HG2.out⟩
                              case measure => simp [intOf]; omega
                          · have HNE : Hid (C2.net = []) := by
                              rcases HWT.out with e | e
                              · exact wt_zero (by omega)
                              · exact e
                            go_wp2
                            go_meet
                            exact ⟨C2, F2, LL, ack, HO.out, HP.out, HS.out.quiet HNE.out, HNE.out, HN5.out⟩
                      case rest =>
                        have HG2 := Lib.hid hcut.out
                        clear hcut
                        go_wp2
                        go_loopw [107] (fun kv wr => ∃ k : Nat, k ≤ i ∧ kv = .int .i64 k ∧ Hid (G3 w wr p ld T L i r k)) (fun kv _ => i - (intOf kv).toNat)
                        case atStart =>
                          obtain ⟨C2, F2, LL, ack, h1, h2, h3, h4, h5⟩ := HG2.out
                          exact ⟨0, Nat.zero_le _, rfl, C2, F2, LL, ack, h1, h2, h3.start h4, h5⟩
                        case round =>
                          obtain ⟨k2, hk2, rfl, HG3⟩ := hrel
                          obtain ⟨ws, hws⟩ : ∃ ws : World, ws = wr := ⟨_, rfl⟩
                          rw [← hws] at HG3 ⊢
                          clear hws
                          obtain ⟨C2, F2, LL, ack, h1, h2, h3, h5⟩ := HG3.out
                          have HO := Lib.hid h1
                          have HP := Lib.hid h2
                          have HS := Lib.hid h3
                          have HN5 := Lib.hid h5
                          clear h1 h2 h3 h5
                          have HOE : Hid (OkE C2) := ⟨_, _, HP.out.ok⟩
                          by_cases hlt2 : k2 < i
                          · have hki : (k2 : Int) < (i : Int) := by omega
                            by_cases hkl : k2 = ld
                            · have hkli : (k2 : Int) = (ld : Int) := by omega
                              have hb : ((k2 : Int) == (ld : Int)) = true := by rw [hkli]; simp
                              have HST2 := Lib.hid (HS.out.skip hkl)
                              clear hkl
                              go_wp2
                              go_roundw
                              case rel => exact ⟨k2 + 1, by omega, by go_num, C2, F2, LL, ack, HO.out, HP.out, HST2.out, HN5.out⟩
                              case measure => simp [intOf]; omega
                            · have hkli : ¬ (k2 : Int) = (ld : Int) := by omega
                              have hb : ((k2 : Int) == (ld : Int)) = false := beq_eq_false_iff_ne.2 hkli
                              have hnl : C2.net.length < 100 := by have := HS.out.len; omega
                              have hk3 : k2 < C2.srv.length := by rw [HN5.out]; exact hlt2
                              obtain ⟨e1, e2⟩ := HP.out.sendC k2 hkl hnl
                              have HSD := sendO HO.out HOE.out ld k2 HP.out.ldn hk3
                              rw [e1, e2] at HSD
                              have HSD := Lib.hid HSD
                              have HPS := Lib.hid (HP.out.send k2 hkl hk3 hnl)
                              have HST2 := Lib.hid (HS.out.send HP.out)
                              clear e1 e2 hnl hk3 hkl
                              go_wp2_with (first
                                | (go_at_call 13; refine HSD.out.mono ?_; rintro e w8 ⟨rfl, F8, O8⟩)
                                | fail)
                              go_roundw
                              case rel => exact ⟨k2 + 1, by omega, by go_num, C2.send ld k2, F8, LL, ack, O8.out, HPS.out, HST2.out, HN5.out⟩
                              case measure => simp [intOf]; omega
                          · obtain rfl : k2 = i := by omega
                            have HFN : Hid (G0 w ws p ld T L k2 (r + 1)) := ⟨C2, F2, LL, ack, HO.out, HP.out, Stn.fin HP.out (by rw [HN5.out]; exact HS.out), fun _ => by rw [Nat.add_sub_cancel]; exact HS.out.q, HN5.out⟩
                            go_wp2
                            go_roundw
                            case rel => exact ⟨r + 1, by omega, by go_num, HFN.out⟩
                            case measure => simp [intOf]; omega
                    · have hri : ¬ (r : Int) < 140 := by omega
                      have HFIN : Hid (∃ C F LL ack, OwnC w wq p C F ∧ Pg C LL ack ld T L ∧ C.srv.length = i ∧ ∀ v, v < C.srv.length → (C.s v).log = L ∧ (C.s v).com = L.length) := by
                        obtain ⟨C2, F2, LL, ack, h1, h2, _, h4, h5⟩ := HG0.out
                        exact ⟨C2, F2, LL, ack, h1, h2, h5, (h4 (by omega)).done h2 (by omega)⟩
                      obtain ⟨C2, F2, LL, ack, h1, h2, h3, h4⟩ := HFIN.out
                      have HO := Lib.hid h1
                      have HP := Lib.hid h2
                      have HN5 := Lib.hid h3
                      have HD := Lib.hid h4
                      clear h1 h2 h3 h4 HFIN HG0
                      have HOE : Hid (OkE C2) := ⟨_, _, HP.out.ok⟩
                      have hL1 := HP.out.L1
                      have hL60 := HP.out.L60
                      obtain ⟨l1, hl1⟩ : ∃ l1, L.length = l1 + 1 := ⟨L.length - 1, by omega⟩
                      have hlm : (L.length : Int) - 1 = (l1 : Int) := by omega
                      have HL1 := Lib.hid hl1
                      have hl1i : (l1 : Int) < (L.length : Int) := by omega
                      have hL0 : ¬ (L.length : Int) = 0 := by omega
                      have hLb : ((L.length : Int) == 0) = false := beq_eq_false_iff_ne.2 hL0
                      have hLn : ¬ L.length = 0 := by omega
                      clear hl1
                      go_wp2
                      go_loopw [123] (fun kv wr => ∃ k : Nat, k ≤ i ∧ kv = .int .i64 k ∧ Hid (OwnC w wr p C2 F2)) (fun kv _ => i - (intOf kv).toNat)
                      case atStart => exact ⟨0, Nat.zero_le _, rfl, HO.out⟩
                      case round =>
                        obtain ⟨k2, hk2, rfl, HO2⟩ := hrel
                        obtain ⟨ws, hws⟩ : ∃ ws : World, ws = wr := ⟨_, rfl⟩
                        rw [← hws] at HO2 ⊢
                        clear hws
                        by_cases hlt2 : k2 < i
                        · have hki : (k2 : Int) < (i : Int) := by omega
                          have hk3 : k2 < C2.srv.length := by rw [HN5.out]; exact hlt2
                          obtain ⟨e1, e2⟩ := HD.out k2 hk3
                          have HLG := logO HO2.out HOE.out k2 hk3
                          rw [e1, e2] at HLG
                          have HLG := Lib.hid HLG
                          clear e1 e2 hk3
                          go_upto_region 47 with (first
                            | (go_at_call 15; refine HLG.out.mono ?_; rintro e w8 ⟨v8, rfl, O8, U8, OC8⟩)
                            | fail)
                          obtain ⟨la, lc, rfl, _, _, _⟩ := own_form O8.out
                          obtain ⟨b8, o8, rfl, c8⟩ := src_at (own_src O8.out) (by omega)
                          have hll : l1 < L.length := by omega
                          have d8 := c8 _ _ (enC_get L l1 hll).2
                          have hpay : L[l1].pay = lastB := by
                            have := HLL.out (by omega)
                            simp only [HL1.out, Nat.add_sub_cancel] at this
                            exact this
                          rw [hpay, ← Nat.add_assoc] at d8
                          have d9 := d8.2
                          unfold lastB at d9
                          have d7 := d8.1
                          clear hpay d8 c8
                          go_wp2
                          go_roundw
                          case rel => exact ⟨k2 + 1, by omega, by go_num, OC8.out⟩
                          case measure => simp [intOf]; omega
                        · obtain rfl : k2 = i := by omega
                          go_wp2
                          go_ret
                          exact ⟨rfl, HO2.out.up⟩
                · have hb : (Wc.appE ld == 0) = false := beq_eq_false_iff_ne.2 ha
                  generalize Wc.appE ld = ee at HAP hb ha
                  have HOK := Lib.hid (HNA.out.okE (HNX.out.okE HH.out.ok))
                  generalize Wc.appC ld lastB = C1 at *
                  by_cases hT : (60 : Int) ≤ ((C1.lead.length - 1 : Nat) : Int)
                  all_goals
                    have hT2 : 60 ≤ C1.lead.length - 1 ∨ ¬ 60 ≤ C1.lead.length - 1 := by omega
                    have hld0 : (0 : Int) ≤ (ld : Int) := by omega
                    go_wp2_with (first
                      | (go_at_call 11; refine HAP.out.mono ?_; rintro e w5 ⟨rfl, F5, O5⟩; have HLD := Lib.hid (leaderO O5.out HOK.out); generalize C1.lead.length - 1 = T0 at HLD hT hT2)
                      | (go_at_call 18; refine HLD.out.mono ?_; rintro e w' ⟨rfl, rfl⟩)
                      | fail)
                    all_goals
                      go_ret
                      exact ⟨rfl, O5.out.up⟩
end Go.Proofs.Ythhkekmeginooaa.Rp
