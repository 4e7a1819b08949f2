/- Replication: what a minority has seen is not committed: the walk. -/
import Derived.Test.YthhkekmeginooaaRqg
namespace Go.Proofs.Ythhkekmeginooaa.Rp
open Go Go.RowKit Hp
set_option linter.unusedVariables false

def ClE (w wr : World) (p : Nat) (C : Clu) : Prop := OkE C ∧ ∃ F, OwnC w wr p C F
theorem ClE.step {w wr w' : World} {p : Nat} {C C' : Clu} (h : ClE w wr p C) (n : Next C C') (o : ∃ F, Hid (OwnC w w' p C' F)) : ClE w w' p C' := by
  obtain ⟨F, o⟩ := o
  exact ⟨n.okE h.1, F, o.out⟩
def D3 (k : Nat) (L : Lg) (m t : Nat) : Clu := if t = 0 then misS k L m else if t = 1 then misD k L m else mis k L (min L.length (m + 3))
theorem D3_step (k : Nat) (L : Lg) (m t : Nat) (h : m ≤ L.length) (hk : 2 ≤ k) (ht : t < 2) : (D3 k L m t).deliver 0 = D3 k L m (t + 1) := by
  match t, ht with
  | 0, _ => exact (mis_del1 k L m h).1
  | 1, _ => exact (mis_del2 k L m h hk).1
/-- How far server 1 has got. -/
def seen (r : Nat) (L : Lg) (j : Nat) : Nat := if r = 1 then min L.length (3 * j) else 0
theorem seen_le (r : Nat) (L : Lg) (j : Nat) : seen r L j ≤ L.length := by unfold seen; split <;> omega
theorem seen_next (r : Nat) (L : Lg) (j i : Nat) (hi : i = r + 1) (hr : r = 0 ∨ r = 1) : (if i = 2 then min L.length (seen r L j + 3) else seen r L j) = seen r L (j + 1) := by
  subst hi
  unfold seen
  rcases hr with rfl | rfl
  · rw [if_neg (by omega), if_neg (by omega), if_neg (by omega)]
  · rw [if_pos rfl, if_pos rfl, if_pos rfl]; omega
theorem seen_end (r : Nat) (L : Lg) (hL : L.length ≤ 20) (hr : r = 0 ∨ r = 1) : L.take (seen r L 30) = if r = 1 then L else [] := by
  unfold seen
  rcases hr with rfl | rfl
  · rw [if_neg (by omega), if_neg (by omega)]; rfl
  · rw [if_pos rfl, if_pos rfl, List.take_of_length_le (by omega)]
set_option maxRecDepth 100000 in
set_option maxHeartbeats 4000000 in
theorem walk49 (s : Int) (a : Option Addr) (len cap : Nat) (zs : List Int) (w : World) (hE : Elems w a len zs) (hl : len ≤ cap) (hm : cap ≤ 9223372036854775807) :
    Calls Try.prog 3 #[.int .i64 s, .slice a len cap] w fun e w' => e = .returned (.bool true) ∧ Up w w' := by
  have HE := Lib.hid hE
  clear hE
  obtain ⟨m, hmin, hm1, hm2⟩ := min_len 20 len
  have hmc : (m : Int) ≤ (cap : Int) := by omega
  have hmin2 : min (len : Int) 20 = (m : Int) := by rw [← hmin]; simp only [Int.min_def]; split <;> split <;> omega
  obtain ⟨x, hx1, hx2⟩ := modV_nat s 4 (by omega)
  have HX := Lib.hid hx1
  clear hx1
  obtain ⟨n, hn⟩ : ∃ n, n = x + 2 := ⟨_, rfl⟩
  have hxn : (2 : Int) + (x : Int) = (n : Int) := by omega
  have HNX := Lib.hid hn
  have HN : Hid (2 ≤ n ∧ n ≤ 5) := ⟨by omega, by omega⟩
  have hx3 : (x : Int) ≤ 3 := by omega
  have hn5 : (n : Int) ≤ 5 := by omega
  have hn2 : (2 : Int) ≤ (n : Int) := by omega
  clear hn hx2
  go_enter Try.func3, Try.ntmps3
  go_wp2_with (first
    | (go_at_call 10; refine (new_any n (by have := HN.out; omega) HN.out.2 _).mono ?_; rintro e w1 ⟨p, F0, rfl, hO0⟩; have H0 : Hid (ClE w w1 p (mis x [] 0)) := ⟨by rw [← newC_mis]; exact ⟨_, _, newC_ok _ (by omega) (by have := HN.out; have := HNX.out; omega)⟩, F0, by rw [← newC_mis, ← HNX.out]; exact hO0.behind U1.out⟩; clear hO0)
    | (go_at_call 8; refine (works_any _).mono ?_; rintro e w1 ⟨rfl, h1⟩; have U1 := Lib.hid h1; clear h1)
    | (go_at_call 9; refine (mod_any s 4 _ (by omega) (by omega)).mono ?_; rw [HX.out]; rintro e w' ⟨rfl, rfl⟩)
    | fail)
  clear hmin hmin2
  go_loopw [38] (fun iv wr => ∃ (k : Nat) (L : Lg), k ≤ m ∧ iv = .int .i64 k ∧ Hid (L.length = k) ∧ Hid (ClE w wr p (mis x L 0))) (fun iv _ => m - (intOf iv).toNat)
  case atStart => exact ⟨0, [], Nat.zero_le _, rfl, rfl, H0.out⟩
  case round =>
    obtain ⟨k, L, hk, rfl, HL, HC⟩ := hrel
    obtain ⟨wo, hwo⟩ : ∃ wo : World, wo = wr := ⟨_, rfl⟩
    rw [← hwo] at HC ⊢
    clear hwo
    obtain ⟨F, hO⟩ := HC.out.2
    have HO := Lib.hid hO
    clear hO
    by_cases hlt : k < m
    · obtain ⟨b, off, rfl, hbl, hcell⟩ := elems_up HE.out HO.out.up k (by omega)
      have hkm : (k : Int) < (m : Int) := by omega
      generalize zs.getD k 0 = z at *
      have HA := Lib.hid (mis_app x L (keyB z) (by rw [HL.out]; omega))
      have HNN := Lib.hid (Next.app (mis x L 0) 0 (by rw [mis_n]; omega) (keyB z))
      go_wp2_with (first
        | (go_at_call 12; refine (key_any z _).mono ?_; rintro e w2 ⟨rfl, h2⟩; have U2 := Lib.hid h2; clear h2)
        | (go_at_call 11; refine (appO (HO.out.grow U2.out) HC.out.1 0 (by rw [mis_n]; omega) (keyB z) (by rw [keyB_size]; omega)).mono ?_; rw [HA.out.1, HA.out.2]; rintro e w3 ⟨rfl, O3⟩; have H3 : Hid (ClE w w3 p (mis x (L ++ [⟨1, keyB z⟩]) 0)) := by (have := HNN.out.okE HC.out.1; rw [HA.out.1] at this; obtain ⟨F3, O3⟩ := O3; exact ⟨this, F3, O3.out⟩))
        | fail)
      go_roundw
      case rel => exact ⟨k + 1, _, by omega, by go_num, by unfold Hid; rw [List.length_append, HL.out]; rfl, H3.out⟩
      case measure => simp [intOf]; omega
    · obtain rfl : k = m := by omega
      clear hlt
      have hk20 : L.length ≤ 20 := by rw [HL.out]; exact hm2
      have HL20 := Lib.hid hk20
      clear hk20
      obtain ⟨q, hq⟩ : ∃ q : Nat, ((n : Int) + 1) / 2 - 1 = (q : Int) := ⟨(n + 1) / 2 - 1, by omega⟩
      have HQ := Lib.hid hq
      have hq3 : (q : Int) ≤ 3 := by omega
      go_upto_if 56 with (fail)
      clear hq
      go_cut [9] from 56 to 58 (fun s9 wx => wo = wx ∧ ∃ r : Nat, s9 = .int .i64 (r : Int) ∧ (r = 0 ∨ r = 1) ∧ Hid (r = 1 → 2 ≤ x))
      case first =>
        by_cases hgt : (n : Int) < 2 * ((q : Int) + 1)
        · go_wp2
          go_meet
          have h1 := HQ.out
          have h2 := HNX.out
          exact ⟨rfl, q - 1, congrArg (Value.int .i64) (by omega), by omega, by unfold Hid; omega⟩
        · go_wp2
          go_meet
          have h1 := HQ.out
          have h2 := HNX.out
          exact ⟨rfl, q, rfl, by omega, by unfold Hid; omega⟩
      case rest =>
        obtain ⟨rfl, r, rfl, hr, HR2⟩ := hcut
        have HR := Lib.hid hr
        have hr1 : (r : Int) ≤ 1 := by omega
        clear hr
        go_wp2
        go_loopw [59, 10, 70] (fun jv _ _ wr => ∃ j : Nat, j ≤ 30 ∧ jv = .int .i64 j ∧ Hid (ClE w wr p (mis x L (seen r L j)))) (fun jv _ _ _ => 30 - (intOf jv).toNat)
        case atStart => exact ⟨0, by omega, rfl, by rw [show seen r L 0 = 0 by unfold seen; split <;> omega]; exact HC.out⟩
        case round =>
          obtain ⟨j, hj, rfl, HC2⟩ := hrel
          obtain ⟨wj, hwj⟩ : ∃ wj : World, wj = wr := ⟨_, rfl⟩
          rw [← hwj] at HC2 ⊢
          clear hwj
          by_cases hlt : j < 30
          · have hji : (j : Int) < 30 := by omega
            have HM := Lib.hid (seen_le r L j)
            have HSN := Lib.hid (fun i hi => seen_next r L j i hi HR.out)
            generalize seen r L j = mm at *
            go_wp2
            go_loopw [10, 70] (fun iv _ wr => ∃ i : Nat, iv = .int .i64 i ∧ 1 ≤ i ∧ i ≤ r + 1 ∧ Hid (ClE w wr p (mis x L (if i = 2 then min L.length (mm + 3) else mm)))) (fun iv _ _ => 3 - (intOf iv).toNat)
            case atStart => exact ⟨1, rfl, Nat.le_refl _, by omega, HC2.out⟩
            case round =>
              obtain ⟨i, rfl, hi1, hi2, HC3⟩ := hrel
              obtain ⟨wi, hwi⟩ : ∃ wi : World, wi = wr := ⟨_, rfl⟩
              rw [← hwi] at HC3 ⊢
              clear hwi
              by_cases hir : i ≤ r
              · have hii : (i : Int) ≤ (r : Int) := by omega
                have HI1 : Hid (i = 1 ∧ r = 1) := ⟨by have := HR.out; omega, by have := HR.out; omega⟩
                have hi2i : (i : Int) + 1 ≤ 3 := by omega
                rw [if_neg (by have := HI1.out.1; omega)] at HC3
                obtain ⟨F3, hO3⟩ := HC3.out.2
                have HS := sendO hO3 HC3.out.1 0 i (by rw [mis_n]; omega) (by rw [mis_n]; have := HI1.out.1; omega)
                have hsnd : (mis x L mm).sendC 0 i = misS x L mm ∧ (mis x L mm).sendE 0 i = 0 := by rw [HI1.out.1]; exact mis_send x L mm
                have hnx := Next.send (mis x L mm) 0 i (by rw [mis_n]; omega) (by rw [mis_n]; have := HI1.out.1; omega)
                rw [hsnd.1, hsnd.2] at HS
                rw [hsnd.1] at hnx
                have HS := Lib.hid HS
                have HNX3 := Lib.hid hnx
                clear hsnd hnx hO3 hi1 hi2 hir
                go_wp2_with (first
                  | (go_at_call 13; refine HS.out.mono ?_; rintro e w3 ⟨rfl, h3⟩; have H3 := Lib.hid (HC3.out.step HNX3.out h3); clear h3)
                  | fail)
                go_loopw [70] (fun tv wr => ∃ t : Nat, t ≤ 2 ∧ tv = .int .i64 t ∧ Hid (ClE w wr p (D3 x L mm t))) (fun tv _ => 2 - (intOf tv).toNat)
                case atStart => exact ⟨0, by omega, rfl, H3.out⟩
                case round =>
                  obtain ⟨t, ht, rfl, HT⟩ := hrel
                  obtain ⟨wt, hwt⟩ : ∃ wt : World, wt = wr := ⟨_, rfl⟩
                  rw [← hwt] at HT ⊢
                  clear hwt
                  by_cases hlt3 : t < 2
                  · have hti : (t : Int) < 2 := by omega
                    obtain ⟨F4, hO4⟩ := HT.out.2
                    have HD := deliverO hO4 HT.out.1 0
                    have hnx := Next.deliver (D3 x L mm t) 0
                    rw [D3_step x L mm t HM.out (HR2.out HI1.out.2) hlt3] at HD hnx
                    have HD := Lib.hid HD
                    have HNX4 := Lib.hid hnx
                    clear hnx hO4
                    go_wp2_with (first
                      | (go_at_call 14; refine HD.out.mono ?_; rintro e w4 ⟨rfl, h4⟩; have H4 := Lib.hid (HT.out.step HNX4.out h4); clear h4)
                      | fail)
                    go_roundw
                    case rel => exact ⟨t + 1, by omega, by go_num, H4.out⟩
                    case measure => simp [intOf]; omega
                  · obtain rfl : t = 2 := by omega
                    go_wp2
                    go_roundw
                    case rel => exact ⟨i + 1, by go_num, by omega, by have := HI1.out; omega, by rw [if_pos (by have := HI1.out.1; omega)]; exact HT.out⟩
                    case measure => have := HI1.out; simp [intOf]; omega
              · have hii : ¬ (i : Int) ≤ (r : Int) := by omega
                rw [HSN.out i (by omega)] at HC3
                go_wp2
                go_roundw
                case rel => exact ⟨j + 1, by omega, by go_num, HC3.out⟩
                case measure => simp [intOf]; omega
          · have HSE : Hid (L.take (seen r L j) = if r = 1 then L else []) := by
              have e30 : j = 30 := by omega
              rw [e30]
              exact seen_end r L HL20.out HR.out
            have hji : ¬ (j : Int) < 30 := by omega
            have HMS := Lib.hid (fun v hv => mis_s x L (seen r L j) v hv)
            have HMN := Lib.hid (mis_n x L (seen r L j))
            generalize mis x L (seen r L j) = C at *
            obtain ⟨F5, hO5⟩ := HC2.out.2
            have HO5 := Lib.hid hO5
            clear hO5
            go_wp2
            go_loopw [77] (fun iv wr => ∃ i : Nat, i ≤ n ∧ iv = .int .i64 i ∧ Hid (OwnC w wr p C F5)) (fun iv _ => n - (intOf iv).toNat)
            case atStart => exact ⟨0, Nat.zero_le _, rfl, HO5.out⟩
            case round =>
              obtain ⟨i, hi, rfl, HO⟩ := hrel
              obtain ⟨wi, hwi⟩ : ∃ wi : World, wi = wr := ⟨_, rfl⟩
              rw [← hwi] at HO ⊢
              clear hwi
              by_cases hlt4 : i < n
              · have hin : (i : Int) < (n : Int) := by omega
                have HIC : Hid (i < C.srv.length) := by unfold Hid; rw [HMN.out]; have := HNX.out; omega
                have HMI := Lib.hid (HMS.out i (by have := HNX.out; omega))
                rw [HSE.out] at HMI
                have HLOG := logO HO.out HC2.out.1 i HIC.out
                rw [HMI.out.1, HMI.out.2] at HLOG
                obtain ⟨ll, hll⟩ : ∃ ll : Nat, ll = (if i = 0 then L else if i = 1 then (if r = 1 then L else []) else []).length := ⟨_, rfl⟩
                rw [← hll, Int.natCast_zero] at HLOG
                have HLOG := Lib.hid HLOG
                by_cases hir : i ≤ r
                · have hii : (i : Int) ≤ (r : Int) := by omega
                  have hil : ll = k := by
                    rw [hll]
                    have := HL.out
                    rcases HR.out with e | e
                    · rw [if_pos (by omega)]; exact this
                    · by_cases e0 : i = 0
                      · rw [if_pos e0]; exact this
                      · rw [if_neg e0, if_pos (by omega), if_pos e]; exact this
                  have hnr : ¬ (r : Int) < (i : Int) := by omega
                  clear hll
                  rw [hil] at HLOG
                  clear hil
                  go_wp2_with (first
                    | (go_at_call 15; refine HLOG.out.mono ?_; rintro e w5 ⟨v5, rfl, L5, U5, O5⟩; obtain ⟨la, lc, rfl, _, _, _⟩ := own_form L5.out)
                    | fail)
                  go_roundw
                  case rel => exact ⟨i + 1, by omega, by go_num, O5.out⟩
                  case measure => simp [intOf]; omega
                · have hii : ¬ (i : Int) ≤ (r : Int) := by omega
                  have hil : ll = 0 := by
                    rw [hll]
                    rcases HR.out with e | e
                    · rw [if_neg (by omega)]
                      split
                      · rw [if_neg (by omega)]; rfl
                      · rfl
                    · rw [if_neg (by omega), if_neg (by omega)]; rfl
                  have hnr : (r : Int) < (i : Int) := by omega
                  clear hll
                  rw [hil] at HLOG
                  clear hil
                  go_wp2_with (first
                    | (go_at_call 15; refine HLOG.out.mono ?_; rintro e w5 ⟨v5, rfl, L5, U5, O5⟩; obtain ⟨la, lc, rfl, _, _, _⟩ := own_form L5.out)
                    | fail)
                  go_roundw
                  case rel => exact ⟨i + 1, by omega, by go_num, O5.out⟩
                  case measure => simp [intOf]; omega
              · obtain rfl : i = n := by omega
                go_wp2
                go_ret
                exact ⟨rfl, HO.out.up⟩
end Go.Proofs.Ythhkekmeginooaa.Rp
