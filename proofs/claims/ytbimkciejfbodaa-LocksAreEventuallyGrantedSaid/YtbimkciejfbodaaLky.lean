/- Locks: no deadlock; every request is granted in the end: the walks. -/
import Derived.Test.YtbimkciejfbodaaLkw
namespace Go.Proofs.Ytbimkciejfbodaa.Lk
open Go Go.RowKit Hp
set_option linter.unusedVariables false

theorem icI_at {w : World} {B : Nat} {v : Value} {u : Int} {L : List Int} (h : w.ownsRow B 3 1 v (L.length + 1) (icI (u :: L))) : ∃ g c, v = .slice (some ⟨g, 0, none⟩) (L.length + 1) c ∧ At w g 0 (.int .i64 u) := by
  obtain ⟨g, c, hv, _, _, hg, hat, _⟩ := own_some h (by omega)
  exact ⟨g, c, hv, hg, hat 0 _ (by simp [icI])⟩
set_option maxRecDepth 100000 in
set_option maxHeartbeats 1000000 in
theorem walk55 (a : Option Addr) (len cap : Nat) (zs : List Int) (w : World) (hE : Elems w a len zs) (hl : len ≤ cap) (hm : cap ≤ 9223372036854775807) :
    Calls Try.prog 5 #[.slice a len cap] w fun e w' => e = .returned (.bool true) ∧ Up w w' := by
  have HALL := Lib.hid (fun W hu => all_any a len cap zs W (elems_up hE hu) hl hm)
  clear hE
  go_enter Try.func5, Try.ntmps5
  go_wp2_with (first
    | (go_at_call 23; refine (HALL.out _ U1.out).mono ?_; rintro e w2 ⟨p, M, K, rfl, hO, hG, h6⟩; have HO := Lib.hid (hO.behind U1.out); have HG := Lib.hid hG; have H6 := Lib.hid h6; clear hO hG h6)
    | (go_at_call 21; refine (works_any _).mono ?_; rintro e w1 ⟨rfl, h1⟩; have U1 := Lib.hid h1; clear h1)
    | fail)
  obtain ⟨rank, hrk⟩ := HG.out.inv.rk
  have HRK := Lib.hid hrk
  clear hrk
  go_loopw [12] (fun tv wr => ∃ k : Nat, k ≤ 6 ∧ tv = .int .i64 k ∧ Hid (Up w2 wr)) (fun tv _ => 6 - (intOf tv).toNat)
  case atStart => exact ⟨0, by omega, rfl, Up.refl _⟩
  case round =>
    obtain ⟨k, hk, rfl, HU⟩ := hrel
    obtain ⟨wo, hwo⟩ : ∃ wo : World, wo = wr := ⟨_, rfl⟩
    rw [← hwo] at HU ⊢
    clear hwo
    by_cases hlt : k < 6
    · have hki : (k : Int) < 6 := by omega
      have C0 := Lib.hid (Chain.start rank (t := (k : Int)) (by omega) (by omega))
      go_wp2
      go_loopw [5, 16] (fun av jv wi => ∃ (t : Int) (V : List Int) (j : Nat), av = .int .i64 t ∧ jv = .int .i64 j ∧ Hid (Chain rank V j t) ∧ Hid (Up w2 wi)) (fun _ jv _ => 7 - (intOf jv).toNat)
      case atStart => exact ⟨k, [], 0, rfl, rfl, C0.out, HU.out⟩
      case round =>
        obtain ⟨t, V, j, rfl, rfl, HC, HUI⟩ := hrel
        obtain ⟨wi, hwi⟩ : ∃ wi : World, wi = wr := ⟨_, rfl⟩
        rw [← hwi] at HUI ⊢
        clear hwi
        have hj6 := HC.out.lt
        have hj7 : (j : Int) < 7 := by omega
        have HW := Lib.hid (waitsO (HO.out.up HUI.out) HG.out (by omega) t)
        by_cases hw : Waits M t
        · have HY := Lib.hid (fun w' e h => @waits_yes wi w' M 240 t e h HG.out hw)
          clear hw
          go_wp2_with (first
            | (go_at_call 12; refine HW.out.mono ?_; rintro e w5 hw5; obtain ⟨v, u, L, rfl, h51, h52, h53⟩ := HY.out _ _ hw5; obtain ⟨g, c, rfl, hat⟩ := icI_at h51; have hat1 := hat.1; have hat2 := hat.2; have U5 := Lib.hid (HUI.out.trans h52); have HED := Lib.hid ((h53 u).1 List.mem_cons_self); have hll : ¬ ((L.length : Int) + 1 = 0) := (by omega); have hlb : ((((L.length + 1 : Nat) : Int)) == 0) = false := beq_eq_false_iff_ne.2 (by omega); clear hw5 h51 h52 h53 hat)
            | fail)
          have hur : 0 ≤ u ∧ u < 6 := by
            obtain ⟨x, hx, e⟩ := edge_mem HED.out
            rw [← e]; exact tx_rng HG.out H6.out hx
          go_roundw
          case rel => exact ⟨u, t :: V, j + 1, rfl, by go_num, HC.out.next (HRK.out _ _ HED.out) hur.1 hur.2, U5.out⟩
          case measure => simp [intOf]; omega
        · have HN := Lib.hid (fun w' e h => @waits_no wi w' M t e h hw)
          clear hw
          go_wp2_with (first
            | (go_at_call 12; refine HW.out.mono ?_; rintro e w5 hw5; obtain ⟨rfl, h51⟩ := HN.out _ _ hw5; have U5 := Lib.hid (HUI.out.trans h51); clear hw5 h51)
            | fail)
          go_roundw
          case rel => exact ⟨k + 1, by omega, by go_num, U5.out⟩
          case measure => simp [intOf]; omega
    · obtain rfl : k = 6 := by omega
      go_wp2
      go_ret
      exact ⟨rfl, HO.out.upw.trans HU.out⟩
/-- Between the rounds of law 62. -/
structure Rnd (M : Mg) (r : Nat) : Prop where
  good : Good M 240
  t6 : T6 M
  len : M.qu.length ≤ 6 - r
  last : r = 7 → M.gr = []
theorem Rnd.next {M0 M : Mg} {r : Nat} (h : Rnd M0 r) (hd : Rd M0 M 6) (hr : r < 7) : Rnd M (r + 1) := by
  obtain ⟨h1, h2⟩ := hd.fin h.good h.t6
  have hl := h.len
  refine ⟨hd.good, hd.t6, ?_, fun e => (h1 (List.length_eq_zero_iff.1 (by omega))).1⟩
  by_cases e : M0.qu = []
  · rw [(h1 e).2]; simp
  · have := h2 e; omega
theorem Rnd.done {M : Mg} (h : Rnd M 7) : M.gr = [] ∧ ∀ t, ¬ Waits M t := by
  have e : M.qu = [] := List.length_eq_zero_iff.1 (by have := h.len; omega)
  exact ⟨h.last rfl, fun t ⟨q, hq, _⟩ => by rw [e] at hq; cases hq⟩
set_option maxRecDepth 100000 in
set_option maxHeartbeats 2000000 in
theorem walk62 (a : Option Addr) (len cap : Nat) (zs : List Int) (w : World) (hE : Elems w a len zs) (hl : len ≤ cap) (hm : cap ≤ 9223372036854775807) :
    Calls Try.prog 8 #[.slice a len cap] w fun e w' => e = .returned (.bool true) ∧ Up w w' := by
  have HALL := Lib.hid (fun W hu => all_any a len cap zs W (elems_up hE hu) hl hm)
  clear hE
  go_enter Try.func8, Try.ntmps8
  go_wp2_with (first
    | (go_at_call 23; refine (HALL.out _ U1.out).mono ?_; rintro e w2 ⟨p, M, K, rfl, hO, hG, h6⟩; have HO := Lib.hid (hO.behind U1.out); have HG := Lib.hid hG; have H6 := Lib.hid h6; clear hO hG h6)
    | (go_at_call 21; refine (works_any _).mono ?_; rintro e w1 ⟨rfl, h1⟩; have U1 := Lib.hid h1; clear h1)
    | fail)
  go_loopw [16] (fun rv wr => ∃ (r : Nat) (M : Mg) (K : Nat → Prop), r ≤ 7 ∧ rv = .int .i64 r ∧ Hid (OwnM w wr p M K) ∧ Hid (Rnd M r)) (fun rv _ => 7 - (intOf rv).toNat)
  case atStart => exact ⟨0, M, K, by omega, rfl, HO.out, ⟨HG.out, H6.out, qu_len HG.out H6.out, fun e => by omega⟩⟩
  case round =>
    obtain ⟨r, M0, K0, hr, rfl, HO0, HR⟩ := hrel
    obtain ⟨wo, hwo⟩ : ∃ wo : World, wo = wr := ⟨_, rfl⟩
    rw [← hwo] at HO0 ⊢
    clear hwo
    by_cases hlt : r < 7
    · have hri : (r : Int) < 7 := by omega
      go_wp2
      go_loopw [18] (fun tv wi => ∃ (t : Nat) (M : Mg) (K : Nat → Prop), t ≤ 6 ∧ tv = .int .i64 t ∧ Hid (OwnM w wi p M K) ∧ Hid (Rd M0 M t)) (fun tv _ => 6 - (intOf tv).toNat)
      case atStart => exact ⟨0, M0, K0, by omega, rfl, HO0.out, Rd.start HR.out.good HR.out.t6⟩
      case round =>
        obtain ⟨t, M1, K1, ht, rfl, HO1, HD⟩ := hrel
        obtain ⟨wi, hwi⟩ : ∃ wi : World, wi = wr := ⟨_, rfl⟩
        rw [← hwi] at HO1 ⊢
        clear hwi
        by_cases hlt2 : t < 6
        · have hti : (t : Int) < 6 := by omega
          have HW := Lib.hid (waitsO HO1.out HD.out.good (by omega) (t : Int))
          by_cases hw : Waits M1 t
          · have HY := Lib.hid (fun w' e h => @waits_yes wi w' M1 240 t e h HD.out.good hw)
            have HWT := Lib.hid hw
            clear hw
            go_wp2_with (first
              | (go_at_call 12; refine HW.out.mono ?_; rintro e w5 hw5; obtain ⟨v, u, L, rfl, h51, h52, h53⟩ := HY.out _ _ hw5; obtain ⟨g, c, rfl, hat⟩ := icI_at h51; have U5 := Lib.hid h52; clear hw5 h51 h52 h53 hat)
              | fail)
            go_roundw
            case rel => exact ⟨t + 1, M1, K1, by omega, by go_num, HO1.out.up U5.out, HD.out.stay HWT.out⟩
            case measure => simp [intOf]; omega
          · have HN := Lib.hid (fun w' e h => @waits_no wi w' M1 t e h hw)
            clear hw
            go_wp2_with (first
              | (go_at_call 12; refine HW.out.mono ?_; rintro e w5 hw5; obtain ⟨rfl, h51⟩ := HN.out _ _ hw5; have U5 := Lib.hid h51; clear hw5 h51)
              | (go_at_call 13; refine (relO (HO1.out.up U5.out) HD.out.good (by omega) (by omega) (by omega)).mono ?_; rintro e w6 ⟨v, rfl, h61, K6, h62, h63⟩; obtain ⟨va, vc, rfl, _, _, _⟩ := own_form h61; have O6 := Lib.hid h62; clear h61 h62 h63)
              | fail)
            go_roundw
            case rel => exact ⟨t + 1, _, K6, by omega, by go_num, O6.out, HD.out.rel⟩
            case measure => simp [intOf]; omega
        · obtain rfl : t = 6 := by omega
          go_wp2
          go_roundw
          case rel => exact ⟨r + 1, M1, K1, by omega, by go_num, HO1.out, HR.out.next HD.out hlt⟩
          case measure => simp [intOf]; omega
    · have hr7 : ¬ (r : Int) < 7 := by omega
      have HDN := Lib.hid (Rnd.done (M := M0) (by have e : r = 7 := by omega
                                                  rw [← e]; exact HR.out))
      go_wp2
      go_loopw [39] (fun tv wi => ∃ t : Nat, t ≤ 6 ∧ tv = .int .i64 t ∧ Hid (Up wo wi)) (fun tv _ => 6 - (intOf tv).toNat)
      case atStart => exact ⟨0, by omega, rfl, Up.refl _⟩
      case round =>
        obtain ⟨t, ht, rfl, HU⟩ := hrel
        obtain ⟨wi, hwi⟩ : ∃ wi : World, wi = wr := ⟨_, rfl⟩
        rw [← hwi] at HU ⊢
        clear hwi
        by_cases hlt2 : t < 6
        · have hti : (t : Int) < 6 := by omega
          have HW := Lib.hid (waitsO (HO0.out.up HU.out) HR.out.good (by omega) (t : Int))
          have HN := Lib.hid (fun w' e h => @waits_no wi w' M0 t e h (HDN.out.2 t))
          go_wp2_with (first
            | (go_at_call 12; refine HW.out.mono ?_; rintro e w5 hw5; obtain ⟨rfl, h51⟩ := HN.out _ _ hw5; have U5 := Lib.hid (HU.out.trans h51); clear hw5 h51)
            | fail)
          go_roundw
          case rel => exact ⟨t + 1, by omega, by go_num, U5.out⟩
          case measure => simp [intOf]; omega
        · obtain rfl : t = 6 := by omega
          have HH := Lib.hid (heldO (HO0.out.up HU.out) HR.out.good (by omega))
          go_wp2_with (first
            | (go_at_call 24; refine HH.out.mono ?_; rintro e w5 ⟨v, rs, rfl, h51, h52, h53, h54⟩; rw [HDN.out.1] at h51; obtain rfl := h51.eq_nil; obtain ⟨va, vc, rfl, _, _, _⟩ := own_form h53; have U5 := Lib.hid (HO0.out.upw.trans (HU.out.trans h54)); clear h51 h52 h53 h54)
            | fail)
          go_ret
          exact ⟨rfl, U5.out⟩
end Go.Proofs.Ytbimkciejfbodaa.Lk
