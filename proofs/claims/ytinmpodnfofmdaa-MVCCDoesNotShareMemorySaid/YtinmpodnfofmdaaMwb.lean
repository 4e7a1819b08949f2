/- MVCCDoesNotShareMemory: the walk. -/
import Derived.Test.YtinmpodnfofmdaaMwa
namespace Go.Proofs.Ytinmpodnfofmdaa.Mv
open Go Go.RowKit Hp So
set_option linter.unusedVariables false

theorem rowV_len (k : Int) : (rowV k).length = 1 := rfl
/-- The records that are still to be scribbled on. -/
def Rest (wr : World) (B k : Nat) (v : Value) (rs : List RM) : Prop := Src wr 2 v rs.length (rmC rs) ∧ (∀ i (h : i < rs.length), k ≤ i → ∃ g cap, rs[i].rv = .slice (some ⟨g, 0, none⟩) 1 cap ∧ Raw wr g (cap * 3) 39 ∧ 1 ≤ cap ∧ cap ≤ 9223372036854775807 ∧ B ≤ g) ∧ (∀ i j (hi : i < rs.length) (hj : j < rs.length), i < j → ∀ g, rs[i].rv.ownBlock = some g → rs[j].rv.ownBlock ≠ some g) ∧ (∀ a n c, v = .slice (some a) n c → Ty wr a.block 45 ∧ B ≤ a.block)
theorem RecsR.rest {w : World} {B : Nat} {v : Value} {l : List (ByteArray × List Val)} (h : RecsR w B v l) (h1 : ∀ r ∈ l, r.2.length = 1) : ∃ rs : List RM, rs.length = l.length ∧ Rest w B 0 v rs := by
  obtain ⟨rs, e, h2, h3, h4⟩ := h
  refine ⟨rs, by rw [← e, List.length_map], own_src h2, fun i hi _ => ?_, fun i j hi hj hij => List.pairwise_iff_getElem.1 h4 i j hi hj hij, fun a n c e2 => ?_⟩
  · have hl : rs[i].row.length = 1 := by subst e; exact h1 (erR rs[i]) (List.mem_map.2 ⟨_, List.getElem_mem hi, rfl⟩)
    have ho := h3 _ (List.getElem_mem hi)
    obtain ⟨g, cap, hv, _, _, _⟩ := own_some ho (by omega)
    rw [hl] at hv
    rw [hv, hl] at ho
    obtain ⟨r1, r2, r3⟩ := own_raw ho
    exact ⟨g, cap, hv, r1, r2, r3, ((own_ty ho) g rfl).2⟩
  · have hk : v.ownBlock = some a.block := by rw [e2]; rfl
    exact (own_ty h2) _ hk
theorem Rest.step {wr w2 : World} {B k g cap : Nat} {v : Value} {rs : List RM} (h : Rest wr B k v rs) (hk : k < rs.length) (hv : rs[k].rv = .slice (some ⟨g, 0, none⟩) 1 cap) (hr : Raw wr g (cap * 3) 39) (hc : Chg (fun j => j = g) wr w2) : Rest w2 B (k + 1) v rs := by
  obtain ⟨h1, h2, h3, h4⟩ := h
  have ng : ∀ a n c, v = .slice (some a) n c → ¬ a.block = g := fun a n c e e2 => by
    obtain ⟨cur, hc1, _⟩ := hr
    have ht := (h4 a n c e).1
    rw [e2] at ht
    exact ht.ne (by decide) ⟨cur, _, hc1⟩
  refine ⟨h1.chg hc ng, fun i hi hki => ?_, h3, fun a n c e => ⟨ty_chg (h4 a n c e).1 hc (ng a n c e), (h4 a n c e).2⟩⟩
  obtain ⟨g', cap', q1, q2, q3⟩ := h2 i hi (by omega)
  refine ⟨g', cap', q1, q2.chg hc fun e => ?_, q3⟩
  subst e
  exact h3 k i hk hi (by omega) g' (by rw [hv]; rfl) (by rw [q1]; rfl)
theorem Rest.up {wr w2 : World} {B k : Nat} {v : Value} {rs : List RM} (h : Rest wr B k v rs) (hu : Up wr w2) : Rest w2 B k v rs := by
  obtain ⟨h1, h2, h3, h4⟩ := h
  refine ⟨h1.up hu, fun i hi hki => ?_, h3, fun a n c e => ⟨(h4 a n c e).1.up hu, (h4 a n c e).2⟩⟩
  obtain ⟨g, cap, q1, q2, q3⟩ := h2 i hi hki
  exact ⟨g, cap, q1, q2.chg (Below.chg (fun _ => False) hu) (fun e => e), q3⟩
def over : ByteArray := { data := #[111, 118, 101, 114, 119, 114, 105, 116, 116, 101, 110] }
set_option maxRecDepth 100000 in
set_option maxHeartbeats 8000000 in
theorem walk27 (a : Option Addr) (len cap : Nat) (zs : List Int) (w : World) (hE : Elems w a len zs) (hl : len ≤ cap) (hm : cap ≤ 9223372036854775807) :
    Calls Try.prog 4 #[.slice a len cap] w fun e w' => e = .returned (.bool true) ∧ Up w w' := by
  have HE := Lib.hid hE
  obtain ⟨m, hmin', hm1, hm2⟩ := min_len 6 len
  have hmin : (if (6 : Int) < (len : Int) then (6 : Int) else (len : Int)) = (m : Int) := hmin'
  have hmc : (m : Int) ≤ (cap : Int) := by omega
  clear hE hmin'
  go_enter Try.func4, Try.ntmps4
  go_wp2_with (first
    | (go_at_call 23; refine (new_any _).mono ?_; rintro e w2 ⟨rfl, h2⟩; have H2 := Lib.hid h2; clear h2)
    | (go_at_call 16; refine (works_any _).mono ?_; rintro e w1 ⟨rfl, h1⟩; have H1 := Lib.hid h1; clear h1)
    | fail)
  clear hmin
  go_loopw [25] (fun iv wr => ∃ k : Nat, k ≤ m ∧ iv = .int .i64 k ∧ Hid (∃ F, StR wr w1.heap.size (memL zs k) 0 F ∧ (∀ j, F j → w1.heap.size ≤ j)) ∧ Hid (Up w1 wr)) (fun iv _ => m - (intOf iv).toNat)
  case atStart => exact ⟨0, by omega, rfl, ⟨_, H2.out.1, fun j e => by subst e; exact Nat.le_refl _⟩, H2.out.2.1⟩
  case round =>
    obtain ⟨k, hk, rfl, HS, HU⟩ := hrel
    by_cases hlt : k < m
    · obtain ⟨b, off, rfl, hb, hx⟩ := elems_up HE.out (H1.out.trans HU.out) k (by omega)
      obtain ⟨F, hS, hF⟩ := HS.out
      obtain ⟨A1, A2⟩ := (mem_ok zs k (by omega)).add (by omega) (k : Int) ⟨(k : Int) + 1, false, rowV (zs.getD k 0)⟩ (by simp [rowV]) rfl
      have HA := Lib.hid A2
      have HMK : Hid (adL (memL zs k) (keyB (k : Int)) ⟨(k : Int) + 1, false, rowV (zs.getD k 0)⟩ = memL zs (k + 1)) := rfl
      have hS := Lib.hid hS
      have HF := Lib.hid hF
      generalize zs.getD k 0 = r at *
      clear A1 A2 hF
      have RL : Hid ((rowV r).length = 1) := rfl
      go_wp2_with (first
        | (go_at_call 25; refine (scribble_any w3.heap.size 1 C 3 0 over w9 (RW9.out) (by omega) hA3).mono ?_; rintro e w10 ⟨rfl, h4⟩; have C10 := Lib.hid h4; clear h4)
        | (go_at_call 24; refine (equalR_same _ _ (rowV r) _ SR8.out (own_src R8.out) (by have := RL.out; omega)).mono ?_; rintro e w9 ⟨rfl, h4⟩; have U9 := Lib.hid h4; have RW9 := Lib.hid (RW8.out.chg (Below.chg (fun _ => False) h4) (fun e => e)); clear h4)
        | (go_at_call 21; have tok := P7; refine (row_any r _).mono ?_; rintro e w8 ⟨rfl, h4, h5⟩; have R8 := Lib.hid h4; have U8 := Lib.hid h5; have SR8 := Lib.hid (SR7.out.up h5); have RW8 := Lib.hid (RW7.out.chg (Below.chg (fun _ => False) h5) (fun e => e)); clear h4 h5 tok)
        | (go_at_call 20; refine (put_any _ _ _ _ _ _ _ (rowV r) w6 (hS.out.up U6.out) SR6.out (by have := RL.out; omega)).mono ?_; rw [HA.out]; rintro e w7 ⟨rfl, h4⟩; have P7 := Lib.hid h4; have NB := Lib.hid (fun e => by have := hS.out.lt _ e; have := U3.out.size; omega : ¬ F w3.heap.size); have SR7 := Lib.hid (SR6.out.chg h4.2 fun a n c e => by cases e; exact NB.out); have RW7 := Lib.hid (RW6.out.chg h4.2 NB.out); clear h4)
        | (go_at_call 18; refine (key_any _ _).mono ?_; rintro e w6 ⟨rfl, h4⟩; have U6 := Lib.hid ((U3.out.trans U4.out).trans h4); have SR6 := Lib.hid (SR4.out.up h4); have RW6 := Lib.hid (RW4.out.chg (Below.chg (fun _ => False) h4) (fun e => e)); have hz6 : w3.heap.size < w6.heap.size := Nat.lt_of_lt_of_le hA7 h4.size; clear h4)
        | (at_builtin; obtain ⟨C, w4, hA1, hA2, hA3, hA4, hA5, hA6, hA7⟩ := app_row w3 wr.heap.size (rowV r) RL.out R3.out; refine wl_append_run _ rfl (.tmp 31) (.const (.int .i64 2)) 32 3 rfl _ _ rfl rfl hA1 ?_; have U4 := Lib.hid hA4; have RW4 := Lib.hid hA5; have SR4 := Lib.hid hA6; have hA8 : (1 : Int) ≤ (C : Int) := (by omega); clear hA1 hA4 hA5 hA6)
        | (go_at_call 21; refine (row_any r _).mono ?_; rintro e w3 ⟨rfl, h3, h4⟩; have R3 := Lib.hid h3; have U3 := Lib.hid h4; clear h3 h4)
        | fail)
      go_roundw
      case rel =>
        have hz7 := P7.out.2.size
        have hz3 := U3.out.size
        have hz0 := HU.out.size
        have hz66 := U6.out.size
        have u10 := (U8.out.trans U9.out)
        refine ⟨k + 1, by omega, by go_num, ⟨Fx F w6 w7, ?_, fun j hj => ?_⟩, ?_⟩
        · rw [← HMK.out]
          refine (P7.out.1.up u10).chg C10.out fun j hj e => ?_
          subst e
          rcases hj with hj | hj
          · exact NB.out hj
          · omega
        · rcases hj with hj | hj
          · exact HF.out j hj
          · omega
        · exact ((((((HU.out.trans U6.out).chg fun _ => False).trans P7.out.2 fun j hj e => by have := HF.out j e; omega).up fun _ _ e => e).trans u10).chg fun _ => False).trans C10.out (fun j hj e => by omega) |>.up fun _ _ e => e
      case measure => simp [intOf]; omega
    · obtain rfl : k = m := by omega
      obtain ⟨F, hS, hF⟩ := HS.out
      have HS1 := Lib.hid hS
      have HF1 := Lib.hid hF
      have hbd : (scanL (memL zs k) 100).length ≤ 400 := by have := scan_len (memL zs k) 100; have := (mem_ok zs k (by omega)).ok.len; omega
      have HBD := Lib.hid hbd
      clear hbd
      have HSC := Lib.hid (fun (v : Value) (w' : World) (h : RecsR w' wr.heap.size v (scanL (memL zs k) 100)) => h.rest (mem_scan1 zs k (by omega) 100))
      have UW := Lib.hid (H1.out.trans HU.out)
      clear hS hF HS
      go_wp2_with (first
        | (go_at_call 26; refine (scan_any _ _ _ _ _ _ HS1.out (by omega)).mono ?_; rintro e w3 ⟨v, rfl, h5, h6⟩; obtain ⟨rs, hrl, hrs⟩ := HSC.out v w3 h5; obtain ⟨ra, rc, rfl⟩ := src_rn hrs.1; have hrb : rs.length ≤ 400 := (by have := HBD.out; omega); have HRS := Lib.hid hrs; have U3 := Lib.hid h6; clear hrl hrs h5 h6)
        | fail)
      obtain ⟨wo, rfl⟩ : ∃ wo : World, wo = wr := ⟨_, rfl⟩
      go_loopw [60] (fun iv wx => ∃ j : Nat, j ≤ rs.length ∧ iv = .int .i64 j ∧ Hid (Rest wx wo.heap.size j (.slice ra rs.length rc) rs) ∧ Hid (StR wx w1.heap.size (memL zs k) 0 F) ∧ Hid (Up wo wx)) (fun iv _ => rs.length - (intOf iv).toNat)
      case atStart => exact ⟨0, by omega, rfl, HRS.out, HS1.out.up U3.out, U3.out⟩
      case round =>
        obtain ⟨j, hj, rfl, HR, HST, HUX⟩ := hrel
        by_cases hjl : j < rs.length
        · obtain ⟨h1, h2, h3, h4⟩ := id HR.out
          obtain ⟨g, gc, q1, q2, q3, q4, q5⟩ := h2 j hjl (Nat.le_refl _)
          obtain ⟨b2, off2, rfl, hc⟩ := src_at h1 (by omega)
          obtain ⟨g0, g1⟩ := rmC_get rs j hjl
          have e0 := (hc _ _ g0).2
          have e1 := (hc _ _ g1).2
          rw [q1] at e1
          rw [← Nat.add_assoc] at e1
          have ng : Hid (¬ F g) := fun e => by have := HS1.out.lt g e; omega
          have HQ1 := Lib.hid q1
          have HQ2 := Lib.hid q2
          generalize rs[j].key = key at e0
          have bj : (j : Int) < (rs.length : Int) := by omega
          clear h1 h2 h3 h4 hc g0 g1 q1 q2
          go_wp2_with (first
            | (go_at_call 25; refine (scribble_any g 1 gc 0 0 ByteArray.empty _ (HQ2.out.chg (Below.chg (fun _ => False) ((Up.refl _).alloc _)) (fun e => e)) q3 q4).mono ?_; rintro e w4 ⟨rfl, h5⟩; have C4 := Lib.hid h5; clear h5)
            | fail)
          go_roundw
          case rel =>
            refine ⟨j + 1, by omega, by go_num, Rest.step (HR.out.up ((Up.refl wr).alloc _)) hjl HQ1.out (HQ2.out.chg (Below.chg (fun _ => False) ((Up.refl wr).alloc _)) (fun e => e)) C4.out, (HST.out.up ((Up.refl wr).alloc _)).chg C4.out (fun x hx e => by subst e; exact ng.out hx), ?_⟩
            exact ((HUX.out.trans ((Up.refl wr).alloc _)).chg fun _ => False).trans C4.out (fun x hx e => by omega) |>.up fun _ _ e => e
          case measure => simp [intOf]; omega
        · obtain rfl : j = rs.length := by omega
          clear HR
          obtain ⟨wo2, rfl⟩ : ∃ wo2 : World, wo2 = wr := ⟨_, rfl⟩
          go_wp2_with (fail)
          go_loopw [71] (fun iv wx => ∃ i : Nat, i ≤ k ∧ iv = .int .i64 i ∧ Hid (StR wx w1.heap.size (memL zs k) 0 F) ∧ Hid (Up wo wx)) (fun iv _ => k - (intOf iv).toNat)
          case atStart => exact ⟨0, by omega, rfl, HST.out, HUX.out⟩
          case round =>
            obtain ⟨i, hi, rfl, HS3, HU3⟩ := hrel
            by_cases hil : i < k
            · obtain ⟨b, off, rfl, hb, hx⟩ := elems_up HE.out (UW.out.trans HU3.out) i (by omega)
              have HG := Lib.hid (mem_get zs k i (by omega) hil)
              generalize zs.getD i 0 = r at *
              have RL : Hid ((rowV r).length = 1) := rfl
              have bi : (i : Int) < (k : Int) := by omega
              go_wp2_with (first
                | (go_at_call 24; have tok := R12; refine (equalR_same _ _ (rowV r) _ ((own_src R11.out).up U12.out) (own_src R12.out) (by have := RL.out; omega)).mono ?_; rintro e w13 ⟨rfl, h4⟩; have U13 := Lib.hid h4; clear h4 tok)
                | (go_at_call 21; have tok := R11; refine (row_any r _).mono ?_; rintro e w12 ⟨rfl, h4, h5⟩; have R12 := Lib.hid h4; have U12 := Lib.hid h5; clear h4 h5 tok)
                | (go_at_call 27; have tok := U10; refine (get_any _ _ _ _ _ _ _ (S9.out.up U10.out)).mono ?_; rw [HG.out]; rintro e w11 ⟨gv, rfl, h4, h5⟩; obtain ⟨ga2, gc2, rfl, _, _, _⟩ := own_form h4; have R11 := Lib.hid h4; have U11 := Lib.hid (U10.out.trans h5); clear h4 h5 tok)
                | (go_at_call 18; have tok := S9; refine (key_any _ _).mono ?_; rintro e w10 ⟨rfl, h4⟩; have U10 := Lib.hid h4; clear h4 tok)
                | (go_at_call 25; refine (scribble_any ga 1 gc 0 0 ByteArray.empty w8 RW8.out hgc1 hgc2).mono ?_; rintro e w9 ⟨rfl, h5⟩; have S9 := Lib.hid ((HS3.out.up U8.out).chg h5 fun x hx e => by subst e; have := HS3.out.lt _ hx; omega); have U9 := Lib.hid ((U8.out.chg fun _ => False).trans h5 (fun x hx e => by omega) |>.up fun _ _ e => e); clear h5)
                | (go_at_call 24; refine (equalR_same _ _ (rowV r) _ ((own_src R6.out).up U7.out) (own_src R7.out) (by have := RL.out; omega)).mono ?_; rintro e w8 ⟨rfl, h4⟩; have U8 := Lib.hid ((U6.out.trans U7.out).trans h4); have RW8 := Lib.hid (RW6.out.chg (Below.chg (fun _ => False) (Up.trans U7.out h4)) (fun e => e)); clear h4)
                | (go_at_call 21; have tok := R6; refine (row_any r _).mono ?_; rintro e w7 ⟨rfl, h4, h5⟩; have R7 := Lib.hid h4; have U7 := Lib.hid h5; clear h4 h5 tok)
                | (go_at_call 27; refine (get_any _ _ _ _ _ _ _ (HS3.out.up U5.out)).mono ?_; rw [HG.out]; rintro e w6 ⟨gv, rfl, h4, h5⟩; obtain ⟨ga, gc, rfl, _, _, _⟩ := own_cell h4 (by have := RL.out; show 0 < (rowV r).length; omega); have R6 := Lib.hid h4; have U6 := Lib.hid (U5.out.trans h5); obtain ⟨rw1, hgc1, hgc2⟩ := own_raw h4; have hga := ((own_ty h4) ga rfl).2; have hz5 := U5.out.size; have RW6 := Lib.hid rw1; clear h4 h5 rw1)
                | (go_at_call 18; refine (key_any _ _).mono ?_; rintro e w5 ⟨rfl, h4⟩; have U5 := Lib.hid h4; clear h4)
                | fail)
              go_roundw
              case rel => exact ⟨i + 1, by omega, by go_num, S9.out.up ((U11.out.trans U12.out).trans U13.out), HU3.out.trans (U9.out.trans ((U11.out.trans U12.out).trans U13.out))⟩
              case measure => simp [intOf]; omega
            · obtain rfl : i = k := by omega
              go_wp2
              go_ret
              exact ⟨rfl, UW.out.trans HU3.out⟩
end Go.Proofs.Ytinmpodnfofmdaa.Mv
