/- SerializableIffAcyclic: the walk. -/
import Derived.Test.YtfpegnlmpicekaaC39
import Derived.Test.YtfpegnlmpicekaaC16
namespace Go.Proofs.Ytfpegnlmpicekaa.C
open Go Go.RowKit Hp
set_option linter.unusedVariables false

abbrev castl (c : List Nat) : List Int := c.map fun (n : Nat) => (n : Int)
theorem castl_getD (c : List Nat) (k : Nat) : (castl c).getD k 0 = ((c.getD k 0 : Nat) : Int) := by
  simp only [castl, List.getD, List.getElem?_map]
  cases c[k]? <;> rfl
theorem nc_ints {w : World} {base : Nat} {v : Value} {c : List Nat} (h : w.ownsRow base 3 1 v c.length (nc c)) : Ints w v (castl c) :=
  ints_own (by simpa [castl, ic, nc, Function.comp_def] using h)
theorem castl_nodup {c : List Nat} (h : c.Nodup) : (castl c).Nodup := by
  refine List.pairwise_map.2 (h.imp fun hne e => hne (by omega))

set_option maxRecDepth 100000 in
set_option maxHeartbeats 4000000 in
theorem walk14 (a2 : Option Addr) (len2 cap2 : Nat) (z2 : List Int) (w : World) (hE : Elems w a2 len2 z2) (hl : len2 ≤ cap2) (hm : cap2 ≤ 9223372036854775807) :
    Calls Try.prog 10 #[.slice a2 len2 cap2] w fun e w' => e = .returned (.bool true) ∧ Up w w' := by
  have HE := Lib.hid hE
  clear hE
  go_enter Try.func10, Try.ntmps10
  go_wp2_with (go_at_call 17; refine (sworks_any _).mono ?_; rintro e w1 ⟨rfl, u1⟩)
  refine (hist_any a2 len2 cap2 z2 w1 (elems_up HE.out u1) hl hm).mono ?_
  rintro e w2 ⟨v, l, rfl, hown, hok, hl60, u2⟩
  obtain ⟨a, cap, rfl⟩ := own_len hown
  have OK := Lib.hid hok
  have HV := Lib.hid (hok_valid hok hl60)
  have HT := Lib.hid (hops_own hown)
  have hu2 := Up.trans u1 u2
  have T20 : Hid (∀ x ∈ l, x.tx < 20) := fun x hx => by have := (OK.out x hx).1; omega
  clear hok hown
  go_wp2_with fail
  refine (sorder_any _ l _ HT.out HV.out).mono ?_
  rintro e w3 ⟨⟨hs, hn⟩, u3⟩
  have hu3 := hu2.trans u3
  cases ho : orderOf l with
  | some res =>
    obtain ⟨vr, rfl, hownr⟩ := hs res ho
    have OI := Lib.hid (order_idx T20.out ho)
    have hr400 : res.length ≤ 400 := by
      have := topo_len _ _ _ _ _ rfl ho
      have := tids_len l 20
      simp at *; omega
    clear hs hn ho
    obtain ⟨ao, co, rfl⟩ := own_len hownr
    go_wp2_with fail
    refine (shortest_any _ l _ (HT.out.grow hopR_grows u3) HV.out (no_self T20.out)).mono ?_
    rintro e w4 ⟨hc, u4⟩
    have hu4 := hu3.trans u4
    rcases hc with ⟨rfl, _⟩ | ⟨vc, c, rfl, _, hcy⟩
    · go_wp2_with fail
      refine (graph_any _ l _ (HT.out.grow hopR_grows (u3.trans u4)) HV.out).mono ?_
      rintro e w5 ⟨ve, rfl, hed, u5⟩
      have hu5 := hu4.trans u5
      obtain ⟨ae, ce, rfl⟩ := own_len hed
      have hP := pairs_own hed
      have hO5 := (ints_own hownr).grow intR_grows (u4.trans u5)
      clear hed hownr
      have hdl := cgr_len (cfN l l.length) 20
      generalize cgr (cfN l l.length) 20 = edges at *
      obtain ⟨ax, cx, hse, _, _, _, hpe⟩ := id hP
      simp only [Value.slice.injEq, true_and] at hse
      obtain ⟨rfl, rfl⟩ := hse
      have HP := Lib.hid hpe
      have HO := Lib.hid hO5
      clear hpe hP hO5
      go_wp2
      go_loopw [46] (fun iv wr => ∃ k : Nat, k ≤ edges.length ∧ iv = .int .i64 k ∧ Up w5 wr) (fun iv _ => edges.length - (intOf iv).toNat)
      case atStart => exact ⟨0, by omega, rfl, Up.refl _⟩
      case round =>
        obtain ⟨k, hk, rfl, hu⟩ := hrel
        by_cases hlt : k < edges.length
        · obtain ⟨b, off, ha, hr⟩ := HP.out k hlt
          subst ha
          obtain ⟨_, ⟨hbb, c0⟩, _, c1⟩ := pairR_grows _ _ _ _ _ hr hu
          obtain ⟨⟨u, v⟩, hx⟩ : ∃ x, x = edges[k] := ⟨_, rfl⟩
          rw [← hx] at c0 c1
          have hmem : (u, v) ∈ edges := hx ▸ List.getElem_mem hlt
          have hq := OI.out u v hmem
          have hO' := HO.out.grow intR_grows hu
          have HO' : Hid (Ints (wr.alloc (.cells #[.int .i64 u, .int .i64 v] 48)) (.slice ao res.length co) res) := hO'.grow intR_grows ((Up.refl _).alloc _)
          obtain ⟨i1, hi1⟩ : ∃ i1, i1 = idx (u == ·) res := ⟨_, rfl⟩
          obtain ⟨i2, hi2⟩ : ∃ i2, i2 = idx (v == ·) res := ⟨_, rfl⟩
          rw [← hi1, ← hi2] at hq
          have E1 : Hid (Value.int .i64 (idx (u == ·) res) = Value.int .i64 i1) := by rw [hi1]; rfl
          have E2 : Hid (Value.int .i64 (idx (v == ·) res) = Value.int .i64 i2) := by rw [hi2]; rfl
          have hq1 : decide (i2 ≤ i1) = false := by simpa using hq
          dsimp only at c0 c1
          clear hx hi1 hi2 hmem hO' hr
          go_wp2
          refine wp_region_gr (by kernel_rfl) (by kernel_rfl) ?_
          repeat (go_big_quiet_step (first
            | (go_at_call_of 27 u; exact gr_calls (indexI_any _ res u _ (HO'.out.grow intR_grows (gr_up _ _))) E1.out)
            | (go_at_call_of 27 v; exact gr_calls (indexI_any _ res v _ (HO'.out.grow intR_grows (gr_up _ _))) E2.out)))
          refine wpQuiet_nil ?_
          intro _ hw'
          obtain ⟨g', rfl⟩ := hw'
          go_wp2
          go_roundw
          case rel => exact ⟨k + 1, by omega, by go_num, Up.trans (hu.alloc _) (gr_up _ _)⟩
          case measure => simp [intOf]; omega
        · go_wp2
          go_ret
          exact ⟨rfl, Up.trans hu5 hu⟩
    · exact (no_cycle _ OI.out hcy).elim
  | none =>
    obtain rfl := hn ho
    obtain ⟨s, hs20, hpath⟩ := no_order_cycle l ho
    have HPA := Lib.hid hpath
    clear hs hn ho hpath
    go_wp2_with fail
    refine (shortest_any _ l _ (HT.out.grow hopR_grows u3) HV.out (no_self T20.out)).mono ?_
    rintro e w4 ⟨hc, u4⟩
    have hu4 := hu3.trans u4
    rcases hc with ⟨rfl, hno⟩ | ⟨vc, c, rfl, hownc, hcy⟩
    · exact (hno s hs20 HPA.out).elim
    · go_wp2_with fail
      refine (graph_any _ l _ (HT.out.grow hopR_grows (u3.trans u4)) HV.out).mono ?_
      rintro e w5 ⟨ve, rfl, hed, u5⟩
      have hu5 := hu4.trans u5
      obtain ⟨ae, ce, rfl⟩ := own_len hed
      have HP := Lib.hid (pairs_own hed)
      obtain ⟨ac, cc, rfl⟩ := own_len hownc
      have HC := Lib.hid ((nc_ints hownc).grow intR_grows u5)
      have CY := Lib.hid hcy
      have hcl := hcy.len
      have FR := Lib.hid (fun k (hk : k < (castl c).length) => fresh (castl c) (castl_nodup CY.out.nd) hk)
      clear hed hownc hcy
      obtain ⟨ax, cx, hse, q1, q2, _, hpe⟩ := HC.out
      simp only [castl, List.length_map, Value.slice.injEq, true_and] at hse q1
      obtain ⟨rfl, rfl⟩ := hse
      have HQ := Lib.hid hpe
      clear hpe
      go_wp2
      go_loopw [62] (fun iv wr => ∃ k : Nat, k ≤ c.length ∧ iv = .int .i64 k ∧ Up w5 wr) (fun iv _ => c.length - (intOf iv).toNat)
      case atStart => exact ⟨0, by omega, rfl, Up.refl _⟩
      case round =>
        obtain ⟨k, hk, rfl, hu⟩ := hrel
        by_cases hlt : k < c.length
        · obtain ⟨m, hm0⟩ : ∃ m : Nat, (k + 1) % c.length = m := ⟨_, rfl⟩
          have hrem : ((k : Int) + 1) % (c.length : Int) = (m : Int) := by rw [← hm0, Int.natCast_emod, Int.natCast_add]; rfl
          have hm : m < c.length := by rw [← hm0]; exact Nat.mod_lt _ (by omega)
          have HM := Lib.hid hm0
          clear hm0
          obtain ⟨b', off', rfl, h4'⟩ := arr_at (n := 0) (cap := 0) (0 : Int) HQ.out (by simp; omega)
          have h4 := h4' k (by simpa using hlt)
          have h5 := h4' m (by simpa using hm)
          rw [castl_getD] at h4 h5
          obtain ⟨hbo, ck⟩ := intR_grows _ _ _ _ _ h4 hu
          obtain ⟨hbo2, cm⟩ := intR_grows _ _ _ _ _ h5 hu
          rw [Nat.mul_one] at ck cm
          have hed := CY.out.edge k hlt
          rw [HM.out] at hed
          have HIN : Hid ((cgr (cfN l l.length) 20).any ((((c.getD k 0 : Nat) : Int), ((c.getD m 0 : Nat) : Int)) == ·) = true) :=
            List.any_eq_true.2 ⟨_, mem_cgr.2 ⟨_, _, rfl, rfl, CY.out.lt _ (by simp [List.getD, hlt]), CY.out.lt _ (by simp [List.getD, hm]), hed⟩, by simp⟩
          have FRK : Hid (((castl c).take k).any (((c.getD k 0 : Nat) : Int) == ·) = false) := by have := FR.out k (by simpa using hlt); rw [castl_getD] at this; exact this
          have HTK : Hid (∀ w', Up wr w' → Ints w' (.slice (some ⟨b', off', none⟩) k cc) ((castl c).take k)) := fun w' hw' => by
            have hh := HC.out
            simp only [castl] at hh
            exact arr_take (n := c.length) ((hh.grow intR_grows hu).grow intR_grows hw') (by omega)
          have HPG := Lib.hid (HP.out.grow pairR_grows hu)
          generalize ((c.getD k 0 : Nat) : Int) = t at *
          generalize ((c.getD m 0 : Nat) : Int) = t2 at *
          clear h4' h4 h5 hed hbo hbo2
          go_wp2_with (go_at_call 34; refine (containsP_any _ _ (t, t2) _ HPG.out).mono ?_; rintro e w6 ⟨rfl, hu6⟩; rw [HIN.out])
          refine (containsI_any _ _ t _ (HTK.out _ hu6)).mono ?_
          rintro e w7 ⟨rfl, rfl⟩
          rw [FRK.out]
          go_wp2
          go_roundw
          case rel => exact ⟨k + 1, by omega, by go_num, Up.trans hu hu6⟩
          case measure => simp [intOf]; omega
        · have d2 : decide ((2 : Int) ≤ (c.length : Int)) = true := decide_eq_true (by omega)
          go_wp2
          go_ret
          exact ⟨rfl, Up.trans hu5 hu⟩
end Go.Proofs.Ytfpegnlmpicekaa.C
