/- The law SSIAdmittedTransactionsAreSerializable: its walk. -/
import Derived.Test.YtfpegnlmpicekaaC15
namespace Go.Proofs.Ytfpegnlmpicekaa.C
open Go Go.RowKit Hp
set_option linter.unusedVariables false

theorem gr_calls {P : Program} {f : FuncId} {args : Array Value} {w : World} {g : Gr w} {v v' : Value} (h : Calls P f args (gr w g) fun e w' => e = .returned v ∧ gr w g = w') (he : v = v') :
    Calls P f args (gr w g) fun e w'' => e = .returned v' ∧ ∃ g', w'' = gr w g' := by subst he; exact gr_call_same h

set_option maxRecDepth 100000 in
set_option maxHeartbeats 4000000 in
theorem walk12 (a2 : Option Addr) (len2 cap2 : Nat) (z2 : List Int) (w : World) (hE : Elems w a2 len2 z2) (hl : len2 ≤ cap2) (hm : cap2 ≤ 9223372036854775807) :
    Calls Try.prog 8 #[.slice a2 len2 cap2] w fun e w' => e = .returned (.bool true) ∧ Up w w' := by
  have HE := Lib.hid hE
  clear hE
  go_enter Try.func8, Try.ntmps8
  go_wp2_with (go_at_call 11; refine (works_any _).mono ?_; rintro e w1 ⟨rfl, u1⟩)
  refine (txs_any a2 len2 cap2 z2 w1 (elems_up HE.out u1) hl hm).mono ?_
  rintro e w2 ⟨v, l, xs, rfl, hown, henc, hdr, hl20, u2⟩
  obtain ⟨a, cap, rfl⟩ := own_len hown
  have HV := Lib.hid (drawn_valid hdr hl20)
  have HT := Lib.hid (henc.txs hown)
  have hu2 := Up.trans u1 u2
  have hL : (admV l).length = l.length := by simp [admV, admN_length]
  have HL := Lib.hid hL
  obtain ⟨res, hres, hr40, hidx⟩ := serial l HV.out
  have HRES := Lib.hid hres
  have HI := Lib.hid hidx
  clear hdr hown henc hL hres hidx
  go_wp2_with fail
  refine (admit_any _ l _ HT.out HV.out).mono ?_
  rintro e w3 ⟨g, rfl, hg, hb, u3⟩
  have hu3 := Up.trans hu2 u3
  have HT3 := Lib.hid (HT.out.grow txR_grows u3)
  have HB3 : Hid (Bools w3 (.slice (some ⟨g, 0, none⟩) l.length l.length) (admV l)) := by
    have h := bv_arr hb (by rw [HL.out]; omega)
    rw [HL.out] at h
    exact h
  clear hb
  go_wp2_with fail
  refine (order_any _ _ l (admV l) _ HT3.out HB3.out HV.out HL.out res HRES.out).mono ?_
  rintro e w4 ⟨vo, rfl, hord, u4⟩
  obtain ⟨ao, co, rfl⟩ := own_len hord
  have hu4 := Up.trans hu3 u4
  have hO := ints_own hord
  clear hord
  go_wp2_with fail
  refine (dgraph_any _ _ l (admV l) _ (HT3.out.grow txR_grows u4) (HB3.out.grow boolR_grows u4) HV.out HL.out).mono ?_
  rintro e w5 ⟨ve, rfl, hed, u5⟩
  obtain ⟨ae, ce, rfl⟩ := own_len hed
  have hu5 := Up.trans hu4 u5
  have hO5 := hO.grow intR_grows u5
  have hP := pairs_own hed
  clear hed hO
  have hdl : (deps l (admV l) l.length).length ≤ 400 := Nat.le_trans (deps_len _ _ _) (Nat.le_trans (Nat.mul_le_mul hl20 hl20) (by decide))
  generalize deps l (admV l) l.length = edges at *
  obtain ⟨ax, cx, hse, _, _, _, hpe⟩ := id hP
  simp only [Value.slice.injEq, true_and] at hse
  obtain ⟨rfl, rfl⟩ := hse
  have HP := Lib.hid hpe
  have HO := Lib.hid hO5
  clear hpe hP hO5
  go_wp2
  go_loopw [49] (fun iv wr => ∃ k : Nat, k ≤ edges.length ∧ iv = .int .i64 k ∧ Up w5 wr) (fun iv _ => edges.length - (intOf iv).toNat)
  case atStart => exact ⟨0, by omega, rfl, Up.refl _⟩
  case round =>
    obtain ⟨k, hk, rfl, hu⟩ := hrel
    by_cases hlt : k < edges.length
    · obtain ⟨b, off, ha, hr⟩ := HP.out k hlt
      subst ha
      obtain ⟨_, ⟨hbb, c0⟩, _, c1⟩ := pairR_grows _ _ _ _ _ hr hu
      obtain ⟨⟨u, v⟩, hx⟩ : ∃ x, x = edges[k] := ⟨_, rfl⟩
      rw [← hx] at c0 c1
      have hmem : (u, v) ∈ edges := hx ▸ List.getElem_mem hlt
      have hq := HI.out u v hmem
      have hO' := HO.out.grow intR_grows hu
      have HO' : Hid (Ints (wr.alloc (.cells #[.int .i64 u, .int .i64 v] 48)) (.slice ao res.length co) res) := hO'.grow intR_grows ((Up.refl _).alloc _)
      obtain ⟨i1, hi1⟩ : ∃ i1, i1 = idx (u == ·) res := ⟨_, rfl⟩
      obtain ⟨i2, hi2⟩ : ∃ i2, i2 = idx (v == ·) res := ⟨_, rfl⟩
      rw [← hi1, ← hi2] at hq
      have E1 : Hid (Value.int .i64 (idx (u == ·) res) = Value.int .i64 i1) := by rw [hi1]; rfl
      have E2 : Hid (Value.int .i64 (idx (v == ·) res) = Value.int .i64 i2) := by rw [hi2]; rfl
      have hq1 : decide (i2 ≤ i1) = false := by simpa using hq
      dsimp only at c0 c1
      clear hx hi1 hi2 hmem hO' hr
      go_wp2
      refine wp_region_gr (by kernel_rfl) (by kernel_rfl) ?_
      repeat (go_big_quiet_step (first
        | (go_at_call_of 27 u; exact gr_calls (indexI_any _ res u _ (HO'.out.grow intR_grows (gr_up _ _))) E1.out)
        | (go_at_call_of 27 v; exact gr_calls (indexI_any _ res v _ (HO'.out.grow intR_grows (gr_up _ _))) E2.out)))
      refine wpQuiet_nil ?_
      intro _ hw'
      obtain ⟨g', rfl⟩ := hw'
      go_wp2
      go_roundw
      case rel => exact ⟨k + 1, by omega, by go_num, Up.trans (hu.alloc _) (gr_up _ _)⟩
      case measure => simp [intOf]; omega
    · go_wp2
      go_ret
      exact ⟨rfl, Up.trans hu5 hu⟩
end Go.Proofs.Ytfpegnlmpicekaa.C
