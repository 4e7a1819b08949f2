/- SerialOrderIsEquivalent: the walk. -/
import Derived.Test.YtfpegnlmpicekaaC31
import Derived.Test.YtfpegnlmpicekaaC32
namespace Go.Proofs.Ytfpegnlmpicekaa.C
open Go Go.RowKit Hp
set_option linter.unusedVariables false

theorem quad_same (W : World) (a b c d : Int) : (Op.equalIn 10000 60 (.agg #[.int .i64 a, .int .i64 b, .int .i64 c, .int .i64 d]) (.agg #[.int .i64 a, .int .i64 b, .int .i64 c, .int .i64 d])).run Try.prog W = .ok true W := by
  have hz : ∀ W : World, (sizeOf 3).run Try.prog W = .ok 1 W := Try.sizeOf3
  have h60 : Try.prog.underlying 60 = some (.array 4 3) := by kernel_rfl
  rw [show (10000 : Nat) = 9999 + 1 from rfl, Op.equalIn]
  simp only [Sem.run_bind, run_underlying h60, Result.andThen_ok, hz]
  simp only [part]
  have ha : ∀ W : World, (isAgg 3).run Try.prog W = .ok false W := Try.isAgg3
  simp [List.range', ha, go_sem]
theorem guard60 : Try.prog.eqGuardType Try.prog.depth 60 = false := by kernel_rfl
theorem fwc_same {h : List Hop} {ord : List Int} (S : SerialOf h ord) : fwc (serl h ord) = fwc h := by
  unfold fwc fw; simp only [final_same S]

set_option maxRecDepth 100000 in
set_option maxHeartbeats 4000000 in
theorem walk13 (a2 : Option Addr) (len2 cap2 : Nat) (z2 : List Int) (w : World) (hE : Elems w a2 len2 z2) (hl : len2 ≤ cap2) (hm : cap2 ≤ 9223372036854775807) :
    Calls Try.prog 9 #[.slice a2 len2 cap2] w fun e w' => e = .returned (.bool true) ∧ Up w w' := by
  have HE := Lib.hid hE
  clear hE
  go_enter Try.func9, Try.ntmps9
  go_wp2_with (go_at_call 17; refine (sworks_any _).mono ?_; rintro e w1 ⟨rfl, u1⟩)
  refine (hist_any a2 len2 cap2 z2 w1 (elems_up HE.out u1) hl hm).mono ?_
  rintro e w2 ⟨v, l, rfl, hown, hok, hl60, u2⟩
  obtain ⟨a, cap, rfl⟩ := own_len hown
  have OK := Lib.hid hok
  have HV := Lib.hid (hok_valid hok hl60)
  have HT := Lib.hid (hops_own hown)
  have hu2 := Up.trans u1 u2
  clear hok hown
  go_wp2_with fail
  refine (sorder_any _ l _ HT.out HV.out).mono ?_
  rintro e w3 ⟨⟨hs, hn⟩, u3⟩
  have hu3 := hu2.trans u3
  cases ho : orderOf l with
  | none =>
    obtain rfl := hn ho
    clear hs hn ho
    go_wp2
    go_ret
    exact ⟨rfl, hu3⟩
  | some res =>
    obtain ⟨vr, rfl, hownr⟩ := hs res ho
    have S := Lib.hid (order_serial l (fun x hx => by have := (OK.out x hx).1; omega) ho)
    clear hs hn ho
    have SL := Lib.hid (serl_len_all l S.out.nd S.out.mem)
    have OKS : Hid (∀ x ∈ serl l res, HOk x) := fun x hx => OK.out x (mem_serl.1 hx).1
    go_wp2_with fail
    refine (serialize_any _ _ l res _ (HT.out.grow hopR_grows u3) HV.out (ints_own hownr) S.out.nd SL.out).mono ?_
    rintro e w4 ⟨vs, rfl, howns, u4⟩
    have HTS := Lib.hid (hops_own howns)
    obtain ⟨aS, cS, rfl⟩ := own_len howns
    have hu4 := hu3.trans u4
    have HT4 := Lib.hid (HT.out.grow hopR_grows (u3.trans u4))
    clear howns hownr
    rw [SL.out] at HTS ⊢
    have hne : ((l.length : Int) != (l.length : Int)) = false := by simp
    have hne2 : (l.length != l.length) = false := by simp
    go_wp2_with fail
    refine (readsof_any _ l _ HT4.out OK.out hl60).mono ?_
    rintro e w5 ⟨v5, rfl, A5, u5⟩
    go_wp2_with fail
    refine (readsof_any _ (serl l res) _ (HTS.out.grow hopR_grows u5) OKS.out (by rw [SL.out]; exact hl60)).mono ?_
    rintro e w6 ⟨v6, rfl, A6, u6⟩
    have EQ : Hid ((List.range 5).map (fun (t : Nat) => rds [] (serl l res) (t : Int)) = (List.range 5).map (fun (t : Nat) => rds [] l (t : Int))) := by unfold Hid; simp only [rds_same S.out]
    rw [EQ.out] at A6
    have hu6 := (hu4.trans u5).trans u6
    have H5 := Lib.hid (A5.grow slR_grows u6)
    have H6 := Lib.hid A6
    obtain ⟨x5, y5, rfl, _⟩ := A5
    obtain ⟨x6, y6, rfl, _⟩ := A6
    have HT6 := Lib.hid (HT4.out.grow hopR_grows (u5.trans u6))
    have HTS6 := Lib.hid (HTS.out.grow hopR_grows (u5.trans u6))
    have FSu := Lib.hid (fwc_same S.out)
    have hq : ∀ W : World, (Op.equalIn 10000 60 (.agg (fwc l).toArray) (.agg (fwc l).toArray)).run Try.prog W = .ok true W := fun W => quad_same W _ _ _ _
    have hg60 := guard60
    go_wp2_with fail
    refine (finalw_any _ l _ HT6.out OK.out hl60).mono ?_
    rintro e w7 ⟨rfl, u7⟩
    go_wp2_with fail
    refine (finalw_any _ (serl l res) _ (HTS6.out.grow hopR_grows u7) OKS.out (by rw [SL.out]; exact hl60)).mono ?_
    rintro e w8 ⟨rfl, u8⟩
    rw [FSu.out]
    go_wp2_with (go_at_call 30; refine (eqf_any _ _ _ _ (H5.out.grow slR_grows (u7.trans u8)) (H6.out.grow slR_grows (u7.trans u8))).mono ?_; rintro e w9 ⟨rfl, u9⟩)
    go_ret
    exact ⟨rfl, ((hu6.trans u7).trans u8).trans u9⟩
end Go.Proofs.Ytfpegnlmpicekaa.C
