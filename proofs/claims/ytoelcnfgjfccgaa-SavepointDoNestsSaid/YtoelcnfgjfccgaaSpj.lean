/- slices.Equal at equal entries; Key, modify. -/
import Derived.Test.YtoelcnfgjfccgaaSpi
import Derived.Test.YtoelcnfgjfccgaaEl
namespace Go.Proofs.Ytoelcnfgjfccgaa.Sp
open Go Go.RowKit Hp So
set_option linter.unusedVariables false

theorem ent_eq (W : World) (s : ByteArray) (x : Int) : (Op.equalIn 10000 48 (.agg #[.string s, .int .i64 x]) (.agg #[.string s, .int .i64 x])).run Try.prog W = .ok true W := by
  have hz : ∀ W : World, (sizeOf 3).run Try.prog W = .ok 1 W := Try.sizeOf3
  have hz2 : ∀ W : World, (sizeOf 9).run Try.prog W = .ok 1 W := Try.sizeOf9
  rw [show (10000 : Nat) = 9999 + 1 from rfl, Op.equalIn]
  simp only [Sem.run_bind, run_underlying Try.underlying48, Result.andThen_ok, hz, hz2]
  simp only [part]
  have ha : ∀ W : World, (isAgg 3).run Try.prog W = .ok false W := Try.isAgg3
  have ha2 : ∀ W : World, (isAgg 9).run Try.prog W = .ok false W := Try.isAgg9
  simp [List.range', ha, ha2, go_sem]
theorem guardE : Try.prog.eqGuardType Try.prog.depth 48 = false := by kernel_rfl

set_option maxRecDepth 100000 in
set_option maxHeartbeats 1000000 in
theorem equalE_same (v v' : Value) (l : Ws) (w : World) (h : Src w 2 v l.length (ec l)) (h' : Src w 2 v' l.length (ec l)) (hl : l.length ≤ 40) :
    Calls Try.prog 26 #[v, v'] w fun e w' => e = .returned (.bool true) ∧ Up w w' := by
  have HS := Lib.hid h
  have HS' := Lib.hid h'
  obtain ⟨a, cap, rfl⟩ : ∃ a cap, v = .slice a l.length cap := by
    rcases h.2 with ⟨e, h0⟩ | ⟨b, off, c, e, _⟩
    · exact ⟨none, 0, by rw [h0]; exact e⟩
    · exact ⟨_, _, e⟩
  obtain ⟨a', cap', rfl⟩ : ∃ a cap, v' = .slice a l.length cap := by
    rcases h'.2 with ⟨e, h0⟩ | ⟨b, off, c, e, _⟩
    · exact ⟨none, 0, by rw [h0]; exact e⟩
    · exact ⟨_, _, e⟩
  clear h h'
  have hne : ((l.length : Int) != (l.length : Int)) = false := by simp
  go_enter Try.func26, Try.ntmps26
  go_wp2
  go_loopw [13] (fun iv wr => ∃ k : Nat, k ≤ l.length ∧ iv = .int .i64 k ∧ Up w wr) (fun iv _ => l.length - (intOf iv).toNat)
  case atStart => exact ⟨0, by omega, rfl, Up.refl _⟩
  case round =>
    obtain ⟨k, hk, rfl, hu⟩ := hrel
    have HU := Lib.hid hu
    clear hu
    by_cases hlt : k < l.length
    · obtain ⟨b, off, hv, c1, c2⟩ : ∃ b off, a = some ⟨b, off, none⟩ ∧ At w b (off + k * 2) (.string l[k].1) ∧ At w b (off + (k * 2 + 1)) (.int .i64 l[k].2) := by
        rcases HS.out.2 with ⟨e, h0⟩ | ⟨b, off, c, e, _, _, hc⟩
        · omega
        · simp only [Value.slice.injEq] at e
          exact ⟨b, off, e.1, hc _ _ (ec_get l k hlt).1, hc _ _ (ec_get l k hlt).2⟩
      obtain ⟨b', off', hv', c1', c2'⟩ : ∃ b off, a' = some ⟨b, off, none⟩ ∧ At w b (off + k * 2) (.string l[k].1) ∧ At w b (off + (k * 2 + 1)) (.int .i64 l[k].2) := by
        rcases HS'.out.2 with ⟨e, h0⟩ | ⟨b, off, c, e, _, _, hc⟩
        · omega
        · simp only [Value.slice.injEq] at e
          exact ⟨b, off, e.1, hc _ _ (ec_get l k hlt).1, hc _ _ (ec_get l k hlt).2⟩
      subst hv
      subst hv'
      generalize l[k].1 = s at c1 c1'
      generalize l[k].2 = x at c2 c2'
      have d1 := (c1.grow HU.out).2
      have d2 := (c2.grow HU.out).2
      have d3 := (c1'.grow HU.out).2
      have d4 := (c2'.grow HU.out).2
      rw [← Nat.add_assoc] at d2 d4
      have hlk : (k : Int) < (l.length : Int) := by omega
      clear c1 c2 c1' c2'
      have hpn := ent_eq
      have hgd := guardE
      go_wp2
      go_quiet (fail)
      go_wp2
      go_roundw
      case rel => exact ⟨k + 1, by omega, by go_num, HU.out.drewN _⟩
      case measure => simp [intOf]; omega
    · obtain rfl : k = l.length := by omega
      go_wp2
      go_ret
      exact ⟨rfl, HU.out⟩

theorem Elems.chg {S : Nat → Prop} {w w' : World} {a : Option Addr} {len : Nat} {zs : List Int} (h : Elems w a len zs) (hc : Chg S w w') (hS : ∀ k, k < w.heap.size → ¬ S k) : Elems w' a len zs := elems_up h (hc.up hS)
def modStep (l : Ws) (op : Int) : Ws := if modV op 4 = 0 then (delL l (keyB (wrap64 (op.tdiv 4)))).1 else (putL l (keyB (wrap64 (op.tdiv 4))) (modV (wrap64 (op.tdiv 32)) 100)).1
def modL (l : Ws) (ops : List Int) : Ws := ops.foldl modStep l
theorem modL_succ (l : Ws) (zs : List Int) (k : Nat) : modL l ((List.range (k + 1)).map fun i => zs.getD i 0) = modStep (modL l ((List.range k).map fun i => zs.getD i 0)) (zs.getD k 0) := by
  unfold modL
  rw [List.range_succ, List.map_append, List.foldl_append]; rfl
set_option maxRecDepth 100000 in
set_option maxHeartbeats 1000000 in
theorem modify_any (p : Nat) (l : Ws) (sp : List Ws) (F : Nat → Prop) (a : Option Addr) (len cap : Nat) (zs : List Int) (w0 w : World) (h : TxR w p l sp F) (hE : Elems w0 a len zs) (hc1 : len ≤ cap) (hc2 : cap ≤ 9223372036854775807) (hu : Up w0 w) (hF : ∀ k, F k → w0.heap.size ≤ k) :
    Calls Try.prog 23 #[.pointer (some ⟨p, 0, none⟩), .slice a len cap] w fun e w' => e = .returned (.tuple #[]) ∧ TxR w' p (modL l ((List.range (min len 60)).map fun i => zs.getD i 0)) sp (Fx F w w') ∧ Chg F w w' := by
  have HE := Lib.hid hE
  have HT := Lib.hid h
  have HU := Lib.hid hu
  have HF := Lib.hid hF
  obtain ⟨m, hmin', hm1, hm2⟩ := min_len 60 len
  have hmin : (if (60 : Int) < (len : Int) then (60 : Int) else (len : Int)) = (m : Int) := hmin'
  have hmm : Hid (min len 60 = m) := by
    unfold Hid
    by_cases h60 : (60 : Int) < (len : Int)
    · rw [if_pos h60] at hmin; omega
    · rw [if_neg h60] at hmin; omega
  clear hmin' h hE hu hF
  have hmc : (m : Int) ≤ (cap : Int) := by omega
  go_enter Try.func23, Try.ntmps23
  go_wp2
  clear hmin
  go_loopw [12] (fun iv wr => ∃ k : Nat, k ≤ m ∧ iv = .int .i64 k ∧ TxR wr p (modL l ((List.range k).map fun i => zs.getD i 0)) sp (Fx F w wr) ∧ Chg F w wr) (fun iv _ => m - (intOf iv).toNat)
  case atStart => exact ⟨0, by omega, rfl, HT.out.mono (fun k hk => .inl hk) (fx_lt HT.out.lt (Nat.le_refl _)), Chg.refl _ _⟩
  case round =>
    obtain ⟨k, hk, rfl, hT, hC⟩ := hrel
    have HT1 := Lib.hid hT
    have HC1 := Lib.hid hC
    clear hT hC
    by_cases hlt : k < m
    · have hUr : Hid (Up w0 wr) := ((HU.out.chg fun _ => False).trans HC1.out fun i hi e => absurd (HF.out i e) (by omega)).up fun _ _ e => e
      obtain ⟨b, off, rfl, hb, hx⟩ := elems_up HE.out hUr.out k (by omega)
      obtain ⟨op, hop⟩ : ∃ op, op = zs.getD k 0 := ⟨_, rfl⟩
      rw [← hop] at hx
      have HOP := Lib.hid hop
      clear hop
      by_cases hq : modV op 4 = 0
      · have hq2 : (modV op 4 == 0) = true := by rw [hq]; rfl
        go_wp2_with (first
          | (go_at_call 18; refine (mod_any _ _ _ (by omega) (by omega)).mono ?_; rintro e w' ⟨rfl, rfl⟩)
          | (go_at_call 46; refine (key_any _ _).mono ?_; rintro e w2 ⟨rfl, h2⟩; have H2 := Lib.hid h2; clear h2)
          | (go_at_call 45; refine (tdel_any p _ sp _ _ _ (HT1.out.up H2.out)).mono ?_; rintro e w3 ⟨rfl, h3⟩; have H3 := Lib.hid h3; clear h3))
        go_roundw
        case rel =>
          have B := TxR.two HT.out.lt HC1.out (TxR.behind (fx_lt HT.out.lt HC1.out.size) H2.out H3.out)
          refine ⟨k + 1, by omega, by go_num, ?_, B.2⟩
          rw [modL_succ, ← HOP.out]
          unfold modStep
          rw [if_pos hq]
          exact B.1
        case measure => simp [intOf]; omega
      · have hq2 : (modV op 4 == 0) = false := beq_eq_false_iff_ne.2 hq
        go_wp2_with (first
          | (go_at_call 18; refine (mod_any _ _ _ (by omega) (by omega)).mono ?_; rintro e w' ⟨rfl, rfl⟩)
          | (go_at_call 46; refine (key_any _ _).mono ?_; rintro e w2 ⟨rfl, h2⟩; have H2 := Lib.hid h2; clear h2)
          | (go_at_call 44; refine (put_any p _ sp _ _ _ _ (HT1.out.up H2.out)).mono ?_; rintro e w3 ⟨rfl, h3⟩; have H3 := Lib.hid h3; clear h3))
        go_roundw
        case rel =>
          have B := TxR.two HT.out.lt HC1.out (TxR.behind (fx_lt HT.out.lt HC1.out.size) H2.out H3.out)
          refine ⟨k + 1, by omega, by go_num, ?_, B.2⟩
          rw [modL_succ, ← HOP.out]
          unfold modStep
          rw [if_neg hq]
          exact B.1
        case measure => simp [intOf]; omega
    · obtain rfl : k = m := by omega
      go_wp2
      go_end0
      rw [hmm.out]
      exact ⟨rfl, HT1.out, HC1.out⟩

end Go.Proofs.Ytoelcnfgjfccgaa.Sp
