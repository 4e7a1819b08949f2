/- mvccWorks, history. -/
import Derived.Test.YtinmpodnfofmdaaMvr
namespace Go.Proofs.Ytinmpodnfofmdaa.Mv
open Go Go.RowKit Hp So
set_option linter.unusedVariables false

def kA : ByteArray := { data := #[97] }
theorem add_first (k : ByteArray) (v : PV) (hk : k.size ≤ 24) (hr : v.row.length ≤ 6) (h1 : 1 ≤ v.ts) (h2 : v.ts ≤ 1099511627776) : addL [] 0 k v = ([(k, [v])], 0) := by
  rw [addL_ok hk hr h1 h2 (by omega) (fun c hc => by cases hc) (by simp [cnt])]
  rfl
theorem get_first (k : ByteArray) (v : PV) (ts : Int) (h0 : 0 ≤ ts) (h : v.ts ≤ ts) (ht : v.tomb = false) : getL [(k, [v])] 0 k ts = (v.row, 0) := by
  rw [getL_look _ _ _ _ (by omega), (mem_has (l := [(k, [v])]) (List.pairwise_singleton ..) (List.mem_singleton.2 rfl)).2]
  unfold vis1 visL
  simp [h, ht]
theorem own_len1 {w : World} {B : Nat} {v : Value} {n : Nat} {xs : List Value} {E : TypeId} {size : Nat} (h : w.ownsRow B E size v n xs) : Src w size v n xs := own_src h
set_option maxRecDepth 100000 in
set_option maxHeartbeats 2000000 in
theorem works_any (w : World) : Calls Try.prog 16 #[] w fun e w' => e = .returned (.bool true) ∧ Up w w' := by
  have P1 := Lib.hid (add_first kA ⟨3, false, rowV 5⟩ (by decide) (by simp [rowV]) (by simp) (by simp))
  have P2 := Lib.hid (get_first kA ⟨3, false, rowV 5⟩ 4 (by omega) (by simp) rfl)
  have RL : Hid ((rowV 5).length ≤ 6) := by unfold Hid; simp [rowV]
  go_enter Try.func16, Try.ntmps16
  go_wp2_with (first
    | (go_at_call 24; refine (equalR_same _ _ (rowV 5) _ ((own_src H5.out).up H7.out) (own_src H6.out) (by have := RL.out; omega)).mono ?_; rintro e w6 ⟨rfl, h4⟩; have H8 := Lib.hid h4; clear h4)
    | (go_at_call 21; refine (row_any 5 w4).mono ?_; rintro e w5 ⟨rfl, h4, h5⟩; have H6 := Lib.hid h4; have H7 := Lib.hid h5; clear h4 h5)
    | (go_at_call 27; refine (get_any _ _ _ _ kA 4 _ H4.out.1).mono ?_; rw [P2.out]; rintro e w4 ⟨gv, rfl, h4, h5⟩; obtain ⟨ga, gc, rfl, _, _, _⟩ := own_form h4; have H5 := Lib.hid h4; have HG := Lib.hid h5; clear h4 h5)
    | (go_at_call 20; refine (put_any _ [] 0 (fun j => j = w.heap.size) kA 3 _ (rowV 5) _ (H1.out.1.up H3.out) (own_src H2.out) (by have := RL.out; omega)).mono ?_; rw [P1.out]; rintro e w3 ⟨rfl, h4⟩; have H4 := Lib.hid h4; clear h4)
    | (go_at_call 21; refine (row_any 5 w1).mono ?_; rintro e w2 ⟨rfl, h4, h5⟩; have H2 := Lib.hid h4; have H3 := Lib.hid h5; clear h4 h5)
    | (go_at_call 23; refine (new_any w).mono ?_; rintro e w1 ⟨rfl, h1⟩; have H1 := Lib.hid h1; clear h1))
  go_ret
  have u3 : Up w w3 := (((H1.out.2.1.trans H3.out).chg fun _ => False).trans H4.out.2 fun j hj e => by omega).up fun _ _ e => e
  exact ⟨rfl, ((u3.trans HG.out).trans H7.out).trans H8.out⟩
/-- What history hands back. -/
def HistPost (w : World) (l : List PC) (m : Nat) (e : Ending) (w' : World) : Prop := ∃ p F, e = .returned (.tuple #[.pointer (some ⟨p, 0, none⟩), .int .i64 (m : Nat), .bool true]) ∧ StR w' p l 0 F ∧ (∀ k, F k → w.heap.size ≤ k) ∧ Up w w'
set_option maxRecDepth 100000 in
set_option maxHeartbeats 4000000 in
theorem history_any (a : Option Addr) (len cap : Nat) (zs : List Int) (w : World) (hE : Elems w a len zs) (hc1 : len ≤ cap) (hc2 : cap ≤ 9223372036854775807) :
    Calls Try.prog 17 #[.slice a len cap] w (HistPost w (histL zs (min len 100)) (min len 100)) := by
  have HE := Lib.hid hE
  obtain ⟨m, hmin', hm1, hm2⟩ := min_len 100 len
  have hmin : (if (100 : Int) < (len : Int) then (100 : Int) else (len : Int)) = (m : Int) := hmin'
  have hmm : Hid (min len 100 = m) := by
    unfold Hid
    by_cases h60 : (100 : Int) < (len : Int)
    · rw [if_pos h60] at hmin; omega
    · rw [if_neg h60] at hmin; omega
  clear hmin' hE
  have hmc : (m : Int) ≤ (cap : Int) := by omega
  go_enter Try.func17, Try.ntmps17
  go_wp2_with (go_at_call 23; refine (new_any w).mono ?_; rintro e w1 ⟨rfl, h1⟩; have H1 := Lib.hid h1; clear h1)
  clear hmin
  go_loopw [6, 16] (fun t iv wr => ∃ k : Nat, k ≤ m ∧ iv = .int .i64 k ∧ t = .int .i64 k ∧ Hid (∃ F, StR wr w.heap.size (histL zs k) 0 F ∧ (∀ j, F j → w.heap.size ≤ j)) ∧ Hid (Up w wr)) (fun _ iv _ => m - (intOf iv).toNat)
  case atStart => exact ⟨0, by omega, rfl, rfl, ⟨_, H1.out.1, fun j e => by subst e; exact Nat.le_refl _⟩, H1.out.2.1⟩
  case round =>
    obtain ⟨k, hk, rfl, rfl, HR, HU⟩ := hrel
    by_cases hlt : k < m
    · obtain ⟨b, off, rfl, hb, hx⟩ := elems_up HE.out HU.out k (by omega)
      obtain ⟨op, hop⟩ : ∃ op, op = zs.getD k 0 := ⟨_, rfl⟩
      rw [← hop] at hx
      obtain ⟨F, hS, hF⟩ := HR.out
      have HS := Lib.hid hS
      have HF := Lib.hid hF
      have HK := Lib.hid (hist_ok zs k (by omega))
      have HST : Hid (histL zs (k + 1) = hstep (histL zs k) op ((k : Int) + 1)) := by unfold Hid; rw [hop]; rfl
      clear hS hF hop HR
      have endst : ∀ (w3 w2 : World) (l' : List PC), Up wr w2 → StR w3 w.heap.size l' 0 (Fx F w2 w3) ∧ Chg F w2 w3 → (∃ F', StR w3 w.heap.size l' 0 F' ∧ ∀ j, F' j → w.heap.size ≤ j) ∧ Up w w3   := fun w3 w2 l' h2 h3 => by
        have B := StR.behind HS.out.lt h2 h3
        refine ⟨⟨_, B.1, fun j hj => ?_⟩, (HU.out.chg fun _ => False).trans B.2 (fun j hj e => by have := HF.out j e; omega) |>.up fun _ _ e => e⟩
        rcases hj with hj | hj
        · exact HF.out j hj
        · have := HU.out.size; omega
      have END := Lib.hid endst
      clear endst
      by_cases hq : modV op 4 = 0
      · have hq2 : (modV op 4 == 0) = true := by rw [hq]; rfl
        obtain ⟨A1, A2⟩ := HK.out.add (by omega) (wrap64 (op.tdiv 4)) ⟨(k : Int) + 1, true, []⟩ (by simp) rfl
        have HA := Lib.hid A2
        clear A1 A2
        go_wp2_with (first
          | (go_at_call 22; refine (mod_any _ _ _ (by omega) (by omega)).mono ?_; rintro e w' ⟨rfl, rfl⟩)
          | (go_at_call 18; refine (key_any _ _).mono ?_; rintro e w2 ⟨rfl, h2⟩; have H2 := Lib.hid h2; clear h2)
          | (go_at_call 45; refine (del_any _ _ _ _ _ _ _ (HS.out.up H2.out)).mono ?_; rw [HA.out]; rintro e w3 ⟨rfl, h3⟩; have H3 := Lib.hid h3; clear h3))
        go_roundw
        case rel =>
          obtain ⟨B1, B2⟩ := END.out _ _ _ H2.out H3.out
          refine ⟨k + 1, by omega, by go_num, by go_num, ?_, B2⟩
          unfold Hid
          rw [HST.out]
          unfold hstep
          rw [if_pos hq]
          exact B1
        case measure => simp [intOf]; omega
      · have hq2 : (modV op 4 == 0) = false := beq_eq_false_iff_ne.2 hq
        obtain ⟨A1, A2⟩ := HK.out.add (by omega) (wrap64 (op.tdiv 4)) ⟨(k : Int) + 1, false, rowV (wrap64 (op.tdiv 32))⟩ (by simp [rowV]) rfl
        have HA := Lib.hid A2
        clear A1 A2
        go_wp2_with (first
          | (go_at_call 22; refine (mod_any _ _ _ (by omega) (by omega)).mono ?_; rintro e w' ⟨rfl, rfl⟩)
          | (go_at_call 18; refine (key_any _ _).mono ?_; rintro e w2 ⟨rfl, h2⟩; have H2 := Lib.hid h2; clear h2)
          | (go_at_call 21; refine (row_any _ _).mono ?_; rintro e w4 ⟨rfl, h4, h5⟩; have H4 := Lib.hid h4; have H5 := Lib.hid (H2.out.trans h5); clear h4 h5)
          | (go_at_call 20; refine (put_any _ _ _ _ _ _ _ (rowV (wrap64 (op.tdiv 32))) _ (HS.out.up H5.out) (own_src H4.out) (by simp [rowV])).mono ?_; rw [HA.out]; rintro e w3 ⟨rfl, h3⟩; have H3 := Lib.hid h3; clear h3))
        go_roundw
        case rel =>
          obtain ⟨B1, B2⟩ := END.out _ _ _ H5.out H3.out
          refine ⟨k + 1, by omega, by go_num, by go_num, ?_, B2⟩
          unfold Hid
          rw [HST.out]
          unfold hstep
          rw [if_neg hq]
          exact B1
        case measure => simp [intOf]; omega
    · obtain rfl : k = m := by omega
      go_wp2
      go_ret3
      obtain ⟨F, hS, hF⟩ := HR.out
      rw [hmm.out]
      exact ⟨_, F, rfl, hS, hF, HU.out⟩
end Go.Proofs.Ytinmpodnfofmdaa.Mv
