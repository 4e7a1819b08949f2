/- The snapshot database's Scan: the closures, IndexFunc and DeleteFunc at records. -/
import Derived.Test.YtinmpodnfofmdaaSnr
import Derived.Test.YtinmpodnfofmdaaMvq
namespace Go.Proofs.Ytinmpodnfofmdaa.Sn
open Go Go.RowKit Hp
open Mv (Val PC PV rowC rowC_one fm_len fm_take fm_drop fm_get fm_set fm_one RowIn StR Srt SOk pos has fx_lt fx_up ty_chg has_pos pos_le RM rmC rmC1 rmC_len rmC_get erR RecsR)
open So (scmp scmp_lt)
set_option linter.unusedVariables false

set_option maxRecDepth 100000 in
set_option maxHeartbeats 1000000 in
/-- The closure handed to DeleteFunc: is the record's key written by the transaction? -/
theorem sc1_any (tb g o : Nat) (w0 : World) (ws : List MW) (hT : At w0 tb 0 (.pointer (some ⟨g, o, none⟩)))
    (hS : ∀ W, Up w0 W → ∀ k, Calls Try.prog 56 #[.pointer (some ⟨g, o, none⟩), .string k] W fun e w' => e = .returned (.tuple #[.int .i64 (pos (ws.map erW) k : Nat), .bool (has (ws.map erW) k)]) ∧ Up W w') :
    ∀ W, Up w0 W → ∀ k ra rn rc, Calls Try.prog 61 #[.agg #[.string k, .slice ra rn rc], .pointer (some ⟨tb, 0, none⟩)] W fun e w' => e = .returned (.bool (has (ws.map erW) k)) ∧ Up W w' := fun W hu k ra rn rc => by
  have e1 := ((hT.grow hu).grow ((Up.refl W).alloc (.cells #[.string k, .slice ra rn rc] 45))).2
  have HS := Lib.hid (hS (W.alloc (.cells #[.string k, .slice ra rn rc] 45)) (hu.alloc _) k)
  generalize has (ws.map erW) k = B at *
  generalize pos (ws.map erW) k = ps at *
  clear hS hT
  go_enter Try.func61, Try.ntmps61
  go_wp2_with (first
    | (go_at_call 56; refine HS.out.mono ?_; rintro e w1 ⟨rfl, h1⟩; have H1 := Lib.hid h1; clear h1)
    | fail)
  go_ret
  exact ⟨rfl, ((Up.refl W).alloc _).trans H1.out⟩
/-- Every record's row is a slice value. -/
def RvS (rs : List RM) : Prop := ∀ r ∈ rs, ∃ a n c, r.rv = .slice a n c
/-- A closure that tells by a record's key. -/
def TellsBy (w0 : World) (tb : Nat) (p : ByteArray → Bool) : Prop := ∀ W, Up w0 W → ∀ k ra rn rc, Calls Try.prog 61 #[.agg #[.string k, .slice ra rn rc], .pointer (some ⟨tb, 0, none⟩)] W fun e w' => e = .returned (.bool (p k)) ∧ Up W w'
set_option maxRecDepth 100000 in
set_option maxHeartbeats 2000000 in
theorem ixr_any (w0 : World) (tb : Nat) (p : ByteArray → Bool) (hp : TellsBy w0 tb p) (B : Nat) (v : Value) (rs : List RM) (w : World) (hu0 : Up w0 w) (hown : w.ownsRow B 45 2 v rs.length (rmC rs)) (hw : RvS rs) (hl : rs.length ≤ 1000) :
    Calls Try.prog 79 #[v, .func (.func 61) #[] #[.pointer (some ⟨tb, 0, none⟩)]] w fun e w' => e = .returned (.int .i64 (idx (fun r : RM => p r.key) rs)) ∧ Up w w' := by
  have HO := Lib.hid hown
  have HWV := Lib.hid hw
  have HP := Lib.hid hp
  obtain ⟨a, cap, rfl, _, _, _⟩ := own_form hown
  clear hown hw hp
  go_enter Try.func79, Try.ntmps79
  go_wp2
  go_loopw [8] (fun iv wr => ∃ k : Nat, k ≤ rs.length ∧ iv = .int .i64 k ∧ Hid (Up w wr) ∧ Hid (∀ j (h : j < rs.length), j < k → p rs[j].key = false)) (fun iv _ => rs.length - (intOf iv).toNat)
  case atStart => exact ⟨0, by omega, rfl, Up.refl _, fun j h hj => by omega⟩
  case round =>
    obtain ⟨k, hk, rfl, HU, HN⟩ := hrel
    by_cases hlt : k < rs.length
    · obtain ⟨g, cap', hv, _, _, hc⟩ := Mv.own_cell (own_up HO.out HU.out) (by omega)
      simp only [Value.slice.injEq] at hv
      obtain ⟨rfl, _, rfl⟩ := hv
      obtain ⟨g0, g1⟩ := rmC_get rs k hlt
      obtain ⟨wa, wn, wc, hwv⟩ := HWV.out _ (List.getElem_mem hlt)
      rw [hwv] at g1
      have e0 := (hc _ _ g0).2
      have e1 := (hc _ _ g1).2
      have HONE : Hid (∀ W, Up wr W → Calls Try.prog 61 #[.agg #[.string rs[k].key, .slice wa wn wc], .pointer (some ⟨tb, 0, none⟩)] W fun e w' => e = .returned (.bool (p rs[k].key)) ∧ Up W w') := fun W h => HP.out W ((hu0.trans HU.out).trans h) _ _ _ _
      have bk : (k : Int) < (rs.length : Int) := by omega
      have HT : Hid (∀ (h : k < rs.length), p rs[k].key = true → idx (fun r : RM => p r.key) rs = (k : Int)) := fun h he => idx_hit h he HN.out
      have HF : Hid (p rs[k].key = false → ∀ j (h : j < rs.length), j < k + 1 → p rs[j].key = false) := fun he j h hj => by
        rcases Nat.lt_or_ge j k with h1 | h1
        · exact HN.out j h h1
        · obtain rfl : j = k := by omega
          exact he
      cases hd : p rs[k].key with
      | true =>
        rw [hd] at HONE
        have HE := Lib.hid (HT.out hlt hd)
        generalize rs[k].key = x at *
        clear hc g0 g1 hwv hd HT HF
        go_wp2_with (first
          | (go_at_call 61; refine (HONE.out _ (by first | exact Up.refl _ | exact (Up.refl _).alloc _)).mono ?_; rintro e w2 ⟨rfl, h2⟩; have U2 := Lib.hid (HU.out.trans (((Up.refl _).alloc _).trans h2)); clear h2)
          | (go_at_call 61; refine (HONE.out _ (by first | exact Up.refl _ | exact (Up.refl _).alloc _)).mono ?_; rintro e w2 ⟨rfl, h2⟩; have U2 := Lib.hid (HU.out.trans h2); clear h2)
          | fail)
        go_ret
        exact ⟨by rw [HE.out]; rfl, U2.out⟩
      | false =>
        rw [hd] at HONE
        have HE := Lib.hid (HF.out hd)
        generalize rs[k].key = x at *
        clear hc g0 g1 hwv hd HT HF
        go_wp2_with (first
          | (go_at_call 61; refine (HONE.out _ (by first | exact Up.refl _ | exact (Up.refl _).alloc _)).mono ?_; rintro e w2 ⟨rfl, h2⟩; have U2 := Lib.hid (HU.out.trans (((Up.refl _).alloc _).trans h2)); clear h2)
          | (go_at_call 61; refine (HONE.out _ (by first | exact Up.refl _ | exact (Up.refl _).alloc _)).mono ?_; rintro e w2 ⟨rfl, h2⟩; have U2 := Lib.hid (HU.out.trans h2); clear h2)
          | fail)
        go_roundw
        case rel => exact ⟨k + 1, by omega, by go_num, U2.out, HE.out⟩
        case measure => simp [intOf]; omega
    · obtain rfl : k = rs.length := by omega
      have HE : Hid (idx (fun r : RM => p r.key) rs = -1) := idx_miss fun j h => HN.out j h h
      go_wp2
      go_ret
      exact ⟨by rw [HE.out]; rfl, HU.out⟩
end Go.Proofs.Ytinmpodnfofmdaa.Sn
