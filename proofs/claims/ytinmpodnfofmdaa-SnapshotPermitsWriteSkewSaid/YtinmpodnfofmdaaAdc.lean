/- antidepends, writeConflict. -/
import Derived.Test.YtinmpodnfofmdaaAdb
namespace Go.Proofs.Ytinmpodnfofmdaa.C
open Go Go.RowKit Hp
set_option linter.unusedVariables false

def anti (a b : Tx) : Bool := conc a b && inter a.reads b.writes

theorem anti_any (a b : Tx) (va vb : Value) (w : World) (ha : TxV w va a) (hb : TxV w vb b) :
    Calls Try.prog 78 #[va, vb] w fun e w' => e = .returned (.bool (anti a b)) ∧ Up w w' := by
  have HA := Lib.hid ha
  have HB := Lib.hid hb
  obtain ⟨ra, wa, rfl, sra, swa⟩ := ha
  obtain ⟨rb, wb, rfl, srb, swb⟩ := hb
  have SR := Lib.hid sra; have SW := Lib.hid swb
  obtain ⟨a1, c1, rfl, _, _⟩ := sra
  obtain ⟨a2, c2, rfl, _, _⟩ := swa
  obtain ⟨a3, c3, rfl, _, _⟩ := srb
  obtain ⟨a4, c4, rfl, _, _⟩ := swb
  have U2 : Hid (∀ o1 o2, Up w ((w.alloc o1).alloc o2)) := fun o1 o2 => ((Up.refl _).alloc _).alloc _
  by_cases h1 : conc a b = true
  · have E : Hid (anti a b = inter a.reads b.writes) := by simp [Hid, anti, h1]
    have H1 := Lib.hid h1
    clear h1
    go_enter Try.func78, Try.ntmps78
    go_wp2_with (first
      | (go_at_call 76; refine (conc_any a b _ _ _ (HA.out.grow (U2.out _ _)) (HB.out.grow (U2.out _ _))).mono ?_; rintro e w1 ⟨rfl, hu⟩; rw [H1.out]; have hu1 := Up.trans (U2.out _ _) hu; have hc := fun b o (h : b < w.heap.size + 2) => hu.cell (p := ⟨b, o, none⟩) (by simpa using h))
      | (go_at_call 77; refine (inter_any _ _ _ _ _ (SR.out.grow strR_grows hu1) (SW.out.grow strR_grows hu1)).mono ?_; rintro e w2 ⟨rfl, hu2⟩))
    go_ret
    exact ⟨ret_bool E.out.symm, Up.trans (by assumption) (by assumption)⟩
  · have H1 : Hid (conc a b = false) := by unfold Hid; simpa using h1
    clear h1
    have E : Hid (anti a b = false) := by simp [Hid, anti, H1.out]
    go_enter Try.func78, Try.ntmps78
    go_wp2_with (go_at_call 76; refine (conc_any a b _ _ _ (HA.out.grow (U2.out _ _)) (HB.out.grow (U2.out _ _))).mono ?_; rintro e w1 ⟨rfl, hu⟩; rw [H1.out]; have hu1 := Up.trans (U2.out _ _) hu; have hc := fun b o (h : b < w.heap.size + 2) => hu.cell (p := ⟨b, o, none⟩) (by simpa using h))
    go_ret
    exact ⟨ret_bool E.out.symm, by assumption⟩

abbrev Txs := Arr TxR 4
def tx0 : Tx := ⟨0, 0, [], []⟩
/-- Has the admitted transaction k written a key that i writes, while both ran? -/
def wcAt (txs : List Tx) (adm : List Bool) (i k : Nat) : Bool :=
  adm.getD k false && (conc (txs.getD k tx0) (txs.getD i tx0) && inter (txs.getD k tx0).writes (txs.getD i tx0).writes)

theorem TxR.val {w : World} {b o : Nat} {t : Tx} (h : TxR w b o t) : ∃ ra ca rl wa cw wl, Strs w (.slice ra rl ca) t.reads ∧ Strs w (.slice wa wl cw) t.writes ∧ b < w.heap.size ∧
    w.cell? ⟨b, o, none⟩ = some (.int .i64 t.start) ∧ w.cell? ⟨b, o + 1, none⟩ = some (.int .i64 t.commit) ∧ w.cell? ⟨b, o + 2, none⟩ = some (.slice ra rl ca) ∧ w.cell? ⟨b, o + 3, none⟩ = some (.slice wa wl cw) := by
  obtain ⟨rv, wv, h1, h2, h3, h4, h5, h6⟩ := h
  obtain ⟨a, c, rfl, e⟩ := id h5
  obtain ⟨a', c', rfl, e'⟩ := id h6
  exact ⟨_, _, _, _, _, _, h5, h6, h1.1, h1.2, h2.2, h3.2, h4.2⟩
theorem TxV.mk {w : World} {t : Tx} {ra ca rl wa cw wl} (h1 : Strs w (.slice ra rl ca) t.reads) (h2 : Strs w (.slice wa wl cw) t.writes) : TxV w (.agg #[.int .i64 t.start, .int .i64 t.commit, .slice ra rl ca, .slice wa wl cw]) t := ⟨_, _, rfl, h1, h2⟩

set_option maxHeartbeats 6000000 in
theorem wc_any (vt va : Value) (txs : List Tx) (adm : List Bool) (i : Nat) (w : World) (ht : Txs w vt txs) (ha : Bools w va adm) (hl : adm.length = txs.length) (hi : i < txs.length) :
    Calls Try.prog 58 #[vt, va, .int .i64 i] w fun e w' => e = .returned (.bool ((List.range i).any (wcAt txs adm i))) ∧ Up w w' := by
  obtain ⟨a, cap, rfl, h1, h2, _, h3⟩ := ht
  obtain ⟨a', cap', rfl, h1', h2', _, h3'⟩ := ha
  have H3 := Lib.hid h3
  have H3' := Lib.hid h3'
  have HL := Lib.hid hl
  clear h3 h3' hl
  go_enter Try.func58, Try.ntmps58
  go_wp2
  go_loopw [9] (fun iv wr => ∃ k : Nat, k ≤ i ∧ iv = .int .i64 k ∧ (∀ j, j < k → wcAt txs adm i j = false) ∧ Up w wr) (fun iv _ => i - (intOf iv).toNat)
  case atStart => exact ⟨0, by omega, rfl, fun j hj => by omega, Up.refl _⟩
  case round =>
    obtain ⟨k, hk, rfl, hb, hu⟩ := hrel
    have HB := Lib.hid hb
    clear hb
    by_cases hlt : k < i
    · obtain ⟨b, off, ha1, hr⟩ := H3.out k (by omega)
      obtain ⟨b2, off2, ha2, hri⟩ := H3.out i hi
      rw [ha1] at ha2
      obtain ⟨rfl, rfl⟩ : b = b2 ∧ off = off2 := by simpa using ha2
      subst ha1
      clear ha2
      obtain ⟨b', off', rfl, hadm⟩ := H3'.out k (by have := HL.out; omega)
      rw [Nat.mul_one] at hadm
      have hadm2 := (hadm.grow hu)
      have hr2 := (txR_grows _ _ _ _ _ hr hu).val
      have hri2 := (txR_grows _ _ _ _ _ hri hu).val
      have ek : txs[k]'(by omega) = txs.getD k tx0 := by simp [List.getD, show k < txs.length by omega]
      have ei : txs[i] = txs.getD i tx0 := by simp [List.getD, hi]
      have ea : adm[k]'(by have := HL.out; omega) = adm.getD k false := by simp [List.getD, show k < adm.length by have := HL.out; omega]
      rw [ek] at hr2
      rw [ei] at hri2
      rw [ea] at hadm2
      obtain ⟨q1, q2, q3, q4, q5, q6, sr, sw, hbs, c0, c1, c2, c3⟩ := hr2
      obtain ⟨r1, r2, r3, r4, r5, r6, sr', sw', _, d0, d1, d2, d3⟩ := hri2
      obtain ⟨hbs', e0⟩ := hadm2
      have W : Hid (wcAt txs adm i k = (adm.getD k false && (conc (txs.getD k tx0) (txs.getD i tx0) && inter (txs.getD k tx0).writes (txs.getD i tx0).writes))) := rfl
      generalize txs.getD k tx0 = tk at *
      generalize txs.getD i tx0 = ti at *
      generalize adm.getD k false = x at *
      have hi9 : (i : Int) ≤ 9223372036854775806 := by omega
      have hka : k < adm.length := by have := HL.out; omega
      have hkt : k < txs.length := by omega
      clear ek ei ea hadm hr hri
      cases x with
      | false =>
        go_wp2
        go_quiet (fail)
        go_wp2
        go_roundw
        case rel => exact ⟨k + 1, by omega, by go_num, fun j hj => by
          by_cases e : j = k
          · subst e; rw [W.out]; rfl
          · exact HB.out j (by omega), hu.drewN _⟩
        case measure => simp [intOf]; omega
      | true =>
        have VK := Lib.hid (TxV.mk sr sw)
        have VI := Lib.hid (TxV.mk sr' sw')
        obtain ⟨x1, X1⟩ : ∃ x1, Hid (conc tk ti = x1) := ⟨_, rfl⟩
        obtain ⟨x2, X2⟩ : ∃ x2, Hid (inter tk.writes ti.writes = x2) := ⟨_, rfl⟩
        cases x1 with
        | true =>
          cases x2 with
          | true =>
            go_wp2
            refine wp_region_gr (by kernel_rfl) (by kernel_rfl) ?_
            repeat (go_big_quiet_step (first
              | (go_at_call 76; exact gr_callb (conc_any tk ti _ _ _ (VK.out.grow (gr_up _ _)) (VI.out.grow (gr_up _ _))) X1.out)
              | (go_at_call 77; exact gr_callb (inter_any _ _ tk.writes ti.writes _ (Arr.grow strR_grows sw (gr_up _ _)) (Arr.grow strR_grows sw' (gr_up _ _))) X2.out)))
            refine wpQuiet_nil ?_
            intro _ hw'
            obtain ⟨g, rfl⟩ := hw'
            go_wp2
            go_ret
            exact ⟨ret_bool (List.any_eq_true.2 ⟨k, by simp; omega, by rw [W.out, X1.out, X2.out]; rfl⟩).symm, Up.trans hu (gr_up _ _)⟩
          | false =>
            go_wp2
            refine wp_region_gr (by kernel_rfl) (by kernel_rfl) ?_
            repeat (go_big_quiet_step (first
              | (go_at_call 76; exact gr_callb (conc_any tk ti _ _ _ (VK.out.grow (gr_up _ _)) (VI.out.grow (gr_up _ _))) X1.out)
              | (go_at_call 77; exact gr_callb (inter_any _ _ tk.writes ti.writes _ (Arr.grow strR_grows sw (gr_up _ _)) (Arr.grow strR_grows sw' (gr_up _ _))) X2.out)))
            refine wpQuiet_nil ?_
            intro _ hw'
            obtain ⟨g, rfl⟩ := hw'
            go_wp2
            go_roundw
            case rel => exact ⟨k + 1, by omega, by go_num, fun j hj => by
              by_cases e : j = k
              · subst e; rw [W.out, X1.out]; first | rfl | (rw [X2.out]; rfl)
              · exact HB.out j (by omega), Up.trans hu (gr_up _ _)⟩
            case measure => simp [intOf]; omega
        | false =>
          go_wp2
          refine wp_region_gr (by kernel_rfl) (by kernel_rfl) ?_
          repeat (go_big_quiet_step (first
            | (go_at_call 76; exact gr_callb (conc_any tk ti _ _ _ (VK.out.grow (gr_up _ _)) (VI.out.grow (gr_up _ _))) X1.out)
            | (go_at_call 77; exact gr_callb (inter_any _ _ tk.writes ti.writes _ (Arr.grow strR_grows sw (gr_up _ _)) (Arr.grow strR_grows sw' (gr_up _ _))) X2.out)))
          refine wpQuiet_nil ?_
          intro _ hw'
          obtain ⟨g, rfl⟩ := hw'
          go_wp2
          go_roundw
          case rel => exact ⟨k + 1, by omega, by go_num, fun j hj => by
            by_cases e : j = k
            · subst e; rw [W.out, X1.out]; first | rfl | (rw [X2.out]; rfl)
            · exact HB.out j (by omega), Up.trans hu (gr_up _ _)⟩
          case measure => simp [intOf]; omega
    · have E : Hid ((List.range i).any (wcAt txs adm i) = false) := by
        unfold Hid
        rw [List.any_eq_false]
        intro j hj
        rw [HB.out j (by simp at hj; omega)]
        simp
      have hi9 : (i : Int) ≤ 9223372036854775806 := by omega
      go_wp2
      go_ret
      exact ⟨ret_bool E.out.symm, hu⟩
end Go.Proofs.Ytinmpodnfofmdaa.C
