/- joined: Ada, Adb, Adc -/
import Derived.Test.YtnbhdpmhgamjfaaFr
/- Searches in slices of strings; two transactions held against each other. -/
namespace Go.Proofs.Ytnbhdpmhgamjfaa.C
open Go Go.RowKit Hp
set_option linter.unusedVariables false

/-- Go's == on strings. -/
def eqS (s t : ByteArray) : Bool := s.toList == t.toList

/-- slices.Index at []string. -/
theorem indexS_any (v : Value) (l : List ByteArray) (s : ByteArray) (w : World) (h : Strs w v l) :
    Calls Try.prog 68 #[v, .string s] w fun e w' => e = .returned (.int .i64 (idx (eqS s) l)) ∧ w = w' := by
  obtain ⟨a, cap, rfl, h1, h2, _, h3⟩ := h
  have H3 := Lib.hid h3
  clear h3
  go_enter Try.func68, Try.ntmps68
  go_wp2
  go_loop [8] (fun iv => ∃ k : Nat, k ≤ l.length ∧ iv = .int .i64 k ∧ ∀ j (h : j < l.length), j < k → (s.toList == l[j].toList) = false) (fun iv => l.length - (intOf iv).toNat)
  case atStart => exact ⟨0, by omega, rfl, fun j _ hj => by omega⟩
  case round =>
    obtain ⟨k, hk, rfl, hb⟩ := hrel
    have HB := Lib.hid hb
    clear hb
    by_cases hlt : k < l.length
    · obtain ⟨b, off, rfl, _, _, hc⟩ := H3.out k hlt
      rw [Nat.mul_one] at hc
      by_cases hq : (s.toList == l[k].toList) = true
      · have E := Lib.hid (idx_hit (p := (eqS s)) hlt hq HB.out)
        go_wp2
        go_ret
        rw [E.out]
        exact ⟨rfl, rfl⟩
      · have hq' : (s.toList == l[k].toList) = false := by simpa using hq
        clear hq
        go_wp2
        go_round
        case rel => exact ⟨k + 1, by omega, by go_num, fun j hj hjk => by
          by_cases e : j = k
          · subst e; exact hq'
          · exact HB.out j hj (by omega)⟩
        case measure => simp [intOf]; omega
    · have E := Lib.hid (idx_miss (p := (eqS s)) (l := l) fun j hj => HB.out j hj (by omega))
      go_wp2
      go_ret
      rw [E.out]
      exact ⟨rfl, rfl⟩
theorem containsS_any (v : Value) (l : List ByteArray) (s : ByteArray) (w : World) (h : Strs w v l) :
    Calls Try.prog 55 #[v, .string s] w fun e w' => e = .returned (.bool (l.any (eqS s))) ∧ w = w' := by
  have H := Lib.hid h
  clear h
  have E := Lib.hid (idx_any (eqS s) l)
  go_enter Try.func55, Try.ntmps55
  go_wp2_with (go_at_call 68; refine (indexS_any _ _ _ _ H.out).mono ?_; rintro e w' ⟨rfl, rfl⟩)
  go_ret
  exact ⟨ret_bool E.out, rfl⟩

structure Tx where
  start : Int
  commit : Int
  reads : List ByteArray
  writes : List ByteArray

/-- A transaction's four cells. -/
def TxV (w : World) (v : Value) (t : Tx) : Prop := ∃ rv wv, v = .agg #[.int .i64 t.start, .int .i64 t.commit, rv, wv] ∧ Strs w rv t.reads ∧ Strs w wv t.writes
def TxR (w : World) (b o : Nat) (t : Tx) : Prop := ∃ rv wv, At w b o (.int .i64 t.start) ∧ At w b (o + 1) (.int .i64 t.commit) ∧ At w b (o + 2) rv ∧ At w b (o + 3) wv ∧ Strs w rv t.reads ∧ Strs w wv t.writes
theorem txR_grows : Grows TxR := fun _ _ _ _ _ ⟨rv, wv, h1, h2, h3, h4, h5, h6⟩ hu => ⟨rv, wv, h1.grow hu, h2.grow hu, h3.grow hu, h4.grow hu, h5.grow strR_grows hu, h6.grow strR_grows hu⟩
theorem TxV.grow {w w' : World} {v : Value} {t : Tx} (h : TxV w v t) (hu : Up w w') : TxV w' v t := by
  obtain ⟨rv, wv, rfl, h1, h2⟩ := h
  exact ⟨rv, wv, rfl, h1.grow strR_grows hu, h2.grow strR_grows hu⟩

def conc (a b : Tx) : Bool := decide (a.start < b.commit) && decide (b.start < a.commit)

theorem conc_any (a b : Tx) (va vb : Value) (w : World) (ha : TxV w va a) (hb : TxV w vb b) :
    Calls Try.prog 32 #[va, vb] w fun e w' => e = .returned (.bool (conc a b)) ∧ Up w w' := by
  obtain ⟨ra, wa, rfl, _, _⟩ := ha
  obtain ⟨rb, wb, rfl, _, _⟩ := hb
  by_cases h1 : a.start < b.commit
  · by_cases h2 : b.start < a.commit
    · have E : Hid (conc a b = true) := by simp [Hid, conc, h1, h2]
      go_enter Try.func32, Try.ntmps32
      go_wp2
      go_ret
      exact ⟨ret_bool E.out.symm, ((Up.refl _).alloc _).alloc _⟩
    · have E : Hid (conc a b = false) := by simp [Hid, conc, h1, h2]
      go_enter Try.func32, Try.ntmps32
      go_wp2
      go_ret
      exact ⟨ret_bool E.out.symm, ((Up.refl _).alloc _).alloc _⟩
  · have E : Hid (conc a b = false) := by simp [Hid, conc, h1]
    go_enter Try.func32, Try.ntmps32
    go_wp2
    go_ret
    exact ⟨ret_bool E.out.symm, ((Up.refl _).alloc _).alloc _⟩
end Go.Proofs.Ytnbhdpmhgamjfaa.C

/- intersect, antidepends, precedes. -/
namespace Go.Proofs.Ytnbhdpmhgamjfaa.C
open Go Go.RowKit Hp
set_option linter.unusedVariables false

theorem inter1_any (s : ByteArray) (bb : Nat) (vb : Value) (l : List ByteArray) (w : World) (hc : At w bb 0 vb) (h : Strs w vb l) :
    Calls Try.prog 54 #[.string s, .pointer (some ⟨bb, 0, none⟩)] w fun e w' => e = .returned (.bool (l.any (eqS s))) ∧ w = w' := by
  have H := Lib.hid h
  obtain ⟨a, cap, rfl, _, _⟩ := h
  obtain ⟨_, c0⟩ := hc
  go_enter Try.func54, Try.ntmps54
  go_wp2_with (go_at_call 55; refine (containsS_any _ _ _ _ H.out).mono ?_; rintro e w' ⟨rfl, rfl⟩)
  go_ret
  exact ⟨rfl, rfl⟩

def inter (a b : List ByteArray) : Bool := a.any fun s => b.any (eqS s)

theorem ifS_any (v vb : Value) (la lb : List ByteArray) (bb : Nat) (w : World) (h : Strs w v la) (hc : At w bb 0 vb) (hb : Strs w vb lb) :
    Calls Try.prog 67 #[v, .func (.func 54) #[] #[.pointer (some ⟨bb, 0, none⟩)]] w fun e w' => e = .returned (.int .i64 (idx (fun s => lb.any (eqS s)) la)) ∧ w = w' := by
  obtain ⟨a, cap, rfl, h1, h2, _, h3⟩ := h
  have H3 := Lib.hid h3
  clear h3
  go_enter Try.func67, Try.ntmps67
  go_wp2
  go_loop [8] (fun iv => ∃ k : Nat, k ≤ la.length ∧ iv = .int .i64 k ∧ ∀ j (h : j < la.length), j < k → lb.any (eqS la[j]) = false) (fun iv => la.length - (intOf iv).toNat)
  case atStart => exact ⟨0, by omega, rfl, fun j _ hj => by omega⟩
  case round =>
    obtain ⟨k, hk, rfl, hbb⟩ := hrel
    have HB := Lib.hid hbb
    clear hbb
    by_cases hlt : k < la.length
    · obtain ⟨b, off, rfl, _, _, hcc⟩ := H3.out k hlt
      rw [Nat.mul_one] at hcc
      by_cases hq : lb.any (eqS la[k]) = true
      · have E := Lib.hid (idx_hit (p := fun s => lb.any (eqS s)) hlt hq HB.out)
        have HQ := Lib.hid hq
        clear hq
        generalize la[k] = x at *
        go_wp2_with (go_at_call 54; refine (inter1_any x bb vb lb _ hc hb).mono ?_; rintro e w' ⟨rfl, rfl⟩; rw [HQ.out])
        go_ret
        exact ⟨ret_int E.out.symm, rfl⟩
      · have HQ : Hid (lb.any (eqS la[k]) = false) := by unfold Hid; simpa using hq
        clear hq
        have HX : Hid (∀ x, x = la[k] → lb.any (eqS x) = false) := fun x hx => by rw [hx]; exact HQ.out
        obtain ⟨x, hx⟩ : ∃ x, x = la[k] := ⟨_, rfl⟩
        rw [← hx] at hcc
        have HQ2 := Lib.hid (HX.out x hx)
        clear hx
        go_wp2_with (go_at_call 54; refine (inter1_any x bb vb lb _ hc hb).mono ?_; rintro e w' ⟨rfl, rfl⟩; rw [HQ2.out])
        go_round
        case rel => exact ⟨k + 1, by omega, by go_num, fun j hj hjk => by
          by_cases e : j = k
          · subst e; exact HQ.out
          · exact HB.out j hj (by omega)⟩
        case measure => simp [intOf]; omega
    · have E := Lib.hid (idx_miss (p := fun s => lb.any (eqS s)) (l := la) fun j hj => HB.out j hj (by omega))
      go_wp2
      go_ret
      exact ⟨ret_int E.out.symm, rfl⟩
theorem cfS_any (v vb : Value) (la lb : List ByteArray) (bb : Nat) (w : World) (h : Strs w v la) (hc : At w bb 0 vb) (hb : Strs w vb lb) :
    Calls Try.prog 53 #[v, .func (.func 54) #[] #[.pointer (some ⟨bb, 0, none⟩)]] w fun e w' => e = .returned (.bool (inter la lb)) ∧ w = w' := by
  have E := Lib.hid (idx_any (fun s => lb.any (eqS s)) la)
  go_enter Try.func53, Try.ntmps53
  go_wp2_with (go_at_call 67; refine (ifS_any v vb la lb bb _ h hc hb).mono ?_; rintro e w' ⟨rfl, rfl⟩)
  go_ret
  exact ⟨ret_bool E.out, rfl⟩
theorem inter_any (va vb : Value) (la lb : List ByteArray) (w : World) (h : Strs w va la) (hb : Strs w vb lb) :
    Calls Try.prog 33 #[va, vb] w fun e w' => e = .returned (.bool (inter la lb)) ∧ Up w w' := by
  have HA := Lib.hid h
  have HB := Lib.hid hb
  obtain ⟨a, cap, rfl, _, _⟩ := h
  obtain ⟨a2, cap2, rfl, _, _⟩ := hb
  go_enter Try.func33, Try.ntmps33
  go_wp2_with (go_at_call 53; refine (cfS_any _ _ la lb w.heap.size _ (HA.out.grow strR_grows ((Up.refl _).alloc _)) (At.new _ _ _ _ _ rfl) (HB.out.grow strR_grows ((Up.refl _).alloc _))).mono ?_; rintro e w' ⟨rfl, rfl⟩)
  go_ret
  exact ⟨rfl, (Up.refl _).alloc _⟩
end Go.Proofs.Ytnbhdpmhgamjfaa.C

/- antidepends, writeConflict. -/
namespace Go.Proofs.Ytnbhdpmhgamjfaa.C
open Go Go.RowKit Hp
set_option linter.unusedVariables false

def anti (a b : Tx) : Bool := conc a b && inter a.reads b.writes

theorem anti_any (a b : Tx) (va vb : Value) (w : World) (ha : TxV w va a) (hb : TxV w vb b) :
    Calls Try.prog 34 #[va, vb] w fun e w' => e = .returned (.bool (anti a b)) ∧ Up w w' := by
  have HA := Lib.hid ha
  have HB := Lib.hid hb
  obtain ⟨ra, wa, rfl, sra, swa⟩ := ha
  obtain ⟨rb, wb, rfl, srb, swb⟩ := hb
  have SR := Lib.hid sra; have SW := Lib.hid swb
  obtain ⟨a1, c1, rfl, _, _⟩ := sra
  obtain ⟨a2, c2, rfl, _, _⟩ := swa
  obtain ⟨a3, c3, rfl, _, _⟩ := srb
  obtain ⟨a4, c4, rfl, _, _⟩ := swb
  have U2 : Hid (∀ o1 o2, Up w ((w.alloc o1).alloc o2)) := fun o1 o2 => ((Up.refl _).alloc _).alloc _
  by_cases h1 : conc a b = true
  · have E : Hid (anti a b = inter a.reads b.writes) := by simp [Hid, anti, h1]
    have H1 := Lib.hid h1
    clear h1
    go_enter Try.func34, Try.ntmps34
    go_wp2_with (first
      | (go_at_call 32; refine (conc_any a b _ _ _ (HA.out.grow (U2.out _ _)) (HB.out.grow (U2.out _ _))).mono ?_; rintro e w1 ⟨rfl, hu⟩; rw [H1.out]; have hu1 := Up.trans (U2.out _ _) hu; have hc := fun b o (h : b < w.heap.size + 2) => hu.cell (p := ⟨b, o, none⟩) (by simpa using h))
      | (go_at_call 33; refine (inter_any _ _ _ _ _ (SR.out.grow strR_grows hu1) (SW.out.grow strR_grows hu1)).mono ?_; rintro e w2 ⟨rfl, hu2⟩))
    go_ret
    exact ⟨ret_bool E.out.symm, Up.trans (by assumption) (by assumption)⟩
  · have H1 : Hid (conc a b = false) := by unfold Hid; simpa using h1
    clear h1
    have E : Hid (anti a b = false) := by simp [Hid, anti, H1.out]
    go_enter Try.func34, Try.ntmps34
    go_wp2_with (go_at_call 32; refine (conc_any a b _ _ _ (HA.out.grow (U2.out _ _)) (HB.out.grow (U2.out _ _))).mono ?_; rintro e w1 ⟨rfl, hu⟩; rw [H1.out]; have hu1 := Up.trans (U2.out _ _) hu; have hc := fun b o (h : b < w.heap.size + 2) => hu.cell (p := ⟨b, o, none⟩) (by simpa using h))
    go_ret
    exact ⟨ret_bool E.out.symm, by assumption⟩

abbrev Txs := Arr TxR 4
def tx0 : Tx := ⟨0, 0, [], []⟩
/-- Has the admitted transaction k written a key that i writes, while both ran? -/
def wcAt (txs : List Tx) (adm : List Bool) (i k : Nat) : Bool :=
  adm.getD k false && (conc (txs.getD k tx0) (txs.getD i tx0) && inter (txs.getD k tx0).writes (txs.getD i tx0).writes)

theorem TxR.val {w : World} {b o : Nat} {t : Tx} (h : TxR w b o t) : ∃ ra ca rl wa cw wl, Strs w (.slice ra rl ca) t.reads ∧ Strs w (.slice wa wl cw) t.writes ∧ b < w.heap.size ∧
    w.cell? ⟨b, o, none⟩ = some (.int .i64 t.start) ∧ w.cell? ⟨b, o + 1, none⟩ = some (.int .i64 t.commit) ∧ w.cell? ⟨b, o + 2, none⟩ = some (.slice ra rl ca) ∧ w.cell? ⟨b, o + 3, none⟩ = some (.slice wa wl cw) := by
  obtain ⟨rv, wv, h1, h2, h3, h4, h5, h6⟩ := h
  obtain ⟨a, c, rfl, e⟩ := id h5
  obtain ⟨a', c', rfl, e'⟩ := id h6
  exact ⟨_, _, _, _, _, _, h5, h6, h1.1, h1.2, h2.2, h3.2, h4.2⟩
theorem TxV.mk {w : World} {t : Tx} {ra ca rl wa cw wl} (h1 : Strs w (.slice ra rl ca) t.reads) (h2 : Strs w (.slice wa wl cw) t.writes) : TxV w (.agg #[.int .i64 t.start, .int .i64 t.commit, .slice ra rl ca, .slice wa wl cw]) t := ⟨_, _, rfl, h1, h2⟩

set_option maxHeartbeats 6000000 in
theorem wc_any (vt va : Value) (txs : List Tx) (adm : List Bool) (i : Nat) (w : World) (ht : Txs w vt txs) (ha : Bools w va adm) (hl : adm.length = txs.length) (hi : i < txs.length) :
    Calls Try.prog 19 #[vt, va, .int .i64 i] w fun e w' => e = .returned (.bool ((List.range i).any (wcAt txs adm i))) ∧ Up w w' := by
  obtain ⟨a, cap, rfl, h1, h2, _, h3⟩ := ht
  obtain ⟨a', cap', rfl, h1', h2', _, h3'⟩ := ha
  have H3 := Lib.hid h3
  have H3' := Lib.hid h3'
  have HL := Lib.hid hl
  clear h3 h3' hl
  go_enter Try.func19, Try.ntmps19
  go_wp2
  go_loopw [9] (fun iv wr => ∃ k : Nat, k ≤ i ∧ iv = .int .i64 k ∧ (∀ j, j < k → wcAt txs adm i j = false) ∧ Up w wr) (fun iv _ => i - (intOf iv).toNat)
  case atStart => exact ⟨0, by omega, rfl, fun j hj => by omega, Up.refl _⟩
  case round =>
    obtain ⟨k, hk, rfl, hb, hu⟩ := hrel
    have HB := Lib.hid hb
    clear hb
    by_cases hlt : k < i
    · obtain ⟨b, off, ha1, hr⟩ := H3.out k (by omega)
      obtain ⟨b2, off2, ha2, hri⟩ := H3.out i hi
      rw [ha1] at ha2
      obtain ⟨rfl, rfl⟩ : b = b2 ∧ off = off2 := by simpa using ha2
      subst ha1
      clear ha2
      obtain ⟨b', off', rfl, hadm⟩ := H3'.out k (by have := HL.out; omega)
      rw [Nat.mul_one] at hadm
      have hadm2 := (hadm.grow hu)
      have hr2 := (txR_grows _ _ _ _ _ hr hu).val
      have hri2 := (txR_grows _ _ _ _ _ hri hu).val
      have ek : txs[k]'(by omega) = txs.getD k tx0 := by simp [List.getD, show k < txs.length by omega]
      have ei : txs[i] = txs.getD i tx0 := by simp [List.getD, hi]
      have ea : adm[k]'(by have := HL.out; omega) = adm.getD k false := by simp [List.getD, show k < adm.length by have := HL.out; omega]
      rw [ek] at hr2
      rw [ei] at hri2
      rw [ea] at hadm2
      obtain ⟨q1, q2, q3, q4, q5, q6, sr, sw, hbs, c0, c1, c2, c3⟩ := hr2
      obtain ⟨r1, r2, r3, r4, r5, r6, sr', sw', _, d0, d1, d2, d3⟩ := hri2
      obtain ⟨hbs', e0⟩ := hadm2
      have W : Hid (wcAt txs adm i k = (adm.getD k false && (conc (txs.getD k tx0) (txs.getD i tx0) && inter (txs.getD k tx0).writes (txs.getD i tx0).writes))) := rfl
      generalize txs.getD k tx0 = tk at *
      generalize txs.getD i tx0 = ti at *
      generalize adm.getD k false = x at *
      have hi9 : (i : Int) ≤ 9223372036854775806 := by omega
      have hka : k < adm.length := by have := HL.out; omega
      have hkt : k < txs.length := by omega
      clear ek ei ea hadm hr hri
      cases x with
      | false =>
        go_wp2
        go_quiet (fail)
        go_wp2
        go_roundw
        case rel => exact ⟨k + 1, by omega, by go_num, fun j hj => by
          by_cases e : j = k
          · subst e; rw [W.out]; rfl
          · exact HB.out j (by omega), hu.drewN _⟩
        case measure => simp [intOf]; omega
      | true =>
        have VK := Lib.hid (TxV.mk sr sw)
        have VI := Lib.hid (TxV.mk sr' sw')
        obtain ⟨x1, X1⟩ : ∃ x1, Hid (conc tk ti = x1) := ⟨_, rfl⟩
        obtain ⟨x2, X2⟩ : ∃ x2, Hid (inter tk.writes ti.writes = x2) := ⟨_, rfl⟩
        cases x1 with
        | true =>
          cases x2 with
          | true =>
            go_wp2
            refine wp_region_gr (by kernel_rfl) (by kernel_rfl) ?_
            repeat (go_big_quiet_step (first
              | (go_at_call 32; exact gr_callb (conc_any tk ti _ _ _ (VK.out.grow (gr_up _ _)) (VI.out.grow (gr_up _ _))) X1.out)
              | (go_at_call 33; exact gr_callb (inter_any _ _ tk.writes ti.writes _ (Arr.grow strR_grows sw (gr_up _ _)) (Arr.grow strR_grows sw' (gr_up _ _))) X2.out)))
            refine wpQuiet_nil ?_
            intro _ hw'
            obtain ⟨g, rfl⟩ := hw'
            go_wp2
            go_ret
            exact ⟨ret_bool (List.any_eq_true.2 ⟨k, by simp; omega, by rw [W.out, X1.out, X2.out]; rfl⟩).symm, Up.trans hu (gr_up _ _)⟩
          | false =>
            go_wp2
            refine wp_region_gr (by kernel_rfl) (by kernel_rfl) ?_
            repeat (go_big_quiet_step (first
              | (go_at_call 32; exact gr_callb (conc_any tk ti _ _ _ (VK.out.grow (gr_up _ _)) (VI.out.grow (gr_up _ _))) X1.out)
              | (go_at_call 33; exact gr_callb (inter_any _ _ tk.writes ti.writes _ (Arr.grow strR_grows sw (gr_up _ _)) (Arr.grow strR_grows sw' (gr_up _ _))) X2.out)))
            refine wpQuiet_nil ?_
            intro _ hw'
            obtain ⟨g, rfl⟩ := hw'
            go_wp2
            go_roundw
            case rel => exact ⟨k + 1, by omega, by go_num, fun j hj => by
              by_cases e : j = k
              · subst e; rw [W.out, X1.out]; first | rfl | (rw [X2.out]; rfl)
              · exact HB.out j (by omega), Up.trans hu (gr_up _ _)⟩
            case measure => simp [intOf]; omega
        | false =>
          go_wp2
          refine wp_region_gr (by kernel_rfl) (by kernel_rfl) ?_
          repeat (go_big_quiet_step (first
            | (go_at_call 32; exact gr_callb (conc_any tk ti _ _ _ (VK.out.grow (gr_up _ _)) (VI.out.grow (gr_up _ _))) X1.out)
            | (go_at_call 33; exact gr_callb (inter_any _ _ tk.writes ti.writes _ (Arr.grow strR_grows sw (gr_up _ _)) (Arr.grow strR_grows sw' (gr_up _ _))) X2.out)))
          refine wpQuiet_nil ?_
          intro _ hw'
          obtain ⟨g, rfl⟩ := hw'
          go_wp2
          go_roundw
          case rel => exact ⟨k + 1, by omega, by go_num, fun j hj => by
            by_cases e : j = k
            · subst e; rw [W.out, X1.out]; first | rfl | (rw [X2.out]; rfl)
            · exact HB.out j (by omega), Up.trans hu (gr_up _ _)⟩
          case measure => simp [intOf]; omega
    · have E : Hid ((List.range i).any (wcAt txs adm i) = false) := by
        unfold Hid
        rw [List.any_eq_false]
        intro j hj
        rw [HB.out j (by simp at hj; omega)]
        simp
      have hi9 : (i : Int) ≤ 9223372036854775806 := by omega
      go_wp2
      go_ret
      exact ⟨ret_bool E.out.symm, hu⟩
end Go.Proofs.Ytnbhdpmhgamjfaa.C
