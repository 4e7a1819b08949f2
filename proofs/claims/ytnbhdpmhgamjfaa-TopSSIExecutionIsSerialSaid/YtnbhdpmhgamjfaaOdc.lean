/- precedes, DependencyGraph Printed by gen7/order.py. -/
import Derived.Test.YtnbhdpmhgamjfaaOdb
namespace Go.Proofs.Ytnbhdpmhgamjfaa.C
open Go Go.RowKit Hp
set_option linter.unusedVariables false

def prec (a b : Tx) : Bool := anti a b || (decide (a.commit ≤ b.start) && (inter a.writes b.reads || (inter a.writes b.writes || inter a.reads b.writes)))
set_option maxHeartbeats 2000000 in
theorem prec_any (a b : Tx) (va vb : Value) (w : World) (ha : TxV w va a) (hb : TxV w vb b) :
    Calls Try.prog 62 #[va, vb] w fun e w' => e = .returned (.bool (prec a b)) ∧ Up w w' := by
  have HA := Lib.hid ha
  have HB := Lib.hid hb
  obtain ⟨ra, wa, rfl, sra, swa⟩ := ha
  obtain ⟨rb, wb, rfl, srb, swb⟩ := hb
  have SRA := Lib.hid sra; have SWA := Lib.hid swa; have SRB := Lib.hid srb; have SWB := Lib.hid swb
  obtain ⟨a1, c1, rfl, _, _⟩ := sra
  obtain ⟨a2, c2, rfl, _, _⟩ := swa
  obtain ⟨a3, c3, rfl, _, _⟩ := srb
  obtain ⟨a4, c4, rfl, _, _⟩ := swb
  obtain ⟨o1, ho1⟩ : ∃ o1 : Obj, o1 = .cells #[.int .i64 a.start, .int .i64 a.commit, .slice a1 a.reads.length c1, .slice a2 a.writes.length c2] 35 := ⟨_, rfl⟩
  obtain ⟨o2, ho2⟩ : ∃ o2 : Obj, o2 = .cells #[.int .i64 b.start, .int .i64 b.commit, .slice a3 b.reads.length c3, .slice a4 b.writes.length c4] 35 := ⟨_, rfl⟩
  have U2 : Hid (Up w ((w.alloc o1).alloc o2)) := ((Up.refl _).alloc _).alloc _
  subst ho1; subst ho2
  obtain ⟨x0, X0⟩ : ∃ x, Hid (anti a b = x) := ⟨_, rfl⟩
  obtain ⟨x2, X2⟩ : ∃ x, Hid (inter a.writes b.reads = x) := ⟨_, rfl⟩
  obtain ⟨x3, X3⟩ : ∃ x, Hid (inter a.writes b.writes = x) := ⟨_, rfl⟩
  obtain ⟨x4, X4⟩ : ∃ x, Hid (inter a.reads b.writes = x) := ⟨_, rfl⟩
  cases x0 with
  | true =>
    have E : Hid (prec a b = true) := by unfold Hid prec; rw [X0.out]; rfl
    go_enter Try.func62, Try.ntmps62
    go_wp2_with fail
    refine (anti_any a b _ _ _ (HA.out.grow U2.out) (HB.out.grow U2.out)).mono ?_
    rintro e w1 ⟨rfl, hu1⟩
    rw [X0.out]
    have UU := Lib.hid (Up.trans U2.out hu1)
    obtain ⟨g1, rfl⟩ := hu1.gr
    clear hu1
    go_wp2_with fail
    go_ret
    exact ⟨ret_bool E.out.symm, UU.out⟩
  | false =>
    by_cases hcs : a.commit ≤ b.start
    · have hd : decide (a.commit ≤ b.start) = true := by simpa using hcs
      cases x2 with
      | true =>
        have E : Hid (prec a b = true) := by unfold Hid prec; rw [X0.out, X2.out, hd]; rfl
        clear hd
        go_enter Try.func62, Try.ntmps62
        go_wp2_with fail
        refine (anti_any a b _ _ _ (HA.out.grow U2.out) (HB.out.grow U2.out)).mono ?_
        rintro e w1 ⟨rfl, hu1⟩
        rw [X0.out]
        have UU := Lib.hid (Up.trans U2.out hu1)
        obtain ⟨g1, rfl⟩ := hu1.gr
        clear hu1
        go_wp2_with fail
        refine (inter_any _ _ a.writes b.reads _ (SWA.out.grow strR_grows UU.out) (SRB.out.grow strR_grows UU.out)).mono ?_
        rintro e w2 ⟨rfl, hu2⟩
        rw [X2.out]
        have hug2 := Up.trans (gr_up _ _) hu2
        replace UU := Lib.hid (Up.trans UU.out hu2)
        clear hu2
        obtain ⟨g2, rfl⟩ := hug2.gr
        clear hug2
        go_wp2_with fail
        go_ret
        exact ⟨ret_bool E.out.symm, UU.out⟩
      | false =>
        cases x3 with
        | true =>
          have E : Hid (prec a b = true) := by unfold Hid prec; rw [X0.out, X2.out, X3.out, hd]; rfl
          clear hd
          go_enter Try.func62, Try.ntmps62
          go_wp2_with fail
          refine (anti_any a b _ _ _ (HA.out.grow U2.out) (HB.out.grow U2.out)).mono ?_
          rintro e w1 ⟨rfl, hu1⟩
          rw [X0.out]
          have UU := Lib.hid (Up.trans U2.out hu1)
          obtain ⟨g1, rfl⟩ := hu1.gr
          clear hu1
          go_wp2_with fail
          refine (inter_any _ _ a.writes b.reads _ (SWA.out.grow strR_grows UU.out) (SRB.out.grow strR_grows UU.out)).mono ?_
          rintro e w2 ⟨rfl, hu2⟩
          rw [X2.out]
          have hug2 := Up.trans (gr_up _ _) hu2
          replace UU := Lib.hid (Up.trans UU.out hu2)
          clear hu2
          obtain ⟨g2, rfl⟩ := hug2.gr
          clear hug2
          go_wp2_with fail
          refine (inter_any _ _ a.writes b.writes _ (SWA.out.grow strR_grows UU.out) (SWB.out.grow strR_grows UU.out)).mono ?_
          rintro e w3 ⟨rfl, hu3⟩
          rw [X3.out]
          have hug3 := Up.trans (gr_up _ _) hu3
          replace UU := Lib.hid (Up.trans UU.out hu3)
          clear hu3
          obtain ⟨g3, rfl⟩ := hug3.gr
          clear hug3
          go_wp2_with fail
          go_ret
          exact ⟨ret_bool E.out.symm, UU.out⟩
        | false =>
          have E : Hid (prec a b = x4) := by unfold Hid prec; rw [X0.out, X2.out, X3.out, X4.out, hd]; rfl
          clear hd
          go_enter Try.func62, Try.ntmps62
          go_wp2_with fail
          refine (anti_any a b _ _ _ (HA.out.grow U2.out) (HB.out.grow U2.out)).mono ?_
          rintro e w1 ⟨rfl, hu1⟩
          rw [X0.out]
          have UU := Lib.hid (Up.trans U2.out hu1)
          obtain ⟨g1, rfl⟩ := hu1.gr
          clear hu1
          go_wp2_with fail
          refine (inter_any _ _ a.writes b.reads _ (SWA.out.grow strR_grows UU.out) (SRB.out.grow strR_grows UU.out)).mono ?_
          rintro e w2 ⟨rfl, hu2⟩
          rw [X2.out]
          have hug2 := Up.trans (gr_up _ _) hu2
          replace UU := Lib.hid (Up.trans UU.out hu2)
          clear hu2
          obtain ⟨g2, rfl⟩ := hug2.gr
          clear hug2
          go_wp2_with fail
          refine (inter_any _ _ a.writes b.writes _ (SWA.out.grow strR_grows UU.out) (SWB.out.grow strR_grows UU.out)).mono ?_
          rintro e w3 ⟨rfl, hu3⟩
          rw [X3.out]
          have hug3 := Up.trans (gr_up _ _) hu3
          replace UU := Lib.hid (Up.trans UU.out hu3)
          clear hu3
          obtain ⟨g3, rfl⟩ := hug3.gr
          clear hug3
          go_wp2_with fail
          refine (inter_any _ _ a.reads b.writes _ (SRA.out.grow strR_grows UU.out) (SWB.out.grow strR_grows UU.out)).mono ?_
          rintro e w4 ⟨rfl, hu4⟩
          rw [X4.out]
          have hug4 := Up.trans (gr_up _ _) hu4
          replace UU := Lib.hid (Up.trans UU.out hu4)
          clear hu4
          obtain ⟨g4, rfl⟩ := hug4.gr
          clear hug4
          go_wp2_with fail
          go_ret
          exact ⟨ret_bool E.out.symm, UU.out⟩
    · have E : Hid (prec a b = false) := by
        unfold Hid prec; rw [X0.out, show decide (a.commit ≤ b.start) = false by simpa using hcs]; rfl
      go_enter Try.func62, Try.ntmps62
      go_wp2_with fail
      refine (anti_any a b _ _ _ (HA.out.grow U2.out) (HB.out.grow U2.out)).mono ?_
      rintro e w1 ⟨rfl, hu1⟩
      rw [X0.out]
      have UU := Lib.hid (Up.trans U2.out hu1)
      obtain ⟨g1, rfl⟩ := hu1.gr
      clear hu1
      go_wp2_with fail
      go_ret
      exact ⟨ret_bool E.out.symm, UU.out⟩
/-! ### The edges -/
def dep (txs : List Tx) (adm : List Bool) (i k : Nat) : Bool := !(i == k) && (adm.getD i false && (adm.getD k false && prec (txs.getD i tx0) (txs.getD k tx0)))
def row (txs : List Tx) (adm : List Bool) (i m : Nat) : List (Int × Int) := ((List.range m).filter (dep txs adm i)).map fun (k : Nat) => ((i : Int), ((k : Nat) : Int))
def deps (txs : List Tx) (adm : List Bool) (m : Nat) : List (Int × Int) := (List.range m).flatMap fun i => row txs adm i txs.length
theorem row_succ (txs : List Tx) (adm : List Bool) (i m : Nat) : row txs adm i (m + 1) = row txs adm i m ++ if dep txs adm i m then [((i : Int), (m : Int))] else [] := by
  unfold row; rw [List.range_succ, List.filter_append, List.map_append]
  by_cases h : dep txs adm i m = true <;> simp [h]
theorem deps_succ (txs : List Tx) (adm : List Bool) (m : Nat) : deps txs adm (m + 1) = deps txs adm m ++ row txs adm m txs.length := by
  unfold deps; rw [List.range_succ, List.flatMap_append]; simp
theorem row_len (txs : List Tx) (adm : List Bool) (i m : Nat) : (row txs adm i m).length ≤ m := by
  unfold row; rw [List.length_map]; exact Nat.le_trans (List.length_filter_le _ _) (by simp)
theorem deps_len (txs : List Tx) (adm : List Bool) (m : Nat) : (deps txs adm m).length ≤ m * txs.length := by
  induction m with
  | zero => simp [deps]
  | succ m ih => rw [deps_succ, List.length_append, Nat.succ_mul]; have := row_len txs adm m txs.length; omega
abbrev pcells (l : List (Int × Int)) : List Value := l.flatMap fun p => [.int .i64 p.1, .int .i64 p.2]
theorem pcells_at : ∀ (l : List (Int × Int)) (i : Nat) (h : i < l.length), (pcells l)[i * 2]? = some (.int .i64 l[i].1) ∧ (pcells l)[i * 2 + 1]? = some (.int .i64 l[i].2)
  | a :: l, 0, _ => by simp [pcells]
  | a :: l, i + 1, h => by
    have := pcells_at l i (by simpa using h)
    simp only [pcells, List.flatMap_cons, List.getElem_cons_succ] at this ⊢
    rw [List.getElem?_append_right (by simp; omega), List.getElem?_append_right (by simp; omega)]
    simpa [show (i + 1) * 2 - 2 = i * 2 by omega, show (i + 1) * 2 + 1 - 2 = i * 2 + 1 by omega] using this
theorem pairs_own {w : World} {base : Nat} {v : Value} {l : List (Int × Int)} (h : w.ownsRow base 104 2 v l.length (pcells l)) : Arr PairR 2 w v l :=
  own_arr h fun g hg hc i hi => ⟨hg, hc _ _ (pcells_at l i hi).1, hc _ _ (pcells_at l i hi).2⟩
theorem Try.info48 : (Try.prog.info? 104).map (fun i => (i.zero, i.size, i.bytes)) = some (some (.agg #[.int .i64 0, .int .i64 0]), 2, 16) := by kernel_rfl
theorem cell_two_new' (w : World) (a b : Value) (E : TypeId) : ∀ (j : Nat) u, [a, b][j]? = some u → (w.alloc (.cells #[a, b] E)).cell? ((⟨w.heap.size, 0, none⟩ : Addr).add j) = some u := by
  intro j u hj
  rw [show (⟨w.heap.size, 0, none⟩ : Addr).add j = ⟨w.heap.size, j, none⟩ by unfold Addr.add; split <;> simp_all, World.cell?_alloc_new]
  simpa using hj
theorem own_pair_up {w w' w'' : World} {v : Value} {n : Nat} {xs : List Value} (hu : Up w w') (h : w'.ownsRow w.heap.size 104 2 v n xs) (hg : w'.grownBy w'' v.ownBlock) : Up w w'' :=
  Below.grown hu hg hu.size (fun j hj => (own_ty h j hj).2)
set_option maxRecDepth 100000 in
set_option maxHeartbeats 4000000 in
theorem dgraph_any (vt va : Value) (txs : List Tx) (adm : List Bool) (w : World) (ht : Txs w vt txs) (ha : Bools w va adm) (hv : Valid txs) (hl : adm.length = txs.length) :
    Calls Try.prog 42 #[vt, va] w fun e w' => ∃ v, e = .returned (.tuple #[v, .int .i64 0]) ∧ w'.ownsRow w.heap.size 104 2 v (deps txs adm txs.length).length (pcells (deps txs adm txs.length)) ∧ Up w w' := by
  obtain ⟨i0, hi, hz0, hz1, hz2⟩ := info_parts Try.info48
  have HT := Lib.hid ht
  obtain ⟨a, cap, rfl, h1, h2, _, h3⟩ := ht
  obtain ⟨a', cap', rfl, h1', h2', _, h3'⟩ := ha
  have hlen := hv.len
  have HV := Lib.hid hv
  have H3 := Lib.hid h3
  have H3' := Lib.hid h3'
  have HL := Lib.hid hl
  have hl1 : adm.length ≤ txs.length := by omega
  have hl2 : txs.length ≤ adm.length := by omega
  have hne0 : ((adm.length : Int) != (txs.length : Int)) = false := by simp [hl]
  have hne1 : (adm.length != txs.length) = false := by simp [hl]
  clear h3 h3' hl hv
  go_enter Try.func42, Try.ntmps42
  go_wp2_with (go_at_call 18; refine (check_any _ txs _ HT.out HV.out).mono ?_; rintro e w1 ⟨rfl, hu1⟩)
  clear hne0 hne1
  go_loopw [7, 22] (fun v iv wr => ∃ i : Nat, i ≤ txs.length ∧ iv = .int .i64 i ∧ wr.ownsRow w.heap.size 104 2 v (deps txs adm i).length (pcells (deps txs adm i)) ∧ Up w wr) (fun _ iv _ => txs.length - (intOf iv).toNat)
  case atStart => exact ⟨0, by omega, rfl, World.ownsRow_nil _ _ _ _, hu1⟩
  case round =>
    obtain ⟨i, hin, rfl, hown, hu⟩ := hrel
    by_cases hlt : i < txs.length
    · have hdl := deps_len txs adm i
      have hdl2 : (deps txs adm i).length ≤ 1600 := Nat.le_trans hdl (Nat.le_trans (Nat.mul_le_mul (show i ≤ 40 by omega) hlen) (by decide))
      clear hdl
      go_wp2
      obtain ⟨wo, rfl⟩ : ∃ wo : World, wo = wr := ⟨_, rfl⟩
      go_loopw [7, 27] (fun v kv wr => ∃ k : Nat, k ≤ txs.length ∧ kv = .int .i64 k ∧ wr.ownsRow w.heap.size 104 2 v (deps txs adm i ++ row txs adm i k).length (pcells (deps txs adm i ++ row txs adm i k)) ∧ Up w wr) (fun _ kv _ => txs.length - (intOf kv).toNat)
      case atStart => exact ⟨0, by omega, rfl, by simpa [row] using hown, hu⟩
      case round =>
        obtain ⟨k, hk, rfl, hown, hu⟩ := hrel
        obtain ⟨b, off, rfl, h4⟩ := arr_at (n := 0) (cap := 0) tx0 H3.out (by omega)
        obtain ⟨b', off', rfl, h4'⟩ := arr_at (n := 0) (cap := 0) false H3'.out (by omega)
        have H4 := Lib.hid h4
        have H4' := Lib.hid h4'
        clear h4 h4'
        by_cases hlk : k < txs.length
        · have RS := Lib.hid (row_succ txs adm i k)
          obtain ⟨q1, q2, q3, q4, q5, q6, sr, sw, hbs, c0, c1, c2, c3⟩ := (txR_grows _ _ _ _ _ (H4.out k (by omega)) hu).val
          obtain ⟨r1, r2, r3, r4, r5, r6, sr', sw', _, d0, d1, d2, d3⟩ := (txR_grows _ _ _ _ _ (H4.out i (by omega)) hu).val
          obtain ⟨hbb, e0⟩ := (boolR_grows _ _ _ _ _ (H4'.out k (by omega)) hu)
          obtain ⟨_, e1⟩ := (boolR_grows _ _ _ _ _ (H4'.out i (by omega)) hu)
          rw [Nat.mul_one] at e0 e1
          have VK := Lib.hid (TxV.mk sr sw)
          have VI := Lib.hid (TxV.mk sr' sw')
          have hka : k < adm.length := by omega
          have hia : i < adm.length := by omega
          obtain ⟨xp, XP⟩ : ∃ x, Hid (prec (txs.getD i tx0) (txs.getD k tx0) = x) := ⟨_, rfl⟩
          have DK : Hid (∀ x y z, (i == k) = x → adm.getD i false = y → adm.getD k false = z → dep txs adm i k = (!x && (y && (z && xp)))) := fun x y z h1 h2 h3 => by unfold dep; rw [h1, h2, h3, XP.out]
          obtain ⟨yk, hyk⟩ : ∃ yk, yk = adm.getD k false := ⟨_, rfl⟩
          obtain ⟨yi, hyi⟩ : ∃ yi, yi = adm.getD i false := ⟨_, rfl⟩
          rw [← hyk] at e0
          rw [← hyi] at e1
          have YK := Lib.hid hyk
          have YI := Lib.hid hyi
          clear hyk hyi
          generalize txs.getD k tx0 = tk at *
          generalize txs.getD i tx0 = ti at *
          by_cases hik : i = k
          · have DN : Hid (dep txs adm i k = false) := by unfold Hid; rw [DK.out true _ _ (by simp [hik]) rfl rfl]; rfl
            have hk1 : ((i : Int) != (k : Int)) = false := by simp [hik]
            have hk2 : (i != k) = false := by simp [hik]
            have HIK := Lib.hid hik
            clear hik
            go_wp2
            refine wp_region_gr (by kernel_rfl) (by kernel_rfl) ?_
            repeat (go_big_quiet_step ((go_at_call 62; exact gr_callb (prec_any ti tk _ _ _ (VI.out.grow (gr_up _ _)) (VK.out.grow (gr_up _ _))) XP.out)))
            refine wpQuiet_nil ?_
            intro _ hw'
            obtain ⟨g, rfl⟩ := hw'
            go_wp2
            go_roundw
            case rel => exact ⟨k + 1, by omega, by go_num, by rw [RS.out, DN.out]; simpa using own_up hown (gr_up wr g), Up.trans hu (gr_up wr g)⟩
            case measure => simp [intOf]; omega
          · have hk1 : ((i : Int) != (k : Int)) = true := by simp; omega
            have hk2 : (i != k) = true := by simpa using hik
            have hk3 : Hid ((i == k) = false) := by unfold Hid; simpa using hik
            cases yi with
            | false =>
              have DN : Hid (dep txs adm i k = false) := by unfold Hid; rw [DK.out false false _ hk3.out YI.out.symm rfl]; rfl
              go_wp2
              refine wp_region_gr (by kernel_rfl) (by kernel_rfl) ?_
              repeat (go_big_quiet_step ((go_at_call 62; exact gr_callb (prec_any ti tk _ _ _ (VI.out.grow (gr_up _ _)) (VK.out.grow (gr_up _ _))) XP.out)))
              refine wpQuiet_nil ?_
              intro _ hw'
              obtain ⟨g, rfl⟩ := hw'
              go_wp2
              go_roundw
              case rel => exact ⟨k + 1, by omega, by go_num, by rw [RS.out, DN.out]; simpa using own_up hown (gr_up wr g), Up.trans hu (gr_up wr g)⟩
              case measure => simp [intOf]; omega
            | true =>
              cases yk with
              | false =>
                have DN : Hid (dep txs adm i k = false) := by unfold Hid; rw [DK.out false true false hk3.out YI.out.symm YK.out.symm]; rfl
                go_wp2
                refine wp_region_gr (by kernel_rfl) (by kernel_rfl) ?_
                repeat (go_big_quiet_step ((go_at_call 62; exact gr_callb (prec_any ti tk _ _ _ (VI.out.grow (gr_up _ _)) (VK.out.grow (gr_up _ _))) XP.out)))
                refine wpQuiet_nil ?_
                intro _ hw'
                obtain ⟨g, rfl⟩ := hw'
                go_wp2
                go_roundw
                case rel => exact ⟨k + 1, by omega, by go_num, by rw [RS.out, DN.out]; simpa using own_up hown (gr_up wr g), Up.trans hu (gr_up wr g)⟩
                case measure => simp [intOf]; omega
              | true =>
                cases xp with
                | false =>
                  have DN : Hid (dep txs adm i k = false) := by unfold Hid; rw [DK.out false true true hk3.out YI.out.symm YK.out.symm]; rfl
                  go_wp2
                  refine wp_region_gr (by kernel_rfl) (by kernel_rfl) ?_
                  repeat (go_big_quiet_step ((go_at_call 62; exact gr_callb (prec_any ti tk _ _ _ (VI.out.grow (gr_up _ _)) (VK.out.grow (gr_up _ _))) XP.out)))
                  refine wpQuiet_nil ?_
                  intro _ hw'
                  obtain ⟨g, rfl⟩ := hw'
                  go_wp2
                  go_roundw
                  case rel => exact ⟨k + 1, by omega, by go_num, by rw [RS.out, DN.out]; simpa using own_up hown (gr_up wr g), Up.trans hu (gr_up wr g)⟩
                  case measure => simp [intOf]; omega
                | true =>
                  have DN : Hid (dep txs adm i k = true) := by unfold Hid; rw [DK.out false true true hk3.out YI.out.symm YK.out.symm]; rfl
                  go_wp2
                  refine wp_region_gr (by kernel_rfl) (by kernel_rfl) ?_
                  repeat (go_big_quiet_step ((go_at_call 62; exact gr_callb (prec_any ti tk _ _ _ (VI.out.grow (gr_up _ _)) (VK.out.grow (gr_up _ _))) XP.out)))
                  refine wpQuiet_nil ?_
                  intro _ hw'
                  obtain ⟨g, rfl⟩ := hw'
                  have hown2 := own_up hown (gr_up wr g)
                  have hu2 := Up.trans hu (gr_up wr g)
                  have hrl := row_len txs adm i k
                  have hn : (deps txs adm i ++ row txs adm i k).length ≤ 1640 := by rw [List.length_append]; omega
                  go_wp2_with (at_builtin; refine wpList_append_own _ rfl _ _ 99 rfl w.heap.size 104 i0 (.agg #[.int .i64 0, .int .i64 0]) 2 16 Try.underlying99 hi hz0 hz1 hz2 rfl (by decide) _ _ _ rfl (hown2.alloc _) ⟨(gr wr g).heap.size, 0, none⟩ 1 1 [.int .i64 (i : Int), .int .i64 (k : Int)] rfl rfl ?c1 ?c2 ?c3 ?c4 ?c5 ?_)
                  case c1 => exact cell_two_new' _ _ _ _
                  case c2 => intro u hu; simp at hu; rcases hu with rfl | rfl <;> rfl
                  case c3 => unfold maxLen; omega
                  case c4 => omega
                  case c5 => have := hu2.size; simp; omega
                  intro v' wl hown' hgrow _
                  have hul := own_pair_up (hu2.alloc (.cells #[.int .i64 (i : Int), .int .i64 (k : Int)] 104)) (hown2.alloc _) hgrow
                  clear hgrow hown hown2
                  go_wp2
                  go_roundw
                  case rel => exact ⟨k + 1, by omega, by go_num, by rw [RS.out, DN.out]; simpa [pcells, Nat.add_assoc] using hown', hul⟩
                  case measure => simp [intOf]; omega
        · obtain rfl : k = txs.length := by omega
          have DS := Lib.hid (deps_succ txs adm i)
          go_wp2
          go_roundw
          case rel => exact ⟨i + 1, by omega, by go_num, by rw [DS.out]; exact hown, hu⟩
          case measure => simp [intOf]; omega
    · obtain rfl : i = txs.length := by omega
      go_wp2
      go_ret2
      exact ⟨_, rfl, hown, hu⟩
end Go.Proofs.Ytnbhdpmhgamjfaa.C
