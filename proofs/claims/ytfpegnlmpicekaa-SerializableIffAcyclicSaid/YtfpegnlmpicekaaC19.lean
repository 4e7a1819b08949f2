/- The conflict matrix. -/
import Derived.Test.YtfpegnlmpicekaaC18
import Derived.Deep.WholeRow
import Derived.Deep.MidRow
namespace Go.Proofs.Ytfpegnlmpicekaa.C
open Go Go.RowKit Hp
set_option linter.unusedVariables false

/-- The 400 cells of a matrix. -/
def mcells (M : Nat → Bool) : List Value := (List.range 400).map fun c => .bool (M c)
theorem mcells_len (M : Nat → Bool) : (mcells M).length = 400 := by simp [mcells]
theorem mcells_at (M : Nat → Bool) {c : Nat} (h : c < 400) : (mcells M)[c]? = some (.bool (M c)) := by simp [mcells, h]
theorem mcells_set (M : Nat → Bool) (c : Nat) : (mcells M).set c (.bool true) = mcells (fun d => M d || decide (d = c)) := by
  refine List.ext_getElem (by simp [mcells]) fun i h1 h2 => ?_
  by_cases e : i = c
  · subst e; simp [mcells]
  · rw [List.getElem_set_ne (by omega)]; simp [mcells, e]
theorem mcells_congr {M N : Nat → Bool} (h : ∀ c, c < 400 → M c = N c) : mcells M = mcells N := by
  refine List.ext_getElem (by simp [mcells]) fun i h1 h2 => ?_
  simp only [mcells, List.length_map, List.length_range] at h1
  simp [mcells, h i h1]
theorem Try.zero72 : (Try.prog.info? 72).map (fun i => (i.zero, i.size)) = some (some (.agg (mcells fun _ => false).toArray), 400) := by kernel_rfl

theorem wl_alloc {P : Program} {ops : Array Oper} {rest : List Oper} {o : Oper} {a : Act} {w : World} {Q : Exit → Act → World → Prop} (hgd : o.guard = none) (E : TypeId) (ho : o.op = .alloc E) (zs : List Value)
    (hz : ∀ w, (zeroValue E).run P w = .ok (.agg zs.toArray) w) (h : wpList P ops Q rest (a.put o.dst (.pointer (some ⟨w.heap.size, 0, none⟩))) (w.alloc (.cells zs.toArray E))) : wpList P ops Q (o :: rest) a w :=
  wpList_plain hgd fun K hK => by
    have h2 := hK _ _ h
    have hr : (execOp a.eval o).run P w = .ok (.value (.pointer (some ⟨w.heap.size, 0, none⟩))) (w.alloc (.cells zs.toArray E)) := by
      unfold execOp
      simp only [ho]
      simp [Instr.alloc, hz, newVar, newRow, Value.cells, go_sem]
    unfold Oper.wp
    rw [hr]
    exact h2
theorem blk_setCells {w : World} {b : Nat} {xs vs : List Value} {E : TypeId} (h : Blk w b xs E) (hl : vs.length = xs.length) : Blk (w.setCells b 0 vs) b vs E := by
  obtain ⟨cur, e1, e2, e3⟩ := heap_setCells b E (0, 0) vs 0 w _ h
  have e : cur = vs.toArray := by
    refine Array.ext_getElem? fun i => ?_
    by_cases hi : i < xs.length
    · rw [e3 i (by simpa using hi), if_pos (by omega)]; simp
    · rw [Array.getElem?_eq_none (by rw [e2]; simpa using hi), Array.getElem?_eq_none (by simp; omega)]
  subst e; exact e1
theorem up_setCells {w w' : World} {b : Nat} (h : Up w w') (hb : w.heap.size ≤ b) (o : Nat) (vs : List Value) : Up w (w'.setCells b o vs) := by
  obtain ⟨a1, a2, a3, a4⟩ := setCells_rest b vs o w'
  exact ⟨a1.trans h.os, a2.trans h.tape, a3.trans h.output, by rw [a4]; exact h.size, fun k hk => by rw [heap_setCells_other b k (by omega)]; exact h.block k hk⟩
def hitc (a b : Hop) (c : Nat) : Bool := confl a b && decide (c = a.tx * 20 + b.tx)
def cfIn (l : List Hop) (j m c : Nat) : Bool := (List.range m).any fun i => hitc (l.getD i h0) (l.getD j h0) c
def cfN (l : List Hop) (n c : Nat) : Bool := (List.range n).any fun j => cfIn l j j c
theorem cfIn_succ (l : List Hop) (j m c : Nat) : cfIn l j (m + 1) c = (cfIn l j m c || hitc (l.getD m h0) (l.getD j h0) c) := any_succ _ _
theorem cfN_succ (l : List Hop) (n c : Nat) : cfN l (n + 1) c = (cfN l n c || cfIn l n n c) := any_succ _ _

set_option maxRecDepth 100000 in
set_option maxHeartbeats 2000000 in
theorem conflicts_any (vt : Value) (l : List Hop) (w : World) (ht : Hops w vt l) (hv' : HValid l) :
    Calls Try.prog 41 #[vt] w fun e w' => e = .returned (.agg (mcells (cfN l l.length)).toArray) ∧ Up w w' := by
  obtain ⟨a, cap, rfl, h1, h2, _, h3⟩ := ht
  obtain ⟨hz, hs72⟩ := zero_of_info Try.zero72
  have hlen := hv'.len
  have HV := Lib.hid hv'
  have H3 := Lib.hid h3
  have HZ := Lib.hid hz
  have HS := Lib.hid hs72
  clear h3 hv' hz hs72
  go_enter Try.func41, Try.ntmps41
  go_wp2_with (with_reducible refine wl_alloc rfl 72 rfl _ HZ.out ?_)
  obtain ⟨m0, hm0⟩ : ∃ m0, m0 = mcells (cfN l 0) := ⟨_, rfl⟩
  go_loopw [10] (fun iv wr => ∃ j : Nat, j ≤ l.length ∧ iv = .int .i64 j ∧ Up w wr ∧ Blk wr w.heap.size (mcells fun _ => false) 72 ∧ Blk wr (w.heap.size + 1) (mcells (cfN l j)) 72) (fun iv _ => l.length - (intOf iv).toNat)
  case atStart =>
    refine ⟨0, by omega, rfl, ((Up.refl _).alloc _).alloc _, (Blk.new w _ _).up ((Up.refl _).alloc _), ?_⟩
    have := Blk.new (w.alloc (.cells (mcells fun _ => false).toArray 72)) (mcells fun _ => false).toArray 72
    have e : mcells (cfN l 0) = mcells fun _ => false := mcells_congr fun c _ => by simp [cfN]
    rw [e]
    simpa using this
  case round =>
    obtain ⟨j, hj, rfl, hu, hb0, hb1⟩ := hrel
    have B0 := Lib.hid hb0
    have B1 := Lib.hid hb1
    clear hb0 hb1 hm0
    by_cases hlt : j < l.length
    · obtain ⟨b, off, rfl, h4⟩ := arr_at (n := 0) (cap := 0) h0 H3.out (by omega)
      have H4 := Lib.hid h4
      clear h4
      obtain ⟨_, ⟨hbs, c0⟩, ⟨_, c1⟩, ⟨_, c2⟩⟩ := hopR_grows _ _ _ _ _ (H4.out j (by omega)) hu
      obtain ⟨tj, htj⟩ : ∃ t, t = l.getD j h0 := ⟨_, rfl⟩
      rw [← htj] at c0 c1 c2
      have V2 := HV.out.tx j hlt
      rw [← htj] at V2
      have TJ := Lib.hid htj
      clear htj
      obtain ⟨txj, kindj, keyj⟩ := tj
      dsimp only at *
      have hsz : w.heap.size + 2 ≤ wr.heap.size := by have := B1.out.lt; omega
      go_wp2
      have hsz2 := hu.size
      obtain ⟨wo, rfl⟩ : ∃ wo : World, wo = wr := ⟨_, rfl⟩
      obtain ⟨W0, hW0⟩ : ∃ W0, W0 = wo.alloc (.cells #[.int .i64 (txj : Int), .int .i64 kindj, .string keyj] 42) := ⟨_, rfl⟩
      have hu1 : Up w W0 := hW0 ▸ hu.alloc _
      have B0' : Hid (Blk W0 w.heap.size (mcells fun _ => false) 72) := hW0 ▸ B0.out.up ((Up.refl _).alloc _)
      have B1' : Hid (Blk W0 (w.heap.size + 1) (mcells (cfN l j)) 72) := hW0 ▸ B1.out.up ((Up.refl _).alloc _)
      have B5' : Hid (Blk W0 wo.heap.size [.int .i64 (txj : Int), .int .i64 kindj, .string keyj] 42) := hW0 ▸ Blk.new wo _ _
      rw [← hW0]
      clear hW0
      go_loopw [19] (fun iv wi => ∃ i : Nat, i ≤ j ∧ iv = .int .i64 i ∧ Up w wi ∧ Blk wi wo.heap.size [.int .i64 (txj : Int), .int .i64 kindj, .string keyj] 42 ∧ Blk wi w.heap.size (mcells fun _ => false) 72 ∧ Blk wi (w.heap.size + 1) (mcells fun c => cfN l j c || cfIn l j i c) 72) (fun iv _ => j - (intOf iv).toNat)
      case atStart =>
        refine ⟨0, by omega, rfl, hu1, B5'.out, B0'.out, ?_⟩
        rw [mcells_congr (N := cfN l j) fun c _ => by simp [cfIn]]
        exact B1'.out
      case round =>
        clear B0' B1' B5' hu1
        obtain ⟨i, hi, rfl, hu', hb5, hb0, hb1⟩ := hrel
        have D0 := Lib.hid hb0
        have D1 := Lib.hid hb1
        have D5 := Lib.hid hb5
        clear hb0 hb1 hb5
        by_cases hli : i < j
        · obtain ⟨_, ⟨hbi, d0⟩, ⟨_, d1⟩, ⟨_, d2⟩⟩ := hopR_grows _ _ _ _ _ (H4.out i (by omega)) hu'
          obtain ⟨ti, hti⟩ : ∃ t, t = l.getD i h0 := ⟨_, rfl⟩
          rw [← hti] at d0 d1 d2
          have V2i := HV.out.tx i (by omega)
          rw [← hti] at V2i
          have TI := Lib.hid hti
          clear hti
          obtain ⟨txi, kindi, keyi⟩ := ti
          dsimp only at *
          have ⟨h51, e50⟩ := D5.out.at (i := 0) rfl
          have ⟨_, e51⟩ := D5.out.at (i := 1) rfl
          have ⟨_, e52⟩ := D5.out.at (i := 2) rfl
          have hsz3 := hu'.size
          have hsz4 := D1.out.lt
          obtain ⟨cf, CF⟩ : ∃ x, Hid (confl ⟨txi, kindi, keyi⟩ ⟨txj, kindj, keyj⟩ = x) := ⟨_, rfl⟩
          have NX := Lib.hid (cfIn_succ l j i)
          rw [← TI.out, ← TJ.out] at NX
          cases cf with
          | false =>
            have MX : Hid (∀ c, (cfN l j c || cfIn l j (i + 1) c) = (cfN l j c || cfIn l j i c)) := fun c => by rw [NX.out c, hitc, CF.out]; simp
            go_wp2_with (go_at_call 19; refine (confl_any ⟨txi, kindi, keyi⟩ ⟨txj, kindj, keyj⟩ _).mono ?_; rintro e w1 ⟨he, hu1⟩; rw [CF.out] at he; obtain rfl := he)
            go_roundw
            case rel =>
              have hu2 : Up wr w1 := Up.trans ((Up.refl _).alloc _) hu1
              exact ⟨i + 1, by omega, by go_num, hu'.trans hu2, D5.out.up hu2, D0.out.up hu2, by rw [mcells_congr fun c _ => MX.out c]; exact D1.out.up hu2⟩
            case measure => simp [intOf]; omega
          | true =>
            have MX : Hid (∀ c, (cfN l j c || cfIn l j (i + 1) c) = ((cfN l j c || cfIn l j i c) || decide (c = txi * 20 + txj))) := fun c => by rw [NX.out c, hitc, CF.out]; simp [Bool.or_assoc]
            go_wp2_with (go_at_call 19; refine (confl_any ⟨txi, kindi, keyi⟩ ⟨txj, kindj, keyj⟩ _).mono ?_; rintro e w1 ⟨he, hu1⟩; rw [CF.out] at he; obtain rfl := he)
            have hu2 : Up wr w1 := Up.trans ((Up.refl _).alloc _) hu1
            have hsz5 : wr.heap.size + 1 ≤ w1.heap.size := by simpa using hu1.size
            have ⟨g51, g50⟩ := (D5.out.up hu2).at (i := 0) rfl
            have ⟨g70, g71⟩ := ((Blk.new wr #[.int .i64 (txi : Int), .int .i64 kindi, .string keyi] 42).up hu1).at (i := 0) rfl
            have E1 := Lib.hid (D1.out.up hu2)
            have ⟨gm0, gm1⟩ := E1.out.at (mcells_at (fun c => cfN l j c || cfIn l j i c) (c := txi * 20 + txj) (by omega))
            have gm2 := E1.out.free (txi * 20 + txj)
            go_region
            go_wp2
            go_roundw
            case rel =>
              have hu3 : Up w w1 := hu'.trans hu2
              exact ⟨i + 1, by omega, by go_num, (hu3.set (by omega) _ _ _).drew, ((D5.out.up hu2).other (by omega) _ _ _).drew, ((D0.out.up hu2).other (by omega) _ _ _).drew, by rw [mcells_congr fun c _ => MX.out c, ← mcells_set]; exact (E1.out.set _ _).drew⟩
            case measure => simp [intOf]; omega
        · obtain rfl : i = j := by omega
          go_wp2
          go_roundw
          case rel => exact ⟨i + 1, by omega, by go_num, hu', D0.out, by rw [mcells_congr (N := fun c => cfN l i c || cfIn l i i c) fun c _ => cfN_succ l i c]; exact D1.out⟩
          case measure => simp [intOf]; omega
    · obtain rfl : j = l.length := by omega
      have hl400 := mcells_len (cfN l l.length)
      have hall : (mcells (cfN l l.length)).toArray.all (·.oneCell') = true := by
        refine all_oneCell_toArray fun v hv => ?_
        unfold mcells at hv
        obtain ⟨c, _, rfl⟩ := List.mem_map.1 hv
        rfl
      have ht0 : wr.there w.heap.size 0 (mcells (cfN l l.length)).toArray.size := fun i hi => by
        have h := B0.out.at (mcells_at (fun _ => false) (c := i) (by simpa [mcells_len] using hi))
        rw [Nat.zero_add, h.2]
        exact ⟨rfl, B0.out.free i⟩
      have HA := Lib.hid hall
      have HT := Lib.hid ht0
      clear hall ht0
      have u72 : Hid (Try.prog.underlying 72 = some (.array 20 70)) := by unfold Hid; kernel_rfl
      have s72 : Hid ((Try.prog.info? 72).map (·.size) = some (mcells (cfN l l.length)).toArray.size) := by unfold Hid; rw [HS.out]; simp [mcells_len]
      have HB : Hid (wr.heap[w.heap.size + 1]? = some (.cells (mcells (cfN l l.length)).toArray 72 (0, 0))) := B1.out
      go_wp2_with (first | (refine wpList_load_row rfl 72 _ rfl (w.heap.size + 1) rfl 72 _ (0, 0) _ HB.out u72.out rfl s72.out ?_) | (refine wpList_store_mid rfl 72 _ _ rfl w.heap.size 0 (mcells (cfN l l.length)).toArray rfl rfl HT.out s72.out HA.out ?_))

      have hend : Hid ((wr.setCells w.heap.size 0 (mcells (cfN l l.length))).heap[w.heap.size]? = some (.cells (mcells (cfN l l.length)).toArray 72 (0, 0))) := blk_setCells B0.out (by simp [mcells_len])
      refine bodyPost_ret (results_cell_row rfl _ _ w.heap.size 72 (mcells (cfN l l.length)).toArray (0, 0) (.array 20 70) rfl hend.out u72.out rfl s72.out) rfl ?_
      exact ⟨rfl, up_setCells hu (by omega) _ _⟩
end Go.Proofs.Ytfpegnlmpicekaa.C
