/- The conflict graph. -/
import Derived.Test.YtfpegnlmpicekaaC19
namespace Go.Proofs.Ytfpegnlmpicekaa.C
open Go Go.RowKit Hp
set_option linter.unusedVariables false

theorem wl_store_new {P : Program} {ops : Array Oper} {rest : List Oper} {o : Oper} {a : Act} {w0 : World} {Q : Exit → Act → World → Prop} (hgd : o.guard = none) (E : TypeId) (x y : Operand) (ho : o.op = .store E x y)
    (c c' : Array Value) (hx : a.eval x = .pointer (some ⟨w0.heap.size, 0, none⟩)) (hy : a.eval y = .agg c') (hi : (P.info? E).map (·.size) = some c'.size) (hs : c.size = c'.size) (h1 : c'.all (·.oneCell') = true)
    (h : wpList P ops Q rest (a.put o.dst undef) (w0.alloc (.cells c' E))) : wpList P ops Q (o :: rest) a (w0.alloc (.cells c E)) :=
  wpList_plain hgd fun K hK => by
    have h2 := hK _ _ h
    have hr := run_storeAt_new (P := P) w0 E c c' hi hs h1
    unfold Oper.wp execOp
    simp only [ho, hx, hy, hr, Sem.run_bind, Result.andThen_ok, Sem.run_pure]
    exact h2

theorem wl_index_one {P : Program} {ops : Array Oper} {rest : List Oper} {o : Oper} {a : Act} {w : World} {Q : Exit → Act → World → Prop} (hgd : o.guard = none) (T : TypeId) (x ix : Operand) (ho : o.op = .index T x ix)
    (cs : List Value) (k : Nat) (v : Value) (n : Nat) (e : TypeId) (d : TypeDesc) (hx : a.eval x = .agg cs.toArray) (hix : a.eval ix = .int .i64 k) (hu : P.underlying T = some (.array n e)) (hk : k < n)
    (he : P.underlying e = some d) (hd : d.isRow = false) (hs : (P.info? e).map (·.size) = some 1) (hv : cs[k]? = some v) (h : wpList P ops Q rest (a.put o.dst v) w) : wpList P ops Q (o :: rest) a w :=
  wpList_plain hgd fun K hK => by
    have h2 := hK _ _ h
    have hr : (Instr.index T (.agg cs.toArray) (.int .i64 k)).run P w = .ok v w := by
      cases hq : P.info? e with
      | none => simp [hq] at hs
      | some i =>
        have hsz : i.size = 1 := by simpa [hq] using hs
        have hagg : (isAgg e).run P w = .ok false w := by
          unfold isAgg
          rw [Sem.run_bind, run_underlying he w]
          cases d <;> simp_all
        have hv' : cs.toArray[k]? = some v := by simpa using hv
        unfold Instr.index
        simp only [asIntOf, Sem.run_bind, Sem.run_pure, Result.andThen_ok, run_underlying hu w]
        rw [if_pos (by omega)]
        simp [sizeOf, typeInfo, hq, hsz, part, hagg, Sem.run_bind, hv]
    unfold Oper.wp execOp
    simp only [ho, hx, hix, hr, Sem.run_bind, Result.andThen_ok, Sem.run_pure]
    exact h2

theorem mcells_one (M : Nat → Bool) : (mcells M).toArray.all (·.oneCell') = true := by
  refine all_oneCell_toArray fun v hv => ?_
  unfold mcells at hv
  obtain ⟨c, _, rfl⟩ := List.mem_map.1 hv
  rfl
theorem Try.under72 : Try.prog.underlying 72 = some (.array 20 70) := by kernel_rfl
theorem Try.under70 : Try.prog.underlying 70 = some (.array 20 4) := by kernel_rfl
theorem Try.under4 : ∃ d, Try.prog.underlying 4 = some d ∧ d.isRow = false := ⟨.bool, by kernel_rfl, rfl⟩
theorem Try.size4 : (Try.prog.info? 4).map (·.size) = some 1 := by kernel_rfl
theorem Try.size70 : (Try.prog.info? 70).map (·.size) = some 20 := by kernel_rfl
def rcells (M : Nat → Bool) (i : Nat) : List Value := (List.range 20).map fun j => .bool (M (i * 20 + j))
theorem rcells_at (M : Nat → Bool) (i : Nat) {j : Nat} (h : j < 20) : (rcells M i)[j]? = some (.bool (M (i * 20 + j))) := by simp [rcells, h]
theorem range_row {w : World} {b : Nat} {M : Nat → Bool} (h : Blk w b (mcells M) 72) {i : Nat} (hi : i < 20) : w.rangeAt b (i * 20) (rcells M i) := fun j v hj => by
  have hj20 : j < 20 := by
    have := (List.getElem?_eq_some_iff.1 hj).1
    simpa [rcells] using this
  rw [rcells_at M i hj20] at hj
  cases hj
  rw [h.cell]
  exact mcells_at M (by omega)

def crow (M : Nat → Bool) (i m : Nat) : List (Int × Int) := ((List.range m).filter fun k => M (i * 20 + k)).map fun (k : Nat) => ((i : Int), ((k : Nat) : Int))
def cgr (M : Nat → Bool) (m : Nat) : List (Int × Int) := (List.range m).flatMap fun i => crow M i 20
theorem crow_succ (M : Nat → Bool) (i m : Nat) : crow M i (m + 1) = crow M i m ++ if M (i * 20 + m) then [((i : Int), (m : Int))] else [] := by
  unfold crow; rw [List.range_succ, List.filter_append, List.map_append]
  by_cases h : M (i * 20 + m) = true <;> simp [h]
theorem cgr_succ (M : Nat → Bool) (m : Nat) : cgr M (m + 1) = cgr M m ++ crow M m 20 := by
  unfold cgr; rw [List.range_succ, List.flatMap_append]; simp
theorem crow_len (M : Nat → Bool) (i m : Nat) : (crow M i m).length ≤ m := by
  unfold crow; rw [List.length_map]; exact Nat.le_trans (List.length_filter_le _ _) (by simp)
theorem cgr_len (M : Nat → Bool) (m : Nat) : (cgr M m).length ≤ m * 20 := by
  induction m with
  | zero => simp [cgr]
  | succ m ih => rw [cgr_succ, List.length_append, Nat.succ_mul]; have := crow_len M m 20; omega

set_option maxRecDepth 100000 in
set_option maxHeartbeats 4000000 in
theorem graph_any (vt : Value) (l : List Hop) (w : World) (ht : Hops w vt l) (hv' : HValid l) :
    Calls Try.prog 20 #[vt] w fun e w' => ∃ v, e = .returned (.tuple #[v, .int .i64 0]) ∧ w'.ownsRow w.heap.size 48 2 v (cgr (cfN l l.length) 20).length (pcells (cgr (cfN l l.length) 20)) ∧ Up w w' := by
  obtain ⟨i0, hi, hz0, hz1, hz2⟩ := info_parts Try.info48
  obtain ⟨hz, hs72⟩ := zero_of_info Try.zero72
  have HT := Lib.hid ht
  have HV := Lib.hid hv'
  obtain ⟨a, cap, rfl, h1, h2, _, h3⟩ := ht
  have HZ := Lib.hid hz
  have HS : Hid ((Try.prog.info? 72).map (·.size) = some (mcells (cfN l l.length)).toArray.size) := by unfold Hid; rw [hs72]; simp [mcells_len]
  have HA := Lib.hid (mcells_one (cfN l l.length))
  have HE : Hid ((mcells fun _ => false).toArray.size = (mcells (cfN l l.length)).toArray.size) := by simp [Hid, mcells_len]
  clear h3 hv' hz hs72
  generalize hM : cfN l l.length = M at *
  go_enter Try.func20, Try.ntmps20
  go_wp2_with (first | (go_at_call 40; refine (hcheck_any _ l _ HT.out HV.out).mono ?_; rintro e w1 ⟨rfl, hu1⟩) | (go_at_call 41; refine (conflicts_any _ l _ (HT.out.grow hopR_grows (by assumption)) HV.out).mono ?_; rintro e w2 ⟨rfl, hu2⟩; rw [hM]) | (with_reducible refine wl_alloc rfl 72 rfl _ HZ.out ?_) | (refine wl_store_new rfl 72 _ _ rfl _ (mcells M).toArray rfl rfl HS.out HE.out HA.out ?_))
  have hb0 := Blk.new w2 (mcells M).toArray 72
  have hum := (hu1.trans hu2).alloc (.cells (mcells M).toArray 72)
  have hw2 := (hu1.trans hu2).size
  clear hM
  go_loopw [6, 17] (fun v iv wr => ∃ i : Nat, i ≤ 20 ∧ iv = .int .i64 i ∧ wr.ownsRow w.heap.size 48 2 v (cgr M i).length (pcells (cgr M i)) ∧ Blk wr w2.heap.size (mcells M) 72 ∧ Up w wr) (fun _ iv _ => 20 - (intOf iv).toNat)
  case atStart => exact ⟨0, by omega, rfl, World.ownsRow_nil _ _ _ _, hb0, hum⟩
  case round =>
    clear hb0 hum
    obtain ⟨i, hin, rfl, hown, hb, hu⟩ := hrel
    by_cases hlt : i < 20
    · have hdl := cgr_len M i
      have HR : Hid (wr.rangeAt w2.heap.size (i * 20) (rcells M i)) := range_row hb hlt
      have HU : Hid (Try.prog.underlying 70 = some (.array 20 4)) := Try.under70
      have HS70 : Hid ((Try.prog.info? 70).map (·.size) = some (rcells M i).length) := by unfold Hid; rw [Try.size70]; simp [rcells]
      go_wp2_with (with_reducible refine wpList_load_mid rfl 70 _ rfl w2.heap.size (i * 20) rfl (rcells M i) _ HR.out HU.out rfl HS70.out ?_)
      clear HR
      obtain ⟨d4, hu4, hd4⟩ := Try.under4
      have H4 := Lib.hid hu4
      have HS4 := Lib.hid Try.size4
      clear hu4
      go_loopw [6, 23] (fun v kv wr => ∃ k : Nat, k ≤ 20 ∧ kv = .int .i64 k ∧ wr.ownsRow w.heap.size 48 2 v (cgr M i ++ crow M i k).length (pcells (cgr M i ++ crow M i k)) ∧ Blk wr w2.heap.size (mcells M) 72 ∧ Up w wr) (fun _ kv _ => 20 - (intOf kv).toNat)
      case atStart => exact ⟨0, by omega, rfl, by simpa [crow] using hown, hb, hu⟩
      case round =>
        clear hown hb hu
        obtain ⟨k, hk, rfl, hown, hb, hu⟩ := hrel
        by_cases hlk : k < 20
        · have RS := Lib.hid (crow_succ M i k)
          have hrl := crow_len M i k
          have hn : (cgr M i ++ crow M i k).length ≤ 440 := by rw [List.length_append]; omega
          have hx := rcells_at M i hlk
          have hlr : (rcells M i).length = 20 := by simp [rcells]
          obtain ⟨x, hxx⟩ : ∃ x, x = M (i * 20 + k) := ⟨_, rfl⟩
          rw [← hxx] at hx
          have X := Lib.hid hxx
          clear hxx
          cases x with
          | false =>
            go_wp2_with (with_reducible refine wl_index_one rfl 70 _ _ rfl (rcells M i) k _ 20 4 _ rfl rfl HU.out hlk H4.out hd4 HS4.out hx ?_)
            go_roundw
            case rel => exact ⟨k + 1, by omega, by go_num, by rw [RS.out, ← X.out]; simpa using hown, hb, hu⟩
            case measure => simp [intOf]; omega
          | true =>
            go_wp2_with (first | (with_reducible refine wl_index_one rfl 70 _ _ rfl (rcells M i) k _ 20 4 _ rfl rfl HU.out hlk H4.out hd4 HS4.out hx ?_) | (at_builtin; refine wpList_append_own _ rfl _ _ 44 rfl w.heap.size 48 i0 (.agg #[.int .i64 0, .int .i64 0]) 2 16 Try.underlying44 hi hz0 hz1 hz2 rfl (by decide) _ _ _ rfl (hown.alloc _) ⟨wr.heap.size, 0, none⟩ 1 1 [.int .i64 (i : Int), .int .i64 (k : Int)] rfl rfl ?c1 ?c2 ?c3 ?c4 ?c5 ?_))
            case c1 => exact cell_two_new' _ _ _ _
            case c2 => intro u hu; simp at hu; rcases hu with rfl | rfl <;> rfl
            case c3 => unfold maxLen; omega
            case c4 => omega
            case c5 => have := hu.size; simp; omega
            intro v' wl hown' hgrow _
            have hA : Up wr (wr.alloc (.cells #[.int .i64 (i : Int), .int .i64 (k : Int)] 48)) := (Up.refl _).alloc _
            have hE := (hA.toE 48).trans (UpE.of_grown hgrow (fun j hj => (own_ty (hown.alloc _) j hj).1))
            have hb2 := blk_upE hb (by decide) hE
            have hul := own_pair_up (hu.alloc (.cells #[.int .i64 (i : Int), .int .i64 (k : Int)] 48)) (hown.alloc _) hgrow
            clear hgrow hown hE hA hb
            go_wp2
            go_roundw
            case rel => exact ⟨k + 1, by omega, by go_num, by rw [RS.out, ← X.out]; simpa [pcells, Nat.add_assoc] using hown', hb2, hul⟩
            case measure => simp [intOf]; omega
        · obtain rfl : k = 20 := by omega
          have DS := Lib.hid (cgr_succ M i)
          go_wp2
          go_roundw
          case rel => exact ⟨i + 1, by omega, by go_num, by rw [DS.out]; exact hown, hb, hu⟩
          case measure => simp [intOf]; omega
    · obtain rfl : i = 20 := by omega
      go_wp2
      go_ret2
      exact ⟨_, rfl, hown, hu⟩
end Go.Proofs.Ytfpegnlmpicekaa.C
