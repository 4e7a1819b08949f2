/- SerialOrder Printed by gen7/order.py. -/
import Derived.Test.YtnbhdpmhgamjfaaOdc
import Derived.Deep.WholeRow
import Derived.Deep.MidRow
namespace Go.Proofs.Ytnbhdpmhgamjfaa.C
open Go Go.RowKit Hp
set_option linter.unusedVariables false

abbrev ic (l : List Int) : List Value := l.map (Value.int .i64)
theorem ints_own {w : World} {base : Nat} {v : Value} {l : List Int} (h : w.ownsRow base 3 1 v l.length (ic l)) : Ints w v l :=
  own_arr h fun g hg hc i hi => by rw [Nat.mul_one]; exact hc i _ (by simp [hi])
/-! ### The topological order, in plain words: the first that is free goes next -/
def topo (fr : List Int → Int → Bool) : Nat → List Int → List Int → Option (List Int)
  | 0, _, ord => some ord
  | n + 1, rem, ord => match rem.findIdx? (fr rem) with
    | none => none
    | some i => topo fr n (rem.eraseIdx i) (ord ++ [rem.getD i 0])
def ids (adm : List Bool) (m : Nat) : List Int := ((List.range m).filter fun i => adm.getD i false).map fun (i : Nat) => (i : Int)
theorem ids_succ (adm : List Bool) (m : Nat) : ids adm (m + 1) = ids adm m ++ if adm.getD m false then [(m : Int)] else [] := by
  unfold ids; rw [List.range_succ, List.filter_append, List.map_append]
  congr 1
  cases h : adm.getD m false <;> simp only [List.filter, h] <;> rfl
theorem ids_len (adm : List Bool) (m : Nat) : (ids adm m).length ≤ m := by
  unfold ids; rw [List.length_map]; exact Nat.le_trans (List.length_filter_le _ _) (by simp)
theorem idx_cases {α : Type} (p : α → Bool) (l : List α) : (l.findIdx? p = none ∧ idx p l = -1) ∨ ∃ i, l.findIdx? p = some i ∧ idx p l = (i : Int) ∧ i < l.length := by
  unfold idx
  cases h : l.findIdx? p with
  | none => exact .inl ⟨rfl, rfl⟩
  | some i => exact .inr ⟨i, rfl, rfl, (List.findIdx?_eq_some_iff_getElem.1 h).1⟩
theorem blk_upE {w w' : World} {b : Nat} {xs : List Value} {E E' : TypeId} (h : Blk w b xs E) (hne : E ≠ E') (hu : UpE E' w w') : Blk w' b xs E :=
  (hu.block b h.lt (Ty.ne ⟨_, _, h⟩ hne)).trans h
theorem pairs_upE {w w' : World} {v : Value} {l : List (Int × Int)} {E : TypeId} (h : Arr PairR 2 w v l) (hne : 104 ≠ E) (hu : UpE E w w') : Arr PairR 2 w' v l :=
  Arr.growE (E := E) (fun _ _ _ hr => ⟨hr.1.upE hne hu, hr.2.1.upE hr.1 hne hu, hr.2.2.upE hr.1 hne hu⟩) h
theorem upE_setCell (w : World) (b i : Nat) (s : Option Nat) (v : Value) {E : TypeId} (h : Ty w b E) : UpE E w (w.setCell ⟨b, i, s⟩ v) :=
  ⟨by simp, fun k hk hn => Below.heap_setCell _ _ _ _ (fun e => hn (by rw [e]; exact h))⟩
theorem own_upE {w w' : World} {base : Nat} {E E' : TypeId} {size : Nat} {v : Value} {n : Nat} {xs : List Value} (h : w.ownsRow base E size v n xs) (hne : E ≠ E') (hu : UpE E' w w') : w'.ownsRow base E size v n xs := by
  obtain ⟨hx, h⟩ := h
  refine ⟨hx, ?_⟩
  rcases h with h | ⟨g, cap, cur, hv, hb, hg, r⟩
  · exact Or.inl h
  · exact Or.inr ⟨g, cap, cur, hv, hb, (hu.block g (Ty.lt ⟨cur, (0, 0), hg⟩) (Ty.ne ⟨cur, (0, 0), hg⟩ hne)).trans hg, r⟩
/-- .. and behind a write to another row. -/
theorem own_grown {w w' : World} {base : Nat} {E : TypeId} {size : Nat} {v : Value} {n : Nat} {xs : List Value} {row : Option Nat} (h : w.ownsRow base E size v n xs) (hg : w.grownBy w' row) (hr : ∀ k, row = some k → v.ownBlock ≠ some k) : w'.ownsRow base E size v n xs := by
  obtain ⟨hx, h⟩ := h
  refine ⟨hx, ?_⟩
  rcases h with h | ⟨g, cap, cur, rfl, hb, hgg, r⟩
  · exact Or.inl h
  · exact Or.inr ⟨g, cap, cur, rfl, hb, (hg.block g (Ty.lt ⟨cur, (0, 0), hgg⟩) (fun e => hr g e.symm rfl)).trans hgg, r⟩
theorem own_base {w : World} {base base' : Nat} {E : TypeId} {size : Nat} {v : Value} {n : Nat} {xs : List Value} (h : w.ownsRow base E size v n xs) (hb : base' ≤ base) : w.ownsRow base' E size v n xs := by
  obtain ⟨hx, h⟩ := h
  refine ⟨hx, ?_⟩
  rcases h with h | ⟨g, cap, cur, hv, hg, r⟩
  · exact Or.inl h
  · exact Or.inr ⟨g, cap, cur, hv, by omega, r⟩
theorem Try.info3 : (Try.prog.info? 3).map (fun i => (i.zero, i.size, i.bytes)) = some (some (.int .i64 0), 1, 8) := by kernel_rfl
/-- The length of the slice in a box. -/
def lenAt (w : World) (b : Nat) : Nat := match w.cell? ⟨b, 0, none⟩ with | some (.slice _ n _) => n | _ => 0
theorem cell_one_new2 (w : World) (v : Value) (E : TypeId) : ∀ (j : Nat) u, [v][j]? = some u → (w.alloc (.cells #[v] E)).cell? ((⟨w.heap.size, 0, none⟩ : Addr).add j) = some u := by
  intro j u hj
  rw [show (⟨w.heap.size, 0, none⟩ : Addr).add j = ⟨w.heap.size, j, none⟩ by unfold Addr.add; split <;> simp_all, World.cell?_alloc_new]
  simpa using hj
/-- What the second loop keeps. -/
structure Left (w0 wr : World) (be br base : Nat) (ve vo : Value) (edges : List (Int × Int)) (rem ord : List Int) : Prop where
  up : Up w0 wr
  e : Blk wr be [ve] 99
  pairs : Arr PairR 2 wr ve edges
  r : ∃ vr, Blk wr br [vr] 22 ∧ wr.ownsRow w0.heap.size 3 1 vr rem.length (ic rem) ∧ ∀ k, vr.ownBlock = some k → k < base
  o : wr.ownsRow base 3 1 vo ord.length (ic ord)
  base : w0.heap.size ≤ base ∧ base ≤ wr.heap.size
  br : w0.heap.size ≤ br
/-- slices.Delete of one element, in a row of one's own. -/
theorem delR (g cap i base : Nat) (l : List Int) (w : World) (h : w.ownsRow base 3 1 (.slice (some ⟨g, 0, none⟩) l.length cap) l.length (ic l)) (hi : i < l.length) (hl : l.length ≤ 1000000) :
    Calls Try.prog 48 #[.slice (some ⟨g, 0, none⟩) l.length cap, .int .i64 i, .int .i64 ((i : Int) + 1)] w fun e w' => ∃ c3, e = .returned (.slice (some ⟨g, 0, none⟩) (l.length - 1) c3) ∧
      w'.ownsRow base 3 1 (.slice (some ⟨g, 0, none⟩) (l.length - 1) c3) (l.eraseIdx i).length (ic (l.eraseIdx i)) ∧ w.grownBy w' (some g) := by
  refine (delI_any (.slice (some ⟨g, 0, none⟩) l.length cap) l.length i (ic l) w (own_base' h fun _ _ => Nat.zero_le _) hi hl (fun u hu => by obtain ⟨x, _, rfl⟩ := List.mem_map.1 hu; rfl)).mono ?_
  rintro e w' ⟨v', rfl, h1, h2, h3⟩
  obtain ⟨a, c3, rfl, _, _, h0⟩ := own_form h1
  have ha : a = some ⟨g, 0, none⟩ := by
    have hb : (Value.slice a (l.length - 1) c3).ownBlock = some g := h3
    rcases h1.2 with ⟨e, _⟩ | ⟨g', cap', cur, e, _⟩
    · simp only [Value.slice.injEq] at e
      rw [e.1] at hb; cases hb
    · simp only [Value.slice.injEq] at e
      rw [e.1] at hb ⊢
      obtain rfl : g' = g := by simpa [Value.ownBlock] using hb
      rfl
  subst ha
  refine ⟨c3, rfl, ?_, h2⟩
  have e1 : (ic l).take (i * 1) ++ (ic l).drop ((i + 1) * 1) = ic (l.eraseIdx i) := by
    rw [Nat.mul_one, Nat.mul_one, List.eraseIdx_eq_take_drop_succ]
    unfold ic
    rw [List.map_append, List.map_take, List.map_drop]
  rw [e1] at h1
  rw [List.length_eraseIdx_of_lt hi]
  exact own_base' h1 fun k hk => by
    obtain rfl : g = k := by simpa [Value.ownBlock] using hk
    exact ((own_ty h) g rfl).2
set_option maxRecDepth 100000 in
set_option maxHeartbeats 4000000 in
theorem order_any (vt va : Value) (txs : List Tx) (adm : List Bool) (w : World) (ht : Txs w vt txs) (ha : Bools w va adm) (hv : Valid txs) (hl : adm.length = txs.length) (res : List Int)
    (hres : topo (free (deps txs adm txs.length)) (ids adm adm.length).length (ids adm adm.length) [] = some res) :
    Calls Try.prog 29 #[vt, va] w fun e w' => ∃ v, e = .returned (.tuple #[v, .int .i64 0]) ∧ w'.ownsRow w.heap.size 3 1 v res.length (ic res) ∧ Up w w' := by
  obtain ⟨i0, hi, hz0, hz1, hz2⟩ := info_parts Try.info3
  have HT := Lib.hid ht
  have HA := Lib.hid ha
  obtain ⟨a, cap, rfl, h1, h2, _, h3⟩ := ht
  obtain ⟨a', cap', rfl, h1', h2', _, h3'⟩ := ha
  have hlen := hv.len
  have H3' := Lib.hid h3'
  have HL := Lib.hid hl
  have HR := Lib.hid hres
  have hl1 : adm.length ≤ 40 := by omega
  clear h3 h3' hl hres
  go_enter Try.func29, Try.ntmps29
  go_wp2_with (go_at_call 42; refine (dgraph_any _ _ txs adm _ HT.out HA.out hv HL.out).mono ?_; rintro e w1 ⟨ve, rfl, hown, hu1⟩; obtain ⟨ae, ce, rfl⟩ := own_len hown)
  have hpe := pairs_own hown
  clear hown hv
  generalize hE : deps txs adm txs.length = edges at *
  generalize hve : (Value.slice ae edges.length ce) = ve at *
  have HVE := Lib.hid hve
  have hb1 := (Blk.new w1 #[ve] 99).up ((Up.refl _).alloc (.cells #[.slice none 0 0] 22))
  have hb2 := Blk.new (w1.alloc (.cells #[ve] 99)) #[.slice none 0 0] 22
  rw [World.size_alloc] at hb2
  have hp2 := hpe.grow pairR_grows (((Up.refl _).alloc (.cells #[ve] 99)).alloc (.cells #[.slice none 0 0] 22))
  clear hve hE hpe
  go_loopw [24] (fun iv wr => ∃ (k : Nat) (vr : Value), k ≤ adm.length ∧ iv = .int .i64 k ∧ Blk wr (w1.heap.size + 1) [vr] 22 ∧ wr.ownsRow w.heap.size 3 1 vr (ids adm k).length (ic (ids adm k)) ∧ Blk wr w1.heap.size [ve] 99 ∧ Arr PairR 2 wr ve edges ∧ Up w wr) (fun iv _ => adm.length - (intOf iv).toNat)
  case atStart => exact ⟨0, .slice none 0 0, by omega, rfl, hb2, World.ownsRow_nil _ _ _ _, hb1, hp2, (hu1.alloc _).alloc _⟩
  case round =>
    obtain ⟨k, vr, hk, rfl, hbr, hown, hbe, hp, hu⟩ := hrel
    obtain ⟨ar, cr, rfl⟩ := own_len hown
    have hil := ids_len adm k
    by_cases hlt : k < adm.length
    · obtain ⟨b', off', rfl, h4'⟩ := arr_at (n := 0) (cap := 0) false H3'.out (by omega)
      obtain ⟨hbb, e0⟩ := (boolR_grows _ _ _ _ _ (h4' k (by omega)) hu)
      rw [Nat.mul_one] at e0
      have IS := Lib.hid (ids_succ adm k)
      obtain ⟨x, hx⟩ : ∃ x, x = adm.getD k false := ⟨_, rfl⟩
      rw [← hx] at e0
      have HX := Lib.hid hx
      have cbr := hbr.cell 0
      rw [show ([Value.slice ar (ids adm k).length cr])[0]? = some (.slice ar (ids adm k).length cr) from rfl] at cbr
      clear hx h4'
      cases x with
      | false =>
        go_wp2
        go_roundw
        case rel => exact ⟨k + 1, _, by omega, by go_num, hbr, by rw [IS.out, ← HX.out]; simpa using hown, hbe, hp, hu⟩
        case measure => simp [intOf]; omega
      | true =>
        go_wp2_with (at_builtin; refine wpList_append_own _ rfl _ _ 22 rfl w.heap.size 3 i0 (.int .i64 0) 1 8 Try.underlying22 hi hz0 hz1 hz2 rfl (by decide) _ _ _ rfl (hown.alloc _) ⟨wr.heap.size, 0, none⟩ 1 1 [.int .i64 (k : Int)] rfl rfl ?c1 ?c2 ?c3 ?c4 ?c5 ?_)
        first | (case c1 => exact cell_one_new2 _ _ _) | skip
        case c2 => first | rfl | (intro u hu; simp at hu; subst hu; rfl)
        case c3 => unfold maxLen; omega
        case c4 => omega
        case c5 => have := hu.size; simp; omega
        intro v' w2 hown' hgrow _
        have hA : Up wr (wr.alloc (.cells #[.int .i64 (k : Int)] 3)) := (Up.refl _).alloc _
        have hty := fun j hj => own_ty (hown.alloc (.cells #[.int .i64 (k : Int)] 3)) j hj
        have hE := (hA.toE 3).trans (UpE.of_grown hgrow (fun j hj => (hty j hj).1))
        have hbr2 := blk_upE hbr (by decide) hE
        have hbe2 := blk_upE hbe (by decide) hE
        have hp2 := pairs_upE hp (by decide) hE
        have hu2 : Up w w2 := Below.grown (hu.alloc _) hgrow (by have := hu.size; simp; omega) (fun j hj => (hty j hj).2)
        obtain ⟨a2, c2, rfl⟩ := own_len hown'
        have cbr2 := hbr2.cell 0
        rw [show ([Value.slice ar (ids adm k).length cr])[0]? = some (.slice ar (ids adm k).length cr) from rfl] at cbr2
        have fbr2 := hbr2.free 0
        have hbr3 := hbr2.set 0 (.slice a2 ((ids adm k).length + 1) c2)
        have hE2 := upE_setCell w2 (w1.heap.size + 1) 0 none (.slice a2 ((ids adm k).length + 1) c2) (blk_ty hbr2)
        have hown3 := own_upE hown' (by decide) hE2
        have hbe3 := blk_upE hbe2 (by decide) hE2
        have hp3 := pairs_upE hp2 (by decide) hE2
        have hu3 := hu2.set (b := w1.heap.size + 1) (by have := hu1.size; omega) 0 none (.slice a2 ((ids adm k).length + 1) c2)
        clear hE hE2 hA hty hgrow hown hown' hbr hbe hp hbr2 hbe2 hp2 cbr
        go_wp2
        go_roundw
        case rel => exact ⟨k + 1, _, by omega, by go_num, hbr3, by rw [IS.out, ← HX.out]; simpa using hown3, hbe3, hp3, hu3⟩
        case measure => simp [intOf]; omega
    · obtain rfl : k = adm.length := by omega
      clear hlt hil hb1 hb2 hp2
      go_wp2
      obtain ⟨wo, rfl⟩ : ∃ wo : World, wo = wr := ⟨_, rfl⟩
      have hbase := hbr.lt
      go_loopw [9] (fun vo wr => ∃ (rem ord : List Int), topo (free edges) rem.length rem ord = some res ∧ rem.length ≤ 40 ∧ ord.length + rem.length ≤ 40 ∧ Left w wr w1.heap.size (w1.heap.size + 1) wo.heap.size ve vo edges rem ord) (fun _ wr => lenAt wr (w1.heap.size + 1))
      case atStart => exact ⟨ids adm adm.length, [], HR.out, Nat.le_trans (ids_len _ _) hl1, by simpa using Nat.le_trans (ids_len _ _) hl1, ⟨hu, hbe, hp, ⟨_, hbr, hown, fun j hj => (own_ty hown j hj).1.lt⟩, World.ownsRow_nil _ _ _ _, ⟨hu.size, Nat.le_refl _⟩, by have := hu1.size; omega⟩⟩
      case round =>
        obtain ⟨rem, ord, ht, hr40, ho40, HLeft⟩ := hrel
        obtain ⟨hu, hbe, hp, ⟨vr, hbr, hown, hgb⟩, hord, ⟨hba, hbb⟩, hbrw⟩ := HLeft
        obtain ⟨ar, cr, rfl⟩ := own_len hown
        have TT := Lib.hid ht
        clear ht
        have cbr := hbr.cell 0
        rw [show ([Value.slice ar rem.length cr])[0]? = some (.slice ar rem.length cr) from rfl] at cbr
        have hlen0 : Hid (lenAt wr (w1.heap.size + 1) = rem.length) := by unfold Hid lenAt; rw [cbr]
        by_cases hn : rem.length = 0
        · have h0 : rem = [] := List.length_eq_zero_iff.1 hn
          subst h0
          have ho : Hid (ord = res) := by have := TT.out; simpa [Hid, topo] using this
          simp only [List.length_nil] at cbr
          go_wp2
          go_ret2
          rw [ho.out] at hord
          exact ⟨_, rfl, own_base hord hba, hu⟩
        · obtain ⟨gr', cr', hs, hgr', htyr⟩ := own_shape hown (by omega)
          simp only [Value.slice.injEq, true_and] at hs
          obtain ⟨rfl, rfl⟩ := hs
          have hgrb := hgb gr' rfl
          obtain ⟨n', hn'⟩ : ∃ n', rem.length = n' + 1 := ⟨rem.length - 1, by omega⟩
          have hpos : 0 < rem.length := by omega
          have TS : Hid (∀ i, rem.findIdx? (free edges rem) = some i → topo (free edges) (rem.eraseIdx i).length (rem.eraseIdx i) (ord ++ [rem.getD i 0]) = some res) := fun i hi => by
            have h := TT.out
            rw [hn', topo, hi] at h
            have hil := (List.findIdx?_eq_some_iff_getElem.1 hi).1
            rw [List.length_eraseIdx_of_lt hil, hn']
            exact h
          have TN : Hid (rem.findIdx? (free edges rem) ≠ none) := fun hi => by
            have h := TT.out
            rw [hn', topo, hi] at h
            cases h
          clear hn hn'
          go_wp2_with fail
          refine (if43s_any w1.heap.size (w1.heap.size + 1) ve _ edges rem rem _ _ (ints_own hown) (hbe.at rfl) (hbr.at rfl) hp (ints_own hown)).mono ?_
          rintro e wA ⟨rfl, huA⟩
          rcases idx_cases (fun x => free edges rem x) rem with ⟨hnone, _⟩ | ⟨i, hsome, hidx, hil⟩
          · exact absurd hnone TN.out
          · rw [hidx]
            have TS2 := Lib.hid (TS.out i hsome)
            clear hidx hsome
            have hownA := own_up hown huA
            have hordA := own_up hord huA
            have hbrA := hbr.up huA
            have hbeA := hbe.up huA
            have hpA := hp.grow pairR_grows huA
            have hupA := Up.trans hu huA
            have cA := hbrA.cell 0
            rw [show ([Value.slice (some ⟨gr', 0, none⟩) rem.length cr])[0]? = some (.slice (some ⟨gr', 0, none⟩) rem.length cr) from rfl] at cA
            have cR := hownA.cellAt i (by omega)
            obtain ⟨y, hy⟩ : ∃ y, y = rem.getD i 0 := ⟨_, rfl⟩
            rw [show (ic rem)[i]? = some (.int .i64 y) by rw [hy]; simp [List.getD, hil]] at cR
            have HY := Lib.hid hy
            obtain ⟨ao, co, rfl⟩ := own_len hord
            clear hy hown hord hbr hbe hp cbr
            go_wp2_with (at_builtin; refine wpList_append_own _ rfl _ _ 22 rfl wo.heap.size 3 i0 (.int .i64 0) 1 8 Try.underlying22 hi hz0 hz1 hz2 rfl (by decide) _ _ _ rfl (hordA.alloc _) ⟨wA.heap.size, 0, none⟩ 1 1 [.int .i64 y] rfl rfl ?d1 ?d2 ?d3 ?d4 ?d5 ?_)
            first | (case d1 => exact cell_one_new2 _ _ _) | skip
            case d2 => first | rfl | (intro u hu; simp at hu; subst hu; rfl)
            case d3 => unfold maxLen; omega
            case d4 => omega
            case d5 => have := huA.size; simp; omega
            intro v' w2 hord' hgrow _
            have hA : Up wA (wA.alloc (.cells #[.int .i64 y] 3)) := (Up.refl _).alloc _
            have hty := fun j hj => own_ty (hordA.alloc (.cells #[.int .i64 y] 3)) j hj
            have hsA := huA.size
            have hE := (hA.toE 3).trans (UpE.of_grown hgrow (fun j hj => (hty j hj).1))
            have hbr2 := blk_upE hbrA (by decide) hE
            have hbe2 := blk_upE hbeA (by decide) hE
            have hp2 := pairs_upE hpA (by decide) hE
            have hown2 := own_grown (own_up hownA hA) hgrow (fun j hj e => by
              have hb := (hty j hj).2
              simp only [Value.ownBlock, Option.some.injEq] at e
              omega)
            have hu2 : Up w w2 := Below.grown (hupA.alloc _) hgrow (by have := hupA.size; simp; omega) (fun j hj => Nat.le_trans hba (hty j hj).2)
            have hsz2 : wo.heap.size ≤ w2.heap.size := by have := hgrow.size; simp at this; omega
            have cbr2 := hbr2.cell 0
            rw [show ([Value.slice (some ⟨gr', 0, none⟩) rem.length cr])[0]? = some (.slice (some ⟨gr', 0, none⟩) rem.length cr) from rfl] at cbr2
            obtain ⟨a2, c2, rfl⟩ := own_len hord'
            clear hA hty hE hgrow hordA hownA hbrA hbeA hpA cA cR
            go_wp2_with fail
            refine (delR gr' cr i w.heap.size rem w2 hown2 hil (by omega)).mono ?_
            rintro e w3 ⟨c3, rfl, hown3, hg3⟩
            obtain ⟨gq, cq, hsq, _, hty3⟩ := own_shape hown2 hpos
            simp only [Value.slice.injEq, Option.some.injEq, Addr.mk.injEq, and_true, true_and] at hsq
            obtain ⟨rfl, rfl⟩ := hsq
            have hE3 : UpE 3 w2 w3 := UpE.of_grown hg3 (fun j hj => by cases hj; exact hty3)
            have hbr3 := blk_upE hbr2 (by decide) hE3
            have hbe3 := blk_upE hbe2 (by decide) hE3
            have hp3 := pairs_upE hp2 (by decide) hE3
            have hord3 := own_grown hord' hg3 (fun j hj e => by
              cases hj
              have := (own_ty hord' gr' e).2
              omega)
            have hu3 : Up w w3 := Below.grown hu2 hg3 hu2.size (fun j hj => by cases hj; exact hgr')
            have cbr3 := hbr3.cell 0
            rw [show ([Value.slice (some ⟨gr', 0, none⟩) rem.length cr])[0]? = some (.slice (some ⟨gr', 0, none⟩) rem.length cr) from rfl] at cbr3
            have fbr3 := hbr3.free 0
            have hbr4 := hbr3.set 0 (.slice (some ⟨gr', 0, none⟩) (rem.length - 1) c3)
            have hE4 := upE_setCell w3 (w1.heap.size + 1) 0 none (.slice (some ⟨gr', 0, none⟩) (rem.length - 1) c3) (blk_ty hbr3)
            have hown4 := own_upE hown3 (by decide) hE4
            have hord4 := own_upE hord3 (by decide) hE4
            have hbe4 := blk_upE hbe3 (by decide) hE4
            have hp4 := pairs_upE hp3 (by decide) hE4
            have hu4 := hu3.set (b := w1.heap.size + 1) hbrw 0 none (.slice (some ⟨gr', 0, none⟩) (rem.length - 1) c3)
            have hsz3 := hg3.size
            have hel : (rem.eraseIdx i).length = rem.length - 1 := List.length_eraseIdx_of_lt hil
            have HEL := Lib.hid hel
            clear hel hE3 hE4 hty3 hg3 hown2 hown3 hord' hord3 hbr2 hbr3 hbe2 hbe3 hp2 hp3 cbr2
            go_wp2
            go_roundw
            case rel =>
              refine ⟨rem.eraseIdx i, ord ++ [rem.getD i 0], TS2.out, by rw [HEL.out]; omega, by rw [HEL.out]; simp; omega, ⟨hu4, hbe4, hp4, ⟨_, hbr4, hown4, fun j hj => by cases hj; exact hgrb⟩, ?_, ⟨hba, by simp; omega⟩, hbrw⟩⟩
              rw [← HY.out]
              simpa using hord4
            case measure =>
              rw [hlen0.out]
              have := hbr4.cell 0
              unfold lenAt
              rw [this]
              show rem.length - 1 < rem.length
              omega
end Go.Proofs.Ytnbhdpmhgamjfaa.C
