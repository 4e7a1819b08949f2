/- SerialOrder. -/
import Derived.Test.YtfpegnlmpicekaaC21
namespace Go.Proofs.Ytfpegnlmpicekaa.C
open Go Go.RowKit Hp
set_option linter.unusedVariables false

/-- What SerialOrder answers. -/
def OrdE (w w' : World) (r : Option (List Int)) (e : Ending) : Prop :=
  (∀ res, r = some res → ∃ v, e = .returned (.tuple #[v, .int .i64 0]) ∧ w'.ownsRow w.heap.size 3 1 v res.length (ic res)) ∧ (r = none → e = .returned (.tuple #[.slice none 0 0, .int .i64 14]))
def orderOf (l : List Hop) : Option (List Int) := topo (fm (cfN l l.length)) (tids l 20).length (tids l 20) []

structure Left2 (w0 wr : World) (bm br base : Nat) (vo : Value) (M : Nat → Bool) (rem ord : List Int) : Prop where
  up : Up w0 wr
  m : Blk wr bm (mcells M) 72
  r : ∃ vr, Blk wr br [vr] 22 ∧ wr.ownsRow w0.heap.size 3 1 vr rem.length (ic rem) ∧ ∀ k, vr.ownBlock = some k → k < base
  o : wr.ownsRow base 3 1 vo ord.length (ic ord)
  base : w0.heap.size ≤ base ∧ base ≤ wr.heap.size
  br : w0.heap.size ≤ br
  rg : ∀ t ∈ rem, 0 ≤ t ∧ t < 20

set_option maxRecDepth 100000 in
set_option maxHeartbeats 4000000 in
theorem sorder_any (vt : Value) (l : List Hop) (w : World) (ht : Hops w vt l) (hv' : HValid l) :
    Calls Try.prog 24 #[vt] w fun e w' => OrdE w w' (orderOf l) e ∧ Up w w' := by
  obtain ⟨i0, hi, hz0, hz1, hz2⟩ := info_parts Try.info3
  obtain ⟨hz, hs72⟩ := zero_of_info Try.zero72
  obtain ⟨R, hR⟩ : ∃ R, R = orderOf l := ⟨_, rfl⟩
  rw [← hR]
  have HR : Hid (topo (fm (cfN l l.length)) (tids l 20).length (tids l 20) [] = R) := hR.symm
  clear hR
  have HT := Lib.hid ht
  have HV := Lib.hid hv'
  obtain ⟨a, cap, rfl, h1, h2, _, h3⟩ := ht
  have HZ := Lib.hid hz
  have HS : Hid ((Try.prog.info? 72).map (·.size) = some (mcells (cfN l l.length)).toArray.size) := by unfold Hid; rw [hs72]; simp [mcells_len]
  have HA := Lib.hid (mcells_one (cfN l l.length))
  have HE : Hid ((mcells fun _ => false).toArray.size = (mcells (cfN l l.length)).toArray.size) := by simp [Hid, mcells_len]
  have HG := Lib.hid (tids_range l)
  have hl20 := tids_len l 20
  clear h3 hv' hz hs72
  generalize hM : cfN l l.length = M at *
  have HT2 : Hid (∀ w', Up w w' → Hops w' (.slice a l.length cap) l) := fun w' h => HT.out.grow hopR_grows h
  go_enter Try.func24, Try.ntmps24
  go_wp2_with (first | (go_at_call 40; refine (hcheck_any _ l _ HT.out HV.out).mono ?_; rintro e w1 ⟨rfl, hu1⟩) | (go_at_call 41; refine (conflicts_any _ l _ (HT2.out _ (by assumption)) HV.out).mono ?_; rintro e w2 ⟨rfl, hu2⟩; rw [hM]) | (go_at_call 42; refine (trans_any _ l _ (HT2.out _ (Up.alloc (Up.trans (by assumption) (by assumption)) _))).mono ?_; rintro e w3 ⟨vt, rfl, hown, hu3⟩; obtain ⟨ae, ce, rfl⟩ := own_len hown) | (with_reducible refine wl_alloc rfl 72 rfl _ HZ.out ?_) | (refine wl_store_new rfl 72 _ _ rfl _ (mcells M).toArray rfl rfl HS.out HE.out HA.out ?_))
  have hw2 := (hu1.trans hu2).size
  have hm2 := Blk.new w2 (mcells M).toArray 72
  have hum2 : Up w (w2.alloc (.cells (mcells M).toArray 72)) := (hu1.trans hu2).alloc _
  have hw3 := hu3.size
  rw [World.size_alloc] at hw3
  have hown' := own_base (base' := w.heap.size) hown (by rw [World.size_alloc]; omega)
  obtain ⟨wo, hwo⟩ : ∃ wo : World, wo = w3.alloc (.cells #[.slice ae (tids l 20).length ce] 22) := ⟨_, rfl⟩
  have hmo : Blk wo w2.heap.size (mcells M) 72 := hwo ▸ (hm2.up hu3).up ((Up.refl _).alloc _)
  have hro : Blk wo w3.heap.size [.slice ae (tids l 20).length ce] 22 := hwo ▸ Blk.new w3 _ _
  have howno : wo.ownsRow w.heap.size 3 1 (.slice ae (tids l 20).length ce) (tids l 20).length (ic (tids l 20)) := hwo ▸ own_up hown' ((Up.refl _).alloc _)
  have huo : Up w wo := hwo ▸ (hum2.trans hu3).alloc _
  rw [← hwo]
  clear hwo hown hown' hum2 hm2 hM
  have hbase := hro.lt
  go_loopw [7] (fun vo wr => ∃ (rem ord : List Int), topo (fm M) rem.length rem ord = R ∧ rem.length ≤ 40 ∧ ord.length + rem.length ≤ 40 ∧ Left2 w wr w2.heap.size w3.heap.size wo.heap.size vo M rem ord) (fun _ wr => lenAt wr w3.heap.size)
  case atStart => exact ⟨tids l 20, [], HR.out, by omega, by simp; omega, ⟨huo, hmo, ⟨_, hro, howno, fun j hj => (own_ty howno j hj).1.lt⟩, World.ownsRow_nil _ _ _ _, ⟨huo.size, Nat.le_refl _⟩, by omega, HG.out⟩⟩
  case round =>
    clear huo hmo hro howno
    obtain ⟨rem, ord, ht, hr40, ho40, HLeft⟩ := hrel
    obtain ⟨hu, hme, ⟨vr, hbr, hown, hgb⟩, hord, ⟨hba, hbb⟩, hbrw, hrg⟩ := HLeft
    obtain ⟨ar, cr, rfl⟩ := own_len hown
    have TT := Lib.hid ht
    have RG := Lib.hid hrg
    clear ht hrg
    have cbr := hbr.cell 0
    rw [show ([Value.slice ar rem.length cr])[0]? = some (.slice ar rem.length cr) from rfl] at cbr
    have hlen0 : Hid (lenAt wr w3.heap.size = rem.length) := by unfold Hid lenAt; rw [cbr]
    by_cases hn : rem.length = 0
    · have h0 : rem = [] := List.length_eq_zero_iff.1 hn
      subst h0
      have ho : Hid (R = some ord) := by have := TT.out; simpa [Hid, topo] using this.symm
      simp only [List.length_nil] at cbr
      go_wp2
      go_ret2
      refine ⟨⟨fun res hres => ?_, fun hnone => ?_⟩, hu⟩
      · rw [ho.out] at hres
        cases hres
        exact ⟨_, rfl, own_base hord hba⟩
      · rw [ho.out] at hnone; cases hnone
    · obtain ⟨gr', cr', hs, hgr', htyr⟩ := own_shape hown (by omega)
      simp only [Value.slice.injEq, true_and] at hs
      obtain ⟨rfl, rfl⟩ := hs
      have hgrb := hgb gr' rfl
      obtain ⟨n', hn'⟩ : ∃ n', rem.length = n' + 1 := ⟨rem.length - 1, by omega⟩
      have hpos : 0 < rem.length := by omega
      have TS : Hid (∀ i, rem.findIdx? (fm M rem) = some i → topo (fm M) (rem.eraseIdx i).length (rem.eraseIdx i) (ord ++ [rem.getD i 0]) = R) := fun i hi => by
        have h := TT.out
        rw [hn', topo, hi] at h
        have hil := (List.findIdx?_eq_some_iff_getElem.1 hi).1
        rw [List.length_eraseIdx_of_lt hil, hn']
        exact h
      have TN : Hid (rem.findIdx? (fm M rem) = none → R = none) := fun hi => by
        have h := TT.out
        rw [hn', topo, hi] at h
        exact h.symm
      clear hn hn'
      go_wp2_with fail
      refine (if44_any w3.heap.size w2.heap.size _ rem M rem _ _ (tis_own hown RG.out) (hbr.at rfl) (tis_own hown RG.out) hme).mono ?_
      rintro e wA ⟨rfl, huA⟩
      rcases idx_cases (fun x => fm M rem x) rem with ⟨hnone, hidx⟩ | ⟨i, hsome, hidx, hil⟩
      · rw [hidx]
        have TN2 := Lib.hid (TN.out hnone)
        have hupA := Up.trans hu huA
        clear hnone hidx
        go_wp2
        go_ret2
        refine ⟨⟨fun res hres => ?_, fun _ => rfl⟩, hupA⟩
        rw [TN2.out] at hres; cases hres
      · rw [hidx]
        have TS2 := Lib.hid (TS.out i hsome)
        clear hidx hsome
        have hownA := own_up hown huA
        have hordA := own_up hord huA
        have hbrA := hbr.up huA
        have hmA := hme.up huA
        have hupA := Up.trans hu huA
        have cA := hbrA.cell 0
        rw [show ([Value.slice (some ⟨gr', 0, none⟩) rem.length cr])[0]? = some (.slice (some ⟨gr', 0, none⟩) rem.length cr) from rfl] at cA
        have cR := hownA.cellAt i (by omega)
        obtain ⟨y, hy⟩ : ∃ y, y = rem.getD i 0 := ⟨_, rfl⟩
        rw [show (ic rem)[i]? = some (.int .i64 y) by rw [hy]; simp [List.getD, hil]] at cR
        have HY := Lib.hid hy
        obtain ⟨ao, co, rfl⟩ := own_len hord
        clear hy hown hord hbr hme cbr
        go_wp2_with (at_builtin; refine wpList_append_own _ rfl _ _ 22 rfl wo.heap.size 3 i0 (.int .i64 0) 1 8 Try.underlying22 hi hz0 hz1 hz2 rfl (by decide) _ _ _ rfl (hordA.alloc _) ⟨wA.heap.size, 0, none⟩ 1 1 [.int .i64 y] rfl rfl ?d1 ?d2 ?d3 ?d4 ?d5 ?_)
        first | (case d1 => exact cell_one_new2 _ _ _) | skip
        case d2 => first | rfl | (intro u hu; simp at hu; subst hu; rfl)
        case d3 => unfold maxLen; omega
        case d4 => omega
        case d5 => have := huA.size; simp; omega
        intro v' w2' hord' hgrow _
        have hA : Up wA (wA.alloc (.cells #[.int .i64 y] 3)) := (Up.refl _).alloc _
        have hty := fun j hj => own_ty (hordA.alloc (.cells #[.int .i64 y] 3)) j hj
        have hsA := huA.size
        have hE := (hA.toE 3).trans (UpE.of_grown hgrow (fun j hj => (hty j hj).1))
        have hbr2 := blk_upE hbrA (by decide) hE
        have hm2 := blk_upE hmA (by decide) hE
        have hown2 := own_grown (own_up hownA hA) hgrow (fun j hj e => by
          have hb := (hty j hj).2
          simp only [Value.ownBlock, Option.some.injEq] at e
          omega)
        have hu2 : Up w w2' := Below.grown (hupA.alloc _) hgrow (by have := hupA.size; simp; omega) (fun j hj => Nat.le_trans hba (hty j hj).2)
        have hsz2 : wo.heap.size ≤ w2'.heap.size := by have := hgrow.size; simp at this; omega
        have cbr2 := hbr2.cell 0
        rw [show ([Value.slice (some ⟨gr', 0, none⟩) rem.length cr])[0]? = some (.slice (some ⟨gr', 0, none⟩) rem.length cr) from rfl] at cbr2
        obtain ⟨a2, c2, rfl⟩ := own_len hord'
        clear hA hty hE hgrow hordA hownA hbrA hmA cA cR
        go_wp2_with fail
        refine (del_any gr' cr i w.heap.size rem w2' hown2 hil).mono ?_
        rintro e w3' ⟨rfl, hown3, hg3⟩
        obtain ⟨gq, cq, hsq, _, hty3⟩ := own_shape hown2 hpos
        simp only [Value.slice.injEq, Option.some.injEq, Addr.mk.injEq, and_true, true_and] at hsq
        obtain ⟨rfl, rfl⟩ := hsq
        have hE3 : UpE 3 w2' w3' := UpE.of_grown hg3 (fun j hj => by cases hj; exact hty3)
        have hbr3 := blk_upE hbr2 (by decide) hE3
        have hm3 := blk_upE hm2 (by decide) hE3
        have hord3 := own_grown hord' hg3 (fun j hj e => by
          cases hj
          have := (own_ty hord' gr' e).2
          omega)
        have hu3 : Up w w3' := Below.grown hu2 hg3 hu2.size (fun j hj => by cases hj; exact hgr')
        have cbr3 := hbr3.cell 0
        rw [show ([Value.slice (some ⟨gr', 0, none⟩) rem.length cr])[0]? = some (.slice (some ⟨gr', 0, none⟩) rem.length cr) from rfl] at cbr3
        have fbr3 := hbr3.free 0
        have hbr4 := hbr3.set 0 (.slice (some ⟨gr', 0, none⟩) (rem.length - 1) cr)
        have hE4 := upE_setCell w3' w3.heap.size 0 none (.slice (some ⟨gr', 0, none⟩) (rem.length - 1) cr) (blk_ty hbr3)
        have hown4 := own_upE hown3 (by decide) hE4
        have hord4 := own_upE hord3 (by decide) hE4
        have hm4 := blk_upE hm3 (by decide) hE4
        have hu4 := hu3.set (b := w3.heap.size) hbrw 0 none (.slice (some ⟨gr', 0, none⟩) (rem.length - 1) cr)
        have hsz3 := hg3.size
        have hel : (rem.eraseIdx i).length = rem.length - 1 := List.length_eraseIdx_of_lt hil
        have HEL := Lib.hid hel
        have RG2 : Hid (∀ t ∈ rem.eraseIdx i, 0 ≤ t ∧ t < 20) := fun t ht => RG.out t (List.eraseIdx_subset ht)
        clear hel hE3 hE4 hty3 hg3 hown2 hown3 hord' hord3 hbr2 hbr3 hm2 hm3 cbr2
        go_wp2
        go_roundw
        case rel =>
          refine ⟨rem.eraseIdx i, ord ++ [rem.getD i 0], TS2.out, by rw [HEL.out]; omega, by rw [HEL.out]; simp; omega, ⟨hu4, hm4, ⟨_, hbr4, hown4, fun j hj => by cases hj; exact hgrb⟩, ?_, ⟨hba, by simp; omega⟩, hbrw, RG2.out⟩⟩
          rw [← HY.out]
          simpa using hord4
        case measure =>
          rw [hlen0.out]
          have := hbr4.cell 0
          unfold lenAt
          rw [this]
          show rem.length - 1 < rem.length
          omega
end Go.Proofs.Ytfpegnlmpicekaa.C
