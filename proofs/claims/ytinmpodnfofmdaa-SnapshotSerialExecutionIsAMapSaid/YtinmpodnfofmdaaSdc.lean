/- slices.SortFunc and slices.Clone at records. -/
import Derived.Test.YtinmpodnfofmdaaSdb
import Derived.Test.YtinmpodnfofmdaaSdl
namespace Go.Proofs.Ytinmpodnfofmdaa.Sn
open Go Go.RowKit Hp
open Mv (Val PC PV rowC rowC_one fm_len fm_take fm_drop fm_get fm_set fm_one RowIn StR Srt SOk pos has fx_lt fx_up ty_chg has_pos pos_le RM rmC rmC1 rmC_len rmC_get erR RecsR)
open Go.Sort (grow flatK HoldsK)
open Go.Proofs.Ytinmpodnfofmdaa.So (slt scmp scmp_lt slt_irrefl slt_trans slt_asymm slt_total)
set_option linter.unusedVariables false

abbrev RS : Type := { r : RM // ∃ a n c, r.rv = .slice a n c }
instance : Inhabited RS := ⟨⟨⟨ByteArray.empty, .slice none 0 0, []⟩, _, _, _, rfl⟩⟩
def encR (x : RS) : List Value := rmC1 x.1
def toRS (rs : List RM) (h : RvS rs) : Array RS := (rs.attach.map fun r => (⟨r.1, h r.1 r.2⟩ : RS)).toArray
theorem toRS_val (rs : List RM) (h : RvS rs) : (toRS rs h).toList.map (·.1) = rs := by unfold toRS; simp
theorem toRS_size (rs : List RM) (h : RvS rs) : (toRS rs h).size = rs.length := by unfold toRS; simp
theorem flat_get (d : Array RS) (t : Nat) (ht : t < d.size * 2) : (rmC (d.toList.map (·.1)))[t]? = some (flatK encR 2 d)[t]! := by
  rw [Go.Sort.get_flatK _ _ _ _ ht]
  have hl : t / 2 < (d.toList.map (·.1)).length := by simp; omega
  have h := fm_get (f := rmC1) (k := 2) (fun _ => rfl) (d.toList.map (·.1)) (t / 2) (t % 2) hl (by omega)
  have et : t / 2 * 2 + t % 2 = t := by omega
  rw [et] at h
  have hd : t / 2 < d.size := by omega
  have e1 : (d.toList.map (·.1))[t / 2] = d[t / 2]!.1 := by simp [hd]
  rw [e1] at h
  have hm : t % 2 < (rmC1 d[t / 2]!.1).length := by show t % 2 < 2; omega
  have e2 : (rmC1 d[t / 2]!.1)[t % 2]? = some (encR d[t / 2]!)[t % 2]! := by
    show _ = some (rmC1 d[t / 2]!.1)[t % 2]!
    rw [List.getElem!_eq_getElem?_getD, List.getElem?_eq_getElem hm]
    rfl
  exact h.trans e2
theorem sort_own {w : World} {B g n cap m : Nat} {rs : List RM} {d' : Array RS} {os : Array Obj} (h : w.ownsRow B 45 2 (.slice (some ⟨g, 0, none⟩) n cap) n (rmC rs)) (hs : d'.size = n) :
    (sortWorldK encR 2 w g 0 m d' os).ownsRow B 45 2 (.slice (some ⟨g, 0, none⟩) n cap) n (rmC (d'.toList.map (·.1))) ∧ Chg (fun j => j = g) w (sortWorldK encR 2 w g 0 m d' os) := by
  obtain ⟨hx, h⟩ := h
  rcases h with ⟨h0, _⟩ | ⟨g', cap', cur, hv, hb, hg, hn, hc, hcs, ht⟩
  · cases h0
  · simp only [Value.slice.injEq, Option.some.injEq, Addr.mk.injEq, and_true, true_and] at hv
    obtain ⟨rfl, rfl⟩ := hv
    have hgl : g < w.heap.size := Ty.lt ⟨cur, (0, 0), hg⟩
    have hh : (sortWorldK encR 2 w g 0 m d' os).heap = w.heap.modify g (Go.Sort.onCells (Go.Sort.putCells id 0 (flatK encR 2 d'))) ++ os := rfl
    have hnew : (sortWorldK encR 2 w g 0 m d' os).heap[g]? = some (.cells (Go.Sort.putCells id 0 (flatK encR 2 d') cur) 45 (0, 0)) := by
      rw [hh, Array.getElem?_append_left (by simpa using hgl), Array.getElem?_modify, if_pos rfl, hg]
      rfl
    have hlen : (rmC (d'.toList.map (·.1))).length = n * 2 := by rw [rmC_len]; simp [hs]
    refine ⟨⟨hlen, .inr ⟨g, cap, _, rfl, hb, hnew, hn, hc, by simp [Go.Sort.putCells, hcs], ?_⟩⟩, ⟨rfl, rfl, rfl, by rw [hh]; simp, fun k hk hne => ?_⟩⟩
    · refine List.ext_getElem? fun t => ?_
      rw [List.getElem?_take]
      split
      · rename_i htl
        have htc : t < cur.size := by rw [hcs]; have := Nat.mul_le_mul_right 2 hn; omega
        rw [flat_get d' t (by rw [hs]; exact htl)]
        simp only [Go.Sort.putCells, Array.getElem?_toList, Array.getElem?_mapIdx, Array.getElem?_eq_getElem htc, Option.map_some, Nat.zero_le, true_and, Nat.zero_add, Nat.sub_zero, id]
        rw [if_pos (by rw [Go.Sort.size_flatK, hs]; exact htl)]
      · rename_i htl
        rw [List.getElem?_eq_none (by omega)]
    · rw [hh, Array.getElem?_append_left (by simpa using hk), Array.getElem?_modify, if_neg (fun e => hne e.symm)]
theorem hold_own {w : World} {B g n cap : Nat} {rs : List RM} (h : w.ownsRow B 45 2 (.slice (some ⟨g, 0, none⟩) n cap) n (rmC rs)) (hn : 0 < n) (hl : rs.length = n) (hr : RvS rs) : HoldsK encR 2 w g 0 (toRS rs hr) := fun t ht => by
  obtain ⟨g', c', e, _, _, _, hcl, hz⟩ := own_some h hn
  simp only [Value.slice.injEq, Option.some.injEq, Addr.mk.injEq, and_true, true_and] at e
  obtain ⟨rfl, _⟩ := e
  rw [Go.Sort.size_flatK] at ht
  have h2 := flat_get (toRS rs hr) t ht
  rw [toRS_val] at h2
  rw [Nat.zero_add]
  exact ⟨hcl t _ h2, hz t⟩
set_option maxRecDepth 100000 in
set_option maxHeartbeats 1000000 in
theorem cmpR_any (x y : RS) (W : World) : Calls Try.prog 63 #[.agg (encR x).toArray, .agg (encR y).toArray] W fun e w' => e = .returned (.int .i64 (scmp x.1.key y.1.key)) ∧ ∃ q os', w' = grow (W.drewN q) os' := by
  obtain ⟨⟨k1, rv1, r1⟩, a1, n1, c1, e1⟩ := x
  obtain ⟨⟨k2, rv2, r2⟩, a2, n2, c2, e2⟩ := y
  simp only at e1 e2
  subst e1 e2
  show Calls Try.prog 63 #[.agg #[.string k1, .slice a1 n1 c1], .agg #[.string k2, .slice a2 n2 c2]] W _
  have hc := fun W => So.cmp_any k1 k2 W
  show Calls Try.prog _ _ W fun e w' => e = .returned (.int .i64 (scmp k1 k2)) ∧ _
  generalize scmp k1 k2 = r at *
  go_enter Try.func63, Try.ntmps63
  go_wp2_with (first
    | (go_at_call 64; refine (hc _).mono ?_; rintro e w' ⟨rfl, rfl⟩)
    | fail)
  go_ret
  exact ⟨rfl, 0, _, by rw [Go.Sort.alloc_eq_grow, Go.Sort.alloc_eq_grow, Go.Sort.grow_grow]; rfl⟩
theorem swoR : Go.Sort.SWO (Go.Proofs.ltOf fun x y : RS => scmp x.1.key y.1.key) where
  irrefl x := decide_eq_false fun h => slt_irrefl _ (scmp_lt.1 h)
  trans x y z h1 h2 := decide_eq_true (scmp_lt.2 (slt_trans (scmp_lt.1 (of_decide_eq_true h1)) (scmp_lt.1 (of_decide_eq_true h2))))
  ntrans x y z h1 h2 := decide_eq_false fun h => by
    have a1 : ¬ slt x.1.key y.1.key := fun e => of_decide_eq_false h1 (scmp_lt.2 e)
    have a2 : ¬ slt y.1.key z.1.key := fun e => of_decide_eq_false h2 (scmp_lt.2 e)
    have a3 := scmp_lt.1 h
    rcases Decidable.em (slt y.1.key x.1.key) with e | e
    · exact a2 (slt_trans e a3)
    · rw [slt_total a1 e] at a3; exact a2 a3
def SortPost (B : Nat) (v : Value) (rs : List RM) (w : World) (e : Ending) (w' : World) : Prop := e = .returned (.tuple #[]) ∧ ∃ rs', rs'.Perm rs ∧ rs'.Pairwise (fun a b => ¬ slt b.key a.key) ∧ w'.ownsRow B 45 2 v rs.length (rmC rs') ∧ Chg (fun j => v.ownBlock = some j) w w'
theorem sortR_any (B : Nat) (v : Value) (rs : List RM) (w : World) (hown : w.ownsRow B 45 2 v rs.length (rmC rs)) (hr : RvS rs) (hl : rs.length ≤ 1000) :
    Calls Try.prog 62 #[v, .func (.func 63) #[] #[]] w (SortPost B v rs w) := by
  rcases Nat.eq_zero_or_pos rs.length with h0 | h0
  · obtain ⟨a, cap, rfl, _⟩ := own_form hown
    have hn := AnyF.slices_SortFunc_none { Try.sortRec with } a cap (.func (.func 63) #[] #[]) w
    change Calls Try.prog 62 _ _ _ at hn
    rw [h0]
    refine hn.mono ?_
    rintro e w' ⟨rfl, rfl⟩
    have : rs = [] := List.length_eq_zero_iff.1 h0
    subst this
    exact ⟨rfl, [], List.Perm.refl _, List.Pairwise.nil, hown, Chg.refl _ _⟩
  · obtain ⟨g, cap, rfl, h1, h2, hgl, _, _⟩ := own_some hown h0
    have eg : ∀ args w, (callFunc 63 args).run Try.prog w = .ok (.enter 63 args) w := enters_of Try.func63 (by kernel_rfl) rfl
    have hcon := AnyQ.slices_SortFunc { Try.sortRec with } 2 Try.isAgg45 Try.sizeOf45 encR (fun _ => rfl) (fun x u hu => by
      obtain ⟨⟨k, rv, r⟩, a, n, c, e⟩ := x
      simp only at e
      subst e
      simp [encR, rmC1] at hu
      rcases hu with rfl | rfl <;> rfl) (fun x y => scmp x.1.key y.1.key) swoR 63 #[] g 0 cap (toRS rs hr) w eg (fun _ _ _ _ x y => cmpR_any x y _) (hold_own hown h0 rfl hr) hgl (by rw [toRS_size]; omega)
    rw [toRS_size] at hcon
    change Calls Try.prog 62 _ _ _ at hcon
    refine hcon.mono ?_
    rintro e w' ⟨rfl, d', n, os, ⟨hp1, _, hp3⟩, hs, rfl⟩
    rw [toRS_size] at hp1
    obtain ⟨ho, hc⟩ := sort_own (m := n) (os := os) hown hp1
    have e1 : (d'.extract 0 rs.length) = d' := by rw [← hp1]; exact Array.extract_size
    have e2 : ((toRS rs hr).extract 0 rs.length) = toRS rs hr := by rw [← toRS_size rs hr]; exact Array.extract_size
    rw [e1, e2] at hp3
    refine ⟨rfl, d'.toList.map (·.1), by have := hp3.map (·.1); rwa [toRS_val] at this, ?_, ho, hc.mono fun k _ e => by rw [e]; rfl⟩
    refine List.pairwise_iff_getElem.2 fun i j hi hj hij => ?_
    have hi' : i < d'.size := by simpa using hi
    have hj' : j < d'.size := by simpa using hj
    have := hs i j (Nat.zero_le _) hij (by omega)
    rw [getElem!_pos d' i hi', getElem!_pos d' j hj'] at this
    have h3 := of_decide_eq_false this
    simp only [List.getElem_map, Array.getElem_toList]
    exact fun e => h3 (scmp_lt.2 e)

theorem Try.info_cloneRec : (Try.prog.info? 45).map (fun i => (i.zero, i.size, i.bytes)) = some (some (.agg #[.string ByteArray.empty, .slice none 0 0]), 2, 40) := by kernel_rfl
set_option maxRecDepth 100000 in
set_option maxHeartbeats 1000000 in
theorem cloneRec (v : Value) (n : Nat) (xs : List Value) (w : World) (h : Src w 2 v n xs) (h1 : ∀ u ∈ xs, u.oneCell' = true) (hn : n * 40 ≤ 140737488355328) :
    Calls Try.prog 65 #[v] w fun e w' => ∃ v', e = .returned v' ∧ w'.ownsRow w.heap.size 45 2 v' n xs ∧ Up w w' := by
  obtain ⟨i0, hi, hz0, hz1, hz2⟩ := info_parts Try.info_cloneRec
  obtain ⟨hx, h⟩ := h
  have hq := fun (a : Option Addr) (n c n' c' : Nat) (w : World) => Lib.run_eql_slice_nil (P := Try.prog) w 41 45 a n c n' c' Try.underlying41
  rcases h with ⟨rfl, rfl⟩ | ⟨b, off, cap, rfl, hc1, hc2, hc3⟩
  · obtain rfl : xs = [] := List.eq_nil_of_length_eq_zero (by simpa using hx)
    go_enter Try.func65, Try.ntmps65
    go_wp2
    go_ret
    exact ⟨_, rfl, World.ownsRow_nil _ _ _ _, Up.refl _⟩
  · have HX := Lib.hid hx
    have H1 := Lib.hid h1
    have H3 : Hid (∀ j u, xs[j]? = some u → (w.alloc (.cells #[] 45)).cell? ((⟨b, off, none⟩ : Addr).add j) = some u) := fun j u hj => by
      rw [Addr.add_lit]; exact ((hc3 j u hj).grow ((Up.refl w).alloc _)).2
    clear hx hc3 h1
    go_enter Try.func65, Try.ntmps65
    go_wp2_with (at_builtin; refine wpList_append_own _ rfl (.tmp 5) (.tmp 6) 41 rfl w.heap.size 45 i0 (.agg #[.string ByteArray.empty, .slice none 0 0]) 2 40 Try.underlying41 hi hz0 hz1 hz2 rfl (by decide) _ _ _ rfl (own_empty w 45 2) ⟨b, off, none⟩ n cap xs rfl HX.out H3.out H1.out (by unfold maxLen; omega) (by omega) (by simp) ?_)
    intro v' w2 hown hg hnil
    have hnil := Lib.hid hnil
    have hu : Up w w2 := Below.grown ((Up.refl w).alloc (.cells #[] 45)) hg (by simp) fun j hj => by simp [Value.ownBlock] at hj; omega
    clear hg
    go_wp2
    go_ret
    exact ⟨_, rfl, by simpa using hown, hu⟩

end Go.Proofs.Ytinmpodnfofmdaa.Sn
