/- Locks: Held. -/
import Derived.Test.YtbimkciejfbodaaLko
import Derived.Test.YtbimkciejfbodaaLki
namespace Go.Proofs.Ytbimkciejfbodaa.Lk
open Go Go.RowKit Hp
open Go.Sort (grow flatK HoldsK)
open Go.Proofs.Ytbimkciejfbodaa.So (slt scmp scmp_lt scmp_eq slt_irrefl slt_trans slt_asymm slt_total)
set_option linter.unusedVariables false

def cmpL (x y : Lk) : Int := if x.tx ≠ y.tx then x.tx - y.tx else if scmp x.tab y.tab ≠ 0 then scmp x.tab y.tab else scmp x.key y.key
def ltL (x y : Lk) : Prop := x.tx < y.tx ∨ (x.tx = y.tx ∧ (slt x.tab y.tab ∨ (x.tab = y.tab ∧ slt x.key y.key)))
theorem cmpL_lt {x y : Lk} : cmpL x y < 0 ↔ ltL x y := by
  unfold cmpL ltL
  by_cases h : x.tx = y.tx
  · rw [if_neg (fun e => e h)]
    by_cases h2 : scmp x.tab y.tab = 0
    · rw [if_neg (fun e => e h2), scmp_lt]
      have e := scmp_eq.1 h2
      rw [e]
      simp [h, slt_irrefl]
    · rw [if_pos h2, scmp_lt]
      have e : x.tab ≠ y.tab := fun e => h2 (scmp_eq.2 e)
      simp [h, e]
  · rw [if_pos h]
    simp only [h, false_and, or_false]
    omega
theorem ltL_irrefl (x : Lk) : ¬ ltL x x := by
  unfold ltL
  simp [slt_irrefl]
theorem ltL_trans {x y z : Lk} (h : ltL x y) (k : ltL y z) : ltL x z := by
  rcases h with h | ⟨h, h2 | ⟨h2, h3⟩⟩ <;> rcases k with k | ⟨k, k2 | ⟨k2, k3⟩⟩
  · exact .inl (by omega)
  · exact .inl (by omega)
  · exact .inl (by omega)
  · exact .inl (by omega)
  · exact .inr ⟨by omega, .inl (slt_trans h2 k2)⟩
  · exact .inr ⟨by omega, .inl (by rw [← k2]; exact h2)⟩
  · exact .inl (by omega)
  · exact .inr ⟨by omega, .inl (by rw [h2]; exact k2)⟩
  · exact .inr ⟨by omega, .inr ⟨h2.trans k2, slt_trans h3 k3⟩⟩
theorem ltL_total {x y : Lk} (h : ¬ ltL x y) (k : ¬ ltL y x) : x.tx = y.tx ∧ x.tab = y.tab ∧ x.key = y.key := by
  have e1 : x.tx = y.tx := by
    rcases Int.lt_trichotomy x.tx y.tx with e | e | e
    · exact absurd (.inl e) h
    · exact e
    · exact absurd (.inl e) k
  have e2 : x.tab = y.tab := slt_total (fun e => h (.inr ⟨e1, .inl e⟩)) (fun e => k (.inr ⟨e1.symm, .inl e⟩))
  exact ⟨e1, e2, slt_total (fun e => h (.inr ⟨e1, .inr ⟨e2, e⟩⟩)) (fun e => k (.inr ⟨e1.symm, .inr ⟨e2.symm, e⟩⟩))⟩
abbrev LS : Type := { l : Lk // 0 ≤ l.tx ∧ l.tx < 20 }
instance : Inhabited LS := ⟨⟨⟨0, ByteArray.empty, ByteArray.empty, 0⟩, by decide⟩⟩
def encL (x : LS) : List Value := lkC1 x.1
def RgL (l : List Lk) : Prop := ∀ x ∈ l, 0 ≤ x.tx ∧ x.tx < 20
def toLS (rs : List Lk) (h : RgL rs) : Array LS := (rs.attach.map fun r => (⟨r.1, h r.1 r.2⟩ : LS)).toArray
theorem toLS_val (rs : List Lk) (h : RgL rs) : (toLS rs h).toList.map (·.1) = rs := by unfold toLS; simp
theorem toLS_size (rs : List Lk) (h : RgL rs) : (toLS rs h).size = rs.length := by unfold toLS; simp
theorem flat_get (d : Array LS) (t : Nat) (ht : t < d.size * 4) : (lkC (d.toList.map (·.1)))[t]? = some (flatK encL 4 d)[t]! := by
  rw [Go.Sort.get_flatK _ _ _ _ ht]
  have hl : t / 4 < (d.toList.map (·.1)).length := by simp; omega
  have h := fm_get (f := lkC1) (k := 4) (fun _ => rfl) (d.toList.map (·.1)) (t / 4) (t % 4) hl (by omega)
  have et : t / 4 * 4 + t % 4 = t := by omega
  rw [et] at h
  have hd : t / 4 < d.size := by omega
  have e1 : (d.toList.map (·.1))[t / 4] = d[t / 4]!.1 := by simp [hd]
  rw [e1] at h
  have hm : t % 4 < (lkC1 d[t / 4]!.1).length := by show t % 4 < 4; omega
  have e2 : (lkC1 d[t / 4]!.1)[t % 4]? = some (encL d[t / 4]!)[t % 4]! := by
    show _ = some (lkC1 d[t / 4]!.1)[t % 4]!
    rw [List.getElem!_eq_getElem?_getD, List.getElem?_eq_getElem hm]
    rfl
  exact h.trans e2
theorem sort_own {w : World} {B g n cap m : Nat} {rs : List Lk} {d' : Array LS} {os : Array Obj} (h : w.ownsRow B 33 4 (.slice (some ⟨g, 0, none⟩) n cap) n (lkC rs)) (hs : d'.size = n) :
    (sortWorldK encL 4 w g 0 m d' os).ownsRow B 33 4 (.slice (some ⟨g, 0, none⟩) n cap) n (lkC (d'.toList.map (·.1))) ∧ Chg (fun j => j = g) w (sortWorldK encL 4 w g 0 m d' os) := by
  obtain ⟨hx, h⟩ := h
  rcases h with ⟨h0, _⟩ | ⟨g', cap', cur, hv, hb, hg, hn, hc, hcs, ht⟩
  · cases h0
  · simp only [Value.slice.injEq, Option.some.injEq, Addr.mk.injEq, and_true, true_and] at hv
    obtain ⟨rfl, rfl⟩ := hv
    have hgl : g < w.heap.size := Ty.lt ⟨cur, (0, 0), hg⟩
    have hh : (sortWorldK encL 4 w g 0 m d' os).heap = w.heap.modify g (Go.Sort.onCells (Go.Sort.putCells id 0 (flatK encL 4 d'))) ++ os := rfl
    have hnew : (sortWorldK encL 4 w g 0 m d' os).heap[g]? = some (.cells (Go.Sort.putCells id 0 (flatK encL 4 d') cur) 33 (0, 0)) := by
      rw [hh, Array.getElem?_append_left (by simpa using hgl), Array.getElem?_modify, if_pos rfl, hg]
      rfl
    have hlen : (lkC (d'.toList.map (·.1))).length = n * 4 := by rw [lkC_len]; simp [hs]
    refine ⟨⟨hlen, .inr ⟨g, cap, _, rfl, hb, hnew, hn, hc, by simp [Go.Sort.putCells, hcs], ?_⟩⟩, ⟨rfl, rfl, rfl, by rw [hh]; simp, fun k hk hne => ?_⟩⟩
    · refine List.ext_getElem? fun t => ?_
      rw [List.getElem?_take]
      split
      · rename_i htl
        have htc : t < cur.size := by rw [hcs]; have := Nat.mul_le_mul_right 4 hn; omega
        rw [flat_get d' t (by rw [hs]; exact htl)]
        simp only [Go.Sort.putCells, Array.getElem?_toList, Array.getElem?_mapIdx, Array.getElem?_eq_getElem htc, Option.map_some, Nat.zero_le, true_and, Nat.zero_add, Nat.sub_zero, id]
        rw [if_pos (by rw [Go.Sort.size_flatK, hs]; exact htl)]
      · rename_i htl
        rw [List.getElem?_eq_none (by omega)]
    · rw [hh, Array.getElem?_append_left (by simpa using hk), Array.getElem?_modify, if_neg (fun e => hne e.symm)]
theorem hold_own {w : World} {B g n cap : Nat} {rs : List Lk} (h : w.ownsRow B 33 4 (.slice (some ⟨g, 0, none⟩) n cap) n (lkC rs)) (hn : 0 < n) (hl : rs.length = n) (hr : RgL rs) : HoldsK encL 4 w g 0 (toLS rs hr) := fun t ht => by
  obtain ⟨g', c', e, _, _, _, hcl, hz⟩ := own_some h hn
  simp only [Value.slice.injEq, Option.some.injEq, Addr.mk.injEq, and_true, true_and] at e
  obtain ⟨rfl, _⟩ := e
  rw [Go.Sort.size_flatK] at ht
  have h2 := flat_get (toLS rs hr) t ht
  rw [toLS_val] at h2
  rw [Nat.zero_add]
  exact ⟨hcl t _ h2, hz t⟩
theorem swoL : Go.Sort.SWO (Go.Proofs.ltOf fun x y : LS => cmpL x.1 y.1) where
  irrefl x := decide_eq_false fun h => ltL_irrefl _ (cmpL_lt.1 h)
  trans x y z h1 h2 := decide_eq_true (cmpL_lt.2 (ltL_trans (cmpL_lt.1 (of_decide_eq_true h1)) (cmpL_lt.1 (of_decide_eq_true h2))))
  ntrans x y z h1 h2 := decide_eq_false fun h => by
    have a1 : ¬ ltL x.1 y.1 := fun e => of_decide_eq_false h1 (cmpL_lt.2 e)
    have a2 : ¬ ltL y.1 z.1 := fun e => of_decide_eq_false h2 (cmpL_lt.2 e)
    have a3 := cmpL_lt.1 h
    rcases Classical.em (ltL y.1 x.1) with e | e
    · exact a2 (ltL_trans e a3)
    · obtain ⟨e1, e2, e3⟩ := ltL_total a1 e
      refine a2 ?_
      unfold ltL at *
      rw [← e1, ← e2, ← e3]
      exact a3
set_option maxRecDepth 100000 in
set_option maxHeartbeats 1000000 in
theorem cmpL_any (x y : LS) (W : World) : Calls Try.prog 52 #[.agg (encL x).toArray, .agg (encL y).toArray] W fun e w' => e = .returned (.int .i64 (cmpL x.1 y.1)) ∧ ∃ q os', w' = grow (W.drewN q) os' := by
  obtain ⟨⟨t1, a1, k1, m1⟩, hx0, hx1⟩ := x
  obtain ⟨⟨t2, a2, k2, m2⟩, hy0, hy1⟩ := y
  simp only at hx0 hx1 hy0 hy1
  show Calls Try.prog 52 #[.agg #[.int .i64 t1, .string a1, .string k1, .int .i64 m1], .agg #[.int .i64 t2, .string a2, .string k2, .int .i64 m2]] W fun e w' => e = .returned (.int .i64 (if t1 ≠ t2 then t1 - t2 else if scmp a1 a2 ≠ 0 then scmp a1 a2 else scmp k1 k2)) ∧ _
  have hc1 := Lib.hid (fun W => So.cmp_any a1 a2 W)
  have hc2 := Lib.hid (fun W => So.cmp_any k1 k2 W)
  have GR : Hid (∃ q os', ((W.alloc (.cells #[.int .i64 t1, .string a1, .string k1, .int .i64 m1] 33)).alloc (.cells #[.int .i64 t2, .string a2, .string k2, .int .i64 m2] 33)) = grow (W.drewN q) os') := ⟨0, _, by rw [Go.Sort.alloc_eq_grow, Go.Sort.alloc_eq_grow, Go.Sort.grow_grow]; rfl⟩
  generalize scmp a1 a2 = r1 at *
  generalize scmp k1 k2 = r2 at *
  have hwr : IntKind.i64.wrap (t1 - t2) = t1 - t2 := IntWalk.i64_in _ (by omega)
  by_cases h1 : t1 = t2
  · subst h1
    rw [if_neg (fun e => e rfl)]
    by_cases h2 : r1 = 0
    · subst h2
      rw [if_neg (fun e => e rfl)]
      go_enter Try.func52, Try.ntmps52
      go_wp2_with (first
        | (go_at_call 53; refine (hc1.out _).mono ?_; rintro e w' ⟨rfl, rfl⟩)
        | (go_at_call 53; refine (hc2.out _).mono ?_; rintro e w' ⟨rfl, rfl⟩)
        | fail)
      go_ret
      exact ⟨rfl, GR.out⟩
    · rw [if_pos h2]
      have h2b : (r1 == 0) = false := beq_eq_false_iff_ne.2 h2
      go_enter Try.func52, Try.ntmps52
      go_wp2_with (first
        | (go_at_call 53; refine (hc1.out _).mono ?_; rintro e w' ⟨rfl, rfl⟩)
        | fail)
      go_ret
      exact ⟨rfl, GR.out⟩
  · rw [if_pos h1]
    have h1b : (t1 == t2) = false := beq_eq_false_iff_ne.2 h1
    go_enter Try.func52, Try.ntmps52
    go_wp2
    go_ret
    exact ⟨rfl, GR.out⟩
end Go.Proofs.Ytbimkciejfbodaa.Lk
