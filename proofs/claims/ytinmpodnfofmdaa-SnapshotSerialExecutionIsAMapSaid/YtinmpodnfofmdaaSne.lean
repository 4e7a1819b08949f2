/- The snapshot database: index. -/
import Derived.Test.YtinmpodnfofmdaaSnd
namespace Go.Proofs.Ytinmpodnfofmdaa.Sn
open Go Go.RowKit Hp So
open Mv (Val PC PV rowC fm_len fm_take fm_drop fm_get fm_set fm_one RowIn StR Srt pos has)
set_option linter.unusedVariables false

theorem mtC_get (l : List MT) (i : Nat) (h : i < l.length) : (mtC l)[i * 3]? = some (.int .i64 l[i].id) ∧ (mtC l)[i * 3 + 1]? = some (.int .i64 l[i].start) ∧ (mtC l)[i * 3 + 2]? = some l[i].wv :=
  ⟨by have := fm_get (f := mtC1) (k := 3) (fun _ => rfl) l i 0 h (by omega); simpa [mtC, mtC1] using this, by have := fm_get (f := mtC1) (k := 3) (fun _ => rfl) l i 1 h (by omega); simpa [mtC, mtC1] using this, by have := fm_get (f := mtC1) (k := 3) (fun _ => rfl) l i 2 h (by omega); simpa [mtC, mtC1] using this⟩
theorem mwC_get (l : List MW) (i : Nat) (h : i < l.length) : (mwC l)[i * 3]? = some (.string l[i].key) ∧ (mwC l)[i * 3 + 1]? = some (.bool l[i].del) ∧ (mwC l)[i * 3 + 2]? = some l[i].rv :=
  ⟨by have := fm_get (f := mwC1) (k := 3) (fun _ => rfl) l i 0 h (by omega); simpa [mwC, mwC1] using this, by have := fm_get (f := mwC1) (k := 3) (fun _ => rfl) l i 1 h (by omega); simpa [mwC, mwC1] using this, by have := fm_get (f := mwC1) (k := 3) (fun _ => rfl) l i 2 h (by omega); simpa [mwC, mwC1] using this⟩
/-- Where transaction id stands; -1 where it is not active. -/
def tidx (l : List Tr) (id : Int) : Int := idx (fun t : Tr => decide (t.id = id)) l
set_option maxRecDepth 100000 in
set_option maxHeartbeats 1000000 in
theorem ix_one (x : MT) (id : Int) (b : Nat) (w : World) (hb : At w b 0 (.int .i64 id)) (c : Option Addr) (n cp : Nat) : Calls Try.prog 72 #[.agg #[.int .i64 x.id, .int .i64 x.start, .slice c n cp], .pointer (some ⟨b, 0, none⟩)] w fun e w' => e = .returned (.bool (decide (x.id = id))) ∧ Up w w' := by
  have HB := Lib.hid hb
  have e1 := (hb.grow ((Up.refl w).alloc (.cells #[.int .i64 x.id, .int .i64 x.start, .slice c n cp] 102))).2
  generalize x.id = i at *
  generalize x.start = s at *
  by_cases hq : i = id
  · have h1 : ((i : Int) == id) = true := by simp [hq]
    have HQ := Lib.hid hq
    clear hq hb
    go_enter Try.func72, Try.ntmps72
    go_wp2
    go_ret
    exact ⟨by rw [decide_eq_true HQ.out]; rfl, (Up.refl w).alloc _⟩
  · have h1 : ((i : Int) == id) = false := beq_eq_false_iff_ne.2 hq
    have HQ := Lib.hid hq
    clear hq hb
    go_enter Try.func72, Try.ntmps72
    go_wp2
    go_ret
    exact ⟨by rw [decide_eq_false HQ.out]; rfl, (Up.refl w).alloc _⟩
set_option maxRecDepth 100000 in
set_option maxHeartbeats 2000000 in
theorem ixfn_any (v : Value) (ts : List MT) (id : Int) (b : Nat) (w : World) (hown : w.ownsRow 0 102 3 v ts.length (mtC ts)) (hw : ∀ t ∈ ts, ∃ a n c, t.wv = .slice a n c) (hb : At w b 0 (.int .i64 id)) (hl : ts.length ≤ 1000) :
    Calls Try.prog 71 #[v, .func (.func 72) #[] #[.pointer (some ⟨b, 0, none⟩)]] w fun e w' => e = .returned (.int .i64 (idx (fun t : MT => decide (t.id = id)) ts)) ∧ Up w w' := by
  have HO := Lib.hid hown
  have HWV := Lib.hid hw
  have HB := Lib.hid hb
  obtain ⟨a, cap, rfl, _, _, _⟩ := own_form hown
  clear hown hw hb
  go_enter Try.func71, Try.ntmps71
  go_wp2
  go_loopw [8] (fun iv wr => ∃ k : Nat, k ≤ ts.length ∧ iv = .int .i64 k ∧ Hid (Up w wr) ∧ Hid (∀ j (h : j < ts.length), j < k → decide (ts[j].id = id) = false)) (fun iv _ => ts.length - (intOf iv).toNat)
  case atStart => exact ⟨0, by omega, rfl, Up.refl _, fun j h hj => by omega⟩
  case round =>
    obtain ⟨k, hk, rfl, HU, HN⟩ := hrel
    by_cases hlt : k < ts.length
    · obtain ⟨g, cap', hv, _, _, hc⟩ := Mv.own_cell (own_up HO.out HU.out) (by omega)
      simp only [Value.slice.injEq] at hv
      obtain ⟨rfl, _, rfl⟩ := hv
      obtain ⟨g0, g1, g2⟩ := mtC_get ts k hlt
      obtain ⟨wa, wn, wc, hwv⟩ := HWV.out _ (List.getElem_mem hlt)
      rw [hwv] at g2
      have e0 := (hc _ _ g0).2
      have e1 := (hc _ _ g1).2
      have e2 := (hc _ _ g2).2
      have HONE := Lib.hid (ix_one ts[k] id b wr (HB.out.grow HU.out) wa wn wc)
      have bk : (k : Int) < (ts.length : Int) := by omega
      have HT : Hid (∀ (h : k < ts.length), decide (ts[k].id = id) = true → idx (fun t : MT => decide (t.id = id)) ts = (k : Int)) := fun h he => idx_hit h he HN.out
      have HF : Hid (decide (ts[k].id = id) = false → ∀ j (h : j < ts.length), j < k + 1 → decide (ts[j].id = id) = false) := fun he j h hj => by
        rcases Nat.lt_or_ge j k with h1 | h1
        · exact HN.out j h h1
        · obtain rfl : j = k := by omega
          exact he
      cases hd : decide (ts[k].id = id) with
      | true =>
        rw [hd] at HONE
        have HE := Lib.hid (HT.out hlt hd)
        generalize ts[k].id = x at *
        generalize ts[k].start = y at *
        clear hc g0 g1 g2 hwv hd HT HF
        go_wp2_with (first
          | (go_at_call 72; refine HONE.out.mono ?_; rintro e w2 ⟨rfl, h2⟩; have U2 := Lib.hid (HU.out.trans h2); clear h2)
          | fail)
        go_ret
        exact ⟨by rw [HE.out]; rfl, U2.out⟩
      | false =>
        rw [hd] at HONE
        have HE := Lib.hid (HF.out hd)
        generalize ts[k].id = x at *
        generalize ts[k].start = y at *
        clear hc g0 g1 g2 hwv hd HT HF
        go_wp2_with (first
          | (go_at_call 72; refine HONE.out.mono ?_; rintro e w2 ⟨rfl, h2⟩; have U2 := Lib.hid (HU.out.trans h2); clear h2)
          | fail)
        go_roundw
        case rel => exact ⟨k + 1, by omega, by go_num, U2.out, HE.out⟩
        case measure => simp [intOf]; omega
    · obtain rfl : k = ts.length := by omega
      have HE : Hid (idx (fun t : MT => decide (t.id = id)) ts = -1) := idx_miss fun j h => HN.out j h h
      go_wp2
      go_ret
      exact ⟨by rw [HE.out]; rfl, HU.out⟩
end Go.Proofs.Ytinmpodnfofmdaa.Sn
