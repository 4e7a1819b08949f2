/- The multi-version store: search, Len, Latest. -/
import Derived.Test.YtinmpodnfofmdaaMvd
import Derived.IntWalk
namespace Go.Proofs.Ytinmpodnfofmdaa.Mv
open Go Go.RowKit Hp So
set_option linter.unusedVariables false

theorem mcC_get (cs : List MC) (i : Nat) (h : i < cs.length) : (mcC cs)[i * 2]? = some (.string cs[i].key) ∧ (mcC cs)[i * 2 + 1]? = some cs[i].vv :=
  ⟨by have := fm_get (f := mcC1) (k := 2) (fun _ => rfl) cs i 0 h (by omega); simpa [mcC, mcC1] using this, by have := fm_get (f := mcC1) (k := 2) (fun _ => rfl) cs i 1 h (by omega); simpa [mcC, mcC1] using this⟩
theorem mvC_get (l : List MV) (i : Nat) (h : i < l.length) : (mvC l)[i * 3]? = some (.int .i64 l[i].ts) ∧ (mvC l)[i * 3 + 1]? = some (.bool l[i].tomb) ∧ (mvC l)[i * 3 + 2]? = some l[i].rv :=
  ⟨by have := fm_get (f := mvC1) (k := 3) (fun _ => rfl) l i 0 h (by omega); simpa [mvC, mvC1] using this, by have := fm_get (f := mvC1) (k := 3) (fun _ => rfl) l i 1 h (by omega); simpa [mvC, mvC1] using this, by have := fm_get (f := mvC1) (k := 3) (fun _ => rfl) l i 2 h (by omega); simpa [mvC, mvC1] using this⟩
/-- A cell of a row that is owned. -/
theorem own_cell {w : World} {base : Nat} {E : TypeId} {size : Nat} {v : Value} {n : Nat} {xs : List Value} (h : w.ownsRow base E size v n xs) (hn : 0 < n) : ∃ g cap, v = .slice (some ⟨g, 0, none⟩) n cap ∧ n ≤ cap ∧ cap ≤ 9223372036854775807 ∧ ∀ j u, xs[j]? = some u → At w g j u := by
  obtain ⟨g, cap, hv, h1, h2, h3, h4, _⟩ := own_some h hn
  exact ⟨g, cap, hv, h1, h2, fun j u hj => ⟨h3, h4 j u hj⟩⟩
theorem vs_len_le {l : List PC} {i : Nat} (h : i < l.length) : l[i].2.length ≤ cnt l := by
  unfold cnt
  induction l generalizing i with
  | nil => simp at h
  | cons a l ih => cases i with
    | zero => simp
    | succ i => have := ih (i := i) (by simpa using h); simp at *; omega
theorem len_le_cnt {l : List PC} (h : ∀ c ∈ l, c.2 ≠ []) : l.length ≤ cnt l := by
  unfold cnt
  induction l with
  | nil => simp
  | cons a l ih =>
    have h1 : 0 < a.2.length := List.length_pos_iff.2 (h a (List.mem_cons_self ..))
    have h2 := ih fun c hc => h c (List.mem_cons_of_mem _ hc)
    simp only [List.map_cons, List.sum_cons, List.length_cons]
    omega
theorem SOk.len {l : List PC} {hz : Int} (h : SOk l hz) : l.length ≤ 400 := Nat.le_trans (len_le_cnt h.ne) h.cnt

set_option maxRecDepth 100000 in
set_option maxHeartbeats 1000000 in
theorem search_any (p : Nat) (l : List PC) (hz : Int) (F : Nat → Prop) (t : ByteArray) (w : World) (h : StR w p l hz F) :
    Calls Try.prog 46 #[.pointer (some ⟨p, 0, none⟩), .string t] w fun e w' => e = .returned (.tuple #[.int .i64 (pos l t : Nat), .bool (has l t)]) ∧ Up w w' := by
  obtain ⟨cv, cs, h, rfl, ok⟩ := h
  have hlen := ok.len
  rw [List.length_map] at hlen
  have hc : Calls Try.prog 66 #[cv, .string t, .func (.func 67) #[] #[]] w fun e w' => e = .returned (.tuple #[.int .i64 (pos (cs.map erC) t : Nat), .bool (has (cs.map erC) t)]) ∧ Up w w' := by
    refine (bs_any cv cs.length (mcC cs) (fun i => ((cs.map erC).getD i (t, [])).1) (fun i => (cs.map (·.vv)).getD i undef) t w h.chn (by omega) (fun i hi => ?_) (fun a b h1 h2 h3 => mono_scmp ok.srt t (t, []) a b h1 (by rw [List.length_map]; exact h2) h3)).mono ?_
    · have := mcC_get cs i hi
      simp only [List.getD, List.getElem?_map, List.getElem?_eq_getElem hi, Option.map_some, Option.getD_some]
      exact this
    · rintro e w' ⟨i, h1, h2, h3, rfl, h4⟩
      obtain ⟨e1, e2⟩ := pos_get (l := cs.map erC) (x := []) (by rw [List.length_map]; exact h1) h2 (fun j a b => h3 j a (by rw [List.length_map] at b; exact b))
      rw [List.length_map] at e2
      exact ⟨by rw [e1, ← e2], h4⟩
  have c0 := h.blk.cell 0
  rw [show ([cv, .int .i64 hz])[0]? = some cv from rfl] at c0
  clear h ok
  go_enter Try.func46, Try.ntmps46
  go_wp2_with (go_at_call 66; refine hc.mono ?_; rintro e w' ⟨rfl, h4⟩)
  go_wp2
  go_ret2
  exact ⟨rfl, h4⟩

theorem cnt_take (l : List PC) (k : Nat) (h : k < l.length) : cnt (l.take (k + 1)) = cnt (l.take k) + l[k].2.length := by
  unfold cnt
  rw [List.take_succ_eq_append_getElem h, List.map_append, List.sum_append]; simp
theorem cnt_take_le (l : List PC) (k : Nat) : cnt (l.take k) ≤ cnt l := by
  have : cnt l = cnt (l.take k) + cnt (l.drop k) := by unfold cnt; rw [← List.sum_append, ← List.map_append, List.take_append_drop]
  omega

set_option maxRecDepth 100000 in
set_option maxHeartbeats 1000000 in
theorem len_any (p : Nat) (l : List PC) (hz : Int) (F : Nat → Prop) (w : World) (h : StR w p l hz F) :
    Calls Try.prog 30 #[.pointer (some ⟨p, 0, none⟩)] w fun e w' => e = .returned (.int .i64 (cnt l)) ∧ Up w w' := by
  obtain ⟨cv, cs, h, hl, ok⟩ := h
  have hlen := ok.len
  have hcnt := ok.cnt
  have hll : cs.length = l.length := by rw [← hl, List.length_map]
  have HL := Lib.hid hl
  have HLL := Lib.hid hll
  have HS := Lib.hid h
  obtain ⟨a, cap, rfl, _, _, _⟩ := own_form h.chn
  have c0 := h.blk.cell 0
  rw [show ([Value.slice a cs.length cap, .int .i64 hz])[0]? = some (.slice a cs.length cap) from rfl] at c0
  clear h ok hl
  have hlb : cs.length ≤ 400 := by omega
  clear hll
  go_enter Try.func30, Try.ntmps30
  go_wp2
  go_loopw [3, 11] (fun n i wr => ∃ k : Nat, k ≤ cs.length ∧ i = .int .i64 k ∧ n = .int .i64 (cnt (l.take k) : Nat) ∧ Up w wr) (fun _ i _ => cs.length - (intOf i).toNat)
  case atStart => exact ⟨0, by omega, rfl, rfl, Up.refl _⟩
  case round =>
    obtain ⟨k, hk, rfl, rfl, hu⟩ := hrel
    have HU := Lib.hid hu
    have hb := cnt_take_le l k
    clear hu
    by_cases hlt : k < cs.length
    · obtain ⟨g, cap', hv, _, _, hc⟩ := own_cell HS.out.chn (by omega)
      simp only [Value.slice.injEq] at hv
      obtain ⟨rfl, _, rfl⟩ := hv
      have e0 := ((hc _ _ (mcC_get cs k hlt).1).grow HU.out).2
      have e1 := ((hc _ _ (mcC_get cs k hlt).2).grow HU.out).2
      obtain ⟨a1, c1, hv1, q1, q2, _⟩ := own_form (HS.out.vrs _ (List.getElem_mem hlt))
      rw [hv1] at e1
      have hkl : k < l.length := by rw [← HLL.out]; exact hlt
      have CT := Lib.hid (cnt_take l k hkl)
      have hb2 := cnt_take_le l (k + 1)
      have VL : Hid (l[k].2.length = cs[k].vs.length) := by
        have : l[k] = erC cs[k] := by simp [← HL.out]
        unfold Hid; rw [this]; simp [erC]
      rw [VL.out] at CT
      rw [CT.out] at hb2
      have HV1 := Lib.hid hv1
      generalize cs[k].vs.length = m at e1 CT q1 hb2 VL
      generalize cs[k].key = key at e0
      have CK : Hid ((cnt (l.take k) : Int) + (m : Int) = ((cnt (l.take (k + 1)) : Nat) : Int)) := by unfold Hid; rw [CT.out]; omega
      generalize cnt (l.take k) = x at hb2 hb CK ⊢
      clear hc hv1
      go_wp2
      go_roundw
      case rel => exact ⟨k + 1, by omega, by go_num, by rw [← CK.out], HU.out.alloc _⟩
      case measure => simp [intOf]; omega
    · obtain rfl : k = cs.length := by omega
      have CE : Hid (cnt (l.take cs.length) = cnt l) := by unfold Hid; rw [HLL.out, List.take_length]
      go_wp2
      go_ret
      exact ⟨by rw [CE.out]; rfl, HU.out⟩

/-- What lies at chain i. -/
theorem StP.at_ {w : World} {p : Nat} {cs : List MC} {hz : Int} {F : Nat → Prop} {cv : Value} (h : StP w p cs hz F cv) (ok : SOk (cs.map erC) hz) {i : Nat} (hi : i < cs.length) :
    ∃ g cap g1 cap1 m x, cv = .slice (some ⟨g, 0, none⟩) cs.length cap ∧ 0 < m ∧ m ≤ 400 ∧ m ≤ cap1 ∧ cap1 ≤ 9223372036854775807 ∧ cs.length ≤ cap ∧ cap ≤ 9223372036854775807 ∧ At w g (i * 2) (.string cs[i].key) ∧ At w g (i * 2 + 1) (.slice (some ⟨g1, 0, none⟩) m cap1) ∧ At w g1 ((m - 1) * 3) (.int .i64 x) ∧ x = lastTs (cs[i].vs.map erV) := by
  obtain ⟨g, cap, hv, hle, hcap, hcc⟩ := own_cell h.chn (by omega)
  have hil : i < (cs.map erC).length := by rw [List.length_map]; exact hi
  have el : (cs.map erC)[i] = erC cs[i] := by simp
  have hne : 0 < cs[i].vs.length := by
    have := ok.ne _ (List.getElem_mem hil)
    rw [el] at this
    exact List.length_pos_iff.2 fun e => this (by simp [erC, e])
  obtain ⟨g1, cap1, hv1, hm1, hcap1, hc1⟩ := own_cell (h.vrs _ (List.getElem_mem hi)) hne
  have hml : cs[i].vs.length ≤ 400 := by
    have h1 := vs_len_le hil
    rw [el] at h1
    have h2 := ok.cnt
    have h3 : (erC cs[i]).2.length = cs[i].vs.length := by simp [erC]
    omega
  refine ⟨g, cap, g1, cap1, cs[i].vs.length, cs[i].vs[cs[i].vs.length - 1].ts, hv, hne, hml, hm1, hcap1, hle, hcap, hcc _ _ (mcC_get cs i hi).1, by rw [← hv1]; exact hcc _ _ (mcC_get cs i hi).2, hc1 _ _ (mvC_get cs[i].vs (cs[i].vs.length - 1) (by omega)).1, ?_⟩
  unfold lastTs
  rw [List.getLastD_eq_getLast?, List.getLast?_map, List.getLast?_eq_getElem?, List.getElem?_eq_getElem (by omega)]
  rfl
set_option maxRecDepth 100000 in
set_option maxHeartbeats 2000000 in
theorem latest_any (p : Nat) (l : List PC) (hz : Int) (F : Nat → Prop) (t : ByteArray) (w : World) (h : StR w p l hz F) :
    Calls Try.prog 19 #[.pointer (some ⟨p, 0, none⟩), .string t] w fun e w' => e = .returned (.int .i64 (latL l t)) ∧ Up w w' := by
  have hc := search_any p l hz F t w h
  cases hh : has l t with
  | false =>
    rw [hh] at hc
    have HLT : Hid (latL l t = 0) := by unfold Hid latL; simp [hh]
    go_enter Try.func19, Try.ntmps19
    go_wp2_with (go_at_call 46; refine hc.mono ?_; rintro e w' ⟨rfl, h4⟩)
    go_ret
    exact ⟨by rw [HLT.out]; rfl, h4⟩
  | true =>
    rw [hh] at hc
    obtain ⟨cv, cs, h, rfl, ok⟩ := h
    obtain ⟨hp, _⟩ := has_pos hh
    have hlen := ok.len
    rw [List.length_map] at hp hlen
    obtain ⟨g, cap, g1, cap1, m, x, rfl, hm0, hm1, hm2, hm3, _, hcap, k0, e1, e2, hx⟩ := h.at_ ok (i := pos (cs.map erC) t) hp
    have HLT : Hid (latL (cs.map erC) t = x) := by
      unfold Hid latL
      rw [if_pos hh, hx]
      simp [List.getD, hp, erC]
    have c0 := h.blk.cell 0
    rw [show ([Value.slice (some ⟨g, 0, none⟩) cs.length cap, .int .i64 hz])[0]? = some (.slice (some ⟨g, 0, none⟩) cs.length cap) from rfl] at c0
    have C0 : Hid (At w p 0 (.slice (some ⟨g, 0, none⟩) cs.length cap)) := ⟨h.blk.lt, c0⟩
    have E1 := Lib.hid e1
    have E2 := Lib.hid e2
    generalize pos (cs.map erC) t = ps at *
    have b0 : (0 : Int) ≤ (m : Int) - 1 := by omega
    have b1 : (m : Int) - 1 < (m : Int) := by omega
    have b2 : ((m : Int) - 1).toNat = m - 1 := by omega
    have b3 : (ps : Int) < (cs.length : Int) := by omega
    have B4 : Hid (IntKind.i64.wrap ((m : Int) - 1) = (m : Int) - 1) := IntWalk.i64_in _ (by omega)
    clear hx c0 e1 e2 h ok hh k0
    go_enter Try.func19, Try.ntmps19
    go_wp2_with (go_at_call 46; refine hc.mono ?_; rintro e w1 ⟨rfl, h4⟩; have c0 := (C0.out.grow h4).2; have e1 := (E1.out.grow h4).2; have e2 := (E2.out.grow h4).2; have H4 := Lib.hid h4; clear h4)
    have B4' := B4.out
    go_quiet (fail)
    clear B4'
    go_wp2
    go_ret
    exact ⟨by rw [HLT.out]; rfl, H4.out.drewN _⟩

end Go.Proofs.Ytinmpodnfofmdaa.Mv
