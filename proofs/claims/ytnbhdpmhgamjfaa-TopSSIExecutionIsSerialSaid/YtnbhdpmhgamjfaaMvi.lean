/- joined: Mvh, Mvi -/
import Derived.Test.YtnbhdpmhgamjfaaMvg
/- The multi-version store: Get. -/
namespace Go.Proofs.Ytnbhdpmhgamjfaa.Mv
open Go Go.RowKit Hp So
set_option linter.unusedVariables false

theorem vis_er (l : List MV) (ts : Int) : visL (l.map erV) ts = (l.reverse.find? fun v => decide (v.ts ≤ ts)).map erV := by
  unfold visL
  rw [← List.map_reverse, List.find?_map]
  rfl
theorem vis_one (l : List MV) (ts : Int) : vis1 (l.map erV) ts = if visB l ts = true then some (visM l ts).row else none := by
  unfold vis1
  rw [vis_er]
  unfold visB visM
  cases hf : l.reverse.find? fun v => decide (v.ts ≤ ts) with
  | none => simp
  | some v => cases ht : v.tomb <;> simp [erV, ht]
theorem vis_rv {w : World} {F : Nat → Prop} {l : List MV} {ts : Int} (hr : ∀ v ∈ l, RowIn w F v.rv v.row) : RowIn w F (visM l ts).rv (visM l ts).row := by
  unfold visM
  cases hf : l.reverse.find? fun v => decide (v.ts ≤ ts) with
  | none => exact ⟨⟨rfl, .inl ⟨rfl, rfl⟩⟩, fun a n c e => by cases e⟩
  | some v => exact hr v (List.mem_reverse.1 (List.mem_of_find?_eq_some hf))
theorem vis_len {l : List MV} {ts : Int} {n : Nat} (hr : ∀ v ∈ l, v.row.length ≤ n) : (visM l ts).row.length ≤ n := by
  unfold visM
  cases hf : l.reverse.find? fun v => decide (v.ts ≤ ts) with
  | none => exact Nat.zero_le _
  | some v => exact hr v (List.mem_reverse.1 (List.mem_of_find?_eq_some hf))

/-- What chain i shows to a reader at ts. -/
structure ChainAt (w : World) (cs : List MC) (F : Nat → Prop) (cv : Value) (i : Nat) (ts : Int) (g cap g1 m cap1 : Nat) (key : ByteArray) (t : Int) (tb B : Bool) (ra : Option Addr) (rn rc : Nat) (row : List Val) : Prop where
  cve : cv = .slice (some ⟨g, 0, none⟩) cs.length cap
  capl : cs.length ≤ cap ∧ cap ≤ 9223372036854775807
  kat : At w g (i * 2) (.string key)
  vat : At w g (i * 2 + 1) (.slice (some ⟨g1, 0, none⟩) m cap1)
  vis : ∀ W, Up w W → Calls Try.prog 52 #[.agg #[.string key, .slice (some ⟨g1, 0, none⟩) m cap1], .int .i64 ts] W fun e w' => e = .returned (.tuple #[.agg #[.int .i64 t, .bool tb, .slice ra rn rc], .bool B]) ∧ Up W w'
  rat : RowIn w F (.slice ra rn rc) row
  len : row.length ≤ 6
  one : ∀ h : i < cs.length, vis1 (erC cs[i]).2 ts = (if B = true then some row else none) ∧ cs[i].key = key
theorem StP.vis {w : World} {p : Nat} {cs : List MC} {hz : Int} {F : Nat → Prop} {cv : Value} (h : StP w p cs hz F cv) (ok : SOk (cs.map erC) hz) {i : Nat} (hi : i < cs.length) (ts : Int) : ∃ g cap g1 m cap1 key t tb B ra rn rc row, ChainAt w cs F cv i ts g cap g1 m cap1 key t tb B ra rn rc row := by
  obtain ⟨g, cap, g1, cap1, m, x, rfl, hm0, hm1, hm2, hm3, hcl, hcap, k0, e1, _, _⟩ := h.at_ ok hi
  have hrl : ∀ v ∈ cs[i].vs, v.row.length ≤ 6 := fun v hv => ok.row (erC cs[i]) (List.mem_map.2 ⟨_, List.getElem_mem hi, rfl⟩) (erV v) (List.mem_map.2 ⟨v, hv, rfl⟩)
  have hvl : cs[i].vs.length ≤ 400 := by
    have h1 := vs_len_le (l := cs.map erC) (i := i) (by rw [List.length_map]; exact hi)
    have h2 := ok.cnt
    have h3 : ((cs.map erC)[i]'(by rw [List.length_map]; exact hi)).2.length = cs[i].vs.length := by simp [erC]
    omega
  have hRR := vis_rv (l := cs[i].vs) (ts := ts) (h.rws _ (List.getElem_mem hi))
  have hvv : cs[i].vv = .slice (some ⟨g1, 0, none⟩) m cap1 := by
    obtain ⟨g', cap', hv', _, _, hcc⟩ := own_cell h.chn (by omega)
    simp only [Value.slice.injEq, Option.some.injEq, Addr.mk.injEq, and_true, true_and] at hv'
    have := (hcc _ _ (mcC_get cs i hi).2).2
    rw [← hv'.1, e1.2] at this
    simpa using this.symm
  refine ⟨g, cap, g1, m, cap1, cs[i].key, (visM cs[i].vs ts).ts, (visM cs[i].vs ts).tomb, visB cs[i].vs ts, _, _, _, (visM cs[i].vs ts).row, rfl, ⟨hcl, hcap⟩, k0, e1, fun W hu => ?_, (slice_eq hRR) ▸ hRR, vis_len hrl, fun _ => ⟨vis_one _ _, rfl⟩⟩
  have := visible_any cs[i].key cs[i].vv cs[i].vs ts W F (own_up (h.vrs _ (List.getElem_mem hi)) hu) (fun v hv => (h.rws _ (List.getElem_mem hi) v hv).chg (Below.chg (fun _ => False) hu) fun k hk _ => ⟨fun e => e, hk⟩) (by omega)
  rw [hvv, slice_eq hRR] at this
  exact this

/-- What Get's caller gets: a row of its own. -/
def GetPost (w : World) (row : List Val) (r : Int) (e : Ending) (w' : World) : Prop := ∃ v, e = .returned (.tuple #[v, .int .i64 r]) ∧ w'.ownsRow w.heap.size 47 3 v row.length (rowC row) ∧ Up w w'
set_option maxRecDepth 100000 in
set_option maxHeartbeats 2000000 in
theorem get_any (p : Nat) (l : List PC) (hz : Int) (F : Nat → Prop) (t : ByteArray) (ts : Int) (w : World) (h : StR w p l hz F) :
    Calls Try.prog 31 #[.pointer (some ⟨p, 0, none⟩), .string t, .int .i64 ts] w (GetPost w (getL l hz t ts).1 (getL l hz t ts).2) := by
  have hc := search_any p l hz F t w h
  obtain ⟨cv, cs, h, rfl, ok⟩ := h
  have c1 := h.blk.cell 1
  rw [show ([cv, .int .i64 hz])[1]? = some (.int .i64 hz) from rfl] at c1
  by_cases hts : ts < hz
  · have HG : Hid (getL (cs.map erC) hz t ts = ([], 21)) := by unfold Hid getL; simp [hts]
    clear hc ok h
    go_enter Try.func31, Try.ntmps31
    go_wp2
    go_ret2
    rw [HG.out]
    exact ⟨_, rfl, World.ownsRow_nil _ _ _ _, Up.refl _⟩
  · cases hh : has (cs.map erC) t with
    | false =>
      have HG : Hid (getL (cs.map erC) hz t ts = ([], 4)) := by unfold Hid getL; simp [hts, hh]
      rw [hh] at hc
      clear ok h hh
      go_enter Try.func31, Try.ntmps31
      go_wp2_with (go_at_call 40; refine hc.mono ?_; rintro e w' ⟨rfl, h4⟩)
      go_ret2
      rw [HG.out]
      exact ⟨_, rfl, World.ownsRow_nil _ _ _ _, h4⟩
    | true =>
      rw [hh] at hc
      obtain ⟨hp, _⟩ := has_pos hh
      rw [List.length_map] at hp
      obtain ⟨g, cap, g1, m, cap1, key, vt, tb, B, ra, rn, rc, row, H⟩ := h.vis ok hp ts
      obtain ⟨rfl, ⟨hcl, hcap⟩, k0, e1, hvis, hrow, hrl, hone⟩ := H
      have c0 := h.blk.cell 0
      rw [show ([Value.slice (some ⟨g, 0, none⟩) cs.length cap, .int .i64 hz])[0]? = some (.slice (some ⟨g, 0, none⟩) cs.length cap) from rfl] at c0
      have hgd : (cs.map erC).getD (pos (cs.map erC) t) (t, []) = erC cs[pos (cs.map erC) t] := by simp [List.getD, hp]
      have HG : Hid (getL (cs.map erC) hz t ts = if B = true then (row, 0) else ([], 4)) := by
        unfold Hid getL
        rw [if_neg hts, if_pos hh, hgd, (hone hp).1]
        cases B <;> simp
      have hpl := h.blk.lt
      have b3 : ((pos (cs.map erC) t : Nat) : Int) < (cs.length : Int) := by omega
      have K0 := Lib.hid k0
      have E1 := Lib.hid e1
      have C0 : Hid (At w p 0 (.slice (some ⟨g, 0, none⟩) cs.length cap)) := ⟨hpl, c0⟩
      have HVIS := Lib.hid hvis
      have HCL : Hid (∀ W, Up w W → Calls Try.prog 24 #[.slice ra rn rc] W fun e w' => ∃ v', e = .returned v' ∧ w'.ownsRow W.heap.size 47 3 v' row.length (rowC row) ∧ Up W w') := fun W hu => cloneR _ _ _ W (hrow.1.up hu) (rowC_one _) (by omega)
      generalize pos (cs.map erC) t = ps at *
      clear hvis hrow hone ok h hh hgd k0 e1 c0
      cases B with
      | true =>
        go_enter Try.func31, Try.ntmps31
        go_wp2_with (first
          | (go_at_call 40; refine hc.mono ?_; rintro e w1 ⟨rfl, h4⟩; have c0 := (C0.out.grow h4).2; have k0 := (K0.out.grow h4).2; have e1 := (E1.out.grow h4).2; have H4 := Lib.hid h4; clear h4)
          | (go_at_call 52; refine (HVIS.out _ H4.out).mono ?_; rintro e w2 ⟨rfl, h5⟩; have H5 := Lib.hid (H4.out.trans h5); clear h5)
          | (go_at_call 24; refine (HCL.out _ (H5.out.alloc _)).mono ?_; rintro e w3 ⟨v, rfl, h6, h7⟩; have H6 := Lib.hid h6; have H7 := Lib.hid ((H5.out.alloc _).trans h7); have H8 := Lib.hid (H5.out.size); clear h6 h7))
        go_ret2
        rw [HG.out]
        exact ⟨_, rfl, own_base' H6.out fun k hk => by have := ((own_ty H6.out) k hk).2; have := H8.out; simp at *; omega, H7.out⟩
      | false =>
        go_enter Try.func31, Try.ntmps31
        go_wp2_with (first
          | (go_at_call 40; refine hc.mono ?_; rintro e w1 ⟨rfl, h4⟩; have c0 := (C0.out.grow h4).2; have k0 := (K0.out.grow h4).2; have e1 := (E1.out.grow h4).2; have H4 := Lib.hid h4; clear h4)
          | (go_at_call 52; refine (HVIS.out _ H4.out).mono ?_; rintro e w2 ⟨rfl, h5⟩; have H5 := Lib.hid (H4.out.trans h5); clear h5))
        go_ret2
        rw [HG.out]
        exact ⟨_, rfl, World.ownsRow_nil _ _ _ _, H5.out.alloc _⟩
end Go.Proofs.Ytnbhdpmhgamjfaa.Mv

/- The multi-version store: add, where nothing is added. -/
namespace Go.Proofs.Ytnbhdpmhgamjfaa.Mv
open Go Go.RowKit Hp So
set_option linter.unusedVariables false

def AddPost (p : Nat) (l' : List PC) (r : Int) (hz : Int) (F : Nat → Prop) (w : World) (e : Ending) (w' : World) : Prop := e = .returned (.int .i64 r) ∧ StR w' p l' hz (Fx F w w') ∧ Chg F w w'
section
variable (p : Nat) (l : List PC) (hz : Int) (F : Nat → Prop) (t : ByteArray) (ts : Int) (tb : Bool) (ra : Option Addr) (rc : Nat) (row : List Val) (w : World)
set_option maxRecDepth 100000 in
set_option maxHeartbeats 1000000 in
theorem add_l1 (h : StR w p l hz F) (hk : 24 < t.size) : Calls Try.prog 41 #[.pointer (some ⟨p, 0, none⟩), .string t, .agg #[.int .i64 ts, .bool tb, .slice ra row.length rc]] w (AddPost p (addL l hz t ⟨ts, tb, row⟩).1 (addL l hz t ⟨ts, tb, row⟩).2 hz F w) := by
  have hk2 : (24 : Int) < (t.size : Int) := by omega
  have HP : Hid (addL l hz t ⟨ts, tb, row⟩ = (l, 2)) := by unfold Hid addL; rw [if_pos (.inl hk)]
  go_enter Try.func41, Try.ntmps41
  go_wp2
  go_ret
  rw [HP.out]
  exact ⟨rfl, h.upP ((Up.refl w).alloc _)⟩
set_option maxRecDepth 100000 in
set_option maxHeartbeats 1000000 in
theorem add_l2 (h : StR w p l hz F) (hk : ¬ 24 < t.size) (hr : 6 < row.length) : Calls Try.prog 41 #[.pointer (some ⟨p, 0, none⟩), .string t, .agg #[.int .i64 ts, .bool tb, .slice ra row.length rc]] w (AddPost p (addL l hz t ⟨ts, tb, row⟩).1 (addL l hz t ⟨ts, tb, row⟩).2 hz F w) := by
  have hk2 : ¬ (24 : Int) < (t.size : Int) := by omega
  have hr2 : (6 : Int) < (row.length : Int) := by omega
  have HP : Hid (addL l hz t ⟨ts, tb, row⟩ = (l, 2)) := by unfold Hid addL; rw [if_pos (.inr hr)]
  go_enter Try.func41, Try.ntmps41
  go_wp2
  go_ret
  rw [HP.out]
  exact ⟨rfl, h.upP ((Up.refl w).alloc _)⟩
set_option maxRecDepth 100000 in
set_option maxHeartbeats 1000000 in
theorem add_a (h : StR w p l hz F) (hk : ¬ 24 < t.size) (hr : ¬ 6 < row.length) (ht : ts < 1 ∨ 1099511627776 < ts) : Calls Try.prog 41 #[.pointer (some ⟨p, 0, none⟩), .string t, .agg #[.int .i64 ts, .bool tb, .slice ra row.length rc]] w (AddPost p (addL l hz t ⟨ts, tb, row⟩).1 (addL l hz t ⟨ts, tb, row⟩).2 hz F w) := by
  have hk2 : ¬ (24 : Int) < (t.size : Int) := by omega
  have hr2 : ¬ (6 : Int) < (row.length : Int) := by omega
  have HP : Hid (addL l hz t ⟨ts, tb, row⟩ = (l, 1)) := by unfold Hid addL; rw [if_neg (show ¬ (24 < t.size ∨ 6 < row.length) by omega), if_pos ht]
  rcases Int.lt_or_le ts 1 with h1 | h1
  · clear ht
    go_enter Try.func41, Try.ntmps41
    go_wp2
    go_ret
    rw [HP.out]
    exact ⟨rfl, h.upP ((Up.refl w).alloc _)⟩
  · have h2 : ¬ ts < 1 := by omega
    have h3 : 1099511627776 < ts := by omega
    clear ht
    go_enter Try.func41, Try.ntmps41
    go_wp2
    go_ret
    rw [HP.out]
    exact ⟨rfl, h.upP ((Up.refl w).alloc _)⟩
set_option maxRecDepth 100000 in
set_option maxHeartbeats 1000000 in
theorem add_g (h : StR w p l hz F) (hk : ¬ 24 < t.size) (hr : ¬ 6 < row.length) (ht : ¬ ts < 1) (ht2 : ¬ 1099511627776 < ts) (hg : ts ≤ hz) : Calls Try.prog 41 #[.pointer (some ⟨p, 0, none⟩), .string t, .agg #[.int .i64 ts, .bool tb, .slice ra row.length rc]] w (AddPost p (addL l hz t ⟨ts, tb, row⟩).1 (addL l hz t ⟨ts, tb, row⟩).2 hz F w) := by
  have hk2 : ¬ (24 : Int) < (t.size : Int) := by omega
  have hr2 : ¬ (6 : Int) < (row.length : Int) := by omega
  have HP : Hid (addL l hz t ⟨ts, tb, row⟩ = (l, 21)) := by unfold Hid addL; rw [if_neg (show ¬ (24 < t.size ∨ 6 < row.length) by omega), if_neg (show ¬ (ts < 1 ∨ 1099511627776 < ts) by omega), if_pos hg]
  have HH := Lib.hid h
  obtain ⟨cv, cs, h, _⟩ := h
  have c1 := h.blk.cell 1
  rw [show ([cv, .int .i64 hz])[1]? = some (.int .i64 hz) from rfl] at c1
  have hpl := h.blk.lt
  have c1' := ((Up.refl w).alloc (.cells #[.int .i64 ts, .bool tb, .slice ra row.length rc] 94)).cell (p := ⟨p, 1, none⟩) hpl
  rw [c1] at c1'
  clear h
  go_enter Try.func41, Try.ntmps41
  go_wp2
  go_quiet (fail)
  go_wp2
  go_ret
  rw [HP.out]
  exact ⟨rfl, HH.out.upP (((Up.refl w).alloc _).drewN _)⟩
set_option maxRecDepth 100000 in
set_option maxHeartbeats 2000000 in
theorem add_o (h : StR w p l hz F) (hk : ¬ 24 < t.size) (hr : ¬ 6 < row.length) (ht : ¬ ts < 1) (ht2 : ¬ 1099511627776 < ts) (hg : ¬ ts ≤ hz) (hh : has l t = true) (hl : ts ≤ lastTs (l.getD (pos l t) (t, [])).2) : Calls Try.prog 41 #[.pointer (some ⟨p, 0, none⟩), .string t, .agg #[.int .i64 ts, .bool tb, .slice ra row.length rc]] w (AddPost p (addL l hz t ⟨ts, tb, row⟩).1 (addL l hz t ⟨ts, tb, row⟩).2 hz F w) := by
  have hk2 : ¬ (24 : Int) < (t.size : Int) := by omega
  have hr2 : ¬ (6 : Int) < (row.length : Int) := by omega
  have HP : Hid (addL l hz t ⟨ts, tb, row⟩ = (l, 6)) := by unfold Hid addL; rw [if_neg (show ¬ (24 < t.size ∨ 6 < row.length) by omega), if_neg (show ¬ (ts < 1 ∨ 1099511627776 < ts) by omega), if_neg hg, if_pos ⟨hh, hl⟩]
  have HH := Lib.hid h
  have HSC : Hid (∀ W, Up w W → Calls Try.prog 40 #[.pointer (some ⟨p, 0, none⟩), .string t] W fun e w' => e = .returned (.tuple #[.int .i64 (pos l t : Nat), .bool true]) ∧ Up W w') := fun W hu => by have := search_any p l hz F t W (h.up hu); rwa [hh] at this
  obtain ⟨cv, cs, h, rfl, ok⟩ := h
  obtain ⟨hp, _⟩ := has_pos hh
  rw [List.length_map] at hp
  obtain ⟨g, cap, g1, cap1, m, x, rfl, hm0, hm1, hm2, hm3, _, hcap, k0, e1, e2, hx⟩ := h.at_ ok (i := pos (cs.map erC) t) hp
  have hlx : ts ≤ x := by
    rw [hx]
    simpa [List.getD, hp, erC] using hl
  have c1 := h.blk.cell 1
  rw [show ([Value.slice (some ⟨g, 0, none⟩) cs.length cap, .int .i64 hz])[1]? = some (.int .i64 hz) from rfl] at c1
  have c0 := h.blk.cell 0
  rw [show ([Value.slice (some ⟨g, 0, none⟩) cs.length cap, .int .i64 hz])[0]? = some (.slice (some ⟨g, 0, none⟩) cs.length cap) from rfl] at c0
  have hpl := h.blk.lt
  have c1' := ((Up.refl w).alloc (.cells #[.int .i64 ts, .bool tb, .slice ra row.length rc] 94)).cell (p := ⟨p, 1, none⟩) hpl
  rw [c1] at c1'
  have C0 : Hid (At w p 0 (.slice (some ⟨g, 0, none⟩) cs.length cap)) := ⟨hpl, c0⟩
  have E1 := Lib.hid e1
  have E2 := Lib.hid e2
  have b0 : (0 : Int) ≤ (m : Int) - 1 := by omega
  have b1 : (m : Int) - 1 < (m : Int) := by omega
  have b2 : ((m : Int) - 1).toNat = m - 1 := by omega
  have b3 : ((pos (cs.map erC) t : Nat) : Int) < (cs.length : Int) := by omega
  have B4 : Hid (IntKind.i64.wrap ((m : Int) - 1) = (m : Int) - 1) := IntWalk.i64_in _ (by omega)
  generalize pos (cs.map erC) t = ps at *
  have W1 : Hid (At (w.alloc (.cells #[.int .i64 ts, .bool tb, .slice ra row.length rc] 94)) w.heap.size 0 (.int .i64 ts)) := At.new _ _ _ _ _ rfl
  clear h ok c0 c1 k0 e1 e2 hx hl hh
  go_enter Try.func41, Try.ntmps41
  go_wp2
  go_quiet (fail)
  go_wp2_with (go_at_call 40; refine (HSC.out _ (((Up.refl w).alloc _).drewN _)).mono ?_; rintro e w1 ⟨rfl, h4⟩; have H4 := Lib.hid ((((Up.refl w).alloc _).drewN _).trans h4); have c0 := (C0.out.grow H4.out).2; have e1 := (E1.out.grow H4.out).2; have e2 := (E2.out.grow H4.out).2; have x1 := ((W1.out.grow ((Up.refl _).drewN _)).grow h4).2; clear h4)
  have B4' := B4.out
  go_quiet (fail)
  clear B4'
  go_wp2
  go_ret
  rw [HP.out]
  exact ⟨rfl, HH.out.upP (H4.out.drewN _)⟩
end
end Go.Proofs.Ytnbhdpmhgamjfaa.Mv
