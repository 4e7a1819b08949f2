/- The multi-version store: add. -/
import Derived.Test.YtnbhdpmhgamjfaaMvj
namespace Go.Proofs.Ytnbhdpmhgamjfaa.Mv
open Go Go.RowKit Hp So
set_option linter.unusedVariables false

theorem Try.infoVer : (Try.prog.info? 94).map (fun i => (i.zero, i.size, i.bytes)) = some (some (.agg #[.int .i64 0, .bool false, .slice none 0 0]), 3, 40) := by kernel_rfl
section
variable (p : Nat) (l : List PC) (hz : Int) (F : Nat → Prop) (t : ByteArray) (ts : Int) (tb : Bool) (ra : Option Addr) (rc : Nat) (row : List Val) (w : World)
set_option maxRecDepth 100000 in
set_option maxHeartbeats 4000000 in
theorem add_f0 (h : StR w p l hz F) (hk : ¬ 24 < t.size) (hr : ¬ 6 < row.length) (ht : ¬ ts < 1) (ht2 : ¬ 1099511627776 < ts) (hg : ¬ ts ≤ hz) (hh : has l t = false) (hc : cnt l = 400) : Calls Try.prog 41 #[.pointer (some ⟨p, 0, none⟩), .string t, .agg #[.int .i64 ts, .bool tb, .slice ra row.length rc]] w (AddPost p (addL l hz t ⟨ts, tb, row⟩).1 (addL l hz t ⟨ts, tb, row⟩).2 hz F w) := by
  have hk2 : ¬ (24 : Int) < (t.size : Int) := by omega
  have hr2 : ¬ (6 : Int) < (row.length : Int) := by omega
  have HP : Hid (addL l hz t ⟨ts, tb, row⟩ = (l, 18)) := by unfold Hid addL; rw [if_neg (show ¬ (24 < t.size ∨ 6 < row.length) by omega), if_neg (show ¬ (ts < 1 ∨ 1099511627776 < ts) by omega), if_neg hg, if_neg (by rw [hh]; simp), if_pos hc]
  have HH := Lib.hid h
  have HSC : Hid (∀ W, Up w W → Calls Try.prog 40 #[.pointer (some ⟨p, 0, none⟩), .string t] W fun e w' => e = .returned (.tuple #[.int .i64 (pos l t : Nat), .bool false]) ∧ Up W w') := fun W hu => by have := search_any p l hz F t W (h.up hu); rwa [hh] at this
  have HLN : Hid (∀ W, Up w W → Calls Try.prog 26 #[.pointer (some ⟨p, 0, none⟩)] W fun e w' => e = .returned (.int .i64 (400)) ∧ Up W w') := fun W hu => by have := len_any p l hz F W (h.up hu); rw [hc] at this; exact this
  obtain ⟨cv, cs, h, rfl, ok⟩ := h
  have c1 := h.blk.cell 1
  rw [show ([cv, .int .i64 hz])[1]? = some (.int .i64 hz) from rfl] at c1
  have hpl := h.blk.lt
  have c1' := ((Up.refl w).alloc (.cells #[.int .i64 ts, .bool tb, .slice ra row.length rc] 94)).cell (p := ⟨p, 1, none⟩) hpl
  rw [c1] at c1'
  have W1 : Hid (∀ w', Up (w.alloc (.cells #[.int .i64 ts, .bool tb, .slice ra row.length rc] 94)) w' → w'.cell? ⟨w.heap.size, 0, none⟩ = some (.int .i64 ts) ∧ w'.cell? ⟨w.heap.size, 1, none⟩ = some (.bool tb) ∧ w'.cell? ⟨w.heap.size, 2, none⟩ = some (.slice ra row.length rc)) := fun w' hu => ⟨((At.new w _ _ 0 _ rfl).grow hu).2, ((At.new w _ _ 1 _ rfl).grow hu).2, ((At.new w _ _ 2 _ rfl).grow hu).2⟩
  generalize pos (cs.map erC) t = ps at *
  clear h ok c1 hh hc
  go_enter Try.func41, Try.ntmps41
  go_wp2
  go_quiet (fail)
  go_wp2_with (go_at_call 40; refine (HSC.out _ (((Up.refl w).alloc _).drewN _)).mono ?_; rintro e w1 ⟨rfl, h4⟩; have H4 := Lib.hid ((((Up.refl w).alloc _).drewN _).trans h4); have H5 := Lib.hid (((Up.refl _).drewN _).trans h4); have x1 := (W1.out _ H5.out).1;  clear h4)
  go_quiet (fail)
  go_wp2_with (go_at_call 26; refine (HLN.out _ (H4.out.drewN _)).mono ?_; rintro e w2 ⟨rfl, h4⟩; have H6 := Lib.hid ((H4.out.drewN _).trans h4); clear h4)
  go_ret
  rw [HP.out]
  exact ⟨rfl, HH.out.upP H6.out⟩
set_option maxRecDepth 100000 in
set_option maxHeartbeats 4000000 in
theorem add_f1 (h : StR w p l hz F) (hk : ¬ 24 < t.size) (hr : ¬ 6 < row.length) (ht : ¬ ts < 1) (ht2 : ¬ 1099511627776 < ts) (hg : ¬ ts ≤ hz) (hh : has l t = true) (hl : ¬ ts ≤ lastTs (l.getD (pos l t) (t, [])).2) (hc : cnt l = 400) : Calls Try.prog 41 #[.pointer (some ⟨p, 0, none⟩), .string t, .agg #[.int .i64 ts, .bool tb, .slice ra row.length rc]] w (AddPost p (addL l hz t ⟨ts, tb, row⟩).1 (addL l hz t ⟨ts, tb, row⟩).2 hz F w) := by
  have hk2 : ¬ (24 : Int) < (t.size : Int) := by omega
  have hr2 : ¬ (6 : Int) < (row.length : Int) := by omega
  have HP : Hid (addL l hz t ⟨ts, tb, row⟩ = (l, 18)) := by unfold Hid addL; rw [if_neg (show ¬ (24 < t.size ∨ 6 < row.length) by omega), if_neg (show ¬ (ts < 1 ∨ 1099511627776 < ts) by omega), if_neg hg, if_neg (fun e => hl e.2), if_pos hc]
  have HH := Lib.hid h
  have HSC : Hid (∀ W, Up w W → Calls Try.prog 40 #[.pointer (some ⟨p, 0, none⟩), .string t] W fun e w' => e = .returned (.tuple #[.int .i64 (pos l t : Nat), .bool true]) ∧ Up W w') := fun W hu => by have := search_any p l hz F t W (h.up hu); rwa [hh] at this
  have HLN : Hid (∀ W, Up w W → Calls Try.prog 26 #[.pointer (some ⟨p, 0, none⟩)] W fun e w' => e = .returned (.int .i64 (400)) ∧ Up W w') := fun W hu => by have := len_any p l hz F W (h.up hu); rw [hc] at this; exact this
  obtain ⟨cv, cs, h, rfl, ok⟩ := h
  obtain ⟨hp, _⟩ := has_pos hh
  rw [List.length_map] at hp
  obtain ⟨g, cap, g1, cap1, m, x, rfl, hm0, hm1, hm2, hm3, _, hcap, k0, e1, e2, hx⟩ := h.at_ ok (i := pos (cs.map erC) t) hp
  have hlx : ¬ ts ≤ x := by
    rw [hx]
    simpa [List.getD, hp, erC] using hl
  have c1 := h.blk.cell 1
  rw [show ([Value.slice (some ⟨g, 0, none⟩) cs.length cap, .int .i64 hz])[1]? = some (.int .i64 hz) from rfl] at c1
  have c0 := h.blk.cell 0
  rw [show ([Value.slice (some ⟨g, 0, none⟩) cs.length cap, .int .i64 hz])[0]? = some (.slice (some ⟨g, 0, none⟩) cs.length cap) from rfl] at c0
  have hpl := h.blk.lt
  have c1' := ((Up.refl w).alloc (.cells #[.int .i64 ts, .bool tb, .slice ra row.length rc] 94)).cell (p := ⟨p, 1, none⟩) hpl
  rw [c1] at c1'
  have C0 : Hid (At w p 0 (.slice (some ⟨g, 0, none⟩) cs.length cap)) := ⟨hpl, c0⟩
  have E1 := Lib.hid e1
  have E2 := Lib.hid e2
  have b0 : (0 : Int) ≤ (m : Int) - 1 := by omega
  have b1 : (m : Int) - 1 < (m : Int) := by omega
  have b2 : ((m : Int) - 1).toNat = m - 1 := by omega
  have b3 : ((pos (cs.map erC) t : Nat) : Int) < (cs.length : Int) := by omega
  have B4 : Hid (IntKind.i64.wrap ((m : Int) - 1) = (m : Int) - 1) := IntWalk.i64_in _ (by omega)
  have W1 : Hid (∀ w', Up (w.alloc (.cells #[.int .i64 ts, .bool tb, .slice ra row.length rc] 94)) w' → w'.cell? ⟨w.heap.size, 0, none⟩ = some (.int .i64 ts) ∧ w'.cell? ⟨w.heap.size, 1, none⟩ = some (.bool tb) ∧ w'.cell? ⟨w.heap.size, 2, none⟩ = some (.slice ra row.length rc)) := fun w' hu => ⟨((At.new w _ _ 0 _ rfl).grow hu).2, ((At.new w _ _ 1 _ rfl).grow hu).2, ((At.new w _ _ 2 _ rfl).grow hu).2⟩
  generalize pos (cs.map erC) t = ps at *
  clear h ok c0 c1 k0 e1 e2 hx hl hh hc
  go_enter Try.func41, Try.ntmps41
  go_wp2
  go_quiet (fail)
  go_wp2_with (go_at_call 40; refine (HSC.out _ (((Up.refl w).alloc _).drewN _)).mono ?_; rintro e w1 ⟨rfl, h4⟩; have H4 := Lib.hid ((((Up.refl w).alloc _).drewN _).trans h4); have H5 := Lib.hid (((Up.refl _).drewN _).trans h4); have x1 := (W1.out _ H5.out).1; have c0 := (C0.out.grow H4.out).2; have e1 := (E1.out.grow H4.out).2; have e2 := (E2.out.grow H4.out).2; clear h4)
  have B4' := B4.out
  go_quiet (fail)
  clear B4'
  go_wp2_with (go_at_call 26; refine (HLN.out _ (H4.out.drewN _)).mono ?_; rintro e w2 ⟨rfl, h4⟩; have H6 := Lib.hid ((H4.out.drewN _).trans h4); clear h4)
  go_ret
  rw [HP.out]
  exact ⟨rfl, HH.out.upP H6.out⟩
theorem cntb {l : List PC} (h : cnt l ≤ 400) (hc : cnt l ≠ 400) : ¬ ((cnt l : Nat) : Int) = 400 ∧ (((cnt l : Nat) : Int) == 400) = false := ⟨by omega, beq_eq_false_iff_ne.2 (by omega)⟩
theorem vcell (w : World) (g : Nat) (hg : w.heap.size = g) (a b c : Value) (E : TypeId) : ∀ (j : Nat) u, [a, b, c][j]? = some u → (w.alloc (.cells #[a, b, c] E)).cell? ((⟨g, 0, none⟩ : Addr).add j) = some u := by
  subst hg
  exact cells_new w #[a, b, c] E
set_option maxRecDepth 100000 in
set_option maxHeartbeats 4000000 in
theorem add_old (h : StR w p l hz F) (hk : ¬ 24 < t.size) (hr : ¬ 6 < row.length) (ht : ¬ ts < 1) (ht2 : ¬ 1099511627776 < ts) (hg : ¬ ts ≤ hz) (hh : has l t = true) (hl : ¬ ts ≤ lastTs (l.getD (pos l t) (t, [])).2) (hc : cnt l ≠ 400) (hrow : RowIn w F (.slice ra row.length rc) row) : Calls Try.prog 41 #[.pointer (some ⟨p, 0, none⟩), .string t, .agg #[.int .i64 ts, .bool tb, .slice ra row.length rc]] w (AddPost p (addL l hz t ⟨ts, tb, row⟩).1 (addL l hz t ⟨ts, tb, row⟩).2 hz F w) := by
  have hk2 : ¬ (24 : Int) < (t.size : Int) := by omega
  have hr2 : ¬ (6 : Int) < (row.length : Int) := by omega
  obtain ⟨i0, hi0, hz0, hz1, hz2⟩ := info_parts Try.infoVer
  have HP : Hid (addL l hz t ⟨ts, tb, row⟩ = (l.set (pos l t) (t, (l.getD (pos l t) (t, [])).2 ++ [⟨ts, tb, row⟩]), 0)) := by unfold Hid addL; rw [if_neg (show ¬ (24 < t.size ∨ 6 < row.length) by omega), if_neg (show ¬ (ts < 1 ∨ 1099511627776 < ts) by omega), if_neg hg, if_neg (fun e => hl e.2), if_neg hc, if_pos hh]
  have HH := Lib.hid h
  have HSC : Hid (∀ W, Up w W → Calls Try.prog 40 #[.pointer (some ⟨p, 0, none⟩), .string t] W fun e w' => e = .returned (.tuple #[.int .i64 (pos l t : Nat), .bool true]) ∧ Up W w') := fun W hu => by have := search_any p l hz F t W (h.up hu); rwa [hh] at this
  have HLN : Hid (∀ W, Up w W → Calls Try.prog 26 #[.pointer (some ⟨p, 0, none⟩)] W fun e w' => e = .returned (.int .i64 ((cnt l : Nat))) ∧ Up W w') := fun W hu => by have := len_any p l hz F W (h.up hu); exact this
  obtain ⟨cb1, cb2⟩ := cntb (by obtain ⟨_, _, _, _, ok⟩ := h; exact ok.cnt) hc
  obtain ⟨cv, cs, h, rfl, ok⟩ := h
  obtain ⟨hp, _⟩ := has_pos hh
  rw [List.length_map] at hp
  obtain ⟨g, cap, g1, cap1, m, x, rfl, hm0, hm1, hm2, hm3, _, hcap, k0, e1, e2, hx⟩ := h.at_ ok (i := pos (cs.map erC) t) hp
  have hlx : ¬ ts ≤ x := by
    rw [hx]
    simpa [List.getD, hp, erC] using hl
  have c1 := h.blk.cell 1
  rw [show ([Value.slice (some ⟨g, 0, none⟩) cs.length cap, .int .i64 hz])[1]? = some (.int .i64 hz) from rfl] at c1
  have c0 := h.blk.cell 0
  rw [show ([Value.slice (some ⟨g, 0, none⟩) cs.length cap, .int .i64 hz])[0]? = some (.slice (some ⟨g, 0, none⟩) cs.length cap) from rfl] at c0
  have hpl := h.blk.lt
  have c1' := ((Up.refl w).alloc (.cells #[.int .i64 ts, .bool tb, .slice ra row.length rc] 94)).cell (p := ⟨p, 1, none⟩) hpl
  rw [c1] at c1'
  have C0 : Hid (At w p 0 (.slice (some ⟨g, 0, none⟩) cs.length cap)) := ⟨hpl, c0⟩
  have E1 := Lib.hid e1
  have E2 := Lib.hid e2
  have b0 : (0 : Int) ≤ (m : Int) - 1 := by omega
  have b1 : (m : Int) - 1 < (m : Int) := by omega
  have b2 : ((m : Int) - 1).toNat = m - 1 := by omega
  have b3 : ((pos (cs.map erC) t : Nat) : Int) < (cs.length : Int) := by omega
  have B4 : Hid (IntKind.i64.wrap ((m : Int) - 1) = (m : Int) - 1) := IntWalk.i64_in _ (by omega)
  have W1 : Hid (∀ w', Up (w.alloc (.cells #[.int .i64 ts, .bool tb, .slice ra row.length rc] 94)) w' → w'.cell? ⟨w.heap.size, 0, none⟩ = some (.int .i64 ts) ∧ w'.cell? ⟨w.heap.size, 1, none⟩ = some (.bool tb) ∧ w'.cell? ⟨w.heap.size, 2, none⟩ = some (.slice ra row.length rc)) := fun w' hu => ⟨((At.new w _ _ 0 _ rfl).grow hu).2, ((At.new w _ _ 1 _ rfl).grow hu).2, ((At.new w _ _ 2 _ rfl).grow hu).2⟩
  have HSt := Lib.hid h
  have OK2 : Hid (SOk ((cs.map erC).set (pos (cs.map erC) t) (t, ((cs.map erC).getD (pos (cs.map erC) t) (t, [])).2 ++ [⟨ts, tb, row⟩])) hz) := by
    have hp' : pos (cs.map erC) t < (cs.map erC).length := by rw [List.length_map]; exact hp
    have gd : (cs.map erC).getD (pos (cs.map erC) t) (t, []) = (cs.map erC)[pos (cs.map erC) t] := by simp [List.getD, hp]
    rw [gd] at hl ⊢
    exact ok.set (fun _ => trivial) hp' (has_pos hh).2 (by show row.length ≤ 6; omega) ⟨by show 1 ≤ ts; omega, by show ts ≤ _; omega⟩ (by show _ < ts; omega) hc
  have hvv : Hid (cs[pos (cs.map erC) t].vv = .slice (some ⟨g1, 0, none⟩) m cap1 ∧ cs[pos (cs.map erC) t].vs.length = m) := by
    obtain ⟨g', cap', hv', _, _, hcc⟩ := own_cell h.chn (by omega)
    simp only [Value.slice.injEq, Option.some.injEq, Addr.mk.injEq, and_true, true_and] at hv'
    have := (hcc _ _ (mcC_get cs (pos (cs.map erC) t) hp).2).2
    rw [← hv'.1, e1.2] at this
    have e : cs[pos (cs.map erC) t].vv = .slice (some ⟨g1, 0, none⟩) m cap1 := by simpa using this.symm
    refine ⟨e, ?_⟩
    obtain ⟨a, c, e3, _⟩ := own_form (h.vrs _ (List.getElem_mem hp))
    rw [e] at e3
    simp only [Value.slice.injEq] at e3
    exact e3.2.1.symm
  have HOWN : Hid (w.ownsRow 0 94 3 (.slice (some ⟨g1, 0, none⟩) m cap1) m (mvC cs[pos (cs.map erC) t].vs)) := by
    have := h.vrs _ (List.getElem_mem hp)
    rw [hvv.out.1, hvv.out.2] at this
    exact this
  have MAP : Hid (∀ v', (cs.set (pos (cs.map erC) t) ⟨cs[pos (cs.map erC) t].key, v', cs[pos (cs.map erC) t].vs ++ [⟨ts, tb, .slice ra row.length rc, row⟩]⟩).map erC = (cs.map erC).set (pos (cs.map erC) t) (t, ((cs.map erC).getD (pos (cs.map erC) t) (t, [])).2 ++ [⟨ts, tb, row⟩])) := fun v' => by
    have e := (has_pos hh).2
    rw [List.getElem_map] at e
    rw [List.map_set]
    congr 1
    have gd : (cs.map erC).getD (pos (cs.map erC) t) (t, []) = erC cs[pos (cs.map erC) t] := by simp [List.getD, hp]
    rw [gd]
    refine Prod.ext e ?_
    simp [erC, erV]
  have NE : Hid (g1 < w.heap.size ∧ g < w.heap.size ∧ p ≠ g1 ∧ g ≠ g1) := ⟨own_lt HOWN.out _ rfl, own_lt h.chn _ rfl, fun e => by subst e; exact (((own_ty HOWN.out) _ rfl).1).ne (by decide) (blk_ty h.blk), fun e => by subst e; exact (((own_ty HOWN.out) _ rfl).1).ne (by decide) ((own_ty h.chn) _ rfl).1⟩
  generalize hpse : pos (cs.map erC) t = ps at *
  clear h ok c0 c1 k0 e1 e2 hx hl hh hc
  go_enter Try.func41, Try.ntmps41
  go_wp2
  go_quiet (fail)
  go_wp2_with (go_at_call 40; refine (HSC.out _ (((Up.refl w).alloc _).drewN _)).mono ?_; rintro e w1 ⟨rfl, h4⟩; have H4 := Lib.hid ((((Up.refl w).alloc _).drewN _).trans h4); have H5 := Lib.hid (((Up.refl _).drewN _).trans h4); have x1 := (W1.out _ H5.out).1; have c0 := (C0.out.grow H4.out).2; have e1 := (E1.out.grow H4.out).2; have e2 := (E2.out.grow H4.out).2; clear h4)
  have B4' := B4.out
  go_quiet (fail)
  clear B4'
  clear e2 x1 c0 e1
  go_wp2_with (go_at_call 26; refine (HLN.out _ (H4.out.drewN _)).mono ?_; rintro e w2 ⟨rfl, h4⟩; have H6 := Lib.hid ((H4.out.drewN _).trans h4); have H7 := Lib.hid ((H5.out.drewN _).trans h4); have c0 := (C0.out.grow H6.out).2; have e1 := (E1.out.grow H6.out).2; obtain ⟨x1, x2, x3⟩ := W1.out _ H7.out; clear h4)
  have HO2 := Lib.hid (own_up HOWN.out H6.out)
  have HC2 := Lib.hid (own_up HSt.out.chn H6.out)
  have S2 := Lib.hid H6.out.size
  have X123 := Lib.hid (And.intro x1 (And.intro x2 x3))
  have C01 := Lib.hid (And.intro c0 e1)
  have hw2 : w.heap.size < w2.heap.size := by have := H7.out.size; simp at this; omega
  have c0a := ((Up.refl w2).alloc (.cells #[.int .i64 ts, .bool tb, .slice ra row.length rc] 94)).cell (p := ⟨p, 0, none⟩) (by show p < w2.heap.size; have := S2.out; omega)
  have e1a := ((Up.refl w2).alloc (.cells #[.int .i64 ts, .bool tb, .slice ra row.length rc] 94)).cell (p := ⟨g, ps * 2 + 1, none⟩) (by show g < w2.heap.size; have := S2.out; have := NE.out.2.1; omega)
  rw [c0] at c0a
  rw [e1] at e1a
  go_region_law (first
    | (refine step_append_lies _ rfl (.tmp 95) (.tmp 97) 95 rfl 0 94 i0 (.agg #[.int .i64 0, .bool false, .slice none 0 0]) 3 40 Try.underlying95 hi0 hz0 hz1 hz2 rfl (by decide) (.slice (some ⟨g1, 0, none⟩) m cap1) m (mvC cs[ps].vs) (by simp [Act.eval]) (by first | exact own_up HO2.out (((Up.refl _).alloc _).drew) | exact own_up HO2.out (((Up.refl _).drew).alloc _)) ⟨w2.heap.size, 0, none⟩ 1 1 [.int .i64 ts, .bool tb, .slice ra row.length rc] (by simp [Act.eval]) rfl (vcell w2 w2.heap.size rfl _ _ _ _) (by intro u hu; simp at hu; rcases hu with rfl | rfl | rfl <;> rfl) (by decide) (by unfold maxLen; omega) (by omega) (by omega) (w2.heap.size + 1) (by simp) ?_
       intro g2 c2 w3 hown2 hgrow2 hat2 hlt2
       have C3 : Hid (Chg (fun j => j = g1) w2 w3) := by first | exact (((Chg.refl _ w2).alloc _).drew).grown hgrow2 (fun k hk => .inl (by simpa [Value.ownBlock] using hk.symm)) | exact (((Chg.refl _ w2).drew).alloc _).grown hgrow2 (fun k hk => .inl (by simpa [Value.ownBlock] using hk.symm))
       have q0 := (C3.out.cell (b := p) (o := 0) (by have := S2.out; omega) NE.out.2.2.1).trans C01.out.1
       have q1 := (C3.out.cell (b := g) (o := ps * 2 + 1) (by have := S2.out; have := NE.out.2.1; omega) NE.out.2.2.2).trans C01.out.2
       have q3 := (C3.out.cell (b := w.heap.size) (o := 0) hw2 (by have := NE.out.1; omega)).trans X123.out.1
       have q4 := (C3.out.cell (b := w.heap.size) (o := 1) hw2 (by have := NE.out.1; omega)).trans X123.out.2.1
       have q5 := (C3.out.cell (b := w.heap.size) (o := 2) hw2 (by have := NE.out.1; omega)).trans X123.out.2.2
       have HC3 := Lib.hid (own_chg HC2.out C3.out fun k hk e => NE.out.2.2.2 (by cases hk; exact e))
       have q6 : w3.frozen? ⟨g, ps * 2 + 1, none⟩ = false := by obtain ⟨g', cap', hv, _, _, _, _, hfr⟩ := own_some HC3.out (by omega); simp only [Value.slice.injEq, Option.some.injEq, Addr.mk.injEq, and_true, true_and] at hv; obtain ⟨rfl, _⟩ := hv; exact hfr _
       have hown2 := Lib.hid hown2
       have hgrow2 := Lib.hid hgrow2
       have hat2 := Lib.hid hat2))
  all_goals
    go_wp2
    go_ret
    rw [HP.out]
    have hC := (Below.chg (fun j => cs[ps].vv.ownBlock = some j) H6.out).trans C3.out fun k _ e => by subst e; rw [hvv.out.1]; rfl
    have hA := HSt.out.addOld (mv := ⟨ts, tb, .slice ra row.length rc, row⟩) hp hC (by rw [hvv.out.2]; exact hown2.out) (fun k hk => by
      cases hk
      rcases hat2.out with e | e
      · left; rw [hvv.out.1]; exact e
      · right; show w.heap.size ≤ g2; have := S2.out; omega) hrow
    exact ⟨rfl, ⟨_, _, hA.1, MAP.out _, OK2.out⟩, hA.2⟩
end
end Go.Proofs.Ytnbhdpmhgamjfaa.Mv
