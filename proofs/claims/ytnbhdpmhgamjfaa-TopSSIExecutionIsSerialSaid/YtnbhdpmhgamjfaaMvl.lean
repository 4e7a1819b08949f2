/- The multi-version store: add, a new key. -/
import Derived.Test.YtnbhdpmhgamjfaaMvk
namespace Go.Proofs.Ytnbhdpmhgamjfaa.Mv
open Go Go.RowKit Hp So
set_option linter.unusedVariables false

theorem StP.one {w : World} {p : Nat} {cs : List MC} {hz : Int} {F : Nat → Prop} {cv : Value} (h : StP w p cs hz F cv) : ∀ u ∈ mcC cs, u.oneCell' = true := fun u hu => by
  obtain ⟨c, hc, hu⟩ := List.mem_flatMap.1 hu
  obtain ⟨a, cap, e, _⟩ := own_form (h.vrs c hc)
  simp only [mcC1, List.mem_cons, List.not_mem_nil, or_false] at hu
  rcases hu with rfl | rfl
  · rfl
  · rw [e]; rfl
theorem set_mid {α : Type} (A B : List α) (x y : α) (n : Nat) (h : A.length = n) : (A ++ x :: B).set n y = A ++ y :: B := by
  subst h
  rw [List.set_append_right _ _ (Nat.le_refl _), Nat.sub_self, List.set_cons_zero]
theorem add_end {w w2 w4 w5 : World} {p : Nat} {cs : List MC} {hz : Int} {F : Nat → Prop} {g cap ps g2 c2 : Nat} {t : ByteArray} {ts : Int} {tb : Bool} {rv : Value} {row : List Val} {l' : List PC} (hl : ∀ k, F k → k < w.heap.size) (h6 : Up w w2)
    (hI : StP w4 p (cs.take ps ++ (⟨t, .slice none 0 0, []⟩ : MC) :: cs.drop ps) hz (Fx F w2 w4) (.slice (some ⟨g, 0, none⟩) (cs.length + 1) cap) ∧ Chg F w2 w4) (hps : ps ≤ cs.length) (C3 : Chg (fun _ => False) w4 w5)
    (hown : w5.ownsRow 0 94 3 (.slice (some ⟨g2, 0, none⟩) 1 c2) 1 (mvC1 ⟨ts, tb, rv, row⟩)) (hat : w4.heap.size ≤ g2) (hrow : RowIn w4 (Fx F w2 w4) rv row)
    (MAP : ∀ v', ((cs.take ps ++ (⟨t, v', [⟨ts, tb, rv, row⟩]⟩ : MC) :: cs.drop ps).map erC) = l') (ok : SOk l' hz) :
    StR (w5.setCell ⟨g, ps * 2 + 1, none⟩ (.slice (some ⟨g2, 0, none⟩) 1 c2)) p l' hz (Fx F w (w5.setCell ⟨g, ps * 2 + 1, none⟩ (.slice (some ⟨g2, 0, none⟩) 1 c2))) ∧ Chg F w (w5.setCell ⟨g, ps * 2 + 1, none⟩ (.slice (some ⟨g2, 0, none⟩) 1 c2)) := by
  have htl : (cs.take ps).length = ps := by rw [List.length_take]; show min _ _ = _; omega
  have hlen : (cs.take ps ++ (⟨t, .slice none 0 0, []⟩ : MC) :: cs.drop ps).length = cs.length + 1 := by simp only [List.length_append, htl, List.length_cons, List.length_drop]; omega
  have hil : ps < (cs.take ps ++ (⟨t, .slice none 0 0, []⟩ : MC) :: cs.drop ps).length := by omega
  have hel : (cs.take ps ++ (⟨t, .slice none 0 0, []⟩ : MC) :: cs.drop ps)[ps] = ⟨t, .slice none 0 0, []⟩ := by
    rw [List.getElem_append_right (by omega)]
    simp only [htl, Nat.sub_self, List.getElem_cons_zero]
  have hS : StP w4 p (cs.take ps ++ (⟨t, .slice none 0 0, []⟩ : MC) :: cs.drop ps) hz (Fx F w2 w4) (.slice (some ⟨g, 0, none⟩) (cs.take ps ++ (⟨t, .slice none 0 0, []⟩ : MC) :: cs.drop ps).length cap) := by rw [hlen]; exact hI.1
  have hA := hS.addOld (mv := ⟨ts, tb, rv, row⟩) (v' := .slice (some ⟨g2, 0, none⟩) 1 c2) hil (C3.mono fun _ _ e => e.elim) (by rw [hel]; simpa [mvC] using hown) (fun k hk => by cases hk; exact .inr hat) hrow
  rw [hel] at hA
  have e2 := set_mid (cs.take ps) (cs.drop ps) ⟨t, .slice none 0 0, []⟩ (⟨t, .slice (some ⟨g2, 0, none⟩) 1 c2, [] ++ [⟨ts, tb, rv, row⟩]⟩ : MC) ps htl
  rw [e2] at hA
  have hB := StP.two (F := F) (w := w2) (fun k hk => by have := hl k hk; have := h6.size; omega) hI.2 hA
  exact StR.behind hl h6 ⟨⟨_, _, hB.1, MAP _, ok⟩, hB.2⟩
section
variable (p : Nat) (l : List PC) (hz : Int) (F : Nat → Prop) (t : ByteArray) (ts : Int) (tb : Bool) (ra : Option Addr) (rc : Nat) (row : List Val) (w : World)
set_option maxRecDepth 100000 in
set_option maxHeartbeats 4000000 in
theorem add_new (h : StR w p l hz F) (hk : ¬ 24 < t.size) (hr : ¬ 6 < row.length) (ht : ¬ ts < 1) (ht2 : ¬ 1099511627776 < ts) (hg : ¬ ts ≤ hz) (hh : has l t = false) (hc : cnt l ≠ 400) (hrow : RowIn w F (.slice ra row.length rc) row) : Calls Try.prog 41 #[.pointer (some ⟨p, 0, none⟩), .string t, .agg #[.int .i64 ts, .bool tb, .slice ra row.length rc]] w (AddPost p (addL l hz t ⟨ts, tb, row⟩).1 (addL l hz t ⟨ts, tb, row⟩).2 hz F w) := by
  have hk2 : ¬ (24 : Int) < (t.size : Int) := by omega
  have hr2 : ¬ (6 : Int) < (row.length : Int) := by omega
  obtain ⟨i0, hi0, hz0, hz1, hz2⟩ := info_parts Try.infoVer
  have HP : Hid (addL l hz t ⟨ts, tb, row⟩ = (l.take (pos l t) ++ (t, [⟨ts, tb, row⟩]) :: l.drop (pos l t), 0)) := by unfold Hid addL; rw [if_neg (show ¬ (24 < t.size ∨ 6 < row.length) by omega), if_neg (show ¬ (ts < 1 ∨ 1099511627776 < ts) by omega), if_neg hg, if_neg (by rw [hh]; simp), if_neg hc, if_neg (by rw [hh]; simp)]
  have HSC : Hid (∀ W, Up w W → Calls Try.prog 40 #[.pointer (some ⟨p, 0, none⟩), .string t] W fun e w' => e = .returned (.tuple #[.int .i64 (pos l t : Nat), .bool false]) ∧ Up W w') := fun W hu => by have := search_any p l hz F t W (h.up hu); rwa [hh] at this
  have HLN : Hid (∀ W, Up w W → Calls Try.prog 26 #[.pointer (some ⟨p, 0, none⟩)] W fun e w' => e = .returned (.int .i64 (cnt l : Nat)) ∧ Up W w') := fun W hu => by have := len_any p l hz F W (h.up hu); exact this
  obtain ⟨cb1, cb2⟩ := cntb (by obtain ⟨_, _, _, _, ok⟩ := h; exact ok.cnt) hc
  obtain ⟨cv, cs, h, rfl, ok⟩ := h
  have hlen := ok.len
  rw [List.length_map] at hlen
  have hple := pos_le (cs.map erC) t
  rw [List.length_map] at hple
  have OK2 : Hid (SOk ((cs.map erC).take (pos (cs.map erC) t) ++ (t, [⟨ts, tb, row⟩]) :: (cs.map erC).drop (pos (cs.map erC) t)) hz) := ok.ins (by omega) hh (by show row.length ≤ 6; omega) ⟨by show 1 ≤ ts; omega, by show ts ≤ _; omega⟩ hc
  obtain ⟨a0, cap0, rfl, _, _, _⟩ := own_form h.chn
  have c1 := h.blk.cell 1
  rw [show ([Value.slice a0 cs.length cap0, .int .i64 hz])[1]? = some (.int .i64 hz) from rfl] at c1
  have c0 := h.blk.cell 0
  rw [show ([Value.slice a0 cs.length cap0, .int .i64 hz])[0]? = some (.slice a0 cs.length cap0) from rfl] at c0
  have hpl := h.blk.lt
  have c1' := ((Up.refl w).alloc (.cells #[.int .i64 ts, .bool tb, .slice ra row.length rc] 94)).cell (p := ⟨p, 1, none⟩) hpl
  rw [c1] at c1'
  have C0 : Hid (At w p 0 (.slice a0 cs.length cap0)) := ⟨hpl, c0⟩
  have W1 : Hid (∀ w', Up (w.alloc (.cells #[.int .i64 ts, .bool tb, .slice ra row.length rc] 94)) w' → Blk w' w.heap.size [.int .i64 ts, .bool tb, .slice ra row.length rc] 94) := fun w' hu => (Blk.new w _ _).up hu
  have HSt := Lib.hid h
  have HONE := Lib.hid h.one
  have MAP : Hid (∀ v', ((cs.take (pos (cs.map erC) t) ++ ⟨t, v', [⟨ts, tb, .slice ra row.length rc, row⟩]⟩ :: cs.drop (pos (cs.map erC) t)).map erC) = (cs.map erC).take (pos (cs.map erC) t) ++ (t, [⟨ts, tb, row⟩]) :: (cs.map erC).drop (pos (cs.map erC) t)) := fun v' => by
    simp [erC, erV]
  generalize pos (cs.map erC) t = ps at *
  clear h ok c0 c1 hh hc
  go_enter Try.func41, Try.ntmps41
  go_wp2
  go_quiet (fail)
  go_wp2_with (go_at_call 40; refine (HSC.out _ (((Up.refl w).alloc _).drewN _)).mono ?_; rintro e w1 ⟨rfl, h4⟩; have H4 := Lib.hid ((((Up.refl w).alloc _).drewN _).trans h4); have H5 := Lib.hid (((Up.refl _).drewN _).trans h4); clear h4)
  go_quiet (fail)
  go_wp2_with (first
    | (go_at_call 26; refine (HLN.out _ (H4.out.drewN _)).mono ?_; rintro e w2 ⟨rfl, h4⟩; have H6 := Lib.hid ((H4.out.drewN _).trans h4); have H7 := Lib.hid ((H5.out.drewN _).trans h4); have c0 := (C0.out.grow H6.out).2; have HT := Lib.hid (HSt.out.up H6.out); have BX := Lib.hid (W1.out _ H7.out); clear h4)
    | (go_at_call 61; refine (ins_any _ cs.length ps (mcC cs) [.string t, .slice none 0 0] _ _ (own_up HT.out.chn ((Up.refl _).alloc _)) hple (by omega) (Blk.new _ _ _) rfl (fun e => by have := own_lt HT.out.chn _ e; simp at this) HONE.out (by intro u hu; simp at hu; rcases hu with rfl | rfl <;> rfl)).mono ?_;
       rintro e w3 ⟨v', rfl, h1, h2, h3⟩; obtain ⟨g, cap, rfl, _, _, _⟩ := own_cell h1 (by omega); have HB := Lib.hid (fld_far HT.out.blk (by decide) HT.out.chn ((Up.refl _).alloc _) h2); have q0 := HB.out.free 0; have q1 := HB.out.cell 0; rw [show ([Value.slice a0 cs.length cap0, .int .i64 hz])[0]? = some (.slice a0 cs.length cap0) from rfl] at q1; have H1 := Lib.hid h1; have H2 := Lib.hid h2; have H3 := Lib.hid h3; clear h1 h2 h3))
  obtain ⟨w4, hw4⟩ : ∃ w4, w4 = w3.setCell ⟨p, 0, none⟩ (.slice (some ⟨g, 0, none⟩) (cs.length + 1) cap) := ⟨_, rfl⟩
  rw [← hw4]
  have hp2 : p < w2.heap.size := HT.out.blk.lt
  have hC1 : Chg (fun j => (Value.slice a0 cs.length cap0).ownBlock = some j) w2 w3 := ((Chg.refl _ w2).alloc _).grown H2.out fun k hk => .inl hk
  have hI := HT.out.insChain (t := t) hple hC1 H1.out (fun k hk => by
    rcases H3.out with e | ⟨g', e, hg'⟩
    · exact .inl (e.symm.trans hk)
    · rw [e] at hk; cases hk; exact .inr (by simp at hg'; omega))
  rw [← hw4] at hI
  have HI := Lib.hid hI
  have hbx : ¬ ((Value.slice a0 cs.length cap0).ownBlock = some w.heap.size ∨ w.heap.size = p) := fun e => by
    rcases e with e | e
    · have := own_lt HSt.out.chn _ e; omega
    · have := HSt.out.blk.lt; omega
  have hC1' : Chg (fun j => (Value.slice a0 cs.length cap0).ownBlock = some j ∨ j = p) w2 w4 := by rw [hw4]; exact hC1.or (chg_set w3 p 0 none _)
  have BX4 := BX.out.chg hC1' hbx
  have HROW : Hid (RowIn w4 (Fx F w2 w4) (.slice ra row.length rc) row) := ((hrow.chg (F' := F) (Below.chg (fun _ => False) H6.out) fun k hk _ => ⟨fun e => e, hk⟩).chg hC1' fun k hk ht => ⟨fun e => by
    rcases e with e | e
    · exact ht.ne (by decide) ((own_ty HT.out.chn) k e).1
    · subst e; exact ht.ne (by decide) (blk_ty HT.out.blk), .inl hk⟩)
  have hil : ps < (cs.take ps ++ (⟨t, .slice none 0 0, []⟩ : MC) :: cs.drop ps).length := by simp only [List.length_append, List.length_take, List.length_cons, List.length_drop]; show ps < min _ _ + _; omega
  have hlen4 : (cs.take ps ++ (⟨t, .slice none 0 0, []⟩ : MC) :: cs.drop ps).length = cs.length + 1 := by simp only [List.length_append, List.length_take, List.length_cons, List.length_drop]; show min _ _ + _ = _; omega
  have hel : (cs.take ps ++ (⟨t, .slice none 0 0, []⟩ : MC) :: cs.drop ps)[ps] = ⟨t, .slice none 0 0, []⟩ := by
    rw [List.getElem_append_right (by rw [List.length_take]; show min _ _ ≤ _; omega)]
    have : ps - (cs.take ps).length = 0 := by rw [List.length_take]; show _ - min _ _ = _; omega
    simp only [this, List.getElem_cons_zero]
  have hcc := HI.out.1.chn
  have c0 := HI.out.1.blk.cell 0
  rw [show ([Value.slice (some ⟨g, 0, none⟩) (cs.length + 1) cap, .int .i64 hz])[0]? = some (.slice (some ⟨g, 0, none⟩) (cs.length + 1) cap) from rfl] at c0
  obtain ⟨g', cap', hv', _, _, hcell⟩ := own_cell hcc (by omega)
  simp only [Value.slice.injEq, Option.some.injEq, Addr.mk.injEq, and_true] at hv'
  obtain ⟨rfl, _, rfl⟩ := hv'
  have e1A := hcell _ _ (mcC_get _ ps hil).2
  rw [hel] at e1A
  have e1 := e1A.2
  have hgl := e1A.1

  have HL4 := Lib.hid hlen4
  have hw4s : w.heap.size < w4.heap.size := BX4.lt
  have hpl4 : p < w4.heap.size := HI.out.1.blk.lt
  have x0 := BX4.cell 0
  have x1 := BX4.cell 1
  have x2 := BX4.cell 2
  rw [show ([Value.int .i64 ts, .bool tb, .slice ra row.length rc])[0]? = some (.int .i64 ts) from rfl] at x0
  rw [show ([Value.int .i64 ts, .bool tb, .slice ra row.length rc])[1]? = some (.bool tb) from rfl] at x1
  rw [show ([Value.int .i64 ts, .bool tb, .slice ra row.length rc])[2]? = some (.slice ra row.length rc) from rfl] at x2
  have c0a := ((Up.refl w4).alloc (.cells #[.int .i64 ts, .bool tb, .slice ra row.length rc] 94)).cell (p := ⟨p, 0, none⟩) hpl4
  have e1a := ((Up.refl w4).alloc (.cells #[.int .i64 ts, .bool tb, .slice ra row.length rc] 94)).cell (p := ⟨g, ps * 2 + 1, none⟩) hgl
  rw [c0] at c0a
  rw [e1] at e1a
  have E1 := Lib.hid e1
  have b3 : (ps : Int) < ((cs.length + 1 : Nat) : Int) := by omega
  have b3' : (ps : Int) < (cs.length : Int) + 1 := by omega
  have b4 : (ps : Int) < (ps : Int) + (((cs.length - ps : Nat) : Int) + 1) := by omega
  have HW4 := Lib.hid hw4
  have HC4 := Lib.hid (hI.2)
  clear hI hC1 hC1' BX4 hil hlen4 hel hcc hcell e1A hw4 hbx q0 q1
  go_region_law (first
    | (refine step_append_lies _ rfl (.tmp 95) (.tmp 97) 95 rfl 0 94 i0 (.agg #[.int .i64 0, .bool false, .slice none 0 0]) 3 40 Try.underlying95 hi0 hz0 hz1 hz2 rfl (by decide) (.slice none 0 0) 0 [] (by simp [Act.eval]) (World.ownsRow_nil _ _ _ _) ⟨w4.heap.size, 0, none⟩ 1 1 [.int .i64 ts, .bool tb, .slice ra row.length rc] (by simp [Act.eval]) rfl (vcell w4 w4.heap.size rfl _ _ _ _) (by intro u hu; simp at hu; rcases hu with rfl | rfl | rfl <;> rfl) (by decide) (by unfold maxLen; omega) (by omega) (by omega) (w4.heap.size + 1) (by simp) ?_
       intro g2 c2 w5 hown2 hgrow2 hat2 hlt2
       have C3 : Hid (Chg (fun j => False) w4 w5) := by first | exact (((Chg.refl _ w4).alloc _).drew).grown hgrow2 (fun k hk => by cases hk) | exact (((Chg.refl _ w4).drew).alloc _).grown hgrow2 (fun k hk => by cases hk)
       have q0 := (C3.out.cell (b := p) (o := 0) hpl4 (fun e => e)).trans c0
       have q1 := (C3.out.cell (b := g) (o := ps * 2 + 1) hgl (fun e => e)).trans E1.out
       have HC3 := Lib.hid (own_chg HI.out.1.chn C3.out fun k hk e => e)
       have q6 : w5.frozen? ⟨g, ps * 2 + 1, none⟩ = false := by obtain ⟨g', cap', hv, _, _, _, _, hfr⟩ := own_some HC3.out (by rw [HL4.out]; omega); simp only [Value.slice.injEq, Option.some.injEq, Addr.mk.injEq, and_true] at hv; obtain ⟨rfl, _⟩ := hv; exact hfr _
       have hown2 := Lib.hid hown2
       have hgrow2 := Lib.hid hgrow2
       have hat2 := Lib.hid hat2))
  all_goals
    go_wp2
    go_ret
    rw [HP.out]
    exact ⟨rfl, add_end HSt.out.lt H6.out HI.out hple C3.out (by simpa [mvC1] using hown2.out) (by rcases hat2.out with e | e; cases e; omega) HROW.out MAP.out OK2.out⟩
end
end Go.Proofs.Ytnbhdpmhgamjfaa.Mv
