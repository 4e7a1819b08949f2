/- Locks: what stores leave of the manager; grant. -/
import Derived.Test.YtbimkciejfbodaaLkc
import Derived.Deep.RegionHeld3
namespace Go.Proofs.Ytbimkciejfbodaa.Lk
open Go Go.RowKit Hp
set_option linter.unusedVariables false

theorem Try.infoL : (Try.prog.info? 33).map (fun i => (i.zero, i.size, i.bytes)) = some (some (.agg #[.int .i64 0, .string ByteArray.empty, .string ByteArray.empty, .int .i64 0]), 4, 48) := by kernel_rfl
section
variable {w w' : World} {p : Nat} {F F' : Nat → Prop} {M : Mg} {gv qv gv' qv' : Value} {l' : List Lk}
theorem ManP.putG (h : ManP w p F M gv qv) (C : Chg (fun j => gv.ownBlock = some j ∨ j = p) w w') (hb : Blk w' p [gv', qv] 56) (hown : w'.ownsRow 0 33 4 gv' l'.length (lkC l')) (hF : ∀ k, F k → F' k) (hl : ∀ k, F' k → k < w'.heap.size)
    (hgF : ∀ k, gv'.ownBlock = some k → F' k) (hd : ∀ k, gv'.ownBlock = some k → gv.ownBlock = some k ∨ ¬ F k) : ManP w' p F' ⟨l', M.qu⟩ gv' qv := by
  have tp := blk_ty h.blk
  refine ⟨hl, hF _ h.fp, hb, hown, hgF, own_chg h.qo C fun k hk e => ?_, fun k hk => hF k (h.qF k hk), fun k hk e => ?_⟩
  · rcases e with e | e
    · exact h.dis k e hk
    · subst e; exact ((own_ty h.qo) _ hk).1.ne (E' := 56) (by decide) tp
  · rcases hd k hk with e2 | e2
    · exact h.dis k e2 e
    · exact e2 (h.qF k e)
theorem ManP.putQ (h : ManP w p F M gv qv) (C : Chg (fun j => qv.ownBlock = some j ∨ j = p) w w') (hb : Blk w' p [gv, qv'] 56) (hown : w'.ownsRow 0 33 4 qv' l'.length (lkC l')) (hF : ∀ k, F k → F' k) (hl : ∀ k, F' k → k < w'.heap.size)
    (hgF : ∀ k, qv'.ownBlock = some k → F' k) (hd : ∀ k, qv'.ownBlock = some k → qv.ownBlock = some k ∨ ¬ F k) : ManP w' p F' ⟨M.gr, l'⟩ gv qv' := by
  have tp := blk_ty h.blk
  refine ⟨hl, hF _ h.fp, hb, own_chg h.go C fun k hk e => ?_, fun k hk => hF k (h.gF k hk), hown, hgF, fun k hk e => ?_⟩
  · rcases e with e | e
    · exact h.dis k hk e
    · subst e; exact ((own_ty h.go) _ hk).1.ne (E' := 56) (by decide) tp
  · rcases hd k e with e2 | e2
    · exact h.dis k hk e2
    · exact e2 (h.gF k hk)
/-- One of the two slices is one longer, and stored back. -/
theorem ManP.appG {wr W1 w2 : World} {g c H : Nat} {l : Lk} (h : ManP wr p F M gv qv) (hU : Up wr W1) (hown : w2.ownsRow 0 33 4 (.slice (some ⟨g, 0, none⟩) (M.gr.length + 1) c) (M.gr.length + 1) (lkC M.gr ++ lkC1 l)) (hg : W1.grownBy w2 gv.ownBlock) (hat : gv.ownBlock = some g ∨ g = H) (hH : wr.heap.size ≤ H) :
    ManPost p ⟨M.gr ++ [l], M.qu⟩ F wr (w2.setCell ⟨p, 0, none⟩ (.slice (some ⟨g, 0, none⟩) (M.gr.length + 1) c)) := by
  obtain ⟨q1, q2, q3, q4, q5, q6, q7⟩ := fld_append (i := 0) h.blk (by decide) h.go hU hown hg hat hH
  have hgo : ∀ k, (Value.slice (some ⟨g, 0, none⟩) (M.gr.length + 1) c).ownBlock = some k → g = k := fun k hk => by simpa [Value.ownBlock] using hk
  refine ⟨⟨_, qv, h.putG q4 q1 (by simpa [lkC] using q2) (fun k hk => .inl hk) (fun k hk => fx_ltp h.lt q4.size hk) (fun k hk => ?_) fun k hk => ?_⟩, q4.mono fun j _ e => ?_⟩
  · obtain rfl := hgo k hk
    rcases q5 with e | e
    · exact .inl (h.gF _ e)
    · exact .inr ⟨e, q6⟩
  · obtain rfl := hgo k hk
    rcases q5 with e | e
    · exact .inl e
    · exact .inr fun e2 => by have := h.lt _ e2; omega
  · rcases e with e | e
    · exact h.gF j e
    · subst e; exact h.fp
theorem ManP.appQ {wr W1 w2 : World} {g c H : Nat} {l : Lk} (h : ManP wr p F M gv qv) (hU : Up wr W1) (hown : w2.ownsRow 0 33 4 (.slice (some ⟨g, 0, none⟩) (M.qu.length + 1) c) (M.qu.length + 1) (lkC M.qu ++ lkC1 l)) (hg : W1.grownBy w2 qv.ownBlock) (hat : qv.ownBlock = some g ∨ g = H) (hH : wr.heap.size ≤ H) :
    ManPost p ⟨M.gr, M.qu ++ [l]⟩ F wr (w2.setCell ⟨p, 1, none⟩ (.slice (some ⟨g, 0, none⟩) (M.qu.length + 1) c)) := by
  obtain ⟨q1, q2, q3, q4, q5, q6, q7⟩ := fld_append (i := 1) h.blk (by decide) h.qo hU hown hg hat hH
  have hgo : ∀ k, (Value.slice (some ⟨g, 0, none⟩) (M.qu.length + 1) c).ownBlock = some k → g = k := fun k hk => by simpa [Value.ownBlock] using hk
  refine ⟨⟨gv, _, h.putQ q4 q1 (by simpa [lkC] using q2) (fun k hk => .inl hk) (fun k hk => fx_ltp h.lt q4.size hk) (fun k hk => ?_) fun k hk => ?_⟩, q4.mono fun j _ e => ?_⟩
  · obtain rfl := hgo k hk
    rcases q5 with e | e
    · exact .inl (h.qF _ e)
    · exact .inr ⟨e, q6⟩
  · obtain rfl := hgo k hk
    rcases q5 with e | e
    · exact .inl e
    · exact .inr fun e2 => by have := h.lt _ e2; omega
  · rcases e with e | e
    · exact h.qF j e
    · subst e; exact h.fp
theorem ManP.setM {g c i : Nat} {m : Int} (h : ManP w p F M (.slice (some ⟨g, 0, none⟩) M.gr.length c) qv) (hi : i < M.gr.length) : ManPost p ⟨M.gr.set i { M.gr[i] with mode := m }, M.qu⟩ F w (w.setCell ⟨g, i * 4 + 3, none⟩ (.int .i64 m)) := by
  have C := chg_set w g (i * 4 + 3) none (.int .i64 m)
  have hgF : F g := h.gF g rfl
  have hgt := ((own_ty h.go) g rfl).1
  have hs : (w.setCell ⟨g, i * 4 + 3, none⟩ (.int .i64 m)).heap.size = w.heap.size := by simp [World.setCell]
  have ho := own_set h.go (i * 4 + 3) (by rw [lkC_len]; omega) (.int .i64 m)
  rw [show (lkC M.gr).set (i * 4 + 3) (.int .i64 m) = lkC (M.gr.set i { M.gr[i] with mode := m }) from fm_set (f := lkC1) (k := 4) (fun _ => rfl) M.gr i 3 hi (by omega) _ _ (by simp [lkC1])] at ho
  exact ⟨⟨_, qv, h.putG (C.mono fun j _ e => .inl (by rw [e]; rfl)) (h.blk.other (fun e => by subst e; exact hgt.ne (E' := 56) (by decide) (blk_ty h.blk)) _ _ _) (by rw [List.length_set]; exact ho) (fun k hk => .inl hk) (fun k hk => fx_ltp h.lt (by omega) hk) (fun k hk => .inl (h.gF k hk)) fun k hk => .inl hk⟩,
    C.mono fun j _ e => by rw [e]; exact hgF⟩
end
set_option maxRecDepth 100000 in
set_option maxHeartbeats 4000000 in
theorem grant_any (p : Nat) (M : Mg) (F : Nat → Prop) (l : Lk) (w : World) (h : ManR w p M F) (hl : M.gr.length ≤ 100000) :
    Calls Try.prog 31 #[.pointer (some ⟨p, 0, none⟩), lkV l] w fun e w' => e = .returned (.tuple #[]) ∧ ManPost p ⟨grantL M.gr l, M.qu⟩ F w w' := by
  obtain ⟨i0, hi0, hz0, hz1, hz2⟩ := info_parts Try.infoL
  have HR := Lib.hid h
  obtain ⟨gv, qv, hP⟩ := h
  have HB := LB.new w l
  have U0 := (Up.refl w).alloc (.cells #[.int .i64 l.tx, .string l.tab, .string l.key, .int .i64 l.mode] 33)
  have HIX := Lib.hid (ix_G w.heap.size (fun x => sameL x l) gv M.gr _ (cl_G _ _ l HB) (own_src (own_up hP.go U0)) hl)
  obtain ⟨hpl, c0⟩ := hP.blk.at (i := 0) rfl
  have HP := Lib.hid hP
  obtain ⟨ga, gc, rfl, hg1, hg2, _⟩ := own_form hP.go
  have HU := Lib.hid U0
  have HBX := Lib.hid HB
  rcases idx_cases (fun x => sameL x l) M.gr with ⟨hi, hn⟩ | ⟨i, hil, hi, ht, hn⟩
  · rw [hi] at HIX
    have HM := Lib.hid (grantL_miss hn)
    clear hi hn hP U0 HB
    unfold lkV
    go_enter Try.func31, Try.ntmps31
    go_wp2_with (first
      | (go_at_call 26; refine HIX.out.mono ?_; rintro e w2 ⟨rfl, h2⟩; have H2 := Lib.hid (HU.out.trans h2); have HX2 := Lib.hid (HBX.out.up h2); clear h2)
      | fail)
    have c2 := (H2.out.cell (p := ⟨p, 0, none⟩) hpl).trans c0
    have hp2 := Nat.lt_of_lt_of_le hpl H2.out.size
    have x0 := (Blk.at HX2.out (i := 0) rfl).2
    have x1 := (Blk.at HX2.out (i := 1) rfl).2
    have x2 := (Blk.at HX2.out (i := 2) rfl).2
    have x3 := (Blk.at HX2.out (i := 3) rfl).2
    have xl := Blk.lt HX2.out
    have P2 := Lib.hid (HP.out.up H2.out)
    have BAK := Lib.hid P2.out.go
    have HLT := Lib.hid HP.out.lt
    refine region_split (fun a a' W => ∃ (v28 v : Value), Hid (ManPost p ⟨M.gr ++ [l], M.qu⟩ F w2 W) ∧ a' = (((((((((a.put (some 22) (.pointer (some ⟨p, 0, none⟩))).put (some 23) (.pointer (some ⟨p, 0, none⟩))).put (some 24) (.pointer (some ⟨p, 0, none⟩))).put (some 25) (.pointer (some ⟨p, 0, none⟩))).put (some 26) (.slice ga M.gr.length gc)).put (some 27) (.agg #[.int .i64 l.tx, .string l.tab, .string l.key, .int .i64 l.mode])).put (some 28) v28).put (some 29) v).put (some 30) (.pointer (some ⟨p, 0, none⟩))).put (some 31) (.pointer (some ⟨p, 0, none⟩))) ?_ ?_
    · simp only [Act.put, List.setIfInBounds_toArray, List.set_cons_zero, List.set_cons_succ]
      go_region_law (first
        | (refine step_append_lies _ rfl (.tmp 26) (.tmp 28) 52 rfl 0 33 i0 (.agg #[.int .i64 0, .string ByteArray.empty, .string ByteArray.empty, .int .i64 0]) 4 48 Try.underlying52 hi0 hz0 hz1 hz2 rfl (by decide) (.slice ga M.gr.length gc) M.gr.length (lkC M.gr) (by simp [Act.eval]) (own_up BAK.out ((Up.refl w2).alloc _).drew) ⟨w2.heap.size, 0, none⟩ 1 1 (lkC1 l) (by simp [Act.eval]) rfl (fun j u hu => cells_new w2 #[.int .i64 l.tx, .string l.tab, .string l.key, .int .i64 l.mode] 33 j u hu) (by intro u hu; simp [lkC1] at hu; rcases hu with rfl | rfl | rfl | rfl <;> rfl) (by omega) (by unfold maxLen; omega) (by omega) (Nat.zero_le _) _ rfl ?_
           intro g9 c9 w5 hown9 hgrow9 hat9 hlt9
           have PB5 := fld_far P2.out.blk (by decide) BAK.out ((Up.refl w2).alloc _).drew hgrow9
           have q2 := (PB5.at (i := 0) rfl).2
           have q3 := PB5.free 0
           have hp5 := PB5.lt
           have FIN := Lib.hid (P2.out.appG ((Up.refl w2).alloc _).drew hown9 hgrow9 hat9 (((Up.refl w2).alloc _).drew).size)
           clear hown9 hgrow9 hat9 PB5)
        | fail)
      all_goals exact OnNormal.of ⟨_, _, FIN.out, rfl⟩
    · simp only [Act.put, List.setIfInBounds_toArray, List.set_cons_zero, List.set_cons_succ]
      rintro a' W5 ⟨v28, v, hf, rfl⟩
      have HF := Lib.hid hf.out
      clear hf
      go_wp2
      go_end0
      exact ⟨rfl, by rw [HM.out]; exact ManPost.behind HLT.out H2.out HF.out⟩
  · rw [hi] at HIX
    have HM := Lib.hid (grantL_hit hil ht hn)
    have HLT := Lib.hid HP.out.lt
    have hii : (i : Int) < (M.gr.length : Int) := by omega
    obtain ⟨gg, gcap, hgv, _, _, hgl, hgat, hgf⟩ := own_some HP.out.go (by omega)
    simp only [Value.slice.injEq] at hgv
    obtain ⟨rfl, hkk, rfl⟩ := hgv
    clear hkk hi hn hP U0 HB ht hgat hgf
    unfold lkV
    go_enter Try.func31, Try.ntmps31
    go_wp2_with (first
      | (go_at_call 26; refine HIX.out.mono ?_; rintro e w2 ⟨rfl, h2⟩; have H2 := Lib.hid (HU.out.trans h2); have HX2 := Lib.hid (HBX.out.up h2); clear h2)
      | fail)
    have c2 := (H2.out.cell (p := ⟨p, 0, none⟩) hpl).trans c0
    have hp2 := Nat.lt_of_lt_of_le hpl H2.out.size
    have x3 := (Blk.at HX2.out (i := 3) rfl).2
    have xl := Blk.lt HX2.out
    have P2 := Lib.hid (HP.out.up H2.out)
    obtain ⟨gg', gcap', hgv', _, _, hgl2, hgat2, hgf2⟩ := own_some P2.out.go (by omega)
    simp only [Value.slice.injEq, Option.some.injEq, Addr.mk.injEq, and_true, true_and] at hgv'
    obtain ⟨rfl, rfl⟩ := hgv'
    obtain ⟨g0, g1, g2, g3⟩ := lkC_get M.gr i hil
    have y3 := hgat2 _ _ g3
    have y4 := hgf2 (i * 4 + 3)
    have hne1 : ¬ gg = p := fun e => by subst e; exact ((own_ty HP.out.go) _ rfl).1.ne (E' := 56) (by decide) (blk_ty HP.out.blk)
    have hne2 : ¬ gg = w.heap.size := by omega
    have k1 := ((chg_set w2 gg (i * 4 + 3) none (.int .i64 l.mode)).cell (b := p) (o := 0) hp2 (fun e => hne1 e.symm)).trans c2
    have k2 := ((chg_set w2 gg (i * 4 + 3) none (.int .i64 l.mode)).cell (b := w.heap.size) (o := 3) xl (fun e => hne2 e.symm)).trans x3
    have FIN := Lib.hid (P2.out.setM (m := l.mode) hil)
    generalize M.gr[i].mode = m0 at *
    clear hgat2 hgf2 g0 g1 g2 g3
    go_region_held3 (fun w' => w'.cell? ⟨p, 0, none⟩ = some (.slice (some ⟨gg, 0, none⟩) M.gr.length gc) ∧ w'.cell? ⟨w.heap.size, 3, none⟩ = some (.int .i64 l.mode)) (first | exact ⟨k1, k2⟩ | go_keep) (fail)
    clear k1 k2
    go_wp2
    (try simp only [Exit.inBlock, Exit.then])
    refine bodyPost_ret (results_none rfl _ _ _) rfl ?_
    exact ⟨rfl, by rw [HM.out]; exact ManPost.behind HLT.out H2.out (FIN.out.ahead P2.out.lt ((Up.refl _).drew))⟩
end Go.Proofs.Ytbimkciejfbodaa.Lk
