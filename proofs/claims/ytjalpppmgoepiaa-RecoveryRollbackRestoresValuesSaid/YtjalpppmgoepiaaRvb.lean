/- Recovery: append. -/
import Derived.Test.YtjalpppmgoepiaaRva
import Derived.Deep.RegionHeld3
namespace Go.Proofs.Ytjalpppmgoepiaa.Rv
open Go Go.RowKit Hp
set_option linter.unusedVariables false

theorem Try.infoR : (Try.prog.info? 50).map (fun i => (i.zero, i.size, i.bytes)) = some (some (.agg #[.int .i64 0, .int .i64 0, .int .i64 0, .int .i64 0, .int .i64 0]), 5, 40) := by kernel_rfl
section
variable {w w' wr W1 w2 : World} {p : Nat} {F F' : Nat → Prop} {E : Eng} {bv dv lv av wv : Value}
/-- The log is one longer, and stored back. -/
theorem EngP.appL {g c H : Nat} {r : Rec} (h : EngP wr p F E bv dv lv av wv) (hU : Up wr W1) (hown : w2.ownsRow 0 50 5 (.slice (some ⟨g, 0, none⟩) (E.log.length + 1) c) (E.log.length + 1) (reC E.log ++ reC1 r)) (hg : W1.grownBy w2 lv.ownBlock) (hat : lv.ownBlock = some g ∨ g = H) (hH : wr.heap.size ≤ H) :
    EngP (w2.setCell ⟨p, 2, none⟩ (.slice (some ⟨g, 0, none⟩) (E.log.length + 1) c)) p (Fx F wr (w2.setCell ⟨p, 2, none⟩ (.slice (some ⟨g, 0, none⟩) (E.log.length + 1) c))) { E with log := E.log ++ [r] } bv dv (.slice (some ⟨g, 0, none⟩) (E.log.length + 1) c) av wv ∧
    Chg F wr (w2.setCell ⟨p, 2, none⟩ (.slice (some ⟨g, 0, none⟩) (E.log.length + 1) c)) := by
  obtain ⟨q1, q2, q3, q4, q5, q6, q7⟩ := fld_append (i := 2) h.blk (by decide) h.lo hU hown hg hat hH
  have hgo : ∀ k, (Value.slice (some ⟨g, 0, none⟩) (E.log.length + 1) c).ownBlock = some k → g = k := fun k hk => by simpa [Value.ownBlock] using hk
  refine ⟨h.putL q4 q1 (by simpa [reC] using q2) (fun k hk => .inl hk) (fun k hk => fx_ltp h.lt q4.size hk) (fun k hk => ?_) fun k hk => ?_, q4.mono fun j _ e => ?_⟩
  · obtain rfl := hgo k hk
    rcases q5 with e | e
    · exact .inl (h.lF _ e)
    · exact .inr ⟨e, q6⟩
  · obtain rfl := hgo k hk
    rcases q5 with e | e
    · exact .inl e
    · exact .inr fun e2 => by have := h.lt _ e2; omega
  · rcases e with e | e
    · exact h.lF j e
    · subst e; exact h.fp
theorem pgC_set (l : List (Int × Nat)) (i : Nat) (h : i < l.length) (v : Int) (n : Nat) : ((pgC l).set (i * 2) (.int .i64 v)).set (i * 2 + 1) (.int .i64 (n : Int)) = pgC (l.set i (v, n)) := by
  have e1 := fm_set (f := pgC1) (k := 2) (fun _ => rfl) l i 0 h (by omega) (.int .i64 v) (v, l[i].2) rfl
  have e2 := fm_set (f := pgC1) (k := 2) (fun _ => rfl) (l.set i (v, l[i].2)) i 1 (by rw [List.length_set]; exact h) (by omega) (.int .i64 (n : Int)) (v, n) (by rw [List.getElem_set_self]; rfl)
  rw [Nat.add_zero] at e1
  unfold pgC
  rw [e1, e2, List.set_set]
/-- A page is stored into the buffer. -/
theorem EngP.setB {g c i n : Nat} {v m : Int} (hm : m = (n : Int)) (h : EngP w p F E (.slice (some ⟨g, 0, none⟩) E.buf.length c) dv lv av wv) (hi : i < E.buf.length) :
    EngP ((w.setCell ⟨g, i * 2, none⟩ (.int .i64 v)).setCell ⟨g, i * 2 + 1, none⟩ (.int .i64 m)) p F { E with buf := E.buf.set i (v, n) } (.slice (some ⟨g, 0, none⟩) E.buf.length c) dv lv av wv ∧
    Chg F w ((w.setCell ⟨g, i * 2, none⟩ (.int .i64 v)).setCell ⟨g, i * 2 + 1, none⟩ (.int .i64 m)) := by
  subst hm
  have hgt := ((own_ty h.bo) g rfl).1
  have C1 : Chg (fun j => j = g) w ((w.setCell ⟨g, i * 2, none⟩ (.int .i64 v)).setCell ⟨g, i * 2 + 1, none⟩ (.int .i64 (n : Int))) := (chg_set w g (i * 2) none _).set (.inl rfl) _ _ _
  have hne : p ≠ g := fun e => by subst e; exact hgt.ne (E' := 44) (by decide) (blk_ty h.blk)
  have o1 := own_set h.bo (i * 2) (by rw [pgC_len]; omega) (.int .i64 v)
  have o2 := own_set o1 (i * 2 + 1) (by rw [List.length_set, pgC_len]; omega) (.int .i64 (n : Int))
  rw [pgC_set _ _ hi] at o2
  exact ⟨h.putB (C1.mono fun j _ e => .inl (by rw [e]; rfl)) ((h.blk.other hne _ _ _).other hne _ _ _) (by rw [List.length_set]; exact o2) (fun k hk => hk) (fun k hk => Nat.lt_of_lt_of_le (h.lt k hk) C1.size) (fun k hk => h.bF k hk) (fun k hk => .inl hk),
    C1.mono fun j _ e => by rw [e]; exact h.bF g rfl⟩
theorem EngP.post (h : EngP w p F E bv dv lv av wv) (h' : EngP w' p F' E bv dv lv av wv) (hc : Chg F w w') (hF : ∀ k, F' k → Fx F w w' k) : EngPost p E F w w' :=
  ⟨⟨bv, dv, lv, av, wv, h'.mono hF fun k hk => fx_ltp h.lt hc.size hk⟩, hc⟩
end
set_option maxRecDepth 100000 in
set_option maxHeartbeats 4000000 in
theorem append_any (p : Nat) (E : Eng) (F : Nat → Prop) (r : Rec) (w : World) (h : EngR w p E F) (hl : E.log.length ≤ 100000) (hp : r.kind ≠ 3 → r.page < E.buf.length) :
    Calls Try.prog 23 #[.pointer (some ⟨p, 0, none⟩), reV r] w fun e w' => e = .returned (.tuple #[]) ∧ EngPost p (appE E r) F w w' := by
  obtain ⟨i0, hi0, hz0, hz1, hz2⟩ := info_parts Try.infoR
  obtain ⟨bv, dv, lv, av, wv, hP⟩ := h
  have U0 := (Up.refl w).alloc (.cells #[.int .i64 (r.kind : Int), .int .i64 (r.tx : Int), .int .i64 (r.page : Int), .int .i64 r.before, .int .i64 r.after] 50)
  obtain ⟨hpl, _⟩ := hP.blk.at (i := 0) rfl
  obtain ⟨w2, hw2⟩ : ∃ w2, w2 = w.alloc (.cells #[.int .i64 (r.kind : Int), .int .i64 (r.tx : Int), .int .i64 (r.page : Int), .int .i64 r.before, .int .i64 r.after] 50) := ⟨_, rfl⟩
  rw [← hw2] at U0
  have HBX : Blk w2 w.heap.size [.int .i64 (r.kind : Int), .int .i64 (r.tx : Int), .int .i64 (r.page : Int), .int .i64 r.before, .int .i64 r.after] 50 := by rw [hw2]; exact Blk.new w _ _
  obtain ⟨ga, gc, rfl, hg1, hg2, _⟩ := own_form hP.lo
  have P2 := Lib.hid (hP.up U0)
  have HP := Lib.hid hP
  have HU := Lib.hid U0
  have HX2 := Lib.hid HBX
  have c2 := (P2.out.blk.at (i := 2) rfl).2
  have hp2 := P2.out.blk.lt
  have x0 := (HX2.out.at (i := 0) rfl).2
  have x1 := (HX2.out.at (i := 1) rfl).2
  have x2 := (HX2.out.at (i := 2) rfl).2
  have x3 := (HX2.out.at (i := 3) rfl).2
  have x4 := (HX2.out.at (i := 4) rfl).2
  have xl := HX2.out.lt
  have BAK := Lib.hid P2.out.lo
  have HLT := Lib.hid hP.lt
  have hpn : ¬ p = w.heap.size := by omega
  clear hP U0 HBX
  unfold reV
  go_enter Try.func23, Try.ntmps23
  go_wp2
  rw [← hw2]
  clear hw2
  refine region_split (fun a a' W => ∃ (v10 : Value) (g c : Nat), Hid (EngP W p (Fx F w2 W) { E with log := E.log ++ [r] } bv dv (.slice (some ⟨g, 0, none⟩) (E.log.length + 1) c) av wv ∧ Chg F w2 W) ∧ a' = ((((((((((a.put (some 4) (.pointer (some ⟨p, 0, none⟩))).put (some 5) (.pointer (some ⟨p, 0, none⟩))).put (some 6) (.pointer (some ⟨p, 0, none⟩))).put (some 7) (.pointer (some ⟨p, 2, none⟩))).put (some 8) (.slice ga E.log.length gc)).put (some 9) (.agg #[.int .i64 (r.kind : Int), .int .i64 (r.tx : Int), .int .i64 (r.page : Int), .int .i64 r.before, .int .i64 r.after])).put (some 10) v10).put (some 11) (.slice (some ⟨g, 0, none⟩) (E.log.length + 1) c)).put (some 12) (.pointer (some ⟨p, 0, none⟩))).put (some 13) (.pointer (some ⟨p, 2, none⟩)))) ?_ ?_
  · simp only [Act.put, List.setIfInBounds_toArray, List.set_cons_zero, List.set_cons_succ]
    go_region_law (first
      | (refine step_append_lies _ rfl (.tmp 8) (.tmp 10) 42 rfl 0 50 i0 (.agg #[.int .i64 0, .int .i64 0, .int .i64 0, .int .i64 0, .int .i64 0]) 5 40 Try.underlying42 hi0 hz0 hz1 hz2 rfl (by decide) (.slice ga E.log.length gc) E.log.length (reC E.log) (by simp [Act.eval]) (own_up BAK.out ((Up.refl w2).alloc _).drew) ⟨w2.heap.size, 0, none⟩ 1 1 (reC1 r) (by simp [Act.eval]) rfl (fun j u hu => cells_new w2 #[.int .i64 (r.kind : Int), .int .i64 (r.tx : Int), .int .i64 (r.page : Int), .int .i64 r.before, .int .i64 r.after] 50 j u hu) (by intro u hu; simp [reC1] at hu; rcases hu with rfl | rfl | rfl | rfl | rfl <;> rfl) (by omega) (by unfold maxLen; omega) (by omega) (Nat.zero_le _) _ rfl ?_
         intro g9 c9 w5 hown9 hgrow9 hat9 hlt9
         have PB5 := fld_far P2.out.blk (by decide) BAK.out ((Up.refl w2).alloc _).drew hgrow9
         have q2 := (PB5.at (i := 2) rfl).2
         have q3 := PB5.free 2
         have hp5 := PB5.lt
         have FIN := Lib.hid (P2.out.appL ((Up.refl w2).alloc _).drew hown9 hgrow9 hat9 (((Up.refl w2).alloc _).drew).size)
         clear hown9 hgrow9 hat9 PB5)
      | fail)
    all_goals exact OnNormal.of ⟨_, _, _, FIN.out, rfl⟩
  · simp only [Act.put, List.setIfInBounds_toArray, List.set_cons_zero, List.set_cons_succ]
    rintro a' W5 ⟨v10, g5, c5, hf, rfl⟩
    have P5 := Lib.hid hf.out.1
    have C5 := Lib.hid hf.out.2
    clear hf c2 hp2 x0 x1 x2 x3 x4 xl
    have XX := Lib.hid (HX2.out.chg C5.out fun e => by have := HLT.out _ e; omega)
    have x0 := (XX.out.at (i := 0) rfl).2
    have x2 := (XX.out.at (i := 2) rfl).2
    have x4 := (XX.out.at (i := 4) rfl).2
    have xl := XX.out.lt
    have c0 := (P5.out.blk.at (i := 0) rfl).2
    have c2 := (P5.out.blk.at (i := 2) rfl).2
    have hp5 := P5.out.blk.lt
    by_cases hk : r.kind = 3
    · have hk2 : (r.kind : Int) = 3 := by omega
      have HA : Hid (appE E r = { E with log := E.log ++ [r] }) := by unfold Hid appE; rw [if_pos hk]
      go_wp2
      go_end0
      exact ⟨rfl, by rw [HA.out]; exact EngPost.behind HLT.out HU.out ⟨⟨_, _, _, _, _, P5.out⟩, C5.out⟩⟩
    · have hk2 : ¬ (r.kind : Int) = 3 := by omega
      have HA : Hid (appE E r = { E with log := E.log ++ [r], buf := E.buf.set r.page (r.after, E.log.length + 1) }) := by unfold Hid appE; rw [if_neg hk]
      have hpg := hp hk
      obtain ⟨gg, gcap, hgv, _, _, hgl, hgat, hgf⟩ := own_some P5.out.bo (by show 0 < E.buf.length; omega)
      subst hgv
      have hne1 : ¬ gg = p := fun e => by subst e; exact ((own_ty P5.out.bo) _ rfl).1.ne (E' := 44) (by decide) (blk_ty P5.out.blk)
      have hii : (r.page : Int) < (E.buf.length : Int) := by omega
      have FIN := Lib.hid (P5.out.setB (v := r.after) (n := E.log.length + 1) (m := (E.log.length : Int) + 1) (by omega) hpg)
      have hne2 : ¬ gg = w.heap.size := fun e => by have := HLT.out; subst e; exact ((own_ty P5.out.bo) _ rfl).1.ne (E' := 50) (by decide) (blk_ty XX.out)
      have y1 := hgat (r.page * 2) _ (pgC_get E.buf r.page hpg).1
      have y2 := hgat (r.page * 2 + 1) _ (pgC_get E.buf r.page hpg).2
      have y3 := hgf (r.page * 2)
      have y4 := hgf (r.page * 2 + 1)
      generalize E.buf[r.page].1 = z1 at y1
      generalize E.buf[r.page].2 = z2 at y2
      have C2 : Chg (fun j => j = gg) W5 ((W5.setCell ⟨gg, r.page * 2, none⟩ (.int .i64 r.after)).setCell ⟨gg, r.page * 2 + 1, none⟩ (.int .i64 ((E.log.length : Int) + 1))) := (chg_set W5 gg (r.page * 2) none _).set (.inl rfl) _ _ _
      have k0 := (C2.cell (b := p) (o := 0) hp5 (fun e => hne1 e.symm)).trans c0
      have k2 := (C2.cell (b := p) (o := 2) hp5 (fun e => hne1 e.symm)).trans c2
      have k3 := (C2.cell (b := w.heap.size) (o := 2) xl (fun e => hne2 e.symm)).trans x2
      have k4 := (C2.cell (b := w.heap.size) (o := 4) xl (fun e => hne2 e.symm)).trans x4
      clear hgat hgf C2
      go_wp2
      go_region_held3 (fun w' => w'.cell? ⟨p, 0, none⟩ = some (.slice (some ⟨gg, 0, none⟩) E.buf.length gcap) ∧ w'.cell? ⟨p, 2, none⟩ = some (.slice (some ⟨g5, 0, none⟩) (E.log.length + 1) c5) ∧ w'.cell? ⟨w.heap.size, 2, none⟩ = some (.int .i64 (r.page : Int)) ∧ w'.cell? ⟨w.heap.size, 4, none⟩ = some (.int .i64 r.after)) (first | exact ⟨k0, k2, k3, k4⟩ | go_keep) (fail)
      clear k0 k2 k3 k4
      go_wp2
      go_end0
      refine ⟨rfl, ?_⟩
      rw [HA.out]
      have CC : Chg F w2 ((W5.setCell ⟨gg, r.page * 2, none⟩ (.int .i64 r.after)).setCell ⟨gg, r.page * 2 + 1, none⟩ (.int .i64 ((E.log.length : Int) + 1))) := C5.out.trans FIN.out.2 fun k hk e => by
        rcases e with e | e
        · exact e
        · omega
      refine EngPost.behind HLT.out HU.out (EngPost.ahead P2.out.lt ⟨⟨_, _, _, _, _, FIN.out.1.mono (fun k hk => ?_) fun k hk => fx_ltp P2.out.lt CC.size hk⟩, CC⟩ ((Up.refl _).drew))
      exact fx_mono FIN.out.2.size hk
end Go.Proofs.Ytjalpppmgoepiaa.Rv
