/- Recovery: Read, LogLength, FlushLog, FlushPage. -/
import Derived.Test.YtjalpppmgoepiaaRvb
namespace Go.Proofs.Ytjalpppmgoepiaa.Rv
open Go Go.RowKit Hp
set_option linter.unusedVariables false

section
variable {w w' wr W1 w2 : World} {p : Nat} {F F' : Nat → Prop} {E : Eng} {bv dv lv av wv : Value}
/-- A page of the buffer. -/
theorem EngP.page (h : EngP w p F E bv dv lv av wv) {i : Nat} (hi : i < E.buf.length) : ∃ g c, bv = .slice (some ⟨g, 0, none⟩) E.buf.length c ∧ E.buf.length ≤ c ∧ g < w.heap.size ∧ w.cell? ⟨g, i * 2, none⟩ = some (.int .i64 E.buf[i].1) ∧ w.cell? ⟨g, i * 2 + 1, none⟩ = some (.int .i64 (E.buf[i].2 : Int)) := by
  obtain ⟨g, c, hv, h1, _, hgl, hgat, hgf⟩ := own_some h.bo (by omega)
  exact ⟨g, c, hv, h1, hgl, hgat _ _ (pgC_get E.buf i hi).1, hgat _ _ (pgC_get E.buf i hi).2⟩
theorem EngP.setD {g c i n : Nat} {v m : Int} (hm : m = (n : Int)) (h : EngP w p F E bv (.slice (some ⟨g, 0, none⟩) E.dsk.length c) lv av wv) (hi : i < E.dsk.length) :
    EngP ((w.setCell ⟨g, i * 2, none⟩ (.int .i64 v)).setCell ⟨g, i * 2 + 1, none⟩ (.int .i64 m)) p F { E with dsk := E.dsk.set i (v, n) } bv (.slice (some ⟨g, 0, none⟩) E.dsk.length c) lv av wv ∧
    Chg F w ((w.setCell ⟨g, i * 2, none⟩ (.int .i64 v)).setCell ⟨g, i * 2 + 1, none⟩ (.int .i64 m)) := by
  subst hm
  have hgt := ((own_ty h.do_) g rfl).1
  have C1 : Chg (fun j => j = g) w ((w.setCell ⟨g, i * 2, none⟩ (.int .i64 v)).setCell ⟨g, i * 2 + 1, none⟩ (.int .i64 (n : Int))) := (chg_set w g (i * 2) none _).set (.inl rfl) _ _ _
  have hne : p ≠ g := fun e => by subst e; exact hgt.ne (E' := 44) (by decide) (blk_ty h.blk)
  have o1 := own_set h.do_ (i * 2) (by rw [pgC_len]; omega) (.int .i64 v)
  have o2 := own_set o1 (i * 2 + 1) (by rw [List.length_set, pgC_len]; omega) (.int .i64 (n : Int))
  rw [pgC_set _ _ hi] at o2
  exact ⟨h.putD (C1.mono fun j _ e => .inl (by rw [e]; rfl)) ((h.blk.other hne _ _ _).other hne _ _ _) (by rw [List.length_set]; exact o2) (fun k hk => hk) (fun k hk => Nat.lt_of_lt_of_le (h.lt k hk) C1.size) (fun k hk => h.dF k hk) (fun k hk => .inl hk),
    C1.mono fun j _ e => by rw [e]; exact h.dF g rfl⟩
theorem EngPost.mk' (h : EngP w p F E bv dv lv av wv) {E' : Eng} {bv' dv' lv' av' wv' : Value} (h' : EngP w' p F E' bv' dv' lv' av' wv') (hc : Chg F w w') : EngPost p E' F w w' :=
  ⟨⟨bv', dv', lv', av', wv', h'.mono (fun k hk => .inl hk) fun k hk => fx_ltp h.lt hc.size hk⟩, hc⟩
end
set_option maxRecDepth 100000 in
set_option maxHeartbeats 2000000 in
theorem read_any (p : Nat) (E : Eng) (F : Nat → Prop) (i : Nat) (w : World) (h : EngR w p E F) (hi : i < E.buf.length) :
    Calls Try.prog 10 #[.pointer (some ⟨p, 0, none⟩), .int .i64 i] w fun e w' => e = .returned (.tuple #[.int .i64 E.buf[i].1, .int .i64 0]) ∧ Up w w' := by
  obtain ⟨bv, dv, lv, av, wv, hP⟩ := h
  obtain ⟨g, c, rfl, hgc, hgl, y1, y2⟩ := hP.page hi
  have c0 := (hP.blk.at (i := 0) rfl).2
  have hpl := hP.blk.lt
  have hii : (i : Int) < (E.buf.length : Int) := by omega
  generalize E.buf[i].1 = z1 at *
  clear hP
  go_enter Try.func10, Try.ntmps10
  go_wp2
  go_ret2
  exact ⟨rfl, Up.refl _⟩
set_option maxRecDepth 100000 in
set_option maxHeartbeats 2000000 in
theorem len_any (p : Nat) (E : Eng) (F : Nat → Prop) (w : World) (h : EngR w p E F) :
    Calls Try.prog 15 #[.pointer (some ⟨p, 0, none⟩)] w fun e w' => e = .returned (.tuple #[.int .i64 (E.log.length : Int), .int .i64 (E.fl : Int)]) ∧ Up w w' := by
  obtain ⟨bv, dv, lv, av, wv, hP⟩ := h
  obtain ⟨ga, gc, rfl, hg1, hg2, _⟩ := own_form hP.lo
  have c2 := (hP.blk.at (i := 2) rfl).2
  have c3 := (hP.blk.at (i := 3) rfl).2
  have hpl := hP.blk.lt
  clear hP
  go_enter Try.func15, Try.ntmps15
  go_wp2
  go_quiet (fail)
  go_wp2
  go_ret2
  exact ⟨rfl, (Up.refl _).drewN _⟩
set_option maxRecDepth 100000 in
set_option maxHeartbeats 2000000 in
theorem flog_any (p : Nat) (E : Eng) (F : Nat → Prop) (n : Nat) (w : World) (h : EngR w p E F) (hn : n ≤ 2000) (hf : E.fl ≤ 1000000) :
    Calls Try.prog 18 #[.pointer (some ⟨p, 0, none⟩), .int .i64 n] w fun e w' => e = .returned (.int .i64 0) ∧ EngPost p { E with fl := min E.log.length (E.fl + n) } F w w' := by
  obtain ⟨bv, dv, lv, av, wv, hP⟩ := h
  obtain ⟨ga, gc, rfl, hg1, hg2, _⟩ := own_form hP.lo
  have c2 := (hP.blk.at (i := 2) rfl).2
  have c3 := (hP.blk.at (i := 3) rfl).2
  have f3 := hP.blk.free 3
  have hpl := hP.blk.lt
  have HP := Lib.hid hP
  have h1 : ¬ (n : Int) < 0 := by omega
  have h2 : ¬ (2000 : Int) < (n : Int) := by omega
  have hwr : IntKind.i64.wrap ((E.fl : Int) + n) = (E.fl : Int) + n := by unfold IntKind.wrap; simp [IntKind.bits, IntKind.signed]; omega
  obtain ⟨m, hm⟩ : ∃ m, m = min E.log.length (E.fl + n) := ⟨_, rfl⟩
  rw [← hm]
  have FIN := Lib.hid (hP.putFl m)
  rcases Nat.lt_or_ge (E.fl + n) E.log.length with hc | hc
  · obtain rfl : m = E.fl + n := by omega
    have hc2 : (E.fl : Int) + n < (E.log.length : Int) := by omega
    have hc3 : ¬ (E.log.length : Int) ≤ (E.fl : Int) + n := by omega
    rw [Int.natCast_add] at FIN
    clear hP hm
    go_enter Try.func18, Try.ntmps18
    go_wp2
    go_region_law (fail)
    all_goals
      go_wp2
      go_ret
      exact ⟨rfl, EngPost.mk' HP.out (FIN.out.up ((Up.refl _).drew)) (((chg_set w p 3 none _).mono fun j _ e => e ▸ HP.out.fp).drew)⟩
  · obtain rfl : m = E.log.length := by omega
    have hc2 : ¬ (E.fl : Int) + n < (E.log.length : Int) := by omega
    have hc3 : (E.log.length : Int) ≤ (E.fl : Int) + n := by omega
    clear hP hm
    go_enter Try.func18, Try.ntmps18
    go_wp2
    go_region_law (fail)
    all_goals
      go_wp2
      go_ret
      exact ⟨rfl, EngPost.mk' HP.out (FIN.out.up ((Up.refl _).drew)) (((chg_set w p 3 none _).mono fun j _ e => e ▸ HP.out.fp).drew)⟩
set_option maxRecDepth 100000 in
set_option maxHeartbeats 2000000 in
theorem fpage_any (p : Nat) (E : Eng) (F : Nat → Prop) (i : Nat) (w : World) (h : EngR w p E F) (hi : i < E.buf.length) (hd : E.dsk.length = E.buf.length) :
    Calls Try.prog 17 #[.pointer (some ⟨p, 0, none⟩), .int .i64 i] w fun e w' => e = .returned (.int .i64 0) ∧ EngPost p { E with fl := max E.fl E.buf[i].2, dsk := E.dsk.set i E.buf[i] } F w w' := by
  obtain ⟨bv, dv, lv, av, wv, hP⟩ := h
  obtain ⟨g, c, rfl, hgc, hgl, y1, y2⟩ := hP.page hi
  obtain ⟨gd, cd, hdv, h3, _, hdl, hdat, hdf⟩ := own_some hP.do_ (by omega)
  subst hdv
  have z1 := hdat _ _ (pgC_get E.dsk i (by omega)).1
  have z2 := hdat _ _ (pgC_get E.dsk i (by omega)).2
  have z3 := hdf (i * 2)
  have z4 := hdf (i * 2 + 1)
  have c0 := (hP.blk.at (i := 0) rfl).2
  have c1 := (hP.blk.at (i := 1) rfl).2
  have c3 := (hP.blk.at (i := 3) rfl).2
  have f3 := hP.blk.free 3
  have hpl := hP.blk.lt
  have HP := Lib.hid hP
  have hii : (i : Int) < (E.buf.length : Int) := by omega
  have hid2 : (i : Int) < (E.dsk.length : Int) := by omega
  obtain ⟨pv, pn, hpv⟩ : ∃ a b, E.buf[i] = (a, b) := ⟨_, _, rfl⟩
  rw [hpv] at y1 y2 ⊢
  simp only at y1 y2 ⊢
  obtain ⟨m, hm⟩ : ∃ m, m = max E.fl pn := ⟨_, rfl⟩
  rw [← hm]
  have FIN0 := Lib.hid (hP.putFl m)
  have FIN := Lib.hid (FIN0.out.setD (v := pv) (n := pn) rfl (i := i) (show i < E.dsk.length by omega))
  generalize E.dsk[i].1 = q1 at z1
  generalize E.dsk[i].2 = q2 at z2
  have hgp : ¬ g = p := fun e => by subst e; exact ((own_ty HP.out.bo) _ rfl).1.ne (E' := 44) (by decide) (blk_ty HP.out.blk)
  have hdp : ¬ gd = p := fun e => by subst e; exact ((own_ty HP.out.do_) _ rfl).1.ne (E' := 44) (by decide) (blk_ty HP.out.blk)
  have hgd : ¬ g = gd := fun e => HP.out.bd g rfl (by rw [e]; rfl)
  have CH : ∀ v, Chg F w (w.setCell ⟨p, 3, none⟩ v) := fun v => (chg_set w p 3 none v).mono fun j _ e => e ▸ HP.out.fp
  have hmm : (m : Int) = max (E.fl : Int) (pn : Int) := by omega
  have hif : (if E.fl < pn then (pn : Int) else (E.fl : Int)) = (m : Int) := by split <;> omega
  have B2 := Lib.hid FIN0.out.blk
  have b0 := (B2.out.at (i := 0) rfl).2
  have b1 := (B2.out.at (i := 1) rfl).2
  have C1 := chg_set w p 3 none (.int .i64 (m : Int))
  have w1 := (C1.cell (b := g) (o := i * 2) hgl hgp).trans y1
  have w2 := (C1.cell (b := g) (o := i * 2 + 1) hgl hgp).trans y2
  have w3 := (C1.cell (b := gd) (o := i * 2) hdl hdp).trans z1
  have w4 := (C1.cell (b := gd) (o := i * 2 + 1) hdl hdp).trans z2
  have w5 : ((w.setCell ⟨p, 3, none⟩ (.int .i64 (m : Int)))).frozen? ⟨gd, i * 2, none⟩ = false := (World.frozen?_setCell _ _ _ _).trans z3
  have w6 : ((w.setCell ⟨p, 3, none⟩ (.int .i64 (m : Int)))).frozen? ⟨gd, i * 2 + 1, none⟩ = false := (World.frozen?_setCell _ _ _ _).trans z4
  have hs1 : (w.setCell ⟨p, 3, none⟩ (.int .i64 (m : Int))).heap.size = w.heap.size := by simp [World.setCell]
  clear hP hm hmm hpv hdat hdf C1
  have CC := Lib.hid ((CH (.int .i64 (m : Int))).trans FIN.out.2 fun _ _ e => e)
  go_enter Try.func17, Try.ntmps17
  go_wp2
  refine region_split (fun a a' W => W = (w.setCell ⟨p, 3, none⟩ (.int .i64 (m : Int))).drew ∧ a' = ((((((((((((((((a.put (some 16) (.pointer (some ⟨p, 0, none⟩))).put (some 17) (.pointer (some ⟨p, 0, none⟩))).put (some 18) (.pointer (some ⟨p, 0, none⟩))).put (some 19) (.pointer (some ⟨p, 3, none⟩))).put (some 20) (.int .i64 (E.fl : Int))).put (some 21) (.pointer (some ⟨p, 0, none⟩))).put (some 22) (.pointer (some ⟨p, 0, none⟩))).put (some 23) (.pointer (some ⟨p, 0, none⟩))).put (some 24) (.slice (some ⟨g, 0, none⟩) E.buf.length c)).put (some 25) (.int .i64 (i : Int))).put (some 26) (.pointer (some ⟨g, i * 2, none⟩))).put (some 27) (.pointer (some ⟨g, i * 2 + 1, none⟩))).put (some 28) (.int .i64 (pn : Int))).put (some 29) (.int .i64 (m : Int))).put (some 30) (.pointer (some ⟨p, 0, none⟩))).put (some 31) (.pointer (some ⟨p, 3, none⟩)))) ?_ ?_
  · simp only [Act.put, List.setIfInBounds_toArray, List.set_cons_zero, List.set_cons_succ]
    go_region_law (fail)
    all_goals exact OnNormal.of ⟨rfl, rfl⟩
  · simp only [Act.put, List.setIfInBounds_toArray, List.set_cons_zero, List.set_cons_succ]
    rintro a' W5 ⟨rfl, rfl⟩
    go_wp2
    go_region_law (fail)
    all_goals
      go_wp2
      go_ret
      exact ⟨rfl, EngPost.mk' HP.out (FIN.out.1.up (((Up.refl _).drew).drew)) (CC.out.drew.drew)⟩
end Go.Proofs.Ytjalpppmgoepiaa.Rv
