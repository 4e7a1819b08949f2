/- Recovery: Write, Commit. -/
import Derived.Test.YtjalpppmgoepiaaRvf
namespace Go.Proofs.Ytjalpppmgoepiaa.Rv
open Go Go.RowKit Hp
set_option linter.unusedVariables false

def wrE (E : Eng) (t pg : Nat) (v : Int) : Eng := appE { E with wri := E.wri.set pg t } ⟨1, t, pg, (E.buf.getD pg (0, 0)).1, v⟩
def bsy (E : Eng) (t pg : Nat) : Bool := decide (E.wri.getD pg 0 ≠ 0) && decide (E.wri.getD pg 0 ≠ t)
theorem EngPost.via {w w1 w' : World} {p : Nat} {F : Nat → Prop} {E : Eng} (h : EngPost p E F w1 w') (C : Chg F w w1) (hl : ∀ k, F k → k < w.heap.size) : EngPost p E F w w' := by
  obtain ⟨⟨bv, dv, lv, av, wv, h1⟩, c2⟩ := h
  have CC : Chg F w w' := C.trans c2 fun k _ e => e
  exact ⟨⟨bv, dv, lv, av, wv, h1.mono (fun k hk => hk.imp id fun q => ⟨Nat.le_trans C.size q.1, q.2⟩) fun k hk => fx_ltp hl CC.size hk⟩, CC⟩
set_option maxRecDepth 100000 in
set_option maxHeartbeats 2000000 in
theorem write_any (p : Nat) (E : Eng) (F : Nat → Prop) (t pg : Nat) (v : Int) (w : World) (h : EngR w p E F) (ht : t ∈ E.act) (hp : pg < E.buf.length) (hw : E.wri.length = E.buf.length) (hl : E.log.length < 2000) (ha : E.act.length ≤ 1000) :
    Calls Try.prog 12 #[.pointer (some ⟨p, 0, none⟩), .int .i64 (t : Int), .int .i64 (pg : Int), .int .i64 v] w fun e w' =>
      (bsy E t pg = true → e = .returned (.int .i64 16) ∧ Up w w') ∧ (bsy E t pg = false → e = .returned (.int .i64 0) ∧ EngPost p (wrE E t pg v) F w w') := by
  have HLT := Lib.hid h.lt
  obtain ⟨bv, dv, lv, av, wv, hP⟩ := h
  obtain ⟨aa, ac, rfl, hg1, hg2, _⟩ := own_form hP.ao
  obtain ⟨la, lc, rfl, hg3, hg4, _⟩ := own_form hP.lo
  obtain ⟨g, c, rfl, hgc, hgl, y1, y2⟩ := hP.page hp
  obtain ⟨g6, c6v, hwv, hg5, hg6, hgl6, hat6, hfr6⟩ := own_some hP.wo (by omega)
  subst hwv
  have z1 := hat6 pg _ (naC_get E.wri pg (by omega))
  have z2 := hfr6 pg
  have c5 := (hP.blk.at (i := 5) rfl).2
  have c6 := (hP.blk.at (i := 6) rfl).2
  have c0 := (hP.blk.at (i := 0) rfl).2
  have c2 := (hP.blk.at (i := 2) rfl).2
  have hpl := hP.blk.lt
  have HP := Lib.hid hP
  have HAC := Lib.hid (contains_any (.slice aa E.act.length ac) E.act t w (own_src hP.ao) (by omega))
  rw [decide_eq_true ht] at HAC
  have d1 : ¬ (pg : Int) < 0 := by omega
  have d2 : ¬ (E.buf.length : Int) ≤ (pg : Int) := by omega
  have d3 : (pg : Int) < (E.buf.length : Int) := by omega
  have d4 : (pg : Int) < (E.wri.length : Int) := by omega
  have d5 : ¬ (2000 : Int) ≤ (E.log.length : Int) := by omega
  have hx : E.wri.getD pg 0 = E.wri[pg]'(by omega) := by simp [List.getD, show pg < E.wri.length by omega]
  have hy : (E.buf.getD pg (0, 0)).1 = (E.buf[pg]).1 := by simp [List.getD, hp]
  have HW := Lib.hid (hP.setW (i := pg) (m := t) (by omega))
  have HBS : Hid (bsy E t pg = (decide (E.wri[pg]'(by omega) ≠ 0) && decide (E.wri[pg]'(by omega) ≠ t))) := by unfold Hid bsy; rw [hx]
  have HWR : Hid (wrE E t pg v = appE { E with wri := E.wri.set pg t } ⟨1, t, pg, E.buf[pg].1, v⟩) := by unfold Hid wrE; rw [hy]
  have hgg : ¬ g6 = p := fun e => by subst e; exact ((own_ty hP.wo) _ rfl).1.ne (E' := 44) (by decide) (blk_ty hP.blk)
  have hgb : ¬ g = g6 := fun e => by have q1 := ((own_ty hP.bo) g rfl).1; rw [e] at q1; exact q1.ne (E' := 3) (by decide) ((own_ty hP.wo) g6 rfl).1
  clear hP hat6 hfr6 hx hy ht
  generalize hxx : E.wri[pg]'(by omega) = x at *
  generalize hbb : E.buf[pg].1 = b0 at *
  clear hxx hbb
  by_cases hb : x ≠ 0 ∧ x ≠ t
  · have e1 : ¬ (x : Int) = 0 := by omega
    have e2 : ¬ (x : Int) = (t : Int) := by omega
    have e3 : ((x : Int) == 0) = false := beq_eq_false_iff_ne.2 e1
    have e4 : ((x : Int) == (t : Int)) = false := beq_eq_false_iff_ne.2 e2
    have e5 : ((x : Int) != 0) = true := by simp [bne, e3]
    have e6 : ((x : Int) != (t : Int)) = true := by simp [bne, e4]
    have HB : Hid (bsy E t pg = true) := by unfold Hid; rw [HBS.out]; simp [hb.1, hb.2]
    clear hb
    go_enter Try.func12, Try.ntmps12
    go_wp2_with (first
      | (go_at_call 24; refine HAC.out.mono ?_; rintro e w2 ⟨rfl, h2⟩; have U2 := Lib.hid h2; have k0 := (h2.cell (p := ⟨p, 0, none⟩) hpl).trans c0; have k6 := (h2.cell (p := ⟨p, 6, none⟩) hpl).trans c6; have kz := (h2.cell (p := ⟨g6, pg, none⟩) hgl6).trans z1; have kl := Nat.lt_of_lt_of_le hpl h2.size; have kg := Nat.lt_of_lt_of_le hgl6 h2.size; clear h2)
      | fail)
    go_ret
    exact ⟨fun _ => ⟨rfl, U2.out⟩, fun e => by rw [HB.out] at e; cases e⟩
  · have HB : Hid (bsy E t pg = false) := by
      unfold Hid; rw [HBS.out]
      by_cases e : x = 0
      · simp [e]
      · have : x = t := by by_cases e2 : x = t; exact e2; exact absurd ⟨e, e2⟩ hb
        simp [this]
    have HAPP := Lib.hid (fun W (F' : Nat → Prop) (hW : EngR W p { E with wri := E.wri.set pg t } F') => append_any p { E with wri := E.wri.set pg t } F' ⟨1, t, pg, b0, v⟩ W hW (by show E.log.length ≤ _; omega) (fun _ => hp))
    change Hid (∀ W (F' : Nat → Prop), EngR W p { E with wri := E.wri.set pg t } F' → Calls Try.prog 23 #[.pointer (some ⟨p, 0, none⟩), .agg #[.int .i64 1, .int .i64 (t : Int), .int .i64 (pg : Int), .int .i64 b0, .int .i64 v]] W fun e w' => e = .returned (.tuple #[]) ∧ EngPost p (appE { E with wri := E.wri.set pg t } ⟨1, t, pg, b0, v⟩) F' W w') at HAPP
    have hcase : (x = 0 ∧ (x : Int) = 0) ∨ (t = x ∧ ¬ (x : Int) = 0) := by
      by_cases e : x = 0
      · exact .inl ⟨e, by omega⟩
      · have : x = t := by by_cases e2 : x = t; exact e2; exact absurd ⟨e, e2⟩ hb
        exact .inr ⟨this.symm, by omega⟩
    clear hb
    rcases hcase with ⟨rfl, _⟩ | ⟨rfl, hx0⟩
    · go_enter Try.func12, Try.ntmps12
      go_wp2_with (first
        | (go_at_call 24; refine HAC.out.mono ?_; rintro e w2 ⟨rfl, h2⟩; have U2 := Lib.hid h2; have k0 := (h2.cell (p := ⟨p, 0, none⟩) hpl).trans c0; have k2 := (h2.cell (p := ⟨p, 2, none⟩) hpl).trans c2; have k6 := (h2.cell (p := ⟨p, 6, none⟩) hpl).trans c6; have kz := (h2.cell (p := ⟨g6, pg, none⟩) hgl6).trans z1; have kl := Nat.lt_of_lt_of_le hpl h2.size; have kg := Nat.lt_of_lt_of_le hgl6 h2.size; have kf := (h2.frozen (p := ⟨g6, pg, none⟩) hgl6).trans z2; have ky := (h2.cell (p := ⟨g, pg * 2, none⟩) hgl).trans y1; have kgl := Nat.lt_of_lt_of_le hgl h2.size; have P2 := Lib.hid (HP.out.up h2); have SW := Lib.hid (P2.out.setW (i := pg) (m := t) (by omega)); have C3 := chg_set w2 g6 pg none (.int .i64 (t : Int)); have k0' := (C3.cell (b := p) (o := 0) kl (fun e => hgg e.symm)).trans k0; have ky' := (C3.cell (b := g) (o := pg * 2) kgl hgb).trans ky; clear h2 C3)
        | (go_at_call 23; refine (HAPP.out _ F ⟨_, _, _, _, _, SW.out.1⟩).mono ?_; rintro e w3 ⟨rfl, h3⟩; have H3 := Lib.hid h3; clear h3)
        | fail)
      go_ret
      exact ⟨fun e => (by rw [HB.out] at e; cases e), fun _ => ⟨rfl, by rw [HWR.out]; exact EngPost.behind HLT.out U2.out (H3.out.via SW.out.2 P2.out.lt)⟩⟩
    · go_enter Try.func12, Try.ntmps12
      go_wp2_with (first
        | (go_at_call 24; refine HAC.out.mono ?_; rintro e w2 ⟨rfl, h2⟩; have U2 := Lib.hid h2; have k0 := (h2.cell (p := ⟨p, 0, none⟩) hpl).trans c0; have k2 := (h2.cell (p := ⟨p, 2, none⟩) hpl).trans c2; have k6 := (h2.cell (p := ⟨p, 6, none⟩) hpl).trans c6; have kz := (h2.cell (p := ⟨g6, pg, none⟩) hgl6).trans z1; have kl := Nat.lt_of_lt_of_le hpl h2.size; have kg := Nat.lt_of_lt_of_le hgl6 h2.size; have kf := (h2.frozen (p := ⟨g6, pg, none⟩) hgl6).trans z2; have ky := (h2.cell (p := ⟨g, pg * 2, none⟩) hgl).trans y1; have kgl := Nat.lt_of_lt_of_le hgl h2.size; have P2 := Lib.hid (HP.out.up h2); have SW := Lib.hid (P2.out.setW (i := pg) (m := t) (by omega)); have C3 := chg_set w2 g6 pg none (.int .i64 (t : Int)); have k0' := (C3.cell (b := p) (o := 0) kl (fun e => hgg e.symm)).trans k0; have ky' := (C3.cell (b := g) (o := pg * 2) kgl hgb).trans ky; clear h2 C3)
        | (go_at_call 23; refine (HAPP.out _ F ⟨_, _, _, _, _, SW.out.1⟩).mono ?_; rintro e w3 ⟨rfl, h3⟩; have H3 := Lib.hid h3; clear h3)
        | fail)
      go_ret
      exact ⟨fun e => (by rw [HB.out] at e; cases e), fun _ => ⟨rfl, by rw [HWR.out]; exact EngPost.behind HLT.out U2.out (H3.out.via SW.out.2 P2.out.lt)⟩⟩
def comE (E : Eng) (t : Nat) : Eng := { finE E t with fl := (finE E t).log.length }
set_option maxRecDepth 100000 in
set_option maxHeartbeats 2000000 in
theorem commit_any (p : Nat) (E : Eng) (F : Nat → Prop) (t : Nat) (w : World) (h : EngR w p E F) (ht : t ∈ E.act) (hl : E.log.length ≤ 100000) (ha : E.act.length ≤ 1000) (hw : E.wri.length ≤ 1000) :
    Calls Try.prog 16 #[.pointer (some ⟨p, 0, none⟩), .int .i64 (t : Int)] w fun e w' => e = .returned (.int .i64 0) ∧ EngPost p (comE E t) F w w' := by
  have HLT := Lib.hid h.lt
  have HR := Lib.hid h
  obtain ⟨bv, dv, lv, av, wv, hP⟩ := h
  obtain ⟨aa, ac, rfl, hg1, hg2, _⟩ := own_form hP.ao
  have c5 := (hP.blk.at (i := 5) rfl).2
  have hpl := hP.blk.lt
  have HAC := Lib.hid (contains_any (.slice aa E.act.length ac) E.act t w (own_src hP.ao) (by omega))
  rw [decide_eq_true ht] at HAC
  have HF := Lib.hid (fun W (hu : Up w W) => fin_any p E F t W (HR.out.up hu) hl (by omega) hw)
  have HCE : Hid (comE E t = { finE E t with fl := (finE E t).log.length }) := rfl
  clear hP
  generalize finE E t = E1 at *
  go_enter Try.func16, Try.ntmps16
  go_wp2_with (first
    | (go_at_call 24; refine HAC.out.mono ?_; rintro e w2 ⟨rfl, h2⟩; have U2 := Lib.hid h2; clear h2)
    | (go_at_call 25; refine (HF.out _ U2.out).mono ?_; rintro e w3 ⟨rfl, ⟨bv3, dv3, lv3, av3, wv3, h3⟩, C3⟩
       obtain ⟨la, lc, rfl, _, _, _⟩ := own_form h3.lo
       have HP3 := Lib.hid h3
       have HC3 := Lib.hid C3
       have k2 := (h3.blk.at (i := 2) rfl).2
       have k3 := (h3.blk.at (i := 3) rfl).2
       have kf3 := h3.blk.free 3
       have kl3 := h3.blk.lt
       have FIN := Lib.hid (h3.putFl E1.log.length)
       clear h3 C3)
    | fail)
  go_ret
  refine ⟨rfl, ?_⟩
  rw [HCE.out]
  have CC : Chg F w2 (w3.setCell ⟨p, 3, none⟩ (.int .i64 (E1.log.length : Int))) := HC3.out.trans (chg_set w3 p 3 none _) fun k hk e => by
    subst e
    rcases HP3.out.fp with q | q
    · exact q
    · omega
  refine EngPost.behind HLT.out U2.out (EngP.fx FIN.out CC (fun k hk => Nat.lt_of_lt_of_le (HLT.out k hk) U2.out.size) fun k hk => ?_)
  rcases hk with q | q
  · exact .inl q
  · exact .inr ⟨q.1, Nat.lt_of_lt_of_le q.2 (chg_set w3 p 3 none _).size⟩
end Go.Proofs.Ytjalpppmgoepiaa.Rv
