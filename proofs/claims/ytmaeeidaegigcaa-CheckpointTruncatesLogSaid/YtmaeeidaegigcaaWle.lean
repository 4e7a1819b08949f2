/- The write-ahead log: Append. -/
import Derived.Test.YtmaeeidaegigcaaWld
import Derived.Deep.CutRange
namespace Go.Proofs.Ytmaeeidaegigcaa.Wl
open Go Go.RowKit Hp
open Dk (Dsk DiskR bc DOk Bytes)
set_option linter.unusedVariables false

def wbs (L : Log) (b : Nat) : Nat → Log
  | 0 => L
  | k + 1 => (wbs L b k).wb (b + k)
theorem wbs_same (L : Log) (b : Nat) : ∀ k, (wbs L b k).hd = L.hd ∧ (wbs L b k).inc = L.inc ∧ (wbs L b k).st = L.st ∧ (wbs L b k).dat = L.dat ∧ (wbs L b k).ends = L.ends ∧ (wbs L b k).dsk.dur.length = L.dsk.dur.length
  | 0 => ⟨rfl, rfl, rfl, rfl, rfl, rfl⟩
  | k + 1 => by
    obtain ⟨h1, h2, h3, h4, h5, h6⟩ := wbs_same L b k
    refine ⟨h1, h2, h3, h4, h5, ?_⟩
    show (if (wbs L b k).dsk.pend.length = 1000 then (wbs L b k).dsk.flush else (wbs L b k).dsk).dur.length = _
    split
    · exact (Dk.applyW_len _ _).trans h6
    · exact h6
theorem wbs_pend (L : Log) (b : Nat) (h : L.dsk.pend.length ≤ 1000) : ∀ k, (wbs L b k).dsk.pend.length ≤ 1000
  | 0 => h
  | k + 1 => by
    have h1 := wbs_pend L b h k
    show ((if (wbs L b k).dsk.pend.length = 1000 then (wbs L b k).dsk.flush else (wbs L b k).dsk).pend ++ [_]).length ≤ 1000
    rw [List.length_append]
    split
    · show 0 + 1 ≤ 1000
      decide
    · simp only [List.length_cons, List.length_nil]
      omega
def Log.full (L : Log) (n : Nat) : Bool := decide (L.bl < (L.en + 2 + n - 1) / 20 - L.st / 20 + 1)
def Log.put (L : Log) (r : List Int) : Log := { L with dat := L.dat ++ [((r.length / 256 : Nat) : Int), ((r.length % 256 : Nat) : Int)] ++ r, ends := L.ends ++ [L.dat.length + 2 + r.length] }
def Log.app (L : Log) (r : List Int) : Log := wbs (L.put r) (L.en / 20) ((L.en + 2 + r.length - 1) / 20 - L.en / 20 + 1)
theorem Try.infoI : (Try.prog.info? 3).map (fun i => (i.zero, i.size, i.bytes)) = some (some (.int .i64 0), 1, 8) := by kernel_rfl
theorem cells2 (w : World) (a b : Value) (E : TypeId) (g : Nat) (hg : w.heap.size = g) : ∀ (j : Nat) u, [a, b][j]? = some u → (w.alloc (.cells #[a, b] E)).cell? ((⟨g, 0, none⟩ : Addr).add j) = some u := by
  subst hg
  exact cells_new w #[a, b] E
/-- The data grown by an append, and stored. -/
theorem LogP.appD {w W1 w2 : World} {p q : Nat} {F G : Nat → Prop} {L : Log} {dv ev : Value} {g m c H : Nat} {l' : List Int} (h : LogP w p F L q G dv ev) (hU : Up w W1) (hown : w2.ownsRow 0 5 1 (.slice (some ⟨g, 0, none⟩) m c) m (bc l')) (hg : W1.grownBy w2 dv.ownBlock) (hat : dv.ownBlock = some g ∨ g = H) (hH : w.heap.size ≤ H) :
    LogP (w2.setCell ⟨p, 4, none⟩ (.slice (some ⟨g, 0, none⟩) m c)) p (Fx F w (w2.setCell ⟨p, 4, none⟩ (.slice (some ⟨g, 0, none⟩) m c))) { L with dat := l' } q G (.slice (some ⟨g, 0, none⟩) m c) ev ∧ Chg F w (w2.setCell ⟨p, 4, none⟩ (.slice (some ⟨g, 0, none⟩) m c)) := by
  obtain ⟨q1, q2, q3, q4, q5, q6, q7⟩ := fld_append (i := 4) h.blk (by decide) h.dow hU hown hg hat hH
  have hm : m = l'.length := by
    have := hown.1
    simpa using this.symm
  subst hm
  exact h.putD q4 (fun k hk e => e.symm) q1 q2 fun k hk => by
    obtain rfl : g = k := Option.some.inj hk
    exact q5
theorem LogP.appE {w W1 w2 : World} {p q : Nat} {F G : Nat → Prop} {L : Log} {dv ev : Value} {g m c H : Nat} {l' : List Nat} (h : LogP w p F L q G dv ev) (hU : Up w W1) (hown : w2.ownsRow 0 3 1 (.slice (some ⟨g, 0, none⟩) m c) m (ic l')) (hg : W1.grownBy w2 ev.ownBlock) (hat : ev.ownBlock = some g ∨ g = H) (hH : w.heap.size ≤ H) :
    LogP (w2.setCell ⟨p, 5, none⟩ (.slice (some ⟨g, 0, none⟩) m c)) p (Fx F w (w2.setCell ⟨p, 5, none⟩ (.slice (some ⟨g, 0, none⟩) m c))) { L with ends := l' } q G dv (.slice (some ⟨g, 0, none⟩) m c) ∧ Chg F w (w2.setCell ⟨p, 5, none⟩ (.slice (some ⟨g, 0, none⟩) m c)) := by
  obtain ⟨q1, q2, q3, q4, q5, q6, q7⟩ := fld_append (i := 5) h.blk (by decide) h.eow hU hown hg hat hH
  have hm : m = l'.length := by
    have := hown.1
    simpa [ic_len] using this.symm
  subst hm
  exact h.putE q4 (fun k hk e => e.symm) q1 q2 fun k hk => by
    obtain rfl : g = k := Option.some.inj hk
    exact q5
theorem LogP.join {w w1 w2 : World} {p q : Nat} {F G : Nat → Prop} {L : Log} {dv ev : Value} (h : LogP w2 p (Fx (Fx F w w1) w1 w2) L q G dv ev ∧ Chg (Fx F w w1) w1 w2) (c : Chg F w w1) (hl : ∀ k, F k → k < w.heap.size) : LogP w2 p (Fx F w w2) L q G dv ev ∧ Chg F w w2 := by
  have z1 := c.size
  have z2 := h.2.size
  have c2 : Chg F w w2 := c.trans h.2 fun k hk e => e.elim id fun e => by omega
  refine ⟨h.1.mono (fun k hk => ?_) (fx_lt hl c2.size), c2⟩
  rcases hk with (e | e) | e
  · exact .inl e
  · exact .inr ⟨e.1, by omega⟩
  · exact .inr ⟨by omega, e.2⟩
theorem round_any (p : Nat) (L L1 : Log) (F : Nat → Prop) (r : List Int) (b0 n : Nat) (w : World) (hl : ∀ k, F k → k < w.heap.size) (hb : 3 ≤ L.dsk.dur.length) (hb2 : L.dsk.dur.length ≤ 256) (hb3 : L.st + L.dat.length ≤ 10000000) (hb5 : L.inc < 4294967296) (hr : r.length ≤ 1000)
    (hb0 : b0 = L.en / 20) (hn : n = (L.en + 2 + r.length - 1) / 20 - b0 + 1) (hen : L.en = L.st + L.dat.length)
    (HW : ∀ k, (wbs L1 b0 k).hd = L1.hd ∧ (wbs L1 b0 k).inc = L1.inc ∧ (wbs L1 b0 k).st = L1.st ∧ (wbs L1 b0 k).dat = L1.dat ∧ (wbs L1 b0 k).ends = L1.ends ∧ (wbs L1 b0 k).dsk.dur.length = L1.dsk.dur.length) (HWP : ∀ k, (wbs L1 b0 k).dsk.pend.length ≤ 1000)
    (HPL : L1.dat.length = L.dat.length + 2 + r.length ∧ L1.st = L.st ∧ L1.inc = L.inc ∧ L1.dsk = L.dsk) (k : Nat) (wr : World) (hlt : k < n) (HP : LogPost p (wbs L1 b0 k) F w wr) :
    Calls Try.prog 48 #[.pointer (some ⟨p, 0, none⟩), .int .i64 ((b0 : Int) + (k : Int))] wr fun e w' => e = .returned (.tuple #[]) ∧ LogPost p (wbs L1 b0 (k + 1)) F w w' := by
  obtain ⟨e1, e2, e3, e4⟩ := HPL
  have hw := HW k
  have hp := HWP k
  have hs : wbs L1 b0 (k + 1) = (wbs L1 b0 k).wb (b0 + k) := rfl
  rw [hs]
  generalize wbs L1 b0 k = L2 at *
  obtain ⟨h1, h2, h3, h4, h5, h6⟩ := hw
  have g1 : 3 ≤ L2.dsk.dur.length := by rw [h6, e4]; exact hb
  have g2 : L2.dsk.dur.length ≤ 256 := by rw [h6, e4]; exact hb2
  have g3 : L2.st + L2.dat.length ≤ 100000000 := by rw [h3, h4, e1, e2]; omega
  have g4 : (b0 + k) * 20 ≤ L2.en := by
    show _ ≤ L2.st + L2.dat.length
    rw [h3, h4, e1, e2]
    omega
  have g5 : L2.inc < 4294967296 := by rw [h2, e3]; exact hb5
  have HB := block_any p L2 (Fx F w wr) (b0 + k) wr HP.1 g1 g2 g3 g4 g5 hp
  rw [show ((b0 + k : Nat) : Int) = (b0 : Int) + (k : Int) by omega] at HB
  exact HB.mono fun e w' ⟨q1, q2⟩ => ⟨q1, HP.trans q2 hl⟩
set_option maxRecDepth 100000 in
set_option maxHeartbeats 4000000 in
theorem append_any (p : Nat) (L : Log) (F : Nat → Prop) (vd : Value) (r : List Int) (w : World) (h : LogR w p L F) (hvd : Bytes w vd r) (hvF : ∀ a n c, vd = .slice (some a) n c → ¬ F a.block) (hb : 3 ≤ L.dsk.dur.length) (hb2 : L.dsk.dur.length ≤ 256) (hb3 : L.st + L.dat.length ≤ 10000000) (hb5 : L.inc < 4294967296) (hb8 : L.dsk.pend.length ≤ 1000) (hr : r.length ≤ 1000) (hEL : L.ends.length ≤ 100000) :
    Calls Try.prog 24 #[.pointer (some ⟨p, 0, none⟩), vd] w fun e w' => if L.full r.length then e = .returned (.int .i64 18) ∧ Up w w' else e = .returned (.int .i64 0) ∧ LogPost p (L.app r) F w w' := by
  have HLT := Lib.hid h.lt
  have hEL := Lib.hid hEL
  have HR := Lib.hid h
  have HV := Lib.hid hvd
  obtain ⟨va', vc', rfl, hv1, hv2, hv3, hv4⟩ := hvd
  obtain ⟨q, G, dv, ev, hP⟩ := h
  obtain ⟨va, vc, rfl, hvc1, hvc2, _⟩ := own_form hP.dow
  obtain ⟨ea, ec, rfl, hec1, hec2, _⟩ := own_form hP.eow
  have c3 := (hP.blk.at (i := 3) rfl).2
  have c4 := (hP.blk.at (i := 4) rfl).2
  have hpl := hP.blk.lt
  have P0 := Lib.hid hP
  have HEND := Lib.hid (fun W (hu : Up w W) => end_any p L F W (HR.out.up hu) (by omega))
  have HBLK := Lib.hid (fun W (hu : Up w W) => blocks_any p L F W (HR.out.up hu) (by omega) hb2)
  have hen : Hid (L.en = L.st + L.dat.length) := rfl
  have hen2 : L.en ≤ 10000000 := by have := hen.out; omega
  have hst2 : L.st ≤ 10000000 := by have := hen.out; omega
  have hr2 : ¬ (1000 : Int) < (r.length : Int) := by omega
  clear hP hv4
  go_enter Try.func24, Try.ntmps24
  go_wp2_with (first
    | (go_at_call 46; refine (HEND.out _ (Up.refl w)).mono ?_; rintro e w1 ⟨rfl, h1⟩; have U1 := Lib.hid h1; clear h1; have y3 := (U1.out.cell (p := ⟨p, 3, none⟩) hpl).trans c3; have y4 := (U1.out.cell (p := ⟨p, 4, none⟩) hpl).trans c4; have yl := Nat.lt_of_lt_of_le hpl U1.out.size)
    | fail)
  refine wp_region_gr (by kernel_rfl) (by kernel_rfl) ?_
  repeat (go_big_quiet_step (first
    | (go_at_call 47; exact gr_call (HBLK.out _ (U1.out.trans (gr_up _ _))))
    | fail))
  refine wpQuiet_nil ?_
  intro _ hw'
  obtain ⟨g1, rfl⟩ := hw'
  obtain ⟨w2, hw2⟩ : ∃ w2, w2 = gr w1 g1 := ⟨_, rfl⟩
  have hu2 : Up w w2 := by rw [hw2]; exact U1.out.trans (gr_up w1 g1)
  rw [← hw2]
  clear hw2 y3 y4 yl U1
  have U2 := Lib.hid hu2
  clear hu2
  have hfe : (decide ((L.bl : Int) < ((L.en : Int) + 2 + (r.length : Int) - 1) / 20 - (L.st : Int) / 20 + 1)) = L.full r.length := by
    unfold Log.full
    congr 1
    have := hen.out
    refine propext ⟨fun h => by omega, fun h => by omega⟩
  cases hfull : L.full r.length with
  | true =>
    rw [hfull] at hfe
    have hfe := of_decide_eq_true hfe
    go_wp2
    go_ret
    exact ⟨rfl, U2.out⟩
  | false =>
    rw [hfull] at hfe
    have hfe := of_decide_eq_false hfe
    have PP2 := Lib.hid ((P0.out.fx0 (Chg.refl F w) HLT.out).ups (Chg.refl F w) U2.out HLT.out)
    have P2 := Lib.hid PP2.out.1
    have x3 := (P2.out.blk.at (i := 3) rfl).2
    have x4 := (P2.out.blk.at (i := 4) rfl).2
    have xl := P2.out.blk.lt
    have xf := P2.out.blk.free 4
    clear c3 c4
    obtain ⟨i1, hi1, hz3, hz4, hz5⟩ := info_parts Try.info8
    have HNIL : Hid (va' = none → r.length = 0 ∧ vc' = 0) := fun e => by
      subst e
      refine ⟨?_, hv3 rfl⟩
      obtain ⟨a, c, e1, _, _, _, h3⟩ := HV.out
      cases e1
      by_cases h0 : r.length = 0
      · exact h0
      · obtain ⟨b, off, e2, _⟩ := h3 0 (by omega)
        cases e2
    have HNW : Hid (∀ W, Chg F w W → ∀ y, va' = some y → ∀ j u, (bc r)[j]? = some u → W.cell? (y.add j) = some u) := fun W hc y hy j u hu => by
      subst hy
      obtain ⟨a, c, e1, _, _, _, h3⟩ := HV.out
      cases e1
      have hj : j < r.length := by
        have := (List.getElem?_eq_some_iff.1 hu).1
        simpa [bc] using this
      obtain ⟨b, off, e2, hr2⟩ := h3 j hj
      cases e2
      rw [Addr.add_lit]
      have h5 : At w b (off + j * 1) (.int .u8 r[j]) := hr2
      have h6 := (h5.chg hc (hvF _ _ _ rfl)).2
      rw [Nat.mul_one] at h6
      rw [h6, ← hu]
      simp [bc, hj]
    go_wp2_with (first
      | (at_builtin; refine wpList_append_lies _ rfl (.tmp 35) (.tmp 43) 28 rfl 0 5 i1 (.int .u8 0) 1 1 Try.underlying28 hi1 hz3 hz4 hz5 rfl (by decide) (.slice va L.dat.length vc) L.dat.length (bc L.dat) rfl (own_up P2.out.dow ((Up.refl _).alloc _)) ⟨w2.heap.size, 0, none⟩ 2 2 (bc [(r.length : Int) / 256, (r.length : Int) % 256]) rfl rfl (cells2 _ _ _ _ _ rfl) (Dk.bc_one _) (by decide) (by unfold maxLen; omega) (by omega) (Nat.zero_le _) _ rfl ?_
         intro g9 c9 w9 hown9 hgrow9 hat9 hlt9
         rw [← bc_app] at hown9
         have PB9 := fld_far P2.out.blk (by decide) P2.out.dow ((Up.refl w2).alloc _) hgrow9
         have z4 := (PB9.at (i := 4) rfl).2
         have zf := PB9.free 4
         have zl := PB9.lt
         have FIN := Lib.hid (LogP.join (P2.out.appD ((Up.refl w2).alloc _) hown9 hgrow9 hat9 ((Up.refl w2).alloc _).size) PP2.out.2 HLT.out)
         have d4 := (FIN.out.1.blk.at (i := 4) rfl).2
         have d5 := (FIN.out.1.blk.at (i := 5) rfl).2
         have df := FIN.out.1.blk.free 4
         have dl := FIN.out.1.blk.lt
         have D10 := FIN.out.1.dow
         rw [show (L.dat ++ [(r.length : Int) / 256, (r.length : Int) % 256]).length = L.dat.length + 2 by simp] at D10
         have D10 := Lib.hid D10
         have HN10 := HNW.out _ (FIN.out.2)
         clear hown9 hgrow9 hat9 PB9)
      | (at_builtin; refine wl_append_any rfl (.tmp 51) (.tmp 52) 28 rfl 0 5 i1 (.int .u8 0) 1 1 Try.underlying28 hi1 hz3 hz4 hz5 rfl (by decide) _ (L.dat.length + 2) _ rfl D10.out va' r.length vc' (bc r) rfl HNIL.out (by simp [bc]) HN10 (Dk.bc_one _) (by unfold maxLen; omega) (by omega) (Nat.zero_le _) ?_
         intro v11 w11 hown11 hgrow11 hat11
         obtain ⟨g11, c11, hgv, _, _, _, _, _⟩ := own_some hown11 (by omega)
         subst hgv
         rw [← bc_app] at hown11
         have PB11 := fld_far FIN.out.1.blk (by decide) FIN.out.1.dow (Up.refl _) hgrow11
         have e4 := (PB11.at (i := 4) rfl).2
         have ef := PB11.free 4
         have el := PB11.lt
         have FI2 := Lib.hid (LogP.join (FIN.out.1.appD (Up.refl _) hown11 hgrow11 (hat11.imp Eq.symm fun e => Option.some.inj e) (Nat.le_refl _)) FIN.out.2 HLT.out)
         have k4 := (FI2.out.1.blk.at (i := 4) rfl).2
         have k5 := (FI2.out.1.blk.at (i := 5) rfl).2
         have kl := FI2.out.1.blk.lt
         clear hown11 hgrow11 hat11 PB11)
      | fail)
    have hel : L.ends.length ≤ 100000 := hEL.out
    obtain ⟨w12, hw12⟩ : ∃ w12, w12 = w11.setCell ⟨p, 4, none⟩ (.slice (some ⟨g11, 0, none⟩) (L.dat.length + 2 + r.length) c11) := ⟨_, rfl⟩
    rw [← hw12] at k4 k5 kl FI2 ⊢
    clear hw12 d4 d5 df dl z4 zf zl e4 ef el D10 HN10
    obtain ⟨i2, hi2, ha3, ha4, ha5⟩ := info_parts Try.infoI
    have E12 := Lib.hid FI2.out.1.eow
    have HIC : Hid (ic L.ends ++ [.int .i64 ((L.dat.length : Int) + 2 + (r.length : Int))] = ic (L.ends ++ [L.dat.length + 2 + r.length])) := by unfold Hid ic; rw [List.map_append]; rfl
    have HPUT : Hid (L.put r = { L with dat := L.dat ++ [(r.length : Int) / 256, (r.length : Int) % 256] ++ r, ends := L.ends ++ [L.dat.length + 2 + r.length] }) := by unfold Hid Log.put; rfl
    go_cut [67] from 56 to 69 (fun s67 wx => ∃ g c, Hid (LogP wx p (Fx F w wx) (L.put r) q G (.slice (some ⟨g11, 0, none⟩) (L.dat.length + 2 + r.length) c11) (.slice (some ⟨g, 0, none⟩) (L.ends.length + 1) c)) ∧ Hid (Chg F w wx))
    case first =>
      go_region_law (first
        | (refine step_append_lies _ rfl (.tmp 60) (.tmp 66) 22 rfl 0 3 i2 (.int .i64 0) 1 8 Try.underlying22 hi2 ha3 ha4 ha5 rfl (by decide) (.slice ea L.ends.length ec) L.ends.length (ic L.ends) (by simp [Act.eval]) (own_up E12.out ((Up.refl w12).alloc _).drew) ⟨w12.heap.size, 0, none⟩ 1 1 [.int .i64 ((L.dat.length : Int) + 2 + (r.length : Int))] (by simp [Act.eval]) rfl (fun j u hu => cell1 w12 _ _ _ rfl j u hu) (by intro u hu; rw [List.mem_singleton.1 hu]; rfl) (by omega) (by unfold maxLen; omega) (by omega) (Nat.zero_le _) _ rfl ?_
           intro g13 c13 w13 hown13 hgrow13 hat13 hlt13
           have PB13 := fld_far FI2.out.1.blk (by decide) E12.out ((Up.refl w12).alloc _).drew hgrow13
           have m5 := (PB13.at (i := 5) rfl).2
           have mf := PB13.free 5
           have ml := PB13.lt
           rw [HIC.out] at hown13
           have FI3 := Lib.hid (LogP.join (FI2.out.1.appE ((Up.refl w12).alloc _).drew hown13 hgrow13 hat13 ((Up.refl w12).alloc _).drew.size) FI2.out.2 HLT.out)
           clear hown13 hgrow13 hat13 PB13)
        | fail)
      all_goals
        go_wp2
        go_meet
        exact ⟨g13, c13, by rw [← HPUT.out] at FI3; exact FI3.out⟩
    case rest =>
      obtain ⟨g, c, hP4, hC4⟩ := hcut
      have LP := Lib.hid (show LogPost p (L.put r) F w wc from ⟨⟨_, _, _, _, hP4.out⟩, hC4.out⟩)
      clear hP4 hC4 FI2 k4 k5 kl FIN PP2 P2 x3 x4 xl xf E12 HIC HPUT HNW HNIL
      go_wp2
      have HPL : Hid ((L.put r).dat.length = L.dat.length + 2 + r.length ∧ (L.put r).st = L.st ∧ (L.put r).inc = L.inc ∧ (L.put r).dsk = L.dsk) := by
        refine ⟨?_, rfl, rfl, rfl⟩
        show (L.dat ++ [_, _] ++ r).length = _
        simp only [List.length_append, List.length_cons, List.length_nil]
      have HAPP : Hid (L.app r = wbs (L.put r) (L.en / 20) ((L.en + 2 + r.length - 1) / 20 - L.en / 20 + 1)) := rfl
      generalize L.put r = L1 at *
      obtain ⟨b0, hb0⟩ : ∃ b0, b0 = L.en / 20 := ⟨_, rfl⟩
      obtain ⟨n, hn⟩ : ∃ n, n = (L.en + 2 + r.length - 1) / 20 - b0 + 1 := ⟨_, rfl⟩
      rw [← hb0, ← hn] at HAPP
      have HW := Lib.hid (wbs_same L1 b0)
      have HWP := Lib.hid (wbs_pend L1 b0 (by rw [HPL.out.2.2.2]; exact hb8))
      have HBA : Hid (∀ k wr, k < n → LogPost p (wbs L1 b0 k) F w wr → Calls Try.prog 48 #[.pointer (some ⟨p, 0, none⟩), .int .i64 ((b0 : Int) + (k : Int))] wr fun e w' => e = .returned (.tuple #[]) ∧ LogPost p (wbs L1 b0 (k + 1)) F w w') := by
        exact round_any p L L1 F r b0 n w HLT.out hb hb2 hb3 hb5 hr hb0 hn hen.out HW.out HWP.out HPL.out
      have HAT : Hid (Value.int .i64 ((L.en : Int) / 20) = .int .i64 ((b0 : Int) + ((0 : Nat) : Int))) := by unfold Hid; congr 1; omega
      have HB0 := Lib.hid hb0
      have HN0 := Lib.hid hn
      clear hb0 hn
      go_loopw [7] (fun kv wr => ∃ k : Nat, k ≤ n ∧ kv = .int .i64 ((b0 : Int) + (k : Int)) ∧ Hid (LogPost p (wbs L1 b0 k) F w wr)) (fun kv _ => b0 + n - (intOf kv).toNat)
      case atStart => exact ⟨0, by omega, HAT.out, LP.out⟩
      case round =>
        obtain ⟨k, hk, rfl, HP⟩ := hrel
        by_cases hlt : k < n
        · have hc1 : ((b0 : Int) + (k : Int)) * 20 < (L.en : Int) + 2 + (r.length : Int) := by have := HB0.out; have := HN0.out; omega
          have hbk : (b0 : Int) + (k : Int) ≤ 10000000 := by have := HB0.out; have := HN0.out; omega
          have HB := Lib.hid (HBA.out k wr hlt HP.out)
          go_wp2_with (first
            | (go_at_call 48; refine HB.out.mono ?_; rintro e w9 ⟨rfl, h9⟩; have HP9 := Lib.hid h9; clear h9)
            | fail)
          go_roundw
          case rel => exact ⟨k + 1, by omega, by go_num, HP9.out⟩
          case measure => simp [intOf]; omega
        · obtain rfl : k = n := by omega
          have hc1 : ¬ ((b0 : Int) + (k : Int)) * 20 < (L.en : Int) + 2 + (r.length : Int) := by have := HB0.out; have := HN0.out; omega
          have hbk : (b0 : Int) + (k : Int) ≤ 10000000 := by have := HB0.out; have := HN0.out; omega
          go_wp2
          go_ret
          exact ⟨rfl, by rw [HAPP.out]; exact HP.out⟩
end Go.Proofs.Ytmaeeidaegigcaa.Wl
