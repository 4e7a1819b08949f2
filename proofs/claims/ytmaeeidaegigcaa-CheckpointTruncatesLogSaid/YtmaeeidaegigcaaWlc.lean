/- The write-ahead log: small functions, the header. -/
import Derived.Test.YtmaeeidaegigcaaWlb
namespace Go.Proofs.Ytmaeeidaegigcaa.Wl
open Go Go.RowKit Hp
open Dk (Dsk DiskR bc DOk)
set_option linter.unusedVariables false

def Log.en (L : Log) : Nat := L.st + L.dat.length
def Log.bl (L : Log) : Nat := L.dsk.dur.length - 2
theorem end_any (p : Nat) (L : Log) (F : Nat → Prop) (w : World) (h : LogR w p L F) (hb : L.st + L.dat.length ≤ 1000000000) :
    Calls Try.prog 46 #[.pointer (some ⟨p, 0, none⟩)] w fun e w' => e = .returned (.int .i64 (L.en : Int)) ∧ Up w w' := by
  obtain ⟨q, G, dv, ev, hP⟩ := h
  obtain ⟨va, vc, rfl, _, _, _⟩ := own_form hP.dow
  have c3 := (hP.blk.at (i := 3) rfl).2
  have c4 := (hP.blk.at (i := 4) rfl).2
  have hpl := hP.blk.lt
  have HE : Hid ((L.en : Int) = (L.st : Int) + (L.dat.length : Int)) := by unfold Hid Log.en; omega
  clear hP
  go_enter Try.func46, Try.ntmps46
  go_wp2
  refine wp_region_gr (by kernel_rfl) (by kernel_rfl) ?_
  repeat (go_big_quiet_step (fail))
  refine wpQuiet_nil ?_
  intro _ hw'
  obtain ⟨g, rfl⟩ := hw'
  go_wp2
  go_ret
  exact ⟨by rw [HE.out]; rfl, gr_up w g⟩
section
variable {w w1 w2 : World} {p q : Nat} {F G : Nat → Prop} {L : Log} {dv ev : Value}
theorem LogP.ups (h : LogP w1 p (Fx F w w1) L q G dv ev) (c : Chg F w w1) (hu : Up w1 w2) (hl : ∀ k, F k → k < w.heap.size) : LogP w2 p (Fx F w w2) L q G dv ev ∧ Chg F w w2 := by
  have z1 := hu.size
  have c2 : Chg F w w2 := c.trans (Below.chg F hu) fun k hk e => e
  exact ⟨(h.up hu).mono (fun k hk => hk.imp id fun e => ⟨e.1, by omega⟩) (fx_lt hl c2.size), c2⟩
theorem LogP.flow {d' : Dsk} (h : LogP w1 p (Fx F w w1) L q G dv ev) (c : Chg F w w1) (hd : DiskR w2 q d' (Fx G w1 w2)) (hc : Chg G w1 w2) (hl : ∀ k, F k → k < w.heap.size) : LogP w2 p (Fx F w w2) { L with dsk := d' } q (Fx G w1 w2) dv ev ∧ Chg F w w2 := by
  obtain ⟨a, b⟩ := h.disk hd hc
  have z1 := c.size
  have z2 := hc.size
  have c2 : Chg F w w2 := c.trans b fun k hk e => e.elim id fun e => by omega
  refine ⟨a.mono (fun k hk => ?_) (fx_lt hl c2.size), c2⟩
  rcases hk with (e | e) | e
  · exact .inl e
  · exact .inr ⟨e.1, by omega⟩
  · exact .inr ⟨by omega, e.2⟩
theorem LogP.fx0 (h : LogP w1 p F L q G dv ev) (c : Chg F w w1) (hl : ∀ k, F k → k < w.heap.size) : LogP w1 p (Fx F w w1) L q G dv ev := h.mono (fun k hk => .inl hk) (fx_lt hl c.size)
end
theorem sectors_any (q : Nat) (d : Dsk) (G : Nat → Prop) (w : World) (h : DiskR w q d G) :
    Calls Try.prog 67 #[.pointer (some ⟨q, 0, none⟩)] w fun e w' => e = .returned (.int .i64 (d.dur.length : Int)) ∧ Up w w' := by
  obtain ⟨ok, lt, dv, pv, xs, ys, hp, hb, hd, hdF, hq, hqF, hDu, hPe⟩ := h
  obtain ⟨ad, cd, rfl, _, _, _⟩ := own_form hd
  have c0 := (hb.at (i := 0) rfl).2
  have hpl := hb.lt
  clear hb hd hq hDu hPe
  go_enter Try.func67, Try.ntmps67
  go_wp2
  go_ret
  exact ⟨rfl, Up.refl w⟩
theorem blocks_any (p : Nat) (L : Log) (F : Nat → Prop) (w : World) (h : LogR w p L F) (hb : 2 ≤ L.dsk.dur.length) (hb2 : L.dsk.dur.length ≤ 256) :
    Calls Try.prog 47 #[.pointer (some ⟨p, 0, none⟩)] w fun e w' => e = .returned (.int .i64 (L.bl : Int)) ∧ Up w w' := by
  obtain ⟨q, G, dv, ev, hP⟩ := h
  have HD := Lib.hid hP.dk
  have c0 := (hP.blk.at (i := 0) rfl).2
  have hpl := hP.blk.lt
  have HE : Hid ((L.bl : Int) = (L.dsk.dur.length : Int) - 2) := by unfold Hid Log.bl; omega
  clear hP
  go_enter Try.func47, Try.ntmps47
  go_wp2_with (first
    | (go_at_call 67; refine (sectors_any q _ G _ HD.out).mono ?_; rintro e w1 ⟨rfl, h1⟩)
    | fail)
  go_ret
  exact ⟨by rw [HE.out]; rfl, h1⟩
set_option maxRecDepth 100000 in
set_option maxHeartbeats 2000000 in
theorem header_any (p : Nat) (L : Log) (F : Nat → Prop) (w : World) (h : LogR w p L F) (hb : 2 ≤ L.dsk.dur.length) (hb2 : L.hd + 1 < 4294967296) (hb3 : L.st < 4294967296) (hb4 : L.inc < 4294967296) :
    Calls Try.prog 44 #[.pointer (some ⟨p, 0, none⟩)] w fun e w' => e = .returned (.tuple #[]) ∧ LogPost p { L with hd := L.hd + 1, dsk := (L.dsk.flush.write ((L.hd + 1) % 2) (be32 (L.hd + 1) ++ be32 L.st ++ be32 L.inc)).flush } F w w' := by
  have HLT := Lib.hid h.lt
  obtain ⟨q, G, dv, ev, hP⟩ := h
  have c0 := (hP.blk.at (i := 0) rfl).2
  have c1 := (hP.blk.at (i := 1) rfl).2
  have f1 := hP.blk.free 1
  have hpl := hP.blk.lt
  have P1 := Lib.hid ((hP.hdr (L.hd + 1)).1.fx0 (hP.hdr (L.hd + 1)).2 hP.lt)
  have C1 := Lib.hid (hP.hdr (L.hd + 1)).2
  have hwr : IntKind.i64.wrap ((L.hd : Int) + 1) = (L.hd : Int) + 1 := IntWalk.i64_in _ (by omega)
  have HL : Hid (((L.hd + 1 : Nat) : Int) = (L.hd : Int) + 1) := by unfold Hid; omega
  rw [HL.out] at P1 C1
  clear hP
  go_enter Try.func44, Try.ntmps44
  go_wp2_with (first
    | (go_at_call 16; refine (Dk.flush_any q _ _ _ P1.out.dk).mono ?_; rintro e w3 ⟨rfl, h1, h2⟩
       have P3 := Lib.hid (P1.out.flow C1.out h1 h2 HLT.out).1
       have C3 := Lib.hid (P1.out.flow C1.out h1 h2 HLT.out).2
       have x0 := (P3.out.blk.at (i := 0) rfl).2
       have x1 := (P3.out.blk.at (i := 1) rfl).2
       have x2 := (P3.out.blk.at (i := 2) rfl).2
       have x3 := (P3.out.blk.at (i := 3) rfl).2
       have xl := P3.out.blk.lt
       clear h1 h2)
    | fail)
  have HA1 : Hid (∀ W, w3.heap.size ≤ W.heap.size → Calls Try.prog 64 #[.slice none 0 0, .int .i64 ((L.hd : Int) + 1)] W fun e w' => ∃ g c, e = .returned (.slice (some ⟨g, 0, none⟩) 4 c) ∧ Hid (w'.ownsRow w3.heap.size 5 1 (.slice (some ⟨g, 0, none⟩) 4 c) 4 (bc (be32 (L.hd + 1)))) ∧ Up W w' ∧ w3.heap.size ≤ g) := fun W hW => by
    have := app32_any (.slice none 0 0) [] (L.hd + 1) w3.heap.size W (World.ownsRow_nil _ _ _ _) hW hb2 (by decide)
    rw [HL.out] at this
    exact this.mono fun e w' ⟨g, c, h1, h2, h3, h4⟩ => ⟨g, c, h1, h2, Below.grown (Up.refl W) h3 (Nat.le_refl _) (fun j e => by cases e), h4.elim (fun e => by cases e) fun e => Nat.le_trans hW e⟩
  have HA2 : Hid (∀ W g c, Hid (W.ownsRow w3.heap.size 5 1 (.slice (some ⟨g, 0, none⟩) 4 c) 4 (bc (be32 (L.hd + 1)))) → w3.heap.size ≤ g → Up w3 W → Calls Try.prog 64 #[.slice (some ⟨g, 0, none⟩) 4 c, .int .i64 (L.st : Int)] W fun e w' => ∃ g c, e = .returned (.slice (some ⟨g, 0, none⟩) 8 c) ∧ Hid (w'.ownsRow w3.heap.size 5 1 (.slice (some ⟨g, 0, none⟩) 8 c) 8 (bc (be32 (L.hd + 1) ++ be32 L.st))) ∧ Up w3 w' ∧ w3.heap.size ≤ g) := fun W g c hO hg hu =>
    (app32_any (.slice (some ⟨g, 0, none⟩) 4 c) (be32 (L.hd + 1)) L.st w3.heap.size W hO.out hu.size hb3 (by show 4 ≤ 100000; decide)).mono fun e w' ⟨g2, c2, h1, h2, h3, h4⟩ => ⟨g2, c2, h1, h2, Below.grown hu h3 hu.size (fun j e => by have e : g = j := Option.some.inj e; omega), h4.elim (fun e => by have e : g = _ := Option.some.inj e; omega) fun e => Nat.le_trans hu.size e⟩
  have HA3 : Hid (∀ W g c, Hid (W.ownsRow w3.heap.size 5 1 (.slice (some ⟨g, 0, none⟩) 8 c) 8 (bc (be32 (L.hd + 1) ++ be32 L.st))) → w3.heap.size ≤ g → Up w3 W → Calls Try.prog 64 #[.slice (some ⟨g, 0, none⟩) 8 c, .int .i64 (L.inc : Int)] W fun e w' => ∃ g c, e = .returned (.slice (some ⟨g, 0, none⟩) 12 c) ∧ Hid (w'.ownsRow w3.heap.size 5 1 (.slice (some ⟨g, 0, none⟩) 12 c) 12 (bc (be32 (L.hd + 1) ++ be32 L.st ++ be32 L.inc))) ∧ Up w3 w' ∧ w3.heap.size ≤ g) := fun W g c hO hg hu =>
    (app32_any (.slice (some ⟨g, 0, none⟩) 8 c) (be32 (L.hd + 1) ++ be32 L.st) L.inc w3.heap.size W hO.out hu.size hb4 (by show 8 ≤ 100000; decide)).mono fun e w' ⟨g2, c2, h1, h2, h3, h4⟩ => ⟨g2, c2, h1, h2, Below.grown hu h3 hu.size (fun j e => by have e : g = j := Option.some.inj e; omega), h4.elim (fun e => by have e : g = _ := Option.some.inj e; omega) fun e => Nat.le_trans hu.size e⟩
  have HM : Hid ((((L.hd + 1) % 2 : Nat) : Int) = ((L.hd : Int) + 1).tmod 2) := by unfold Hid; rw [Int.tmod_eq_emod_of_nonneg (by omega)]; omega
  have HDL : Hid ((L.hd + 1) % 2 < L.dsk.flush.dur.length) := by unfold Hid Dsk.flush; simp only [Dk.applyW_len]; omega
  have HW4 : Hid (∀ W g c, Hid (W.ownsRow w3.heap.size 5 1 (.slice (some ⟨g, 0, none⟩) 12 c) 12 (bc (be32 (L.hd + 1) ++ be32 L.st ++ be32 L.inc))) → Up w3 W → Calls Try.prog 14 #[.pointer (some ⟨q, 0, none⟩), .int .i64 (((L.hd : Int) + 1).tmod 2), .slice (some ⟨g, 0, none⟩) 12 c] W fun e w' => e = .returned (.int .i64 0) ∧ ∃ G2, Hid (LogP w' p (Fx F w w') { L with hd := L.hd + 1, dsk := L.dsk.flush.write ((L.hd + 1) % 2) (be32 (L.hd + 1) ++ be32 L.st ++ be32 L.inc) } q G2 dv ev) ∧ Hid (Chg F w w')) := fun W g c hO hu => by
    have := Dk.write_any q ((L.hd + 1) % 2) L.dsk.flush _ (.slice (some ⟨g, 0, none⟩) 12 c) (be32 (L.hd + 1) ++ be32 L.st ++ be32 L.inc) W (P3.out.dk.up hu) HDL.out (Dk.bytes_own hO.out) (by show 12 ≤ 32; decide) (by show 0 < 1000; decide)
    rw [HM.out] at this
    obtain ⟨a, b⟩ := P3.out.ups C3.out hu HLT.out
    exact this.mono fun e w' ⟨h1, h2, h3⟩ => ⟨h1, _, (a.flow b h2 h3 HLT.out).1, (a.flow b h2 h3 HLT.out).2⟩
  rw [HL.out] at x1
  go_region_held3 (fun w' => w'.cell? ⟨p, 0, none⟩ = some (.pointer (some ⟨q, 0, none⟩)) ∧ w'.cell? ⟨p, 1, none⟩ = some (.int .i64 ((L.hd : Int) + 1)) ∧ w'.cell? ⟨p, 2, none⟩ = some (.int .i64 (L.inc : Int)) ∧ w'.cell? ⟨p, 3, none⟩ = some (.int .i64 (L.st : Int))) (first | exact ⟨x0, x1, x2, x3⟩ | exact ⟨y0, y1, y2, y3⟩ | exact ⟨z0, z1, z2, z3⟩ | go_keep) (first
    | (go_at_call 14; refine (HW4.out _ _ _ O3 U3).mono ?_; rintro e w7 ⟨rfl, G7, P7, C7⟩; have z0 := (P7.out.blk.at (i := 0) rfl).2; have z1 := (P7.out.blk.at (i := 1) rfl).2; have z2 := (P7.out.blk.at (i := 2) rfl).2; have z3 := (P7.out.blk.at (i := 3) rfl).2; have zl := P7.out.blk.lt; rw [HL.out] at z1)
    | (go_at_call 64; refine (HA3.out _ _ _ O2 hg2 U2).mono ?_; rintro e w6 ⟨g3, c3, rfl, O3, U3, hg3⟩; have z0 := (U3.cell (p := ⟨p, 0, none⟩) xl).trans x0; have z1 := (U3.cell (p := ⟨p, 1, none⟩) xl).trans x1; have z2 := (U3.cell (p := ⟨p, 2, none⟩) xl).trans x2; have z3 := (U3.cell (p := ⟨p, 3, none⟩) xl).trans x3)
    | (go_at_call 64; refine (HA2.out _ _ _ O1 hg1 U1).mono ?_; rintro e w5 ⟨g2, c2, rfl, O2, U2, hg2⟩; have z0 := (U2.cell (p := ⟨p, 0, none⟩) xl).trans x0; have z1 := (U2.cell (p := ⟨p, 1, none⟩) xl).trans x1; have z2 := (U2.cell (p := ⟨p, 2, none⟩) xl).trans x2; have z3 := (U2.cell (p := ⟨p, 3, none⟩) xl).trans x3)
    | (go_at_call 64; refine (HA1.out _ ((Up.refl w3).drew.size)).mono ?_; rintro e w4 ⟨g1, c1', rfl, O1, U1', hg1⟩; have U1 : Up w3 w4 := ((Up.refl w3).drew).trans U1'; clear U1'; have y0 := (U1.cell (p := ⟨p, 0, none⟩) xl).trans x0; have y1 := (U1.cell (p := ⟨p, 1, none⟩) xl).trans x1; have y2 := (U1.cell (p := ⟨p, 2, none⟩) xl).trans x2; have y3 := (U1.cell (p := ⟨p, 3, none⟩) xl).trans x3)
    | fail)
  clear x0 x1 x2 x3 xl y0 y1 y2 y3
  go_wp2_with (first
    | (go_at_call 16; refine (Dk.flush_any q _ _ _ P7.out.dk).mono ?_; rintro e w8 ⟨rfl, h1, h2⟩
       have P8 := Lib.hid (P7.out.flow C7.out h1 h2 HLT.out)
       clear h1 h2)
    | fail)
  go_end0
  exact ⟨rfl, ⟨_, _, _, _, P8.out.1⟩, P8.out.2⟩
end Go.Proofs.Ytmaeeidaegigcaa.Wl
