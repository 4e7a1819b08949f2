/- joined: Ckj, Ckk, Ckl -/
import Derived.Test.YtmaeeidaegigcaaCki
/- The checkpoint store: area, header. -/
namespace Go.Proofs.Ytmaeeidaegigcaa.Ck
open Go Go.RowKit Hp So
open Dk (Dsk DiskR bc Bytes)
open Wl (Log LogR LogPost fx_lt St IsB)
set_option linter.unusedVariables false

def area (n : Nat) : Nat := 2 + n % 2 * 20
theorem area_any (n : Nat) (w : World) (h : n ≤ 1000000) : Calls Try.prog 55 #[.int .i64 (n : Int)] w fun e w' => e = .returned (.int .i64 (area n : Int)) ∧ w = w' := by
  have h1 : (n : Int).tmod 2 = ((n % 2 : Nat) : Int) := by rw [Int.tmod_eq_emod_of_nonneg (by omega)]; omega
  have h2 : n % 2 < 2 := Nat.mod_lt _ (by decide)
  have HA : Hid ((area n : Int) = 2 + ((n % 2 : Nat) : Int) * 20) := by unfold Hid area; omega
  generalize n % 2 = m at *
  have h3 : (m : Int) < 2 := by omega
  go_enter Try.func55, Try.ntmps55
  go_wp2
  go_ret
  exact ⟨by rw [HA.out]; rfl, rfl⟩
/-- A header's number. -/
def hdN (l : List Int) : Int := l.getD 0 0 * 65536 + l.getD 1 0 * 256 + l.getD 2 0
set_option maxRecDepth 100000 in
set_option maxHeartbeats 2000000 in
theorem header_any {p : Nat} {C : Ck} {F : Nat → Prop} {w : World} (h : CkR w p C F) (s : Nat) (hs : s < C.dsk.dur.length) (hl : C.dsk.dur.length ≤ 1000) (hp : C.dsk.pend.length ≤ 1000) (hb : IsB (C.dsk.read s)) (hr : (C.dsk.read s).length = 32) :
    Calls Try.prog 61 #[.pointer (some ⟨p, 0, none⟩), .int .i64 (s : Int)] w fun e w' => e = .returned (.tuple #[.int .i64 (hdN (C.dsk.read s)), .int .i64 ((C.dsk.read s).getD 3 0)]) ∧ Up w w' := by
  obtain ⟨q, r, Fl, Fd, ev, pv, h⟩ := h
  have c2 := (h.blk.at (i := 2) rfl).2
  have hpl := h.blk.lt
  have HR := Lib.hid (Dk.read_any r s C.dsk Fd w h.dk hs (by omega) (by omega))
  clear h hs
  generalize C.dsk.read s = l at *
  obtain ⟨x0, x1, x2, x3, l', rfl⟩ : ∃ x0 x1 x2 x3 l', l = x0 :: x1 :: x2 :: x3 :: l' := by
    match l, hr with
    | x0 :: x1 :: x2 :: x3 :: l', _ => exact ⟨_, _, _, _, _, rfl⟩
  have b0 := hb x0 (by simp)
  have b1 := hb x1 (by simp)
  have b2 := hb x2 (by simp)
  have b3 := hb x3 (by simp)
  clear hr hb
  go_enter Try.func61, Try.ntmps61
  go_upto_region 2 with (first
    | (go_at_call 17; refine HR.out.mono ?_; rintro e w1 ⟨v, rfl, h1, h2⟩; have U1 := Lib.hid h2; have O1 := Lib.hid h1; clear h1 h2)
    | fail)
  obtain ⟨b, cap, rfl, _, hc1, hlt, hc3, hc4⟩ := own_some O1.out (by decide)
  have a0 := hc3 0 (.int .u8 x0) rfl
  have a1 := hc3 1 (.int .u8 x1) rfl
  have a2 := hc3 2 (.int .u8 x2) rfl
  have a3 := hc3 3 (.int .u8 x3) rfl
  clear hc3 hc4
  refine wp_region_gr (by kernel_rfl) (by kernel_rfl) ?_
  repeat (go_big_quiet_step (fail))
  refine wpQuiet_nil ?_
  intro _ hw'
  obtain ⟨g, rfl⟩ := hw'
  obtain ⟨n0, rfl⟩ := Int.eq_ofNat_of_zero_le b0.1
  obtain ⟨n1, rfl⟩ := Int.eq_ofNat_of_zero_le b1.1
  obtain ⟨n2, rfl⟩ := Int.eq_ofNat_of_zero_le b2.1
  have s1 := Wl.i64_or_sum n0 (n1 * 256) 16 (by omega) (by omega)
  have s2 := Wl.i64_or_sum (n0 * 256 + n1) n2 8 (by omega) (by omega)
  rw [show ((2 ^ 16 * n0 : Nat) : Int) = (n0 : Int) * 65536 by omega, show ((n1 * 256 : Nat) : Int) = (n1 : Int) * 256 by omega] at s1
  rw [show ((2 ^ 8 * (n0 * 256 + n1) : Nat) : Int) = ((2 ^ 16 * n0 + n1 * 256 : Nat) : Int) by omega] at s2
  have HS : bits BinOp.or IntKind.i64 (bits BinOp.or IntKind.i64 ((n0 : Int) * 65536) ((n1 : Int) * 256)) (n2 : Int) = hdN ((n0 : Int) :: (n1 : Int) :: (n2 : Int) :: x3 :: l') := by
    rw [s1, s2]
    simp [hdN]
    omega
  go_wp2
  go_ret2
  exact ⟨by rw [HS]; rfl, (U1.out.trans (gr_up _ g))⟩
end Go.Proofs.Ytmaeeidaegigcaa.Ck

/- The checkpoint store: Step. -/
namespace Go.Proofs.Ytmaeeidaegigcaa.Ck
open Go Go.RowKit Hp So
open Dk (Dsk DiskR bc Bytes)
open Wl (Log LogR LogPost fx_lt St IsB)
set_option linter.unusedVariables false

/-- The bytes of an entry on the checkpoint disk. -/
def recE (u : ByteArray × ByteArray) : List Int := (u.1.size : Int) :: (u.2.size : Int) :: byL (u.1 ++ u.2)
theorem recE_len (u : ByteArray × ByteArray) : (recE u).length = 2 + u.1.size + u.2.size := by
  unfold recE
  rw [List.length_cons, List.length_cons, byL_len, ByteArray.size_append]
  omega
theorem recE_isB (u : ByteArray × ByteArray) (h : u.1.size ≤ 12) (h2 : u.2.size ≤ 12) : IsB (recE u) := fun x hx => by
  rcases List.mem_cons.1 hx with rfl | hx
  · omega
  · rcases List.mem_cons.1 hx with rfl | hx
    · omega
    · exact byL_isB _ x hx
theorem recE_built (w1 : World) (k x : ByteArray) (hcat : (k ++ x).size ≤ 1000) : ∃ a c w3, (Builtin.append_ #[28, 9] 28 #[.slice (some ⟨w1.heap.size, 0, none⟩) 2 2, .string (k ++ x)]).run Try.prog ((w1.alloc (.cells #[.int .u8 (k.size : Int), .int .u8 (x.size : Int)] 5)).drew) = .ok (.slice a (2 + (k.size + x.size)) c) w3 ∧
    Bytes w3 (.slice a (2 + (k.size + x.size)) c) (recE (k, x)) ∧ Up w1 w3 ∧ ∀ b, a = some b → w1.heap.size ≤ b.block := by
  obtain ⟨i1, hi1, hz3, hz4, hz5⟩ := info_parts Wl.Try.info8
  have hb := (Blk.new w1 #[.int .u8 (k.size : Int), .int .u8 (x.size : Int)] 5).drew
  have hu := ((Up.refl w1).alloc (.cells #[.int .u8 (k.size : Int), .int .u8 (x.size : Int)] 5)).drew
  obtain ⟨v', w3, r1, r2, r3, _⟩ := Lib.run_append_own_string (P := Try.prog) _ w1.heap.size 28 9 28 5 i1 Try.underlying28 Try.underlying9 hi1 hz3 hz4 hz5 (.slice (some ⟨w1.heap.size, 0, none⟩) 2 2) 2 [.int .u8 (k.size : Int), .int .u8 (x.size : Int)] (own_of_blk hb rfl (by decide)) (k ++ x) (by unfold maxLen; omega) (by omega) hu.size
  have e : [Value.int .u8 (k.size : Int), .int .u8 (x.size : Int)] ++ Lib.strCells (k ++ x) = bc (recE (k, x)) := by
    unfold recE
    show _ = .int .u8 _ :: .int .u8 _ :: bc (byL _)
    rw [bc_byL]
    rfl
  rw [e] at r2
  rw [ByteArray.size_append] at r2 hcat
  obtain ⟨a, c, rfl, _⟩ := own_form r2
  have hl : (recE (k, x)).length = 2 + (k.size + x.size) := by rw [recE_len]; show 2 + k.size + x.size = _; omega
  have r2' := r2
  rw [← hl] at r2'
  refine ⟨a, c, w3, r1, ?_, Below.grown hu r3 hu.size fun j hj => by cases hj; exact Nat.le_refl _, fun b hb => ?_⟩
  · have := Dk.bytes_own r2'
    rw [hl] at this
    exact this
  · subst hb
    rcases r2.2 with ⟨h, _⟩ | ⟨g, cap, cur, h, hbg, _⟩
    · cases h
    · cases h; exact hbg
def Ck.step1 (C : Ck) (u : ByteArray × ByteArray) : Ck := { C with dsk := C.dsk.write (area (C.cks + 1) + C.next.toNat) (recE u), next := C.next + 1 }
section
variable {n i d : Nat} {rs : List (List Int)} {p : Nat} {C : Ck} {F : Nat → Prop} {w : World}
set_option maxRecDepth 100000 in
set_option maxHeartbeats 4000000 in
theorem step1_any (h : CkR w p C F) (m : Nat) (hm : C.next = (m : Int)) (hm2 : m < C.pend.length) (hdl : C.dsk.dur.length = 42) (hpd : C.dsk.pend.length < 1000) (hck : C.cks < 1000000) (hpl20 : C.pend.length ≤ 20) (hk : (C.pend[m]'hm2).1.size ≤ 12) (hx : (C.pend[m]'hm2).2.size ≤ 12) :
    Calls Try.prog 35 #[.pointer (some ⟨p, 0, none⟩)] w fun e w' => e = .returned (.tuple #[.bool false, .int .i64 0]) ∧ CkPost p (C.step1 (C.pend[m]'hm2)) F w w' := by
  obtain ⟨q, r, Fl, Fd, ev, pv, h⟩ := h
  have H := Lib.hid h
  obtain ⟨g, cap, rfl, hc0, hc1, hglt, hcell, hfro⟩ := own_some h.pnd (by omega)
  have c2 := (h.blk.at (i := 2) rfl).2
  have c3 := (h.blk.at (i := 3) rfl).2
  have c4 := (h.blk.at (i := 4) rfl).2
  have c5 := (h.blk.at (i := 5) rfl).2
  have hpl := h.blk.lt
  have hfz := h.blk.free 5
  obtain ⟨e1, e2⟩ := ec_get C.pend m hm2
  obtain ⟨u, hu⟩ : ∃ u, u = C.pend[m]'hm2 := ⟨_, rfl⟩
  rw [← hu] at e1 e2 hk hx ⊢
  have m1 := hcell _ _ e1
  have m2 := hcell _ _ e2
  obtain ⟨k, x⟩ := u
  have hml : (m : Int) < (C.pend.length : Int) := by omega
  have hm0 : ¬ (m : Int) < 0 := by omega
  have hpi : (C.pend.length : Int) ≤ 20 := by omega
  have hcki : (C.cks : Int) < 1000000 := by omega
  rw [hm] at c5
  have HM := Lib.hid hm
  have hk9 : (k.size : Int) ≤ 12 := by simp only at hk; omega
  have hx9 : (x.size : Int) ≤ 12 := by simp only at hx; omega
  have hkw : IntKind.u8.wrap (k.size : Int) = (k.size : Int) := by simp [IntKind.wrap, IntKind.bits, IntKind.signed]; omega
  have hxw : IntKind.u8.wrap (x.size : Int) = (x.size : Int) := by simp [IntKind.wrap, IntKind.bits, IntKind.signed]; omega
  have hcat2 : ¬ 9223372036854775807 < k.size + x.size := by omega
  have harl : area (C.cks + 1) + m < 42 := by have : (C.cks + 1) % 2 < 2 := Nat.mod_lt _ (by decide); unfold area; omega
  have har : (area (C.cks + 1) : Int) + (m : Int) < 42 := by omega
  have HAR : Hid (∀ W, Calls Try.prog 55 #[.int .i64 ((C.cks : Int) + 1)] W fun e w' => e = .returned (.int .i64 (area (C.cks + 1) : Int)) ∧ W = w') := fun W => by
    have := area_any (C.cks + 1) W (by omega)
    rw [show ((C.cks + 1 : Nat) : Int) = (C.cks : Int) + 1 by omega] at this
    exact this
  have HWR : Hid (∀ W a c, Up w W → Bytes W (.slice a (2 + (k.size + x.size)) c) (recE (k, x)) → Calls Try.prog 14 #[.pointer (some ⟨r, 0, none⟩), .int .i64 ((area (C.cks + 1) : Int) + (m : Int)), .slice a (2 + (k.size + x.size)) c] W fun e w' => e = .returned (.int .i64 0) ∧ DiskR w' r (C.dsk.write (area (C.cks + 1) + m) (recE (k, x))) (Fx Fd W w') ∧ Chg Fd W w') := by
    intro W a c hW hby
    have := Dk.write_any r (area (C.cks + 1) + m) C.dsk Fd _ (recE (k, x)) W (H.out.dk.up hW) (by rw [hdl]; exact harl) hby (by rw [recE_len]; simp only at hk hx ⊢; omega) hpd
    rw [show ((area (C.cks + 1) + m : Nat) : Int) = (area (C.cks + 1) : Int) + (m : Int) by omega] at this
    exact this
  have HS1 : Hid (C.step1 (k, x) = { { C with dsk := C.dsk.write (area (C.cks + 1) + m) (recE (k, x)) } with next := (m : Int) + 1 }) := by unfold Hid Ck.step1; rw [hm]; rfl
  have hcat : (k ++ x).size ≤ 24 := by rw [ByteArray.size_append]; simp only at hk hx; omega
  have HUU := Lib.hid hu
  clear hcell hfro e1 e2 h hu hk hx hdl hpd hck hm
  generalize area (C.cks + 1) = ar at *
  have har0 : 0 ≤ (ar : Int) := by omega
  go_enter Try.func35, Try.ntmps35
  go_upto_region 3 with fail
  go_quiet (fail)
  go_upto_region 4 with fail
  have UA : Hid (Up w (w.drewN nq)) := (Up.refl w).drewN nq
  generalize w.drewN nq = wa at *
  replace c2 := (UA.out.cell (p := ⟨p, 2, none⟩) hpl).trans c2
  replace c3 := (UA.out.cell (p := ⟨p, 3, none⟩) hpl).trans c3
  replace c4 := (UA.out.cell (p := ⟨p, 4, none⟩) hpl).trans c4
  replace c5 := (UA.out.cell (p := ⟨p, 5, none⟩) hpl).trans c5
  replace hfz := (UA.out.frozen (p := ⟨p, 5, none⟩) hpl).trans hfz
  replace m1 := (UA.out.cell (p := ⟨g, m * 2, none⟩) hglt).trans m1
  replace m2 := (UA.out.cell (p := ⟨g, m * 2 + 1, none⟩) hglt).trans m2
  replace hpl := Nat.lt_of_lt_of_le hpl UA.out.size
  replace hglt := Nat.lt_of_lt_of_le hglt UA.out.size
  simp only [] at m1 m2
  go_cut [4] from 21 to 30 (fun s4 wx => ∃ bx, s4 = .pointer (some ⟨bx, 0, none⟩) ∧ Hid (Blk wx bx [.string k, .string x] 62) ∧ Hid (Up w wx) ∧ Hid (w.heap.size ≤ bx))
  case first =>
    go_region_law (fail)
    all_goals
      go_wp2_with fail
      go_meet
      exact ⟨_, rfl, (Blk.new wa #[.string k, .string x] 62).drew, (UA.out.alloc _).drew, UA.out.size⟩
  case rest =>
    obtain ⟨bx, rfl, BX, UX, NX⟩ := hcut
    have y0 := (BX.out.at (i := 0) rfl).2
    have y1 := (BX.out.at (i := 1) rfl).2
    have yl := BX.out.lt
    have hb := (H.out.up UX.out).blk
    have x2 := (hb.at (i := 2) rfl).2
    have x3 := (hb.at (i := 3) rfl).2
    have x5 := (hb.at (i := 5) rfl).2
    rw [HM.out] at x5
    have xl := hb.lt
    obtain ⟨a3, c3', w3, hcp, hby, hu3, hb3⟩ := recE_built wc k x (by omega)
    have U3 := Lib.hid hu3
    have HCP := Lib.hid hcp
    have HWR1 := Lib.hid (HWR.out w3 a3 c3' (UX.out.trans hu3) hby)
    have z2 := (hu3.cell (p := ⟨p, 2, none⟩) xl).trans x2
    have z3 := (hu3.cell (p := ⟨p, 3, none⟩) xl).trans x3
    have z5 := (hu3.cell (p := ⟨p, 5, none⟩) xl).trans x5
    have zl := Nat.lt_of_lt_of_le xl hu3.size
    have hsum : IntKind.i64.wrap ((ar : Int) + (m : Int)) = (ar : Int) + (m : Int) := IntWalk.i64_in _ (by omega)
    have hsm2 : IntKind.i64.wrap ((C.cks : Int) + 1) = (C.cks : Int) + 1 := IntWalk.i64_in _ (by omega)
    go_upto_region 5 with fail
    have v0 := (hu3.cell (p := ⟨bx, 0, none⟩) yl).trans y0
    have v1 := (hu3.cell (p := ⟨bx, 1, none⟩) yl).trans y1
    go_region_held3 (fun w' => w'.cell? ⟨p, 2, none⟩ = some (.pointer (some ⟨r, 0, none⟩)) ∧ w'.cell? ⟨p, 3, none⟩ = some (.int .i64 (C.cks : Int)) ∧ w'.cell? ⟨p, 5, none⟩ = some (.int .i64 (m : Int)) ∧ w'.cell? ⟨bx, 0, none⟩ = some (.string k) ∧ w'.cell? ⟨bx, 1, none⟩ = some (.string x)) (first | exact ⟨x2, x3, x5, y0, y1⟩ | exact ⟨z2, z3, z5, v0, v1⟩ | exact ⟨r2, r3, q5, r0, r1⟩ | go_keep) (first
      | (go_at_call 14; refine HWR1.out.mono ?_; rintro e w4 ⟨rfl, hd4, hc4⟩; have D4 := Lib.hid hd4; have C4 := Lib.hid hc4; have J4 := Lib.hid ((H.out.up (UX.out.trans U3.out)).dskStep hd4 hc4); have r2 := (J4.out.1.blk.at (i := 2) rfl).2; have r3 := (J4.out.1.blk.at (i := 3) rfl).2; have q5 := (J4.out.1.blk.at (i := 5) rfl).2; rw [show (C.next : Int) = (m : Int) from HM.out] at q5; have qf := J4.out.1.blk.free 5; have ql := J4.out.1.blk.lt; have hb4 : Blk w4 bx [.string k, .string x] 62 := (BX.out.up U3.out).chg hc4 (fun e => by have e1 := H.out.lt _ (H.out.df _ e); have e2 := NX.out; omega); have r0 := (hb4.at (i := 0) rfl).2; have r1 := (hb4.at (i := 1) rfl).2; clear hd4 hc4 hb4)
      | (go_at_call 55; refine (HAR.out _).mono ?_; rintro e w4' ⟨rfl, rfl⟩)
      | (refine step_append_run rfl (.tmp 54) (.tmp 59) 28 9 rfl _ _ (by first | rfl | simp [Act.eval, Act.put]) (by first | rfl | simp [Act.eval, Act.put]) HCP.out ?_)
      | fail)
    all_goals
      go_wp2
      go_ret2
      have hlt3 : ∀ k, F k → k < w3.heap.size := fun k hk => Nat.lt_of_lt_of_le (H.out.lt k hk) (UX.out.trans U3.out).size
      have hc6 := chg_set w4 p 5 none (.int .i64 ((m : Int) + 1))
      have key := CkP.join (J4.out.1.own (C' := C.step1 (k, x)) (hc6) (fun k _ e => e) (by rw [HS1.out]) (by rw [HS1.out]) (by rw [HS1.out]; exact (J4.out.1.blk.set 5 _)) (own_chg J4.out.1.ent hc6 fun j hj e => J4.out.1.ene j hj e) (own_chg J4.out.1.pnd hc6 fun j hj e => J4.out.1.pne j hj e) (fun j hj => .inl (J4.out.1.ef j hj)) (fun j hj => .inl (J4.out.1.pf j hj))) J4.out.2 hlt3
      exact ⟨rfl, CkPost.behind (UX.out.trans U3.out) ⟨⟨_, _, _, _, _, _, key.1⟩, key.2⟩ H.out.lt⟩
end
end Go.Proofs.Ytmaeeidaegigcaa.Ck

/- The checkpoint store: Step completes the checkpoint. -/
namespace Go.Proofs.Ytmaeeidaegigcaa.Ck
open Go Go.RowKit Hp So
open Dk (Dsk DiskR bc Bytes)
open Wl (Log LogR LogPost fx_lt St IsB)
set_option linter.unusedVariables false

/-- A header's bytes. -/
def hdrB (n c : Nat) : List Int := [(n : Int) / 65536, (n : Int) / 256 % 256, (n : Int) % 256, (c : Int)]
theorem hdrB_len (n c : Nat) : (hdrB n c).length = 4 := rfl
theorem hdrB_isB (n c : Nat) (h : n ≤ 1000000) (hc : c ≤ 20) : IsB (hdrB n c) := fun x hx => by
  have : x = (n : Int) / 65536 ∨ x = (n : Int) / 256 % 256 ∨ x = (n : Int) % 256 ∨ x = (c : Int) := by simpa [hdrB] using hx
  omega
theorem hdrB_N (n c : Nat) (t : List Int) : hdN (hdrB n c ++ t) = (n : Int) := by
  show (n : Int) / 65536 * 65536 + (n : Int) / 256 % 256 * 256 + (n : Int) % 256 = _
  omega
theorem hdrB_C (n c : Nat) (t : List Int) : (hdrB n c ++ t).getD 3 0 = (c : Int) := rfl
def Ck.done (C : Ck) (L : Log) : Ck := { C with log := L, dsk := (C.dsk.flush.write ((C.cks + 1) % 2) (hdrB (C.cks + 1) C.pend.length)).flush, cks := C.cks + 1, pend := [], next := -1 }
/-- How many records are synced behind a truncation. -/
def dT (m d n : Nat) : Nat := if m = 0 then d else n - m
theorem trunc_any {n i d : Nat} {L : Log} {rs : List (List Int)} {q : Nat} {Fl : Nat → Prop} {W : World} (hs : St n i L d rs) (h : LogR W q L Fl) (hn1 : 4 ≤ n) (hn2 : n ≤ 256) (hi : i ≤ 1000) (m : Nat) (hm : m ≤ rs.length) :
    Calls Try.prog 30 #[.pointer (some ⟨q, 0, none⟩), .int .i64 (m : Int)] W fun e w' => e = .returned (.int .i64 0) ∧ ∃ L', Hid (St n (i + 1) L' (dT m d rs.length) (rs.drop m)) ∧ Hid (LogPost q L' Fl W w') := by
  by_cases h0 : m = 0
  · subst h0
    have hc := hs.cnt
    refine (Wl.trunc0_any q L Fl W h (by rw [hs.ends, Wl.endsG_len]; omega)).mono ?_
    rintro e w' ⟨rfl, hu⟩
    exact ⟨rfl, L, hs.mono (Nat.le_succ _), (Wl.LogPost.self h).up hu.out h.lt⟩
  · rw [show dT m d rs.length = rs.length - m from if_neg h0]
    exact Wl.trunc_st hs (Wl.LogPost.self h) h.lt hn1 hn2 hi m (by omega) hm
section
variable {n i d : Nat} {rs : List (List Int)} {p : Nat} {C : Ck} {F : Nat → Prop} {w : World}
set_option maxRecDepth 100000 in
set_option maxHeartbeats 4000000 in
theorem step2_any (h : CkR w p C F) (hs : St n i C.log d rs) (hn1 : 4 ≤ n) (hn2 : n ≤ 256) (hi : i ≤ 1000) (hm : C.next = (C.pend.length : Int)) (hdl : C.dsk.dur.length = 42) (hck : C.cks < 1000000) (hpl20 : C.pend.length ≤ 20) (hcv : C.cov ≤ rs.length) :
    Calls Try.prog 35 #[.pointer (some ⟨p, 0, none⟩)] w fun e w' => e = .returned (.tuple #[.bool true, .int .i64 0]) ∧ ∃ L', Hid (St n (i + 1) L' (dT C.cov d rs.length) (rs.drop C.cov)) ∧ Hid (CkPost p (C.done L') F w w') := by
  obtain ⟨q, r, Fl, Fd, ev, pv, h⟩ := h
  have H := Lib.hid h
  obtain ⟨pa, pc, rfl, _, _, _⟩ := own_form h.pnd
  have c2 := (h.blk.at (i := 2) rfl).2
  have c4 := (h.blk.at (i := 4) rfl).2
  have c5 := (h.blk.at (i := 5) rfl).2
  have hpl := h.blk.lt
  have hm0 : ¬ (C.pend.length : Int) < 0 := by omega
  have hpi : (C.pend.length : Int) ≤ 20 := by omega
  have hcki : (C.cks : Int) < 1000000 := by omega
  rw [hm] at c5
  have HLT := Lib.hid h.lt
  have HFL := Lib.hid (Dk.flush_any r C.dsk Fd w h.dk)
  clear h
  go_enter Try.func35, Try.ntmps35
  go_upto_region 3 with fail
  go_quiet (fail)
  have UA : Hid (Up w (w.drewN nq)) := (Up.refl w).drewN nq
  generalize w.drewN nq = wa at *
  have ba := (H.out.up UA.out).blk
  have x2 := (ba.at (i := 2) rfl).2
  have xl := ba.lt
  have HFL2 := Lib.hid (Dk.flush_any r C.dsk Fd wa (H.out.up UA.out).dk)
  go_upto_region 9 with (first
    | (go_at_call 16; refine HFL2.out.mono ?_; rintro e w1 ⟨rfl, h1, h2⟩; have J1 := Lib.hid ((H.out.up UA.out).dskStep h1 h2); clear h1 h2)
    | fail)
  have b1 := J1.out.1.blk
  have y3 := (b1.at (i := 3) rfl).2
  have y3f := b1.free 3
  have yl := b1.lt
  go_upto_region 11 with fail
  have hc2 := chg_set w1 p 3 none (.int .i64 ((C.cks : Int) + 1))
  have J2 := Lib.hid (CkP.join (J1.out.1.own (C' := { C with dsk := C.dsk.flush, cks := C.cks + 1 }) hc2 (fun k _ e => e) rfl rfl (by rw [show ((C.cks + 1 : Nat) : Int) = (C.cks : Int) + 1 by omega]; exact (b1.set 3 _)) (own_chg J1.out.1.ent hc2 fun j hj e => J1.out.1.ene j hj e) (own_chg J1.out.1.pnd hc2 fun j hj e => J1.out.1.pne j hj e) (fun j hj => .inl (J1.out.1.ef j hj)) (fun j hj => .inl (J1.out.1.pf j hj))) J1.out.2 (fun k hk => Nat.lt_of_lt_of_le (HLT.out k hk) UA.out.size))
  clear hc2 b1 y3 y3f yl
  generalize w1.setCell ⟨p, 3, none⟩ (.int .i64 ((C.cks : Int) + 1)) = w2 at *
  have b2 := J2.out.1.blk
  have z2 := (b2.at (i := 2) rfl).2
  have z4 := (b2.at (i := 4) rfl).2
  have zl := b2.lt
  clear J1 c2 c4 c5 x2 xl hpl HFL HFL2
  have hlta : ∀ k, F k → k < wa.heap.size := fun k hk => Nat.lt_of_lt_of_le (HLT.out k hk) UA.out.size
  have HLTA := Lib.hid hlta
  obtain ⟨W, hW⟩ : ∃ W, W = ((w2.alloc (.cells #[.int .u8 (IntKind.u8.wrap (((C.cks : Int) + 1) / 65536)), .int .u8 (IntKind.u8.wrap (((C.cks : Int) + 1) / 256)), .int .u8 (IntKind.u8.wrap ((C.cks : Int) + 1)), .int .u8 (IntKind.u8.wrap (C.pend.length : Int))] 5)).drew) := ⟨_, rfl⟩
  have HBY : Hid (Bytes W (.slice (some ⟨w2.heap.size, 0, none⟩) 4 4) (hdrB (C.cks + 1) C.pend.length) ∧ Up w2 W) := by
    have e : ([.int .u8 (IntKind.u8.wrap (((C.cks : Int) + 1) / 65536)), .int .u8 (IntKind.u8.wrap (((C.cks : Int) + 1) / 256)), .int .u8 (IntKind.u8.wrap ((C.cks : Int) + 1)), .int .u8 (IntKind.u8.wrap (C.pend.length : Int))] : List Value) = bc (hdrB (C.cks + 1) C.pend.length) := by
      have e1 : IntKind.u8.wrap (((C.cks : Int) + 1) / 65536) = ((C.cks + 1 : Nat) : Int) / 65536 := by simp [IntKind.wrap, IntKind.bits, IntKind.signed]; omega
      have e2 : IntKind.u8.wrap (((C.cks : Int) + 1) / 256) = ((C.cks + 1 : Nat) : Int) / 256 % 256 := by simp [IntKind.wrap, IntKind.bits, IntKind.signed]
      have e3 : IntKind.u8.wrap ((C.cks : Int) + 1) = ((C.cks + 1 : Nat) : Int) % 256 := by simp [IntKind.wrap, IntKind.bits, IntKind.signed]
      have e4 : IntKind.u8.wrap (C.pend.length : Int) = (C.pend.length : Int) := by simp [IntKind.wrap, IntKind.bits, IntKind.signed]; omega
      rw [e1, e2, e3, e4]
      rfl
    have := Dk.bytes_new w2 (hdrB (C.cks + 1) C.pend.length) (by rw [hdrB_len]; decide)
    rw [← e] at this
    rw [hW]
    exact ⟨this, ((Up.refl w2).alloc _).drew⟩
  have HWR : Hid (Calls Try.prog 14 #[.pointer (some ⟨r, 0, none⟩), .int .i64 (((C.cks : Int) + 1).tmod 2), .slice (some ⟨w2.heap.size, 0, none⟩) 4 4] W fun e w' => e = .returned (.int .i64 0) ∧ ∃ Fd', Hid (CkP w' p (Fx F wa w') { C with dsk := C.dsk.flush.write ((C.cks + 1) % 2) (hdrB (C.cks + 1) C.pend.length), cks := C.cks + 1 } q r Fl Fd' ev (.slice pa C.pend.length pc) ∧ Chg F wa w')) := by
    have J3 := J2.out.1.ups J2.out.2 HBY.out.2 HLTA.out
    have hdl' : C.dsk.flush.dur.length = 42 := by show (Dk.applyW _ _).length = 42; rw [Dk.applyW_len]; exact hdl
    have := Dk.write_any r ((C.cks + 1) % 2) C.dsk.flush _ (.slice (some ⟨w2.heap.size, 0, none⟩) 4 4) (hdrB (C.cks + 1) C.pend.length) W J3.1.dk (by rw [hdl']; omega) HBY.out.1 (by rw [hdrB_len]; decide) (by show 0 < 1000; decide)
    rw [show (((C.cks + 1) % 2 : Nat) : Int) = ((C.cks : Int) + 1).tmod 2 by rw [Int.tmod_eq_emod_of_nonneg (by omega)]; omega] at this
    refine this.mono ?_
    rintro e w' ⟨rfl, g1, g2⟩
    exact ⟨rfl, _, CkP.join (J3.1.dskStep g1 g2) J3.2 HLTA.out⟩
  rw [hW] at HWR
  clear HBY hW hlta
  have hpu : (C.pend.length : Int) ≤ 20 := hpi
  have HS := Lib.hid hs
  clear hs hdl hck hpl20 hm HLT
  go_region_held3 (fun w' => w'.cell? ⟨p, 2, none⟩ = some (.pointer (some ⟨r, 0, none⟩)) ∧ w'.cell? ⟨p, 4, none⟩ = some (.slice pa C.pend.length pc)) (first | exact ⟨z2, z4⟩ | exact ⟨v2, v4⟩ | go_keep) (first
    | (go_at_call 14; refine HWR.out.mono ?_; rintro e w3 ⟨rfl, Fd3, J3⟩; have b3 := J3.out.1.blk; have v2 := (b3.at (i := 2) rfl).2; have v4 := (b3.at (i := 4) rfl).2; have vl := b3.lt; clear b3)
    | fail)
  all_goals
    have HFL3 := Lib.hid (Dk.flush_any r _ Fd3 w3 J3.out.1.dk)
    go_upto_region 13 with (first
      | (go_at_call 16; refine HFL3.out.mono ?_; rintro e w4 ⟨rfl, g1, g2⟩; have J4 := Lib.hid (CkP.join (J3.out.1.dskStep g1 g2) J3.out.2 HLTA.out); clear g1 g2)
      | fail)
    have b4 := J4.out.1.blk
    have u1 := (b4.at (i := 1) rfl).2
    have u6 := (b4.at (i := 6) rfl).2
    have ul := b4.lt
    have J4d := Lib.hid (J4.out.1.ups J4.out.2 (Up.refl w4).drew HLTA.out)
    have HTR := Lib.hid (trunc_any HS.out J4d.out.1.log hn1 hn2 hi C.cov hcv)
    go_region_held3 (fun w' => w'.cell? ⟨p, 1, none⟩ = some (.pointer (some ⟨q, 0, none⟩)) ∧ w'.cell? ⟨p, 6, none⟩ = some (.int .i64 (C.cov : Int))) (first | exact ⟨u1, u6⟩ | exact ⟨t1, t6⟩ | go_keep) (first
      | (go_at_call 30; refine HTR.out.mono ?_; rintro e w5 ⟨rfl, L5, S5, P5⟩; have J5 := Lib.hid (CkP.join (J4d.out.1.logStep P5.out) J4d.out.2 HLTA.out); have b5 := J5.out.1.blk; have t1 := (b5.at (i := 1) rfl).2; have t6 := (b5.at (i := 6) rfl).2; have tl := b5.lt; have f4 := b5.free 4; have f5 := b5.free 5)
      | fail)
    all_goals
      have t4 := (b5.at (i := 4) rfl).2
      have t5 := (b5.at (i := 5) rfl).2
      have B5 := Lib.hid b5
      clear b5 b4 ba b2 z2 z4 zl v2 v4 vl u1 u6 ul HTR HFL3 HWR
      go_upto_region 14 with fail
      go_wp2
      go_ret2
      have hc6 := (chg_set w5 p 4 none (.slice none 0 0)).trans (chg_set _ p 5 none (.int .i64 (-1))) fun _ _ e => e
      have b5 := B5.out
      have key := CkP.join (J5.out.1.own (C' := C.done L5) hc6 (fun k _ e => e) rfl rfl (((b5.set 4 _).set 5 _)) (own_chg J5.out.1.ent hc6 fun j hj e => J5.out.1.ene j hj e) (World.ownsRow_nil _ _ _ _) (fun j hj => .inl (J5.out.1.ef j hj)) (fun j hj => by cases hj)) J5.out.2 HLTA.out
      exact ⟨rfl, L5, S5, CkPost.behind UA.out ⟨⟨_, _, _, _, _, _, key.1⟩, key.2⟩ H.out.lt⟩
end
end Go.Proofs.Ytmaeeidaegigcaa.Ck
