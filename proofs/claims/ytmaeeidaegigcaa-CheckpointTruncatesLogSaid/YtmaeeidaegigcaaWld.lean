/- The write-ahead log: writeBlock. -/
import Derived.Test.YtmaeeidaegigcaaWlc
import Derived.Test.YtmaeeidaegigcaaWlz
import Derived.Deep.CutRange
namespace Go.Proofs.Ytmaeeidaegigcaa.Wl
open Go Go.RowKit Hp
open Dk (Dsk DiskR bc DOk)
set_option linter.unusedVariables false

def Log.sec (L : Log) (b : Nat) : Nat := 2 + b % L.bl
theorem sector_any (p : Nat) (L : Log) (F : Nat → Prop) (b : Nat) (w : World) (h : LogR w p L F) (hb : 3 ≤ L.dsk.dur.length) (hb2 : L.dsk.dur.length ≤ 256) (hb3 : b ≤ 100000000) :
    Calls Try.prog 68 #[.pointer (some ⟨p, 0, none⟩), .int .i64 (b : Int)] w fun e w' => e = .returned (.int .i64 (L.sec b : Int)) ∧ Up w w' := by
  have HR := Lib.hid h
  have hbl : 1 ≤ L.bl ∧ L.bl ≤ 256 := by unfold Log.bl; omega
  have HB := Lib.hid (fun W (hu : Up w W) => blocks_any p L F W (h.up hu) (by omega) hb2)
  have HE : Hid (((L.sec b : Nat) : Int) = 2 + (b : Int) % (L.bl : Int)) := by unfold Hid Log.sec; omega
  have hm : (b : Int).tmod (L.bl : Int) = ((b % L.bl : Nat) : Int) := by rw [Int.tmod_eq_emod_of_nonneg (by omega)]; omega
  have hm2 : b % L.bl < L.bl := Nat.mod_lt _ (by omega)
  have hz : ¬ (L.bl : Int) = 0 := by omega
  go_enter Try.func68, Try.ntmps68
  go_wp2_with (first
    | (go_at_call 47; refine (HB.out _ (Up.refl w)).mono ?_; rintro e w1 ⟨rfl, h1⟩)
    | fail)
  go_ret
  exact ⟨by rw [HE.out]; rfl, h1⟩
theorem cell1 (w : World) (a : Value) (E : TypeId) (g : Nat) (hg : w.heap.size = g) : ∀ (j : Nat) u, [a][j]? = some u → (w.alloc (.cells #[a] E)).cell? ((⟨g, 0, none⟩ : Addr).add j) = some u := by
  subst hg
  exact cells_new w #[a] E
theorem app_first (n B : Nat) (W : World) (hB : B ≤ W.heap.size) (hn : n < 4294967296) : Calls Try.prog 64 #[.slice none 0 0, .int .i64 (n : Int)] W fun e w' => ∃ g c, e = .returned (.slice (some ⟨g, 0, none⟩) 4 c) ∧ Hid (w'.ownsRow B 5 1 (.slice (some ⟨g, 0, none⟩) 4 c) 4 (bc (be32 n))) ∧ Up W w' ∧ B ≤ g :=
  (app32_any (.slice none 0 0) [] n B W (World.ownsRow_nil _ _ _ _) hB hn (by decide)).mono fun e w' ⟨g, c, h1, h2, h3, h4⟩ => ⟨g, c, h1, h2, Below.grown (Up.refl W) h3 (Nat.le_refl _) (fun j e => by cases e), h4.elim (fun e => by cases e) fun e => Nat.le_trans hB e⟩
theorem app_next (l : List Int) (n k : Nat) (w3 W : World) (g c : Nat) (hk : l.length = k) (hO : Hid (W.ownsRow w3.heap.size 5 1 (.slice (some ⟨g, 0, none⟩) k c) k (bc l))) (hg : w3.heap.size ≤ g) (hu : Up w3 W) (hn : n < 4294967296) (hkk : k ≤ 100000) : Calls Try.prog 64 #[.slice (some ⟨g, 0, none⟩) k c, .int .i64 (n : Int)] W fun e w' => ∃ g c, e = .returned (.slice (some ⟨g, 0, none⟩) (k + 4) c) ∧ Hid (w'.ownsRow w3.heap.size 5 1 (.slice (some ⟨g, 0, none⟩) (k + 4) c) (k + 4) (bc (l ++ be32 n))) ∧ Up w3 w' ∧ w3.heap.size ≤ g := by
  subst hk
  exact (app32_any (.slice (some ⟨g, 0, none⟩) l.length c) l n w3.heap.size W hO.out hu.size hn hkk).mono fun e w' ⟨g2, c2, h1, h2, h3, h4⟩ => ⟨g2, c2, h1, h2, Below.grown hu h3 hu.size (fun j e => by have e : g = j := Option.some.inj e; omega), h4.elim (fun e => by have e : g = _ := Option.some.inj e; omega) fun e => Nat.le_trans hu.size e⟩
def Log.low (L : Log) (b : Nat) : Nat := max (b * 20) L.st
def Log.high (L : Log) (b : Nat) : Nat := min ((b + 1) * 20) L.en
/-- The bytes of a block. -/
def Log.blk (L : Log) (b : Nat) : List Int :=
  be32 b ++ be32 L.inc ++ [((L.high b - b * 20 : Nat) : Int)] ++ if L.low b < L.high b then List.replicate (L.low b - b * 20) 0 ++ (L.dat.take (L.high b - L.st)).drop (L.low b - L.st) else []
def Log.wb (L : Log) (b : Nat) : Log := { L with dsk := (if L.dsk.pend.length = 1000 then L.dsk.flush else L.dsk).write (L.sec b) (L.blk b) }
set_option maxRecDepth 100000 in
set_option maxHeartbeats 4000000 in
theorem block_any (p : Nat) (L : Log) (F : Nat → Prop) (b : Nat) (w : World) (h : LogR w p L F) (hb : 3 ≤ L.dsk.dur.length) (hb2 : L.dsk.dur.length ≤ 256) (hb3 : L.st + L.dat.length ≤ 100000000) (hb4 : b * 20 ≤ L.en) (hb5 : L.inc < 4294967296) (hb8 : L.dsk.pend.length ≤ 1000) :
    Calls Try.prog 48 #[.pointer (some ⟨p, 0, none⟩), .int .i64 (b : Int)] w fun e w' => e = .returned (.tuple #[]) ∧ LogPost p (L.wb b) F w w' := by
  have HLT := Lib.hid h.lt
  have HR := Lib.hid h
  obtain ⟨q, G, dv, ev, hP⟩ := h
  obtain ⟨va, vc, rfl, hvc1, hvc2, _⟩ := own_form hP.dow
  have c0 := (hP.blk.at (i := 0) rfl).2
  have c2 := (hP.blk.at (i := 2) rfl).2
  have c3 := (hP.blk.at (i := 3) rfl).2
  have c4 := (hP.blk.at (i := 4) rfl).2
  have hpl := hP.blk.lt
  have P0 := Lib.hid hP
  have HEND := Lib.hid (fun W (hu : Up w W) => end_any p L F W (HR.out.up hu) (by omega))
  have hen : Hid (L.en = L.st + L.dat.length) := rfl
  have hlow : (if (b : Int) * 20 < (L.st : Int) then (L.st : Int) else (b : Int) * 20) = (L.low b : Int) := by unfold Log.low; split <;> omega
  have hhigh : (if (L.en : Int) < ((b : Int) + 1) * 20 then (L.en : Int) else ((b : Int) + 1) * 20) = (L.high b : Int) := by unfold Log.high; split <;> omega
  have b1 : b * 20 ≤ L.low b ∧ L.st ≤ L.low b := by unfold Log.low; omega
  have b2 : b * 20 ≤ L.high b ∧ L.high b ≤ b * 20 + 20 ∧ L.high b ≤ L.en := by unfold Log.high; omega
  have hb6 : b ≤ 100000000 := by have := hen.out; omega
  have hb7 : (b : Int) * 20 ≤ 100000000 := by have := hen.out; omega
  clear hP
  go_enter Try.func48, Try.ntmps48
  go_wp2
  refine wp_region_gr (by kernel_rfl) (by kernel_rfl) ?_
  repeat (go_big_quiet_step (first
    | (go_at_call 46; exact gr_call (HEND.out _ (gr_up _ _)))
    | fail))
  refine wpQuiet_nil ?_
  intro _ hw'
  obtain ⟨g1, rfl⟩ := hw'
  obtain ⟨w3, hw3⟩ : ∃ w3, w3 = gr w g1 := ⟨_, rfl⟩
  have hu3 : Up w w3 := by rw [hw3]; exact gr_up w g1
  rw [← hw3]
  clear hw3 hlow hhigh
  have P3 := Lib.hid (P0.out.up hu3)
  have U3 := Lib.hid hu3
  have x0 := (P3.out.blk.at (i := 0) rfl).2
  have x2 := (P3.out.blk.at (i := 2) rfl).2
  have x3 := (P3.out.blk.at (i := 3) rfl).2
  have x4 := (P3.out.blk.at (i := 4) rfl).2
  have xl := P3.out.blk.lt
  clear hu3 c0 c2 c3 c4
  have HA1 := Lib.hid (fun W hW => app_first b w3.heap.size W hW (by omega))
  have HA2 := Lib.hid (fun W g c hO hg hu => app_next (be32 b) L.inc 4 w3 W g c rfl hO hg hu hb5 (by decide))
  generalize hlo : L.low b = lo at *
  generalize hhi : L.high b = hi at *
  have hi8 : hi ≤ 100000000 := by have := hen.out; omega
  have hx1 : 0 ≤ (hi : Int) - (b : Int) * 20 := by omega
  have hx2 : (hi : Int) - (b : Int) * 20 ≤ 20 := by omega
  have HX : Hid ([((hi - b * 20 : Nat) : Int)] = [(hi : Int) - (b : Int) * 20]) := by unfold Hid; congr 1; omega
  have HLO := Lib.hid hlo
  have HHI := Lib.hid hhi
  clear hlo hhi
  go_wp2
  go_region_held3 (fun w' => w'.cell? ⟨p, 2, none⟩ = some (.int .i64 (L.inc : Int))) (first | exact x2 | exact y2 | exact z2 | go_keep) (first
    | (go_at_call 64; refine (HA2.out _ _ _ O1 hg1 U1).mono ?_; rintro e w5 ⟨g2, c2, rfl, O2, U2, hg2⟩; have z2 := (U2.cell (p := ⟨p, 2, none⟩) xl).trans x2)
    | (go_at_call 64; refine (HA1.out _ ((Up.refl w3).drew.size)).mono ?_; rintro e w4 ⟨g1, c1', rfl, O1, U1', hg1⟩; have U1 : Up w3 w4 := ((Up.refl w3).drew).trans U1'; clear U1'; have y2 := (U1.cell (p := ⟨p, 2, none⟩) xl).trans x2)
    | fail)
  clear y2 z2
  obtain ⟨i1, hi1, hz3, hz4, hz5⟩ := info_parts Try.info8
  go_upto_if 37 with (first
    | (at_builtin; refine wpList_append_lies _ rfl (.tmp 27) (.tmp 33) 28 rfl w3.heap.size 5 i1 (.int .u8 0) 1 1 Try.underlying28 hi1 hz3 hz4 hz5 rfl (by decide) (.slice (some ⟨g2, 0, none⟩) 8 c2) 8 (bc (be32 b ++ be32 L.inc)) rfl (own_up O2.out ((Up.refl _).alloc _)) ⟨w5.heap.size, 0, none⟩ 1 1 (bc [(hi : Int) - (b : Int) * 20]) rfl rfl (cell1 _ _ _ _ rfl) (Dk.bc_one _) (by decide) (by unfold maxLen; omega) (by decide) (Nat.le_trans U2.size ((Up.refl _).alloc _).size) _ rfl ?_
       intro g9 c9 w9 hown9 hgrow9 hat9 hlt9
       rw [← bc_app, ← HX.out] at hown9
       have O9 := Lib.hid hown9
       have U9 : Up w3 w9 := Below.grown (U2.alloc _) hgrow9 (Nat.le_trans U2.size ((Up.refl _).alloc _).size) (fun j e => by have e : g2 = j := Option.some.inj e; omega)
       have hg9 : w3.heap.size ≤ g9 := hat9.elim (fun e => by have e : g2 = _ := Option.some.inj e; omega) fun e => by rw [e]; exact Nat.le_trans U2.size ((Up.refl _).alloc _).size
       clear hown9 hgrow9 hat9)
    | fail)
  have HK : Hid (((lo - b * 20 : Nat) : Int) = (lo : Int) - (b : Int) * 20) := by unfold Hid; omega
  have HBL : Hid (L.blk b = be32 b ++ be32 L.inc ++ [((hi - b * 20 : Nat) : Int)] ++ if lo < hi then List.replicate (lo - b * 20) 0 ++ (L.dat.take (hi - L.st)).drop (lo - L.st) else []) := by unfold Hid Log.blk; rw [HLO.out, HHI.out]
  have HB29 : Hid ((L.blk b).length ≤ 32) := by
    unfold Hid
    rw [HBL.out]
    split
    · simp only [List.length_append, List.length_replicate, List.length_drop, List.length_take, List.length_cons, List.length_nil, be32_len]
      omega
    · show 9 ≤ 32
      decide
  go_cut [6] from 37 to 62 (fun s6 wx => ∃ g c, s6 = .slice (some ⟨g, 0, none⟩) (L.blk b).length c ∧ Hid (wx.ownsRow w3.heap.size 5 1 (.slice (some ⟨g, 0, none⟩) (L.blk b).length c) (L.blk b).length (bc (L.blk b))) ∧ Hid (Up w3 wx))
  case first =>
    by_cases hlh : lo < hi
    · have hlhi : (lo : Int) < (hi : Int) := by omega
      obtain ⟨g10, c10, w10, hr10, o10, r10, a10⟩ := run_append_own_zeros (P := Try.prog) w9 w3.heap.size 28 3 28 5 i1 (.int .u8 0) .i64 .i64 Try.underlying28 Try.underlying3 hi1 hz3 hz4 hz5 rfl rfl g9 9 c9 _ O9.out (lo - b * 20) (by omega) U9.size
      rw [HK.out] at hr10
      have HR10 := Lib.hid hr10
      have O10 := Lib.hid o10
      have U10 : Up w3 w10 := Below.grown U9 r10 U9.size (fun j e => by have e : g9 = j := Option.some.inj e; omega)
      have hg10 : w3.heap.size ≤ g10 := a10.elim (fun e => by rw [e]; exact hg9) fun e => by rw [e]; exact U9.size
      have y3 := (U10.cell (p := ⟨p, 3, none⟩) xl).trans x3
      have y4 := (U10.cell (p := ⟨p, 4, none⟩) xl).trans x4
      have yl := Nat.lt_of_lt_of_le xl U10.size
      clear hr10 o10 r10 a10
      go_upto_region 5 with (first
        | (at_builtin; refine Lib.wpList_append_run _ rfl (.tmp 38) (.tmp 42) 28 3 rfl _ _ rfl rfl _ _ HR10.out ?_)
        | fail)
      obtain ⟨ga, gc, hgv, _, _, hgl, hgat, _⟩ := own_some P3.out.dow (by have := hen.out; omega)
      cases hgv
      obtain ⟨s1, hs1⟩ : ∃ s1, s1 = lo - L.st := ⟨_, rfl⟩
      obtain ⟨s2, hs2⟩ : ∃ s2, s2 = hi - L.st := ⟨_, rfl⟩
      have hq1 : IntKind.i64.wrap ((lo : Int) - (L.st : Int)) = (s1 : Int) := by rw [IntWalk.i64_in _ (by omega)]; omega
      have hq2 : IntKind.i64.wrap ((hi : Int) - (L.st : Int)) = (s2 : Int) := by rw [IntWalk.i64_in _ (by omega)]; omega
      have hq3 : s2 ≤ L.dat.length := by have := hen.out; omega
      have hq4 : s2 ≤ vc := by omega
      have hq5 : s1 ≤ s2 := by omega
      have hq6 : ¬ vc = s1 := by omega
      have hq7 : s2 - s1 = hi - lo := by omega
      have hsrc : ∀ j u, (bc ((L.dat.take s2).drop s1))[j]? = some u → w10.drew.cell? ((⟨ga, s1, none⟩ : Addr).add j) = some u := fun j u hu => by
        rw [Addr.add_lit]
        have h1 := hgat (s1 + j) u (by
          rw [← hu]
          unfold bc
          rw [List.getElem?_map, List.getElem?_map, List.getElem?_drop, List.getElem?_take]
          split
          · rfl
          · rename_i hge
            rw [List.getElem?_map, List.getElem?_drop, List.getElem?_take, if_neg hge] at hu
            cases hu)
        exact (U10.cell (p := ⟨ga, s1 + j, none⟩) hgl).trans h1
      have hnl : (bc ((L.dat.take s2).drop s1)).length = (hi - lo) * 1 := by simp [bc]; omega
      have HSRC := Lib.hid hsrc
      have HNL := Lib.hid hnl
      have hmx : 9 + (lo - b * 20) + (hi - lo) ≤ 1000 := by omega
      have HZ10 := Lib.hid (Nat.le_trans U10.size (Up.refl w10).drew.size)
      have HBc : Hid (bc (L.blk b) = bc (be32 b ++ be32 L.inc ++ [((hi - b * 20 : Nat) : Int)]) ++ List.replicate (lo - b * 20) (.int .u8 0) ++ bc ((L.dat.take s2).drop s1)) := by
        unfold Hid
        rw [HBL.out, if_pos hlh, ← hs1, ← hs2, bc_app, bc_app (List.replicate _ _), ← List.append_assoc]
        congr 2
        exact List.map_replicate
      have HLc : Hid ((L.blk b).length = 9 + (lo - b * 20) + (hi - lo)) := by
        have h := congrArg List.length HBc.out
        simp only [List.length_append, List.length_map, List.length_replicate, List.length_drop, List.length_take, List.length_cons, List.length_nil, be32_len] at h
        unfold Hid
        omega
      clear hsrc hnl hgat hs1 hs2
      go_region_law (first
        | (refine step_append_lies _ rfl (.tmp 44) (.tmp 61) 28 rfl w3.heap.size 5 i1 (.int .u8 0) 1 1 Try.underlying28 hi1 hz3 hz4 hz5 rfl (by decide) (.slice (some ⟨g10, 0, none⟩) (9 + (lo - b * 20)) c10) (9 + (lo - b * 20)) _ (by simp [Act.eval, Act.put]) (own_up O10.out (Up.refl w10).drew) ⟨ga, s1, none⟩ (hi - lo) (vc - s1) (bc ((L.dat.take s2).drop s1)) (by simp [Act.eval, Act.put]) HNL.out HSRC.out (Dk.bc_one _) (by omega) (by unfold maxLen; omega) (by omega) HZ10.out _ rfl ?_
           intro g11 c11 w11 hown11 hgrow11 hat11 hlt11
           rw [← HBc.out, ← HLc.out] at hown11
           have O11 := Lib.hid hown11
           have U11 : Up w3 w11 := Below.grown (U10.trans (Up.refl w10).drew) hgrow11 HZ10.out (fun j e => by have e : g10 = j := Option.some.inj e; omega)
           clear hown11 hgrow11 hat11)
        | fail)
      all_goals
        go_wp2
        go_meet
        exact ⟨g11, c11, by rw [HLc.out], O11.out, U11⟩
    · have hlhi : ¬ (lo : Int) < (hi : Int) := by omega
      have HLc : Hid ((L.blk b).length = 9) := by unfold Hid; rw [HBL.out, if_neg hlh]; rfl
      have O11 := O9.out
      rw [show be32 b ++ be32 L.inc ++ [((hi - b * 20 : Nat) : Int)] = L.blk b by rw [HBL.out, if_neg hlh, List.append_nil]] at O11
      go_wp2
      go_meet
      exact ⟨g9, c9, by rw [HLc.out], by rw [HLc.out]; exact O11, U9⟩
  case rest =>
    obtain ⟨gN, cN, rfl, ON, UN⟩ := hcut
    have y0 := (UN.out.cell (p := ⟨p, 0, none⟩) xl).trans x0
    have yl := Nat.lt_of_lt_of_le xl UN.out.size
    have C0 := Lib.hid ((P0.out.fx0 (Chg.refl F w) HLT.out).ups (Chg.refl F w) (U3.out.trans UN.out) HLT.out)
    have HGL := Lib.hid P0.out.dk.lt
    have HSL : Hid (L.sec b < L.dsk.dur.length) := by
      unfold Hid Log.sec Log.bl
      have := Nat.mod_lt b (show 0 < L.dsk.dur.length - 2 by omega)
      omega
    by_cases hpd : L.dsk.pend.length = 1000
    · have hpd2 : (L.dsk.pend.length : Int) = 1000 := by omega
      have HDL : Hid (L.dsk.flush.dur.length = L.dsk.dur.length) := Dk.applyW_len _ _
      have HWB : Hid (L.wb b = { L with dsk := L.dsk.flush.write (L.sec b) (L.blk b) }) := by unfold Hid Log.wb; rw [if_pos hpd]
      have HSC : Hid (({ L with dsk := L.dsk.flush } : Log).sec b = L.sec b) := by unfold Hid Log.sec Log.bl; rw [show ({ L with dsk := L.dsk.flush } : Log).dsk.dur.length = L.dsk.dur.length from HDL.out]
      go_wp2_with (first
        | (go_at_call 19; refine (Dk.pending_any q L.dsk G _ C0.out.1.dk).mono ?_; rintro e w' ⟨rfl, rfl⟩)
        | (go_at_call 16; refine (Dk.flush_any q _ _ _ C0.out.1.dk).mono ?_; rintro e w7 ⟨rfl, h1, h2⟩
           have C7 := Lib.hid (C0.out.1.flow C0.out.2 h1 h2 HLT.out)
           have O7 := Lib.hid (own_chg ON.out h2 fun k hk e => by have := HGL.out k e; have := ((own_ty ON.out) k hk).2; have := U3.out.size; omega)
           have z0 := (C7.out.1.blk.at (i := 0) rfl).2
           have zl := C7.out.1.blk.lt
           clear h1 h2)
        | fail)
      have HS7 : Hid (∀ W, Up w7 W → Calls Try.prog 68 #[.pointer (some ⟨p, 0, none⟩), .int .i64 (b : Int)] W fun e w' => e = .returned (.int .i64 (L.sec b : Int)) ∧ Up w7 w') := fun W hu => by
        have := sector_any p { L with dsk := L.dsk.flush } _ b W ⟨_, _, _, _, C7.out.1.up hu⟩ (by show 3 ≤ L.dsk.flush.dur.length; rw [HDL.out]; exact hb) (by show L.dsk.flush.dur.length ≤ 256; rw [HDL.out]; exact hb2) hb6
        rw [HSC.out] at this
        exact this.mono fun e w' ⟨h1, h2⟩ => ⟨h1, hu.trans h2⟩
      have HW7 : Hid (∀ W, Up w7 W → Calls Try.prog 14 #[.pointer (some ⟨q, 0, none⟩), .int .i64 (L.sec b : Int), .slice (some ⟨gN, 0, none⟩) (L.blk b).length cN] W fun e w' => e = .returned (.int .i64 0) ∧ ∃ G2, Hid (LogP w' p (Fx F w w') (L.wb b) q G2 (.slice va L.dat.length vc) ev) ∧ Hid (Chg F w w')) := fun W hu => by
        obtain ⟨a, c⟩ := C7.out.1.ups C7.out.2 hu HLT.out
        have := Dk.write_any q (L.sec b) L.dsk.flush _ (.slice (some ⟨gN, 0, none⟩) (L.blk b).length cN) (L.blk b) W a.dk (by rw [HDL.out]; exact HSL.out) (Dk.bytes_own (own_up O7.out hu)) HB29.out (by show 0 < 1000; decide)
        exact this.mono fun e w' ⟨h1, h2, h3⟩ => ⟨h1, _, by rw [HWB.out]; exact (a.flow c h2 h3 HLT.out).1, (a.flow c h2 h3 HLT.out).2⟩
      go_region_held3 (fun w' => w'.cell? ⟨p, 0, none⟩ = some (.pointer (some ⟨q, 0, none⟩))) (first | exact z0 | exact v0 | exact u0 | go_keep) (first
        | (go_at_call 68; refine (HS7.out _ (Up.refl w7).drew).mono ?_; rintro e w8 ⟨rfl, U8⟩; have v0 := (U8.cell (p := ⟨p, 0, none⟩) zl).trans z0)
        | (go_at_call 14; refine (HW7.out _ U8).mono ?_; rintro e w9 ⟨rfl, G9, P9, C9⟩; have u0 := (P9.out.blk.at (i := 0) rfl).2)
        | fail)
      all_goals
        go_wp2
        go_end0
        exact ⟨rfl, ⟨_, _, _, _, P9.out⟩, C9.out⟩
    · have hpd2 : ¬ (L.dsk.pend.length : Int) = 1000 := by omega
      have HWB : Hid (L.wb b = { L with dsk := L.dsk.write (L.sec b) (L.blk b) }) := by unfold Hid Log.wb; rw [if_neg hpd]
      have hpd3 : ((L.dsk.pend.length : Int) == 1000) = false := beq_eq_false_iff_ne.2 hpd2
      go_wp2_with (first
        | (go_at_call 19; refine (Dk.pending_any q L.dsk G _ C0.out.1.dk).mono ?_; rintro e w' ⟨rfl, rfl⟩)
        | fail)
      have HS7 : Hid (∀ W, Up wc W → Calls Try.prog 68 #[.pointer (some ⟨p, 0, none⟩), .int .i64 (b : Int)] W fun e w' => e = .returned (.int .i64 (L.sec b : Int)) ∧ Up wc w') := fun W hu => by
        have := sector_any p L _ b W ⟨_, _, _, _, C0.out.1.up hu⟩ (by show 3 ≤ L.dsk.dur.length; rw [(rfl : L.dsk.dur.length = L.dsk.dur.length)]; exact hb) (by show L.dsk.dur.length ≤ 256; rw [(rfl : L.dsk.dur.length = L.dsk.dur.length)]; exact hb2) hb6
        rw [(rfl : L.sec b = L.sec b)] at this
        exact this.mono fun e w' ⟨h1, h2⟩ => ⟨h1, hu.trans h2⟩
      have HW7 : Hid (∀ W, Up wc W → Calls Try.prog 14 #[.pointer (some ⟨q, 0, none⟩), .int .i64 (L.sec b : Int), .slice (some ⟨gN, 0, none⟩) (L.blk b).length cN] W fun e w' => e = .returned (.int .i64 0) ∧ ∃ G2, Hid (LogP w' p (Fx F w w') (L.wb b) q G2 (.slice va L.dat.length vc) ev) ∧ Hid (Chg F w w')) := fun W hu => by
        obtain ⟨a, c⟩ := C0.out.1.ups C0.out.2 hu HLT.out
        have := Dk.write_any q (L.sec b) L.dsk _ (.slice (some ⟨gN, 0, none⟩) (L.blk b).length cN) (L.blk b) W a.dk (by rw [(rfl : L.dsk.dur.length = L.dsk.dur.length)]; exact HSL.out) (Dk.bytes_own (own_up ON.out hu)) HB29.out (by omega)
        exact this.mono fun e w' ⟨h1, h2, h3⟩ => ⟨h1, _, by rw [HWB.out]; exact (a.flow c h2 h3 HLT.out).1, (a.flow c h2 h3 HLT.out).2⟩
      go_region_held3 (fun w' => w'.cell? ⟨p, 0, none⟩ = some (.pointer (some ⟨q, 0, none⟩))) (first | exact y0 | exact v0 | exact u0 | go_keep) (first
        | (go_at_call 68; refine (HS7.out _ (Up.refl wc).drew).mono ?_; rintro e w8 ⟨rfl, U8⟩; have v0 := (U8.cell (p := ⟨p, 0, none⟩) yl).trans y0)
        | (go_at_call 14; refine (HW7.out _ U8).mono ?_; rintro e w9 ⟨rfl, G9, P9, C9⟩; have u0 := (P9.out.blk.at (i := 0) rfl).2)
        | fail)
      all_goals
        go_wp2
        go_end0
        exact ⟨rfl, ⟨_, _, _, _, P9.out⟩, C9.out⟩
end Go.Proofs.Ytmaeeidaegigcaa.Wl
