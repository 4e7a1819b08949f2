/- The write-ahead log: readBlocks. -/
import Derived.Test.YtmaeeidaegigcaaWlh
namespace Go.Proofs.Ytmaeeidaegigcaa.Wl
open Go Go.RowKit Hp
open Dk (Dsk DiskR bc DOk Bytes)
set_option linter.unusedVariables false

/-- What the blocks from b on give, k of them at most. -/
def rdB (d : Dsk) (bl st : Nat) : Nat → Nat → Int → List Int → List Int
  | 0, _, _, acc => acc
  | k + 1, b, inc, acc =>
    let s := d.read (2 + b % bl)
    let used := s.getD 8 0
    if un32 s ≠ (b : Int) ∨ un32 (s.drop 4) < inc ∨ 20 < used then acc
    else
      let low := max (b * 20) st - b * 20
      let acc' := if (low : Int) < used then acc ++ (s.take (9 + used.toNat)).drop (9 + low) else acc
      if used < 20 then acc' else rdB d bl st k (b + 1) (un32 (s.drop 4)) acc'
def Log.rd (L : Log) : List Int := rdB L.dsk L.bl L.st L.bl (L.st / 20) 0 []
theorem rdB_stop (d : Dsk) (bl st k b : Nat) (inc : Int) (acc : List Int) (h : un32 (d.read (2 + b % bl)) ≠ (b : Int) ∨ un32 ((d.read (2 + b % bl)).drop 4) < inc ∨ 20 < (d.read (2 + b % bl)).getD 8 0) : rdB d bl st (k + 1) b inc acc = acc := by
  show (if _ then _ else _) = _
  rw [if_pos h]
def accB (s : List Int) (st b : Nat) (acc : List Int) : List Int := if ((max (b * 20) st - b * 20 : Nat) : Int) < s.getD 8 0 then acc ++ (s.take (9 + (s.getD 8 0).toNat)).drop (9 + (max (b * 20) st - b * 20)) else acc
theorem rdB_go (d : Dsk) (bl st k b : Nat) (inc : Int) (acc : List Int) (h : ¬ (un32 (d.read (2 + b % bl)) ≠ (b : Int) ∨ un32 ((d.read (2 + b % bl)).drop 4) < inc ∨ 20 < (d.read (2 + b % bl)).getD 8 0)) :
    rdB d bl st (k + 1) b inc acc = if (d.read (2 + b % bl)).getD 8 0 < 20 then accB (d.read (2 + b % bl)) st b acc else rdB d bl st k (b + 1) (un32 ((d.read (2 + b % bl)).drop 4)) (accB (d.read (2 + b % bl)) st b acc) := by
  show (if _ then _ else _) = _
  rw [if_neg h]
  rfl
theorem own_at8 {w : World} {B n g c : Nat} {l : List Int} (h : w.ownsRow B 5 1 (.slice (some ⟨g, 0, none⟩) n c) n (bc l)) (i : Nat) (hi : i < l.length) : w.cell? ⟨g, i, none⟩ = some (.int .u8 (l.getD i 0)) ∧ g < w.heap.size := by
  obtain ⟨hx, hs⟩ := Dk.own_src h
  rcases hs with ⟨e1, _⟩ | ⟨b', o', cap, e1, _, _, h3⟩
  · cases e1
  · cases e1
    have h4 := h3 i (.int .u8 (l.getD i 0)) (by simp [bc, hi])
    rw [Nat.zero_add] at h4
    exact ⟨h4.2, h4.1⟩
set_option maxRecDepth 100000 in
set_option maxHeartbeats 4000000 in
theorem rd_any (p : Nat) (L : Log) (F : Nat → Prop) (w : World) (h : LogR w p L F) (hb : 3 ≤ L.dsk.dur.length) (hb2 : L.dsk.dur.length ≤ 256) (hst : L.st ≤ 10000000) (hb8 : L.dsk.pend.length ≤ 1000) (hB : ∀ s, s < L.dsk.dur.length → IsB (L.dsk.read s)) :
    Calls Try.prog 50 #[.pointer (some ⟨p, 0, none⟩)] w fun e w' => ∃ v, e = .returned v ∧ w'.ownsRow w.heap.size 5 1 v L.rd.length (bc L.rd) ∧ Up w w' := by
  have HR := Lib.hid h
  obtain ⟨q, G, dv, ev, hP⟩ := h
  have c0 := (hP.blk.at (i := 0) rfl).2
  have c3 := (hP.blk.at (i := 3) rfl).2
  have hpl := hP.blk.lt
  have P0 := Lib.hid hP
  have hbl : 1 ≤ L.bl ∧ L.bl ≤ 254 ∧ L.bl + 2 = L.dsk.dur.length := by unfold Log.bl; omega
  obtain ⟨hbl1, hbl2, hbl3⟩ := hbl
  have HBL := Lib.hid hbl3
  have HBLK := Lib.hid (fun W (hu : Up w W) => blocks_any p L F W (HR.out.up hu) (by omega) hb2)
  have HSEC := Lib.hid (fun b W (hb9 : b ≤ 100000000) (hu : Up w W) => sector_any p L F b W (HR.out.up hu) hb hb2 hb9)
  have HREAD : Hid (∀ b W, Up w W → Calls Try.prog 17 #[.pointer (some ⟨q, 0, none⟩), .int .i64 ((L.sec b : Nat) : Int)] W fun e w' => ∃ g c, e = .returned (.tuple #[.slice (some ⟨g, 0, none⟩) 32 c, .int .i64 0]) ∧ 32 ≤ c ∧ c ≤ 9223372036854775807 ∧ Hid (w'.ownsRow W.heap.size 5 1 (.slice (some ⟨g, 0, none⟩) 32 c) 32 (bc (L.dsk.read (L.sec b)))) ∧ Up W w') := by
    intro b W hu
    have hs : L.sec b < L.dsk.dur.length := by have := Nat.mod_lt b (y := L.bl) (by omega); unfold Log.sec; omega
    refine (Dk.read_any q _ _ _ _ (P0.out.dk.up hu) hs (by omega) (by omega)).mono ?_
    rintro e w' ⟨v, rfl, h1, h2⟩
    obtain ⟨g, c, rfl, hc1, hc2, _, _, _⟩ := own_some h1 (by decide)
    exact ⟨g, c, rfl, hc1, hc2, h1, h2⟩
  have HSB : Hid (∀ b, IsB (L.dsk.read (L.sec b)) ∧ (L.dsk.read (L.sec b)).length = 32) := by
    intro b
    have hs : L.sec b < L.dsk.dur.length := by have := Nat.mod_lt b (y := L.bl) (by omega); unfold Log.sec; omega
    exact ⟨hB _ hs, Dk.read_len P0.out.dk.ok hs⟩
  have HRD : Hid (L.rd = rdB L.dsk L.bl L.st L.bl (L.st / 20) 0 []) := rfl
  obtain ⟨f, hf⟩ : ∃ f, f = L.st / 20 := ⟨_, rfl⟩
  have hfi : (L.st : Int) / 20 = (f : Int) := by omega
  have hfl : f ≤ 500000 := by omega
  rw [← hf] at HRD
  have hst20 : f * 20 ≤ L.st ∧ L.st < f * 20 + 20 := by omega
  have HST := Lib.hid hst20
  have hsti : (L.st : Int) ≤ 10000000 := by omega
  clear hP hf hB hbl3 hst20
  obtain ⟨i1, hi1, hz3, hz4, hz5⟩ := info_parts Try.info8
  go_enter Try.func50, Try.ntmps50
  go_wp2
  clear hfi
  go_loopw [6, 3, 4] (fun bv dv iv wr => ∃ (j : Nat) (acc : List Int) (ic : Int), j < L.bl ∧ bv = .int .i64 ((f : Int) + (j : Int)) ∧ iv = .int .i64 ic ∧ acc.length ≤ 20 * j ∧ Hid (wr.ownsRow w.heap.size 5 1 dv acc.length (bc acc)) ∧ Hid (rdB L.dsk L.bl L.st (L.bl - j) (f + j) ic acc = L.rd) ∧ Hid (Up w wr)) (fun bv _ _ _ => f + L.bl - (intOf bv).toNat)
  case atStart => exact ⟨0, [], 0, hbl1, by go_num, rfl, by simp, World.ownsRow_nil _ _ _ _, HRD.out.symm, Up.refl _⟩
  case round =>
    obtain ⟨j, acc, ic, hj, rfl, rfl, hacc, OA, RA, UR⟩ := hrel
    have x0 := (UR.out.cell (p := ⟨p, 0, none⟩) hpl).trans c0
    have x3 := (UR.out.cell (p := ⟨p, 3, none⟩) hpl).trans c3
    have xl := Nat.lt_of_lt_of_le hpl UR.out.size
    have HS := Lib.hid (fun W (hu : Up wr W) => HSEC.out (f + j) W (by omega) (UR.out.trans hu))
    have HRe := Lib.hid (fun W (hu : Up wr W) => HREAD.out (f + j) W (UR.out.trans hu))
    have hcast : Hid (((f + j : Nat) : Int) = (f : Int) + (j : Int)) := by unfold Hid; omega
    rw [hcast.out] at HS
    obtain ⟨sn, hsn⟩ : ∃ sn, sn = L.sec (f + j) := ⟨_, rfl⟩
    have HB5 := Lib.hid (HSB.out (f + j))
    rw [← hsn] at HS HRe HB5
    have HSN : Hid (sn = 2 + (f + j) % L.bl) := hsn
    clear hsn
    obtain ⟨s, hs⟩ : ∃ s, s = L.dsk.read sn := ⟨_, rfl⟩
    rw [← hs] at HRe HB5
    have HSS := Lib.hid hs
    clear hs
    obtain ⟨us, hus⟩ : ∃ us, us = s.getD 8 0 := ⟨_, rfl⟩
    have hub : 0 ≤ us ∧ us < 256 := by
      have hl := HB5.out.2
      rw [hus, List.getD_eq_getElem?_getD, List.getElem?_eq_getElem (by omega)]
      exact HB5.out.1 _ (List.getElem_mem _)
    obtain ⟨hu0, hu1⟩ := hub
    have HUS := Lib.hid hus
    clear hus
    obtain ⟨n, hn⟩ : ∃ n, n = acc.length := ⟨_, rfl⟩
    rw [← hn] at hacc OA
    have HN := Lib.hid hn
    clear hn
    obtain ⟨da, dc, rfl, hdc1, hdc2, hdn⟩ := own_form OA.out
    have hn10 : n ≤ 10000 := by omega
    go_wp2
    go_region_held3 (fun w' => w'.cell? ⟨p, 0, none⟩ = some (.pointer (some ⟨q, 0, none⟩))) (first | exact x0 | exact y0 | exact z0 | go_keep) (first
      | (go_at_call 17; refine (HRe.out _ US).mono ?_; rintro e w5 ⟨g, c, rfl, hc1, hc2, OB, U5⟩; have UB : Up wr w5 := US.trans U5; have z0 := (UB.cell (p := ⟨p, 0, none⟩) xl).trans x0; have z3 := (UB.cell (p := ⟨p, 3, none⟩) xl).trans x3; have zl := Nat.lt_of_lt_of_le xl UB.size; have b8 := (own_at8 OB.out 8 (by rw [HB5.out.2]; decide)).1; rw [← HUS.out] at b8; have bg := (own_at8 OB.out 8 (by rw [HB5.out.2]; decide)).2; have UB := Lib.hid UB)
      | (go_at_call 68; refine (HS.out _ ((Up.refl wr).drew)).mono ?_; rintro e w4 ⟨rfl, US'⟩; have US : Up wr w4 := ((Up.refl wr).drew).trans US'; clear US'; have y0 := (US.cell (p := ⟨p, 0, none⟩) xl).trans x0)
      | fail)
    go_upto_region 8 with fail
    have H1 : Hid (∀ W, Up w5 W → Calls Try.prog 49 #[.slice (some ⟨g, 0, none⟩) 32 c] W fun e w' => e = .returned (.int .i64 (un32 s)) ∧ Up W w') := fun W hu => at32_any _ _ s W (own_src (own_up OB.out hu)) (by rw [HB5.out.2]; decide) HB5.out.1
    have H2 : Hid (∀ W, Up w5 W → Calls Try.prog 49 #[.slice (some ⟨g, 4, none⟩) 28 (c - 4)] W fun e w' => e = .returned (.int .i64 (un32 (s.drop 4))) ∧ Up W w') := fun W hu => by
      have h3 : Dk.Src W 1 (.slice (some ⟨g, 4, none⟩) 28 (c - 4)) 28 (bc (s.drop 4)) := by
        have h := src_cut (Dk.own_src (own_up OB.out hu)) 4 32 4 (c - 4) (by decide) (by decide) (.inl rfl) (by omega) (by omega)
        rw [List.take_of_length_le (by simp [bc, HB5.out.2]), ← List.map_drop] at h
        exact h
      exact at32_any _ _ (s.drop 4) W h3 (by rw [List.length_drop, HB5.out.2]; decide) fun x hx => HB5.out.1 x (List.mem_of_mem_drop hx)
    obtain ⟨k, hk⟩ : ∃ k, L.bl - j = k + 1 := ⟨L.bl - j - 1, by omega⟩
    have HRA : Hid (rdB L.dsk L.bl L.st (k + 1) (f + j) ic acc = L.rd) := by rw [← hk]; exact RA.out
    have HSTOP : Hid (un32 s ≠ (f : Int) + (j : Int) ∨ un32 (s.drop 4) < ic ∨ 20 < us → acc = L.rd) := by
      intro hh
      rw [← HRA.out]
      refine (rdB_stop _ _ _ _ _ _ _ ?_).symm
      rw [hcast.out, ← HSN.out, ← HSS.out, ← HUS.out]
      exact hh
    have HGO : Hid (¬ (un32 s ≠ (f : Int) + (j : Int) ∨ un32 (s.drop 4) < ic ∨ 20 < us) → (if us < 20 then accB s L.st (f + j) acc else rdB L.dsk L.bl L.st k (f + j + 1) (un32 (s.drop 4)) (accB s L.st (f + j) acc)) = L.rd) := by
      intro hh
      rw [← HRA.out, rdB_go]
      · rw [← HSN.out, ← HSS.out, ← HUS.out]
      · rw [hcast.out, ← HSN.out, ← HSS.out, ← HUS.out]
        exact hh
    have HK := Lib.hid hk
    clear hk
    generalize hx1 : un32 s = x1 at *
    generalize hx2 : un32 (s.drop 4) = x2 at *
    clear hx1 hx2
    have hc4 : ¬ c = 4 := by omega
    have FIN : Hid (acc = L.rd → ∀ W, Up w5 W → W.ownsRow w.heap.size 5 1 (.slice da n dc) L.rd.length (bc L.rd) ∧ Up w W) := by
      intro hh W hu
      rw [← hh, ← HN.out]
      exact ⟨own_up OA.out (UB.out.trans hu), UR.out.trans (UB.out.trans hu)⟩
    by_cases hp1 : x1 = (f : Int) + (j : Int)
    · by_cases hp2 : x2 < ic
      · have hb1 : (x1 == (f : Int) + (j : Int)) = true := by simp [hp1]
        have HA := Lib.hid (HSTOP.out (.inr (.inl hp2)))
        go_wp2_with (first
          | (go_at_call 49; refine (H2.out _ U6.out).mono ?_; rintro e w7 ⟨rfl, h7⟩; have U7 := Lib.hid (U6.out.trans h7); clear h7)
          | (go_at_call 49; refine (H1.out _ (Up.refl _)).mono ?_; rintro e w6 ⟨rfl, h6⟩; have U6 := Lib.hid h6; clear h6)
          | fail)
        go_ret
        exact ⟨_, rfl, FIN.out HA.out _ U7.out⟩
      · by_cases hp3 : 20 < us
        · have hb1 : (x1 == (f : Int) + (j : Int)) = true := by simp [hp1]
          have HA := Lib.hid (HSTOP.out (.inr (.inr hp3)))
          go_wp2_with (first
            | (go_at_call 49; refine (H2.out _ U6.out).mono ?_; rintro e w7 ⟨rfl, h7⟩; have U7 := Lib.hid (U6.out.trans h7); clear h7)
            | (go_at_call 49; refine (H1.out _ (Up.refl _)).mono ?_; rintro e w6 ⟨rfl, h6⟩; have U6 := Lib.hid h6; clear h6)
            | fail)
          go_ret
          exact ⟨_, rfl, FIN.out HA.out _ U7.out⟩
        · have hb1 : (x1 == (f : Int) + (j : Int)) = true := by simp [hp1]
          have HG := Lib.hid (HGO.out (fun h => h.elim (fun h => h hp1) fun h => h.elim hp2 hp3))
          obtain ⟨un, rfl⟩ := Int.eq_ofNat_of_zero_le hu0
          obtain ⟨lo, hlo⟩ : ∃ lo, lo = max ((f + j) * 20) L.st := ⟨_, rfl⟩
          obtain ⟨lw, hlw⟩ : ∃ lw, lw = lo - (f + j) * 20 := ⟨_, rfl⟩
          have hmx : (if ((f : Int) + (j : Int)) * 20 < (L.st : Int) then (L.st : Int) else ((f : Int) + (j : Int)) * 20) = (lo : Int) := by split <;> omega
          have hlwi : (lo : Int) - ((f : Int) + (j : Int)) * 20 = (lw : Int) := by omega
          have hlb : lw ≤ 20 ∧ lo ≤ 10005100 := by have := HST.out; omega
          obtain ⟨hlb1, hlb2⟩ := hlb
          have HACC : Hid (accB s L.st (f + j) acc = if lw < un then acc ++ (s.take (9 + un)).drop (9 + lw) else acc) := by
            unfold Hid accB
            rw [← HUS.out, ← hlo, ← hlw]
            by_cases h : lw < un
            · rw [if_pos h, if_pos (by omega)]; rfl
            · rw [if_neg h, if_neg (by omega)]
          have HLW := Lib.hid hlw
          clear hlo hlw
          have hun : un ≤ 20 := by omega
          go_upto_if 65 with (first
            | (go_at_call 49; refine (H2.out _ U7.out).mono ?_; rintro e w8 ⟨rfl, h8⟩; have U8 := Lib.hid (U7.out.trans h8); clear h8; have t3 := (U8.out.cell (p := ⟨p, 3, none⟩) zl).trans z3; have tl := Nat.lt_of_lt_of_le zl U8.out.size)
            | (go_at_call 49; refine (H2.out _ U6.out).mono ?_; rintro e w7 ⟨rfl, h7⟩; have U7 := Lib.hid (U6.out.trans h7); clear h7)
            | (go_at_call 49; refine (H1.out _ (Up.refl _)).mono ?_; rintro e w6 ⟨rfl, h6⟩; have U6 := Lib.hid h6; clear h6)
            | fail)
          have hn2 : (lw : Int) < (un : Int) ↔ lw < un := by omega
          obtain ⟨acc', hacc'⟩ : ∃ acc', acc' = accB s L.st (f + j) acc := ⟨_, rfl⟩
          rw [← hacc'] at HACC HG
          clear hacc' HGO HSTOP FIN
          obtain ⟨n', hn'⟩ : ∃ n', n' = acc'.length := ⟨_, rfl⟩
          have HN' := Lib.hid hn'
          have hn10' : n' ≤ n + 20 := by
            rw [hn', HACC.out]
            split
            · rw [List.length_append, ← HN.out, List.length_drop, List.length_take]; omega
            · rw [← HN.out]; omega
          clear hn'
          have UW := Lib.hid (UR.out.trans (UB.out.trans U8.out))
          have OAW := Lib.hid (own_up OA.out (UB.out.trans U8.out))
          go_cut [3] from 65 to 73 (fun s3 wx => ∃ a c', s3 = .slice a n' c' ∧ Hid (wx.ownsRow w.heap.size 5 1 (.slice a n' c') n' (bc acc')) ∧ Hid (Up w wx))
          case first =>
            by_cases hl : lw < un
            · have hli : (lw : Int) < (un : Int) := by omega
              have hc9 : ¬ c = 9 + lw := by omega
              obtain ⟨ln, hln⟩ : ∃ ln, ln = 9 + un - (9 + lw) := ⟨_, rfl⟩
              have HSRC : Hid (Dk.Src w8 1 (.slice (some ⟨g, 9 + lw, none⟩) ln (c - (9 + lw))) ln (bc ((s.take (9 + un)).drop (9 + lw)))) := by
                have h := src_cut (Dk.own_src (own_up OB.out U8.out)) (9 + lw) (9 + un) (9 + lw) (c - (9 + lw)) (by omega) (by omega) (.inl rfl) (by omega) (by omega)
                rw [show bc ((s.take (9 + un)).drop (9 + lw)) = ((bc s).take (9 + un)).drop (9 + lw) by unfold bc; rw [List.map_drop, List.map_take], hln]
                exact h
              have HLEN : Hid ((bc ((s.take (9 + un)).drop (9 + lw))).length = ln * 1) := HSRC.out.1
              have hnn : n + ln = n' := by
                rw [HN'.out, HACC.out, if_pos hl, List.length_append, ← HN.out]
                have := HLEN.out
                rw [List.length_map] at this
                omega
              have HCELL : Hid (∀ y, some (⟨g, 9 + lw, none⟩ : Addr) = some y → ∀ j u, (bc ((s.take (9 + un)).drop (9 + lw)))[j]? = some u → w8.cell? (y.add j) = some u) := by
                intro y hy j u hu
                cases hy
                obtain ⟨_, hs⟩ := HSRC.out
                rcases hs with ⟨e1, _⟩ | ⟨b', o', cap, e1, _, _, h3⟩
                · cases e1
                · cases e1
                  rw [Addr.add_lit]
                  exact (h3 j u hu).2
              have HLN := Lib.hid hln
              have HNN := Lib.hid hnn
              have hA2 : Hid (acc' = acc ++ (s.take (9 + un)).drop (9 + lw)) := by unfold Hid; rw [HACC.out, if_pos hl]
              have hbd : ln ≤ 20 := by omega
              clear hln hnn
              go_wp2_with (first
                | (at_builtin; rw [← HLN.out]; refine wl_append_any rfl (.tmp 66) (.tmp 72) 28 rfl w.heap.size 5 i1 (.int .u8 0) 1 1 Try.underlying28 hi1 hz3 hz4 hz5 rfl (by decide) _ n _ rfl OAW.out (some ⟨g, 9 + lw, none⟩) ln (c - (9 + lw)) (bc ((s.take (9 + un)).drop (9 + lw))) rfl (fun e => by cases e) HLEN.out HCELL.out (Dk.bc_one _) (by unfold maxLen; omega) (by omega) UW.out.size ?_
                   intro v9 w9 hown9 hgrow9 hat9
                   have U9 : Hid (Up w w9) := Below.grown UW.out hgrow9 UW.out.size (fun j e => ((own_ty OAW.out) j e).2)
                   rw [HNN.out, ← bc_app, ← hA2.out] at hown9
                   obtain ⟨a9, c9, rfl, _, _, _⟩ := own_form hown9
                   have O9 := Lib.hid hown9
                   clear hown9 hgrow9 hat9)
                | fail)
              go_meet
              exact ⟨a9, c9, rfl, O9.out, U9.out⟩
            · have hli : ¬ (lw : Int) < (un : Int) := by omega
              have hA2 : acc' = acc := by rw [HACC.out, if_neg hl]
              have hnn : n' = n := by rw [HN'.out, hA2]; exact HN.out.symm
              go_wp2
              go_meet
              exact ⟨da, dc, by rw [hnn], by rw [hnn, hA2]; exact OAW.out, UW.out⟩
          case rest =>
            obtain ⟨a, c', rfl, O10, U10⟩ := hcut
            have r0 := (U10.out.cell (p := ⟨p, 0, none⟩) hpl).trans c0
            have r3 := (U10.out.cell (p := ⟨p, 3, none⟩) hpl).trans c3
            have rl := Nat.lt_of_lt_of_le hpl U10.out.size
            have HBK := Lib.hid (HBLK.out _ U10.out)
            have HKK : Hid (L.bl = j + (k + 1)) := by have := HK.out; unfold Hid; omega
            have hf2 : (f : Int) + (j : Int) - (f : Int) + 1 = (j : Int) + 1 := by omega
            have FIN : Hid (acc' = L.rd → ∀ W, Up wc W → W.ownsRow w.heap.size 5 1 (.slice a n' c') L.rd.length (bc L.rd) ∧ Up w W) := by
              intro hh W hu
              rw [← hh, ← HN'.out]
              exact ⟨own_up O10.out hu, U10.out.trans hu⟩
            by_cases hq1 : un < 20
            · have hq1i : (un : Int) < 20 := by omega
              have HA : Hid (acc' = L.rd) := by
                have := HG.out
                rw [if_pos hq1i] at this
                exact this
              go_wp2
              go_ret
              exact ⟨_, rfl, FIN.out HA.out _ (Up.refl _)⟩
            · obtain rfl : un = 20 := by omega
              have HG2 : Hid (rdB L.dsk L.bl L.st k (f + j + 1) x2 acc' = L.rd) := by
                have := HG.out
                rw [if_neg (by decide)] at this
                exact this
              by_cases hk0 : k = 0
              · subst hk0
                have hb9 : ((j : Int) + 1 == (L.bl : Int)) = true := by rw [beq_iff_eq]; have := HKK.out; omega
                have hb10 : (j : Int) + 1 = (L.bl : Int) := by have := HKK.out; omega
                go_wp2_with (first
                  | (go_at_call 47; refine HBK.out.mono ?_; rintro e w11 ⟨rfl, h11⟩; have U11 := Lib.hid h11; clear h11)
                  | fail)
                go_ret
                exact ⟨_, rfl, FIN.out HG2.out _ U11.out⟩
              · have hb9 : ((j : Int) + 1 == (L.bl : Int)) = false := by rw [beq_eq_false_iff_ne]; have := HKK.out; omega
                have hb10 : ¬ (j : Int) + 1 = (L.bl : Int) := by have := HKK.out; omega
                have hkl := HKK.out
                have HKL : Hid (j + 1 < L.bl ∧ L.bl - (j + 1) = k) := by constructor <;> omega
                clear hkl
                go_wp2_with (first
                  | (go_at_call 47; refine HBK.out.mono ?_; rintro e w11 ⟨rfl, h11⟩; have U11 := Lib.hid h11; clear h11)
                  | fail)
                go_roundw
                case rel =>
                  refine ⟨j + 1, acc', x2, HKL.out.1, by go_num, rfl, ?_, ?_, ?_, U10.out.trans U11.out⟩
                  · rw [← HN'.out]; omega
                  · rw [← HN'.out]; exact own_up O10.out U11.out
                  · have h1 := HG2.out
                    rw [HKL.out.2]
                    exact h1
                case measure => simp [intOf]; omega
    · have HA := Lib.hid (HSTOP.out (.inl hp1))
      have hb1 : (x1 == (f : Int) + (j : Int)) = false := by simp [hp1]
      go_wp2_with (first
        | (go_at_call 49; refine (H1.out _ (Up.refl _)).mono ?_; rintro e w6 ⟨rfl, h6⟩; have U6 := Lib.hid h6; clear h6)
        | fail)
      go_ret
      exact ⟨_, rfl, FIN.out HA.out _ U6.out⟩
end Go.Proofs.Ytmaeeidaegigcaa.Wl
