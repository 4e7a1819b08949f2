/- WALDoesNotShareMemory: the walk. -/
import Derived.Test.YtmaeeidaegigcaaWlp
namespace Go.Proofs.Ytmaeeidaegigcaa.Wl
open Go Go.RowKit Hp
open Dk (Dsk DiskR bc DOk Bytes Elems elems_up)
set_option linter.unusedVariables false

section
variable {n i d : Nat} {L : Log} {rs : List (List Int)} {p : Nat} {F : Nat → Prop}
/-- An append that is told of the log's own blocks alone. -/
theorem app_own (h : St n i L d rs) (hn1 : 4 ≤ n) (hn2 : n ≤ 256) (hi : i ≤ 1000) (w' : World) (hR : LogR w' p L F) (g : Nat) (r : List Int) (c : List Value) (hg : ¬ F g) (hb0 : Blk w' g (bc r ++ c) 5) (hr : r.length ≤ 40) (hrb : IsB r) (hf : L.full r.length = false) :
    Calls Try.prog 24 #[.pointer (some ⟨p, 0, none⟩), .slice (some ⟨g, 0, none⟩) r.length r.length] w' fun e w'' => e = .returned (.int .i64 0) ∧ ∃ L', Hid (St n (i + 1) L' d (rs ++ [r])) ∧ Hid (LogPost p L' F w' w'') ∧ Hid (Blk w'' g (bc r ++ c) 5) := by
  obtain ⟨R, S, o, hs⟩ := h.ok
  have h1 := h.len
  have h2 := h.hd
  have h3 := h.inc
  have h4 := h.en
  have h5 := h.cnt
  have h6 := h.d
  refine (append_any p L F _ r w' hR (bytes_blk hb0 (by omega)) (fun a n c e => by cases e; exact hg) (by rw [h.dur]; omega) (by rw [h.dur]; exact hn2) (by omega) (by omega) h.pl (by omega) (by rw [h.ends, endsG_len]; omega)).mono ?_
  intro e w'' hh
  rw [hf, if_neg (by decide)] at hh
  obtain ⟨a1, a2, a3, a4, a5, a6⟩ := app_same L r
  refine ⟨hh.1, L.app r, ⟨⟨R, S, o.app r (by omega) hrb hf (by omega) (by omega), ?_⟩, by rw [List.length_append]; omega, by rw [a6]; exact h.dur, by rw [a1]; omega, by rw [a2]; omega, ?_, by rw [List.length_append, List.length_singleton]; omega⟩, hh.2, hb0.chg hh.2.2 hg⟩
  · rw [a3, List.take_append_of_le_length h6]
    exact hs
  · show (L.app r).st + (L.app r).dat.length ≤ _
    rw [a3, a4, put_len]
    omega
end
/-- Slices whose blocks may be overwritten. -/
def ShR (w : World) (B n : Nat) (xs : List Value) : Prop := ∀ j, j < n → ∃ g m c cs, xs[j]? = some (.slice (some ⟨g, 0, none⟩) m c) ∧ m ≤ c ∧ c ≤ 9223372036854775807 ∧ B ≤ g ∧ cs.length = c ∧ Blk w g cs 5
theorem RecP.sh {w : World} {B : Nat} {v : Value} {rs : List (List Int)} (h : RecP w B v rs) (hr : ∀ r ∈ rs, 1 ≤ r.length) : ∃ xs, w.ownsRow B 28 1 v rs.length xs ∧ ShR w B rs.length xs := by
  obtain ⟨xs, h1, h2⟩ := h
  refine ⟨xs, h1, fun j hj => ?_⟩
  obtain ⟨x, a, hx, hb⟩ := h2.2 j hj
  have hl := hr _ (List.getElem_mem hj)
  rcases hb with ⟨e, hz⟩ | ⟨g, cap, cur, rfl, hbg, hg, hn, hc, hs, ht⟩
  · omega
  · exact ⟨g, _, cap, cur.toList, a, hn, by unfold maxLen at hc; exact hc, hbg, by simpa using hs, hg⟩
theorem ShR.chg {w w' : World} {B n g : Nat} {xs : List Value} (h : ShR w B n xs) (hc : Chg (· = g) w w') (hs : ∃ c ds, ds.length = c ∧ Blk w' g ds 5 ∧ ∃ cs, cs.length = c ∧ Blk w g cs 5) : ShR w' B n xs := by
  intro j hj
  obtain ⟨g', m, c, cs, a1, a2, a3, a4, a5, a6⟩ := h j hj
  by_cases e : g' = g
  · subst e
    obtain ⟨c2, ds, d1, d2, cs2, d3, d4⟩ := hs
    have : cs = cs2 := by
      have := a6.symm.trans d4
      simpa using this
    subst this
    exact ⟨g', m, c, ds, a1, a2, a3, a4, by omega, d2⟩
  · exact ⟨g', m, c, cs, a1, a2, a3, a4, a5, a6.chg hc e⟩
def recL (z : List Int) (i : Nat) : List (List Int) := (List.range i).map fun (j : Nat) => recd (j : Int) (z.getD j 0)
theorem recL_succ (z : List Int) (i : Nat) : recL z (i + 1) = recL z i ++ [recd (i : Int) (z.getD i 0)] := by
  unfold recL
  rw [List.range_succ, List.map_append]
  rfl
theorem recL_len (z : List Int) (i : Nat) : (recL z i).length = i := by simp [recL]
set_option maxRecDepth 100000 in
set_option maxHeartbeats 4000000 in
theorem walk35 (a0 : Option Addr) (len0 cap0 : Nat) (z0 : List Int) (w : World) (hE : Elems w a0 len0 z0) (hl : len0 ≤ cap0) (hm : cap0 ≤ 9223372036854775807) :
    Calls Try.prog 6 #[.slice a0 len0 cap0] w fun e w' => e = .returned (.bool true) ∧ Up w w' := by
  have HE := Lib.hid hE
  clear hE
  obtain ⟨N, hN⟩ : ∃ N : Nat, N = min len0 8 := ⟨_, rfl⟩
  have hmin : (if (8 : Int) < (len0 : Int) then (8 : Int) else (len0 : Int)) = (N : Int) := by split <;> omega
  have hN1 : N ≤ 8 := by omega
  have hN2 : N ≤ len0 := by omega
  have hN3 : N ≤ cap0 := by omega
  clear hN
  have HNW : Hid (∀ W, Calls Try.prog 22 #[.int .i64 30] W fun e w' => ∃ p F, e = .returned (.tuple #[.pointer (some ⟨p, 0, none⟩), .int .i64 0]) ∧ Hid (LogR w' p (newL 30).head F) ∧ Hid (∀ k, F k → W.heap.size ≤ k) ∧ Hid (Up W w')) := fun W => new_any 30 W (by decide) (by decide)
  have HST := Lib.hid (St.new 30 (by decide))
  go_enter Try.func6, Try.ntmps6
  go_wp2_with (first
    | (go_at_call 21; refine (works_any w).mono ?_; rintro e w1 ⟨rfl, h1⟩; have U1 := Lib.hid h1; clear h1)
    | (go_at_call 22; refine (HNW.out _).mono ?_; rintro e w2 ⟨p, F, rfl, R2, F2, U2⟩)
    | fail)
  clear hmin
  have FW : Hid (∀ k, F k → w.heap.size ≤ k) := fun k hk => Nat.le_trans U1.out.size (F2.out k hk)
  have UW := Lib.hid (U1.out.trans U2.out)
  generalize (newL 30).head = L0 at *
  clear U1 U2 F2
  go_loopw [32] (fun iv wr => ∃ (i : Nat) (L : Log) (d : Nat) (Fr : Nat → Prop), i ≤ N ∧ iv = .int .i64 (i : Int) ∧ Hid (St 30 i L d (recL z0 i)) ∧ Hid (LogR wr p L Fr) ∧ Hid (∀ k, Fr k → w.heap.size ≤ k) ∧ Hid (Up w wr)) (fun iv _ => N - (intOf iv).toNat)
  case atStart => exact ⟨0, L0, 0, F, Nat.zero_le _, rfl, HST.out, R2.out, FW.out, UW.out⟩
  case round =>
    obtain ⟨i, L, d, Fr, hi, rfl, HS, HR, HF, HU⟩ := hrel
    by_cases hlt : i < N
    · have hli : (i : Int) < (N : Int) := by omega
      obtain ⟨b, off, rfl, hb1, hb2⟩ := (elems_up HE.out HU.out) i (by omega)
      have HSUC := Lib.hid (recL_succ z0 i)
      obtain ⟨x, hx⟩ : ∃ x, x = z0.getD i 0 := ⟨_, rfl⟩
      rw [← hx] at hb2 HSUC
      clear hx
      obtain ⟨r, hr⟩ : ∃ r, r = recd (i : Int) x := ⟨_, rfl⟩
      obtain ⟨n, hn⟩ : ∃ n, n = r.length := ⟨_, rfl⟩
      have HREC : Hid (∀ W, Calls Try.prog 23 #[.int .i64 (i : Int), .int .i64 x] W fun e w' => ∃ g c, e = .returned (.slice (some ⟨g, 0, none⟩) n n) ∧ Hid (W.heap.size ≤ g) ∧ Hid (Blk w' g (bc r ++ c) 5) ∧ Hid (Up W w')) := by
        intro W
        refine (record_any (i : Int) x W).mono ?_
        rintro e w' ⟨g, rfl, hg, ⟨c, hb⟩, hu⟩
        rw [← hr] at hb ⊢
        rw [← hn]
        exact ⟨g, c, rfl, hg, hb, hu⟩
      have hr40 : n ≤ 40 := by rw [hn, hr]; exact (recd_len _ _).2
      have hrb : IsB r := by rw [hr]; exact recd_isB _ _
      have hfull : L.full r.length = false := by
        have h1 := HS.out.en
        have h2 := HS.out.dur
        unfold Log.full Log.bl
        rw [h2]
        refine decide_eq_false ?_
        omega
      have HAP : Hid (∀ g c w', Hid (wr.heap.size ≤ g) → Hid (Blk w' g (bc r ++ c) 5) → Hid (Up wr w') → Calls Try.prog 24 #[.pointer (some ⟨p, 0, none⟩), .slice (some ⟨g, 0, none⟩) n n] w' fun e w'' => e = .returned (.int .i64 0) ∧ ∃ L', Hid (St 30 (i + 1) L' d (recL z0 (i + 1))) ∧ Hid (LogPost p L' Fr w' w'') ∧ Hid (Blk w'' g (bc r ++ c) 5)) := by
        intro g c w' hg hb hu
        rw [hn, HSUC.out, ← hr]
        exact app_own HS.out (by decide) (by decide) (by omega) w' (HR.out.up hu.out) g r c (fun e => by have := HR.out.lt g e; have := hg.out; omega) hb.out (by omega) hrb hfull
      have HBY : Hid (∀ W g c, Hid (Blk W g (bc r ++ c) 5) → Bytes W (.slice (some ⟨g, 0, none⟩) n n) r) := fun W g c hb => by rw [hn]; exact bytes_blk hb.out (by omega)
      have HSC : Hid (∀ W g c, Hid (Blk W g (bc r ++ c) 5) → Calls Try.prog 25 #[.slice (some ⟨g, 0, none⟩) n n, .int .u8 170] W fun e w' => e = .returned (.tuple #[]) ∧ Hid (Chg (· = g) W w')) := fun W g c hb => by
        refine (scribble_any g n n (bc r ++ c) 170 W hb.out (by rw [List.length_append, List.length_map]; omega) (Nat.le_refl _) (by omega)).mono ?_
        rintro e w' ⟨h1, h2, _⟩
        exact ⟨h1, h2⟩
      clear hr hn hrb hfull
      go_wp2_with (first
        | (go_at_call 25; refine (HSC.out _ _ _ (B4.out.up U5.out)).mono ?_; rintro e w6 ⟨rfl, C6⟩)
        | (go_at_call 18; refine (Dk.equalB_same _ _ r _ (HBY.out _ g3 c3 (B4.out.up U5.out)) (HBY.out _ g5 c5 B5)).mono ?_; rintro e w5' ⟨rfl, rfl⟩)
        | (go_at_call 23; (have hP4 := P4); refine (HREC.out _).mono ?_; rintro e w5 ⟨g5, c5, rfl, G5, B5, U5⟩)
        | (go_at_call 24; refine (HAP.out _ _ _ G3 B3 U3).mono ?_; rintro e w4 ⟨rfl, L4, S4, P4, B4⟩)
        | (go_at_call 23; refine (HREC.out _).mono ?_; rintro e w3 ⟨g3, c3, rfl, G3, B3, U3⟩)
        | fail)
      go_roundw
      case rel =>
        have g3lt := B3.out.lt
        have hg3 := G3.out
        have hw := HU.out.size
        have hnF : ¬ Fr g3 := fun e => by have := HR.out.lt g3 e; omega
        refine ⟨i + 1, L4, d, Fx Fr w3 w4, hlt, by go_num, S4.out, (P4.out.1.up U5.out).chg C6.out (fun k hk e => ?_), fx_far HF.out (HU.out.trans U3.out), ?_⟩
        · subst e
          rcases hk with h | h
          · exact hnF h
          · omega
        · exact (((Below.chg (· = g3) ((post_up P4.out HF.out (HU.out.trans U3.out)).trans U5.out)).trans C6.out fun _ _ e => e).up fun k hk e => by omega)
      case measure => simp [intOf]; omega
    · obtain rfl : i = N := by omega
      obtain ⟨wo, rfl⟩ : ∃ x, x = wr := ⟨_, rfl⟩
      have hli : ¬ (i : Int) < (i : Int) := by omega
      have HRC : Hid (Calls Try.prog 26 #[.pointer (some ⟨p, 0, none⟩)] wo fun e w' => ∃ a c xs, e = .returned (.slice a i c) ∧ Hid (w'.ownsRow wo.heap.size 28 1 (.slice a i c) i xs) ∧ Hid (ShR w' wo.heap.size i xs) ∧ Hid (Up wo w')) := by
        refine (recs_st HS.out (LogPost.self HR.out) (by omega)).mono ?_
        rintro e w' ⟨v, rfl, h1, h2⟩
        obtain ⟨xs, h3, h4⟩ := RecP.sh h1.out fun r hr => by
          obtain ⟨j, _, rfl⟩ := List.mem_map.1 hr
          exact (recd_len _ _).1
        rw [recL_len] at h3 h4
        obtain ⟨a, c, rfl, _⟩ := own_form h3
        exact ⟨a, c, xs, rfl, h3, h4, h2⟩
      go_wp2_with (first
        | (go_at_call 26; refine HRC.out.mono ?_; rintro e w7 ⟨a7, c7, xs, rfl, O7, H7, U7⟩)
        | fail)
      go_loopw [58] (fun jv wx => ∃ j : Nat, j ≤ i ∧ jv = .int .i64 (j : Int) ∧ Hid (wx.ownsRow wo.heap.size 28 1 (.slice a7 i c7) i xs) ∧ Hid (ShR wx wo.heap.size i xs) ∧ Hid (LogR wx p L Fr) ∧ Hid (Up wo wx)) (fun jv _ => i - (intOf jv).toNat)
      case atStart => exact ⟨0, Nat.zero_le _, rfl, O7.out, H7.out, HR.out.up U7.out, U7.out⟩
      case round =>
        obtain ⟨j, hj, rfl, OX, HX, RX, UX⟩ := hrel
        by_cases hjl : j < i
        · have hji : (j : Int) < (i : Int) := by omega
          obtain ⟨g, m, c, cs, hx1, hx2, hx3, hx4, hx5, hx6⟩ := HX.out j hjl
          obtain ⟨b7, c7', hv, _, _, hb7, hcell, _⟩ := own_some OX.out (by omega)
          cases hv
          have y1 := hcell j _ hx1
          have HSC := Lib.hid (scribble_any g m c cs 187 wr hx6 (by omega) hx2 hx3)
          have HB6 := Lib.hid hx6
          have hcl := Lib.hid hx5
          have hgB := Lib.hid hx4
          clear hcell hx1 hx6 hx5 hx4
          go_wp2_with (first
            | (go_at_call 25; refine HSC.out.mono ?_; rintro e w8 ⟨rfl, hC, hD⟩; have C8 := Lib.hid hC; have D8 := Lib.hid hD; clear hC hD)
            | fail)
          go_roundw
          case rel =>
            have hgb := hgB.out
            refine ⟨j + 1, hjl, by go_num, own_chg OX.out C8.out (fun k hk e => ?_), ?_, RX.out.chg C8.out (fun k hk e => ?_), ?_⟩
            · subst e
              exact ((own_ty OX.out) _ hk).1.ne (E' := 5) (by decide) (blk_ty HB6.out)
            · obtain ⟨ds, d1, d2⟩ := D8.out
              exact HX.out.chg C8.out ⟨c, ds, d1.trans hcl.out, d2, cs, hcl.out, HB6.out⟩
            · subst e
              have := HR.out.lt _ hk
              omega
            · exact (((Below.chg (· = g) UX.out).trans C8.out fun _ _ e => e).up fun k hk e => by omega)
          case measure => simp [intOf]; omega
        · obtain rfl : j = i := by omega
          obtain ⟨wx, rfl⟩ : ∃ x, x = wr := ⟨_, rfl⟩
          have hji : ¬ (j : Int) < (j : Int) := by omega
          clear O7 H7 OX HX U7 HRC
          have HSY := Lib.hid (sync_st HS.out (LogPost.self RX.out) RX.out.lt)
          have HCR : Hid (∀ L' W, Hid (St 30 (j + 1) L' (recL z0 j).length (recL z0 j)) → Hid (LogPost p L' Fr wx W) → Calls Try.prog 28 #[.pointer (some ⟨p, 0, none⟩), .slice none 0 0] W fun e w' => e = .returned (.int .i64 0) ∧ ∃ L'', Hid (St 30 (j + 2) L'' j (recL z0 j)) ∧ Hid (LogPost p L'' Fr wx w')) := by
            intro L' W hS hP
            refine (crash_st hS.out hP.out RX.out.lt (by decide) (by decide) (by omega) [] (.slice none 0 0) ⟨none, 0, rfl, Nat.le_refl _, by decide, fun _ => rfl, fun i hi => absurd hi (Nat.not_lt_zero _)⟩ (fun hne => absurd rfl hne)).mono ?_
            rintro e w' ⟨rfl, L'', j', g1, g2, g3, g4⟩
            have hjj : j' = (recL z0 j).length := by omega
            have g3 := g3.out
            rw [hjj, List.take_length, recL_len] at g3
            exact ⟨rfl, L'', g3, g4⟩
          have HRD : Hid (∀ L'' W, Hid (St 30 (j + 2) L'' j (recL z0 j)) → Hid (LogPost p L'' Fr wx W) → Calls Try.prog 26 #[.pointer (some ⟨p, 0, none⟩)] W fun e w' => ∃ a c, e = .returned (.slice a j c) ∧ Hid (BsR w' (.slice a (recL z0 j).length c) (recL z0 j)) ∧ Hid (∀ k, k < j → ∃ b o, a = some ⟨b, o, none⟩) ∧ Hid (Up W w')) := by
            intro L'' W hS hP
            refine (recs_st hS.out hP.out (by omega)).mono ?_
            rintro e w' ⟨v, rfl, h1, h2⟩
            have hb := h1.out.bs
            obtain ⟨a, c, rfl, _, ha⟩ := bs_form hb
            exact ⟨a, c, by rw [recL_len], hb, fun k hk => ha k (by rw [recL_len]; exact hk), h2⟩
          have hne : ((j : Int) != (j : Int)) = false := by simp
          go_wp2_with (first
            | (go_at_call 26; refine (HRD.out _ _ S9 P9).mono ?_; rintro e wa ⟨aa, ca, rfl, Ba, Aa, Ua⟩)
            | (go_at_call 28; refine (HCR.out _ _ S8 P8).mono ?_; rintro e w9 ⟨rfl, L9, S9, P9⟩)
            | (go_at_call 27; refine HSY.out.mono ?_; rintro e w8 ⟨rfl, L8, S8, P8⟩)
            | fail)
          have UA : Hid (Up w wa) := (post_up P9.out HF.out (HU.out.trans UX.out)).trans Ua.out
          clear HSY HCR HRD S9 P9 S8 P8 HS HR RX UX
          go_loopw [78] (fun kv wx => ∃ k : Nat, k ≤ j ∧ kv = .int .i64 (k : Int) ∧ Hid (Up wa wx)) (fun kv _ => j - (intOf kv).toNat)
          case atStart => exact ⟨0, Nat.zero_le _, rfl, Up.refl _⟩
          case round =>
            obtain ⟨k, hk, rfl, UK⟩ := hrel
            by_cases hkl : k < j
            · have hki : (k : Int) < (j : Int) := by omega
              obtain ⟨b, off, rfl, hb1, hb2⟩ := (elems_up HE.out (UA.out.trans UK.out)) k (by omega)
              obtain ⟨b9, o9, rfl⟩ := Aa.out k hkl
              obtain ⟨y, y1, y2, y3⟩ := bs_at (Ba.out.up UK.out) k (by rw [recL_len]; exact hkl)
              have hrk : (recL z0 j)[k]'(by rw [recL_len]; exact hkl) = recd (k : Int) (z0.getD k 0) := by simp [recL]
              rw [hrk] at y3
              obtain ⟨x, hx⟩ : ∃ x, x = z0.getD k 0 := ⟨_, rfl⟩
              rw [← hx] at hb2 y3
              clear hx hrk
              obtain ⟨r, hr⟩ : ∃ r, r = recd (k : Int) x := ⟨_, rfl⟩
              obtain ⟨n, hn⟩ : ∃ n, n = r.length := ⟨_, rfl⟩
              rw [← hr] at y3
              have Y3 := Lib.hid y3
              obtain ⟨ay, cy, rfl, _⟩ := y3
              have hr40 : n ≤ 40 := by rw [hn, hr]; exact (recd_len _ _).2
              have HREC : Hid (∀ W, Up wr W → Calls Try.prog 23 #[.int .i64 (k : Int), .int .i64 x] W fun e w' => ∃ g c, e = .returned (.slice (some ⟨g, 0, none⟩) n n) ∧ Hid (Blk w' g (bc r ++ c) 5) ∧ Up wr w') := by
                intro W hW
                refine (record_any (k : Int) x W).mono ?_
                rintro e w' ⟨g, rfl, hg, ⟨c, hb⟩, hu⟩
                rw [← hr] at hb ⊢
                rw [← hn]
                exact ⟨g, c, rfl, hb, hW.trans hu⟩
              have HEQ : Hid (∀ W g c, Hid (Blk W g (bc r ++ c) 5) → Up wr W → Calls Try.prog 18 #[.slice ay r.length cy, .slice (some ⟨g, 0, none⟩) n n] W fun e w' => e = .returned (.bool true) ∧ W = w') := fun W g c hb hu => Dk.equalB_same _ _ r W (bytes_up Y3.out hu) (by rw [hn]; exact bytes_blk hb.out (by omega))
              rw [← hn] at HEQ y1
              clear hr hn
              go_wp2
              go_region_held3 (fun w' => w'.cell? ⟨b9, o9 + k, none⟩ = some (.slice ay n cy)) (first | exact y1 | exact t1 | go_keep) (first
                | (go_at_call 18; refine (HEQ.out _ _ _ BC UC).mono ?_; rintro e wc' ⟨rfl, rfl⟩)
                | (go_at_call 23; refine (HREC.out _ ((Up.refl wr).drew)).mono ?_; rintro e wb ⟨gc, cc, rfl, BC, UC⟩; have t1 := (UC.cell (p := ⟨b9, o9 + k, none⟩) y2).trans y1)
                | fail)
              go_wp2
              go_roundw
              case rel => exact ⟨k + 1, hkl, by go_num, UK.out.trans UC⟩
              case measure => simp [intOf]; omega
            · obtain rfl : k = j := by omega
              have hki : ¬ (k : Int) < (k : Int) := by omega
              go_wp2
              go_ret
              exact ⟨rfl, UA.out.trans UK.out⟩
end Go.Proofs.Ytmaeeidaegigcaa.Wl
