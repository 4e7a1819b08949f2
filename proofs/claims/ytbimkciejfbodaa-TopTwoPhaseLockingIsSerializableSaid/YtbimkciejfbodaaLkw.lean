/- Locks: acquireAll. -/
import Derived.Test.YtbimkciejfbodaaLkx
namespace Go.Proofs.Ytbimkciejfbodaa.Lk
open Go Go.RowKit Hp
set_option linter.unusedVariables false

/-- A string of one byte, wherever the byte lies. -/
theorem conv1c {P : Program} (src dst e : TypeId) (hs : P.underlying src = some (.slice e)) (he : P.underlying e = some (.int .u8)) (hd : P.underlying dst = some .string) (W : World) (g : Nat) (x : Int) (c : Nat)
    (hc : W.cell? ⟨g, 0, none⟩ = some (.int .u8 x)) : (convert src dst (.slice (some ⟨g, 0, none⟩) 1 c)).run P W = .ok (.string (Hp.one x)) W := by
  rw [run_convert_bytes_string _ src dst e _ _ _ hs he hd]
  have h := run_bytesToString (P := P) W ⟨g, 0, none⟩ 1 c [x] (by simp [go_sem, hc])
  rw [h]
  rfl
def AllPost (w : World) (e : Ending) (w' : World) : Prop := ∃ p M K, e = .returned (.pointer (some ⟨p, 0, none⟩)) ∧ OwnM w w' p M K ∧ Good M 240 ∧ T6 M
theorem t6_acq {M : Mg} {n : Nat} (h : T6 M) (hg : Good M n) {l : Lk} (hl : l.tx < 6) : T6 (acqL M l).2 := fun x hx => by
  rcases acq_mem M hg.inv.hd l x hx with e | e
  · rw [e]; exact hl
  · exact h x e
theorem OwnM.poke {w wr : World} {p : Nat} {M : Mg} {K : Nat → Prop} (h : OwnM w wr p M K) {B : Nat} (hB : ¬ K B) (hw : w.heap.size ≤ B) (i : Nat) (v : Value) : OwnM w (wr.setCell ⟨B, i, none⟩ v) p M K :=
  ⟨h.man.chg (chg_set wr B i none v) fun k hk e => hB (e ▸ hk), h.base, h.upw.set hw i none v⟩
/-- A lock's box, apart from the manager. -/
structure Box (w wr : World) (p : Nat) (M : Mg) (K : Nat → Prop) (B : Nat) (l : Lk) : Prop where
  own : OwnM w wr p M K
  lb : LB wr B l
  far : ¬ K B
  lo : w.heap.size ≤ B
theorem Box.mode {w wr : World} {p : Nat} {M : Mg} {K : Nat → Prop} {B : Nat} {l : Lk} (h : Box w wr p M K B l) (m : Int) : Box w (wr.setCell ⟨B, 3, none⟩ (.int .i64 m)) p M K B { l with mode := m } := ⟨h.own.poke h.far h.lo 3 _, Blk.set h.lb 3 _, h.far, h.lo⟩
theorem Box.key {w wr : World} {p : Nat} {M : Mg} {K : Nat → Prop} {B : Nat} {l : Lk} (h : Box w wr p M K B l) (s : ByteArray) : Box w (wr.setCell ⟨B, 2, none⟩ (.string s)) p M K B { l with key := s } := ⟨h.own.poke h.far h.lo 2 _, Blk.set h.lb 2 _, h.far, h.lo⟩
theorem Box.up {w wr w' : World} {p : Nat} {M : Mg} {K : Nat → Prop} {B : Nat} {l : Lk} (h : Box w wr p M K B l) (hu : Up wr w') : Box w w' p M K B l := ⟨h.own.up hu, h.lb.up hu, h.far, h.lo⟩
theorem Box.land {w wr w' : World} {p : Nat} {M M' : Mg} {K : Nat → Prop} {B : Nat} {l : Lk} (h : Box w wr p M K B l) (hl : Lands w wr w' p K M') : ∃ K', Box w w' p M' K' B l := by
  obtain ⟨K', h1, h2, h3⟩ := hl
  refine ⟨K', h1, Blk.chg h.lb h2 h.far, fun e => ?_, h.lo⟩
  rcases h3 B e with e | e
  · exact h.far e
  · have := Blk.lt h.lb; omega
/-- The loop's state. -/
def AllI (w wr : World) (p k : Nat) : Prop := ∃ M K, OwnM w wr p M K ∧ Good M (2 * k) ∧ T6 M
set_option maxRecDepth 100000 in
set_option maxHeartbeats 4000000 in
theorem all_any (a : Option Addr) (len cap : Nat) (zs : List Int) (w : World) (hE : Elems w a len zs) (hl : len ≤ cap) (hm : cap ≤ 9223372036854775807) :
    Calls Try.prog 23 #[.slice a len cap] w (AllPost w) := by
  have HE := Lib.hid hE
  clear hE
  obtain ⟨m, hmin, hm1, hm2⟩ := min_len 120 len
  have hmc : (m : Int) ≤ (cap : Int) := by omega
  have hmin2 : min (len : Int) 120 = (m : Int) := by rw [← hmin]; simp only [Int.min_def]; split <;> split <;> omega
  have hcv := conv1c (P := Try.prog) 35 9 5 Try.underlying35 Try.underlying5 Try.underlying9
  have HCV := Lib.hid hcv
  clear hcv
  go_enter Try.func23, Try.ntmps23
  go_wp2_with (first
    | (go_at_call 10; refine (new_any _).mono ?_; rintro e w1 ⟨rfl, h1⟩; have O1 := Lib.hid h1; clear h1)
    | fail)
  clear hmin hmin2
  go_loopw [15] (fun iv wr => ∃ k : Nat, k ≤ m ∧ iv = .int .i64 k ∧ Hid (AllI w wr w.heap.size k)) (fun iv _ => m - (intOf iv).toNat)
  case atStart => exact ⟨0, Nat.zero_le _, rfl, ⟨_, _, O1.out, Good.nil, fun x h => by cases h⟩⟩
  case round =>
    obtain ⟨k, hk, rfl, HI⟩ := hrel
    by_cases hlt : k < m
    · obtain ⟨b, off, rfl, hbl, hcell⟩ := elems_up HE.out (by obtain ⟨M, K, h, _⟩ := HI.out; exact h.upw) k (by omega)
      have hkm : (k : Int) < (m : Int) := by omega
      generalize zs.getD k 0 = z at *
      obtain ⟨t, ht⟩ : ∃ t, modV (wrap64 (z.tdiv 16)) 6 = t := ⟨_, rfl⟩
      have ht0 : 0 ≤ t := by rw [← ht]; exact modV_nonneg _ _ (by omega)
      have ht6 : t < 6 := by rw [← ht]; exact modV_lt _ _ (by omega)
      obtain ⟨md, hmd⟩ : ∃ md, modV (IntKind.i64.wrap (z.tdiv 512)) 4 = md := ⟨_, rfl⟩
      have hm0 : 0 ≤ md := by rw [← hmd]; exact modV_nonneg _ _ (by omega)
      have hm4 : md < 4 := by rw [← hmd]; exact modV_lt _ _ (by omega)
      have HT := Lib.hid ht
      have HMD := Lib.hid hmd
      clear ht hmd
      go_upto_region 6 with (first
        | (go_at_call 22; refine (mod_any _ _ _ (by omega) (by omega)).mono ?_; rw [HT.out]; rintro e w' ⟨rfl, rfl⟩)
        | fail)
      go_cut [7, 8, 9, 10, 11, 12, 13, 14, 15] from 7 to 34 (fun s7 s8 s9 s10 s11 s12 s13 s14 s15 wx => ∃ B tb, s7 = .pointer (some ⟨B, 0, none⟩) ∧ s8 = .pointer (some ⟨w.heap.size, 0, none⟩) ∧ s9 = .slice (some ⟨b, off, none⟩) len cap ∧ s10 = .slice (some ⟨b, off, none⟩) len cap ∧ s11 = .int .i64 len ∧ s12 = .int .i64 m ∧ s13 = .slice (some ⟨b, off, none⟩) m cap ∧ s14 = .int .i64 m ∧ s15 = .int .i64 k ∧ Hid (LB wx B ⟨t, tb, ByteArray.empty, 1 + md⟩) ∧ Hid (Up wr wx) ∧ Hid (tb.size = 1 ∧ wr.heap.size ≤ B))
      case first =>
        have hcv := HCV.out
        have hw4 : IntKind.i64.wrap (1 + md) = 1 + md := IntWalk.i64_in _ (by omega)
        go_region_with (go_at_call 22; refine (mod_any _ _ _ (by omega) (by omega)).mono ?_; (try rw [HMD.out]); rintro e w' ⟨rfl, rfl⟩)
        all_goals
          go_wp2
          go_meet
          first
            | exact ⟨_, _, rfl, rfl, rfl, rfl, rfl, rfl, rfl, rfl, rfl, ((Blk.new _ _ _).up ((Up.refl _).alloc _)).drew, (((Up.refl _).alloc _).alloc _).drew, rfl, by simp⟩
            | exact ⟨_, _, rfl, rfl, rfl, rfl, rfl, rfl, rfl, rfl, rfl, Blk.drew (new_blk _ _ _ _ (by simp)), (((Up.refl _).alloc _).alloc _).drew, rfl, by simp⟩
            | fail
      case rest =>
        obtain ⟨B, tb, rfl, rfl, rfl, rfl, rfl, rfl, rfl, rfl, rfl, XB, UB, HTB⟩ := hcut
        have e2 : 2 * (k + 1) = 2 * k + 2 := by omega
        obtain ⟨M, K, hO, hG, h6⟩ := HI.out
        have HB := Lib.hid (show Box w wc w.heap.size M K B ⟨t, tb, ByteArray.empty, 1 + md⟩ from ⟨hO.up UB.out, XB.out, fun e => by have := hO.man.lt B e; have := HTB.out.2; omega, by have := hO.upw.size; have := HTB.out.2; omega⟩)
        have HG := Lib.hid hG
        have H6 := Lib.hid h6
        clear hO hG h6
        have hn : 2 * k ≤ 300 := by omega
        have hx := Blk.lt HB.out.lb
        have x0 := (Blk.at HB.out.lb (i := 0) rfl).2
        have x1 := (Blk.at HB.out.lb (i := 1) rfl).2
        have x2 := (Blk.at HB.out.lb (i := 2) rfl).2
        have x3 := (Blk.at HB.out.lb (i := 3) rfl).2
        obtain ⟨d, hd⟩ : ∃ d, modV z 16 = d := ⟨_, rfl⟩
        have hd0 : 0 ≤ d := by rw [← hd]; exact modV_nonneg _ _ (by omega)
        have HD := Lib.hid hd
        clear hd
        by_cases hda : d = 0
        · subst hda
          have HR := Lib.hid (relO HB.out.own HG.out (by omega) ht0 (by omega : t < 20))
          go_wp2_with (first
            | (go_at_call 22; refine (mod_any _ _ _ (by omega) (by omega)).mono ?_; rw [HD.out]; rintro e w' ⟨rfl, rfl⟩)
            | (go_at_call 13; refine HR.out.mono ?_; rintro e w5 ⟨v, rfl, h51, K5, h52, h53⟩; obtain ⟨va, vc, rfl, _, _, _⟩ := own_form h51; have O5 := Lib.hid h52; clear h51 h52 h53)
            | fail)
          go_roundw
          case rel => exact ⟨k + 1, by omega, by go_num, ⟨_, K5, O5.out, (HG.out.rel t).mono (by omega), t6_rel H6.out HG.out t⟩⟩
          case measure => simp [intOf]; omega
        · by_cases hdb : d ≤ 5
          · have HV : Hid (Valid ⟨t, tb, ByteArray.empty, 1 + md⟩) := Lib.hid ⟨ht0, by show t < 20; omega, by show 1 ≤ 1 + md; omega, by show 1 + md ≤ 4; omega, fun e => absurd rfl e, by show tb.size ≠ 0; have := HTB.out.1; omega, by show tb.size ≤ 24; have := HTB.out.1; omega, by show ByteArray.empty.size ≤ 24; decide⟩
            have HA := acqO HB.out.own HG.out (by omega) HV.out
            unfold lkV at HA
            have HA := Lib.hid HA
            have hdc : d = 1 ∨ d = 2 ∨ d = 3 ∨ d = 4 ∨ d = 5 := by omega
            clear hda hdb
            rcases hdc with rfl | rfl | rfl | rfl | rfl
            all_goals
              go_wp2_with (first
                | (go_at_call 22; refine (mod_any _ _ _ (by omega) (by omega)).mono ?_; rw [HD.out]; rintro e w' ⟨rfl, rfl⟩)
                | (go_at_call 14; refine HA.out.mono ?_; rintro e w5 ⟨rfl, h5⟩; have H5 := Lib.hid h5; clear h5)
                | fail)
              go_roundw
              case rel => exact ⟨k + 1, by omega, by go_num, by obtain ⟨K5, h1, _⟩ := H5.out; exact ⟨_, K5, h1, (HG.out.acq HV.out).mono (by omega), t6_acq H6.out HG.out ht6⟩⟩
              case measure => simp [intOf]; omega
          · have b0 : (d == 0) = false := beq_eq_false_iff_ne.2 hda
            have b1 : (d == 1) = false := beq_eq_false_iff_ne.2 (by omega)
            have b2 : (d == 2) = false := beq_eq_false_iff_ne.2 (by omega)
            have b3 : (d == 3) = false := beq_eq_false_iff_ne.2 (by omega)
            have b4 : (d == 4) = false := beq_eq_false_iff_ne.2 (by omega)
            have b5 : (d == 5) = false := beq_eq_false_iff_ne.2 (by omega)
            obtain ⟨m2, hm2⟩ : ∃ m2, modV (wrap64 (z.tdiv 512)) 2 = m2 := ⟨_, rfl⟩
            have hm20 : 0 ≤ m2 := by rw [← hm2]; exact modV_nonneg _ _ (by omega)
            have hm22 : m2 < 2 := by rw [← hm2]; exact modV_lt _ _ (by omega)
            obtain ⟨kk, hkk⟩ : ∃ kk, modV (wrap64 (z.tdiv 1024)) 2 = kk := ⟨_, rfl⟩
            have HM2 := Lib.hid hm2
            have HKK := Lib.hid hkk
            clear hm2 hkk hda hdb
            have xf := Blk.free HB.out.lb 3
            have HB2 := Lib.hid (HB.out.mode (1 + m2))
            have HV : Hid (Valid ⟨t, tb, ByteArray.empty, 1 + m2 + 2⟩) := Lib.hid ⟨ht0, by show t < 20; omega, by show 1 ≤ 1 + m2 + 2; omega, by show 1 + m2 + 2 ≤ 4; omega, fun e => absurd rfl e, by show tb.size ≠ 0; have := HTB.out.1; omega, by show tb.size ≤ 24; have := HTB.out.1; omega, by show ByteArray.empty.size ≤ 24; decide⟩
            have HA := acqO HB2.out.own HG.out (by omega) HV.out
            unfold lkV at HA
            have HA := Lib.hid HA
            have HV2 : Hid (Valid ⟨t, tb, keyB kk, 1 + m2⟩) := Lib.hid ⟨ht0, by show t < 20; omega, by show 1 ≤ 1 + m2; omega, by show 1 + m2 ≤ 4; omega, fun e => by show 1 + m2 ≤ 2; omega, by show tb.size ≠ 0; have := HTB.out.1; omega, by show tb.size ≤ 24; have := HTB.out.1; omega, by show (keyB kk).size ≤ 24; rw [keyB_size]; omega⟩
            have HG2 := Lib.hid (HG.out.acq HV.out)
            have H62 := Lib.hid (t6_acq H6.out HG.out (l := ⟨t, tb, ByteArray.empty, 1 + m2 + 2⟩) ht6)
            generalize acqL M ⟨t, tb, ByteArray.empty, 1 + m2 + 2⟩ = R2 at *
            go_wp2_with (first
              | (go_at_call 22; refine (mod_any _ _ _ (by omega) (by omega)).mono ?_; (first | rw [HD.out] | rw [HM2.out] | rw [HKK.out]); rintro e w' ⟨rfl, rfl⟩)
              | (go_at_call 49; refine (key_any _ _).mono ?_; rintro e w6 ⟨rfl, h6⟩; have B6 := Lib.hid (B5.out.up h6); have z0 := (Blk.at B6.out.lb (i := 0) rfl).2; have z1 := (Blk.at B6.out.lb (i := 1) rfl).2; have z3 := (Blk.at B6.out.lb (i := 3) rfl).2; have z2 := (Blk.at B6.out.lb (i := 2) rfl).2; have zf := Blk.free B6.out.lb 2; have zl := Blk.lt B6.out.lb; have B7 := Lib.hid (B6.out.key (keyB kk)); clear h6)
              | (go_at_call 14; have tok := B7; have HA7 := acqO B7.out.own HG2.out (by omega) HV2.out; unfold lkV at HA7; refine HA7.mono ?_; rintro e w8 ⟨rfl, h8⟩; have H8 := Lib.hid h8; clear h8)
              | (go_at_call 14; refine HA.out.mono ?_; rintro e w5 ⟨rfl, h5⟩; obtain ⟨K5, hb5⟩ := HB2.out.land h5; have B5 := Lib.hid hb5; clear h5 hb5)
              | fail)
            go_roundw
            case rel => exact ⟨k + 1, by omega, by go_num, by obtain ⟨K9, h1, _⟩ := H8.out; exact ⟨_, K9, h1, (HG2.out.acq HV2.out).mono (by omega), t6_acq H62.out HG2.out ht6⟩⟩
            case measure => simp [intOf]; omega
    · obtain rfl : k = m := by omega
      go_wp2
      go_ret
      obtain ⟨M, K, h1, h2, h3⟩ := HI.out
      exact ⟨_, M, K, rfl, h1, h2.mono (by omega), h3⟩
end Go.Proofs.Ytbimkciejfbodaa.Lk
