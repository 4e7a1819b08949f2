/- The archive: find. -/
import Derived.Test.YtdaehidbeleblaaBkd
import Derived.Test.YtdaehidbeleblaaBkf
namespace Go.Proofs.Ytdaehidbeleblaa.Bk
open Go Go.RowKit Hp
open Mv (Val rowC rowC_len rowC_one rowC_get RM rmC rmC1 rmC_len rmC_get erR RecsR RecsS Srt pos has pos_le has_pos fm_len fm_take fm_drop fm_get fm_set fm_one cloneR)
set_option linter.unusedVariables false

def Hit (rs : List RM) (refs : List Nat) (key : ByteArray) (row : List Val) (i : Nat) : Prop := ∃ h : i < rs.length, 0 < refs.getD i 0 ∧ rs[i].key = key ∧ rs[i].row = row
set_option maxRecDepth 100000 in
set_option maxHeartbeats 4000000 in
theorem find_any (p : Nat) (F : Nat → Prop) (rs : List RM) (refs : List Nat) (bs : List BM) (cs : List CM) (e0 : Int) (rv fv bv cv xv : Value) (key : ByteArray) (row : List Val) (w : World) (h : ArP w p F rs refs bs cs e0 rv fv bv cv)
    (hrl : refs.length = rs.length) (hbig : rs.length ≤ 1000000) (hrow : ∀ r ∈ rs, r.row.length ≤ 6) (hx : Src w 3 xv row.length (rowC row)) (hl : row.length ≤ 6) :
    Calls Try.prog 29 #[.pointer (some ⟨p, 0, none⟩), .agg #[.string key, xv]] w fun e w' => Up w w' ∧
      ((∃ i : Nat, e = .returned (.int .i64 (i : Int)) ∧ Hit rs refs key row i ∧ ∀ j, j < i → ¬ Hit rs refs key row j) ∨ (e = .returned (.int .i64 (-1)) ∧ ∀ i, ¬ Hit rs refs key row i)) := by
  have HP := Lib.hid h
  have HRL := Lib.hid hrl
  have HX := Lib.hid hx
  have HRW := Lib.hid hrow
  obtain ⟨hpl, c0⟩ := (h.blk.at (i := 0) rfl)
  obtain ⟨_, c1⟩ := (h.blk.at (i := 1) rfl)
  obtain ⟨ra, rc, rfl, hrc1, hrc2, _⟩ := own_form h.rcs
  obtain ⟨fa, fc, rfl, hfc1, hfc2, _⟩ := own_form h.ref
  obtain ⟨xa, xc, rfl⟩ := Mv.src_rn hx
  clear h hx hrow hrl
  go_enter Try.func29, Try.ntmps29
  go_wp2
  have HB := Lib.hid (Blk.new w #[.string key, .slice xa row.length xc] 40)
  obtain ⟨W, hW⟩ : ∃ W, W = w.alloc (.cells #[.string key, .slice xa row.length xc] 40) := ⟨_, rfl⟩
  have HU0 : Hid (Up w W) := by rw [hW]; exact (Up.refl w).alloc _
  rw [← hW] at HB ⊢
  clear hW
  go_loopw [12] (fun iv wr => ∃ k : Nat, k ≤ rs.length ∧ iv = .int .i64 k ∧ Hid (Up W wr) ∧ Hid (∀ j, j < k → ¬ Hit rs refs key row j)) (fun iv _ => rs.length - (intOf iv).toNat)
  case atStart => exact ⟨0, by omega, rfl, Up.refl _, fun j hj => by omega⟩
  case round =>
    obtain ⟨k, hk, rfl, HU, HN⟩ := hrel
    by_cases hlt : k < rs.length
    · obtain ⟨rg, rcp, hrv, _, _, hrg, hrat, _⟩ := own_some HP.out.rcs (by omega)
      simp only [Value.slice.injEq] at hrv
      obtain ⟨rfl, _, rfl⟩ := hrv
      obtain ⟨fg, fcp, hfv, _, _, hfg, hfat, _⟩ := own_some HP.out.ref (by have := HRL.out; omega)
      simp only [Value.slice.injEq] at hfv
      obtain ⟨rfl, _, rfl⟩ := hfv
      have hlt' : k < refs.length := by rw [HRL.out]; exact hlt
      have U := Lib.hid (HU0.out.trans HU.out)
      have r0 := hrat _ _ (rmC_get rs k hlt).1
      have r1 := hrat _ _ (rmC_get rs k hlt).2
      have f0 := hfat _ _ (icN_get refs k hlt')
      have RR := Lib.hid (own_src (HP.out.rrow _ (List.getElem_mem hlt)))
      have hrow := HRW.out _ (List.getElem_mem hlt)
      obtain ⟨ya, yc, hyv⟩ := Mv.src_rn RR.out
      rw [hyv] at r1 RR
      have k0 := (U.out.cell (p := ⟨p, 1, none⟩) hpl).trans c1
      have k1 := (U.out.cell (p := ⟨rg, k * 2, none⟩) hrg).trans r0
      have k2 := (U.out.cell (p := ⟨rg, k * 2 + 1, none⟩) hrg).trans r1
      have k3 := (U.out.cell (p := ⟨fg, k, none⟩) hfg).trans f0
      have b0 := (HU.out.cell (p := ⟨w.heap.size, 0, none⟩) HB.out.lt).trans (HB.out.at (i := 0) rfl).2
      have b1 := (HU.out.cell (p := ⟨w.heap.size, 1, none⟩) HB.out.lt).trans (HB.out.at (i := 1) rfl).2
      have hbl : w.heap.size < wr.heap.size := Nat.lt_of_lt_of_le HB.out.lt HU.out.size
      have hpw : p < wr.heap.size := Nat.lt_of_lt_of_le hpl U.out.size
      have hfw : fg < wr.heap.size := Nat.lt_of_lt_of_le hfg U.out.size
      have hrw : rg < wr.heap.size := Nat.lt_of_lt_of_le hrg U.out.size
      have hfl : (k : Int) < (refs.length : Int) := by omega
      have hkl : (k : Int) < (rs.length : Int) := by omega
      have HIT : Hid (Hit rs refs key row k ↔ 0 < refs[k] ∧ rs[k].key = key ∧ rs[k].row = row) := by
        unfold Hid Hit
        have : refs.getD k 0 = refs[k] := by simp [List.getD, hlt']
        rw [this]
        exact ⟨fun ⟨_, h⟩ => h, fun h => ⟨hlt, h⟩⟩
      have NXT : Hid (¬ Hit rs refs key row k → ∀ j, j < k + 1 → ¬ Hit rs refs key row j) := fun h j hj => by
        rcases Nat.lt_or_ge j k with h1 | h1
        · exact HN.out j h1
        · obtain rfl : j = k := by omega
          exact h
      clear hrat r0 r1 f0 hfat hyv
      generalize rs[k].key = key2 at *
      generalize rs[k].row = row2 at *
      generalize refs[k] = n at *
      by_cases h1 : 0 < n
      · have h1' : (0 : Int) < (n : Int) := by omega
        by_cases h2 : key2 = key
        · have h2b : (key2.toList == key.toList) = true := by rw [h2]; simp
          by_cases h3 : row2 = row
          · have HT := Lib.hid (HIT.out.2 ⟨h1, h2, h3⟩)
            subst h3
            clear HIT NXT
            go_wp2_with (first
              | (go_at_call 12; refine (Mv.equalR_same _ _ row2 _ (RR.out.up (U.out.alloc _)) (HX.out.up (U.out.alloc _)) (by omega)).mono ?_; rintro e w2 ⟨rfl, h4⟩; have H4 := Lib.hid (((Up.refl wr).alloc _).trans h4); clear h4)
              | fail)
            go_ret
            exact ⟨U.out.trans H4.out, .inl ⟨k, rfl, HT.out, HN.out⟩⟩
          · have HT := Lib.hid (NXT.out fun h => h3 (HIT.out.1 h).2.2)
            clear HIT NXT
            go_wp2_with (first
              | (go_at_call 12; refine (Mv.equalR_diff _ _ row2 row _ (RR.out.up (U.out.alloc _)) (HX.out.up (U.out.alloc _)) (by omega) (by omega) h3).mono ?_; rintro e w2 ⟨rfl, h4⟩; have H4 := Lib.hid (((Up.refl wr).alloc _).trans h4); clear h4)
              | fail)
            go_roundw
            case rel => exact ⟨k + 1, by omega, by go_num, HU.out.trans H4.out, HT.out⟩
            case measure => simp [intOf]; omega
        · have h2b : (key2.toList == key.toList) = false := beq_eq_false_iff_ne.2 fun e => h2 (Mv.toList_inj e)
          have HT := Lib.hid (NXT.out fun h => h2 (HIT.out.1 h).2.1)
          clear HIT NXT
          go_wp2
          go_roundw
          case rel => exact ⟨k + 1, by omega, by go_num, HU.out.alloc _, HT.out⟩
          case measure => simp [intOf]; omega
      · have h1' : ¬ (0 : Int) < (n : Int) := by omega
        have HT := Lib.hid (NXT.out fun h => h1 (HIT.out.1 h).1)
        clear HIT NXT
        go_wp2
        go_roundw
        case rel => exact ⟨k + 1, by omega, by go_num, HU.out.alloc _, HT.out⟩
        case measure => simp [intOf]; omega
    · obtain rfl : k = rs.length := by omega
      go_wp2
      go_ret
      exact ⟨HU0.out.trans HU.out, .inr ⟨rfl, fun i h => by
        obtain ⟨hi, _⟩ := id h
        exact HN.out i hi h⟩⟩
theorem hit_first {rs : List RM} {refs : List Nat} {key : ByteArray} {row : List Val} (h : ∃ i, Hit rs refs key row i) : ∃ i, Hit rs refs key row i ∧ ∀ j, j < i → ¬ Hit rs refs key row j := by
  obtain ⟨i, hi⟩ := h
  induction i using Nat.strongRecOn with
  | ind i ih =>
    by_cases h : ∃ j, j < i ∧ Hit rs refs key row j
    · obtain ⟨j, hj, h⟩ := h; exact ih j hj h
    · exact ⟨i, hi, fun j hj h2 => h ⟨j, hj, h2⟩⟩
theorem find_hit {p : Nat} {F : Nat → Prop} {rs : List RM} {refs : List Nat} {bs : List BM} {cs : List CM} {e0 : Int} {rv fv bv cv xv : Value} {key : ByteArray} {row : List Val} {w : World} (h : ArP w p F rs refs bs cs e0 rv fv bv cv)
    (hrl : refs.length = rs.length) (hbig : rs.length ≤ 1000000) (hrow : ∀ r ∈ rs, r.row.length ≤ 6) (hx : Src w 3 xv row.length (rowC row)) (hl : row.length ≤ 6) {i : Nat} (hi : Hit rs refs key row i) (hmin : ∀ j, j < i → ¬ Hit rs refs key row j) :
    Calls Try.prog 29 #[.pointer (some ⟨p, 0, none⟩), .agg #[.string key, xv]] w fun e w' => e = .returned (.int .i64 (i : Int)) ∧ Up w w' := by
  refine (find_any p F rs refs bs cs e0 rv fv bv cv xv key row w h hrl hbig hrow hx hl).mono ?_
  rintro e w' ⟨hu, ⟨k, rfl, hk, hm⟩ | ⟨_, hn⟩⟩
  · rcases Nat.lt_trichotomy i k with h1 | rfl | h1
    · exact absurd hi (hm i h1)
    · exact ⟨rfl, hu⟩
    · exact absurd hk (hmin k h1)
  · exact absurd hi (hn i)
theorem find_miss {p : Nat} {F : Nat → Prop} {rs : List RM} {refs : List Nat} {bs : List BM} {cs : List CM} {e0 : Int} {rv fv bv cv xv : Value} {key : ByteArray} {row : List Val} {w : World} (h : ArP w p F rs refs bs cs e0 rv fv bv cv)
    (hrl : refs.length = rs.length) (hbig : rs.length ≤ 1000000) (hrow : ∀ r ∈ rs, r.row.length ≤ 6) (hx : Src w 3 xv row.length (rowC row)) (hl : row.length ≤ 6) (hn : ¬ ∃ i, Hit rs refs key row i) :
    Calls Try.prog 29 #[.pointer (some ⟨p, 0, none⟩), .agg #[.string key, xv]] w fun e w' => e = .returned (.int .i64 (-1)) ∧ Up w w' := by
  refine (find_any p F rs refs bs cs e0 rv fv bv cv xv key row w h hrl hbig hrow hx hl).mono ?_
  rintro e w' ⟨hu, ⟨k, _, hk, _⟩ | ⟨rfl, _⟩⟩
  · exact absurd ⟨k, hk⟩ hn
  · exact ⟨rfl, hu⟩
end Go.Proofs.Ytdaehidbeleblaa.Bk
