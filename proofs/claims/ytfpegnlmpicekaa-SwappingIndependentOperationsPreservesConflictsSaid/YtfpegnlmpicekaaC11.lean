/- The laws SSIAdmitsDisjointTransactions and SSIDecisionsDependOnlyOnThePast: the walks. -/
import Derived.Test.YtfpegnlmpicekaaC10
namespace Go.Proofs.Ytfpegnlmpicekaa.C
open Go Go.RowKit Hp
set_option linter.unusedVariables false

theorem elems_up {w w1 : World} {a : Option Addr} {n : Nat} {zs : List Int} (h : Elems w a n zs) (u1 : Up w w1) : Elems w1 a n zs := fun i hi => by
  obtain ⟨b, off, ha, hb, hc⟩ := h i hi
  exact ⟨b, off, ha, by have := u1.size; omega, (u1.cell (p := ⟨b, off + i, none⟩) hb).trans hc⟩
theorem one_strs (W : World) (o : Obj) (s : ByteArray) : Strs ((W.alloc o).alloc (.cells #[.string s] 9)) (.slice (some ⟨W.heap.size + 1, 0, none⟩) 1 1) [s] := by
  have hs : (W.alloc o).heap.size = W.heap.size + 1 := by simp
  refine ⟨_, 1, rfl, by simp, by omega, (fun h => by cases h), fun i hi => ⟨W.heap.size + 1, 0, rfl, ?_⟩⟩
  obtain rfl : i = 0 := by simpa using hi
  refine ⟨⟨#[.string s], (0, 0), ?_⟩, ?_⟩
  · show ((W.alloc o).heap.push _)[W.heap.size + 1]? = _
    rw [Array.getElem?_push, if_pos hs.symm]
  · have := At.new (W.alloc o) #[.string s] 9 0 _ rfl
    rw [hs] at this; exact this

set_option maxRecDepth 100000 in
set_option maxHeartbeats 2000000 in
theorem walk8 (a2 : Option Addr) (len2 cap2 : Nat) (z2 : List Int) (w : World) (hE : Elems w a2 len2 z2) (hl : len2 ≤ cap2) (hm : cap2 ≤ 9223372036854775807) :
    Calls Try.prog 4 #[.slice a2 len2 cap2] w fun e w' => e = .returned (.bool true) ∧ Up w w' := by
  have HE := Lib.hid hE
  clear hE
  have hcv := conv1 (P := Try.prog) 35 9 5 Try.underlying35 Try.underlying5 Try.underlying9
  go_enter Try.func4, Try.ntmps4
  go_wp2_with (go_at_call 11; refine (works_any _).mono ?_; rintro e w1 ⟨rfl, u1⟩)
  refine (txs_any a2 len2 cap2 z2 w1 (elems_up HE.out u1) hl hm).mono ?_
  rintro e w2 ⟨v, l, xs, rfl, hown, henc, hdr, hl20, u2⟩
  obtain ⟨a, cap, rfl⟩ := own_len hown
  have HD := Lib.hid hdr
  clear hdr
  have hu2 := Up.trans u1 u2
  go_wp2
  go_loopw [14] (fun iv wr => ∃ (k : Nat) (xs : List Value), k ≤ l.length ∧ iv = .int .i64 k ∧ wr.ownsRow w1.heap.size 28 4 (.slice a l.length cap) l.length xs ∧ EncT wr xs (dis l k) ∧ Up w wr) (fun iv _ => l.length - (intOf iv).toNat)
  case atStart => exact ⟨0, xs, by omega, rfl, hown, by rw [dis_zero]; exact henc, hu2⟩
  case round =>
    obtain ⟨k, xs, hk, rfl, hown, henc, hu⟩ := hrel
    by_cases hlt : k < l.length
    · obtain ⟨g, cap', hs, hg, hty⟩ := own_shape hown (by omega)
      simp only [Value.slice.injEq, true_and] at hs
      obtain ⟨rfl, rfl⟩ := hs
      have hsl := dis_length l k
      have hgl := hty.lt
      obtain ⟨rv, wv, c2, c3⟩ : ∃ rv wv, wr.cell? ⟨g, k * 4 + 2, none⟩ = some rv ∧ wr.cell? ⟨g, k * 4 + 3, none⟩ = some wv := by
        obtain ⟨rv, wv, x0, x1, x2, x3, z5, z6⟩ := henc.2 k (by omega)
        exact ⟨rv, wv, (hown.cellAt (k * 4 + 2) (by omega)).trans x2, (hown.cellAt (k * 4 + 3) (by omega)).trans x3⟩
      have f2 := hown.frozenAt (k * 4 + 2)
      have f3 := hown.frozenAt (k * 4 + 3)
      have UA : Hid (Up wr ((wr.alloc (.cells #[.int .u8 (65 + (k : Int))] 5)).alloc (.cells #[.string (one (65 + (k : Int)))] 9))) := ((Up.refl _).alloc _).alloc _
      have hownA := own_up hown UA.out
      have hencA := henc.upE (UA.out.toE 28)
      obtain ⟨hownB, hgrB⟩ := hownA.stored (k * 4 + 2) (.slice (some ⟨wr.heap.size + 1, 0, none⟩) 1 1)
      obtain ⟨hownC, hgrC⟩ := hownB.stored (k * 4 + 3) (.slice (some ⟨wr.heap.size + 1, 0, none⟩) 1 1)
      have hencB := hencA.setRW k (by omega) (one_strs wr (.cells #[.int .u8 (65 + (k : Int))] 5) (one (65 + (k : Int))))
      have ES := dis_succ l k hlt
      unfold own1 at ES
      rw [← ES] at hencB
      have tA := hty.up UA.out
      have eB := UpE.of_grown hgrB (E := 28) (fun j hj => by cases hj; exact tA)
      obtain ⟨_, _, hsB, _, tB⟩ := own_shape hownB (by omega)
      simp only [Value.slice.injEq, Option.some.injEq, Addr.mk.injEq, and_true, true_and] at hsB
      rw [← hsB.1] at tB
      have eC := UpE.of_grown hgrC (E := 28) (fun j hj => by cases hj; exact tB)
      have henc2 := (hencB.upE eB).upE eC
      have hgl2 : g < (wr.alloc (.cells #[.int .u8 (65 + (k : Int))] 5)).heap.size := by simp; omega
      have hgl3 : g < ((wr.setCell ⟨g, k * 4 + 2, none⟩ (.slice (some ⟨wr.heap.size + 1, 0, none⟩) 1 1)).alloc (.cells #[.int .u8 (65 + (k : Int))] 5)).heap.size := by simp; omega
      have hgl4 : g < (wr.setCell ⟨g, k * 4 + 2, none⟩ (.slice (some ⟨wr.heap.size + 1, 0, none⟩) 1 1)).heap.size := by simp; omega
      rw [World.setCell_alloc_past _ _ _ _ hgl2, World.setCell_alloc_past _ _ _ _ hgl, World.setCell_alloc_past _ _ _ _ hgl3, World.setCell_alloc_past _ _ _ _ hgl4] at hownC henc2
      have HO := Lib.hid hownC; have HN := Lib.hid henc2
      have hsz : w.heap.size ≤ g := by have := u1.size; omega
      clear hgl2 hgl3 hgl4 henc hown hownA hencA hownB hownC hgrB hgrC hencB ES tA tB eB eC henc2 hsl hsB
      go_wp2
      go_roundw
      case rel => exact ⟨k + 1, _, by omega, by go_num, HO.out, HN.out, (((hu.set hsz _ _ _).set hsz _ _ _).alloc _).alloc _⟩
      case measure => simp [intOf]; omega
    · obtain rfl : k = l.length := by omega
      have ET := Lib.hid (henc.txs (l := dis l l.length) (base := w1.heap.size) (v := .slice a l.length cap) (by rw [dis_length]; exact hown))
      have EL := Lib.hid (dis_length l l.length)
      go_wp2_with (first
        | (go_at_call 13; refine (admit_any _ (dis l l.length) _ ET.out (dis_valid HD.out hl20)).mono ?_; rintro e w4 ⟨g, rfl, hg, hb, u4⟩; rw [dis_admit HD.out hl20] at hb; rw [EL.out]; have hu4 := Up.trans hu u4)
        | (go_at_call 14; refine (containsB_any _ (List.replicate l.length true) false _ (by have h := bv_arr hb (by simp; omega); simpa using h)).mono ?_; rintro e w5 ⟨rfl, rfl⟩; rw [any_false_replicate]))
      go_ret
      exact ⟨rfl, hu4⟩

set_option maxRecDepth 100000 in
set_option maxHeartbeats 2000000 in
theorem walk9 (a2 : Option Addr) (len2 cap2 : Nat) (z2 : List Int) (a1 : Int) (w : World) (hE : Elems w a2 len2 z2) (hl : len2 ≤ cap2) (hm : cap2 ≤ 9223372036854775807) :
    Calls Try.prog 5 #[.slice a2 len2 cap2, .int .i64 a1] w fun e w' => e = .returned (.bool true) ∧ Up w w' := by
  have HE := Lib.hid hE
  clear hE
  go_enter Try.func5, Try.ntmps5
  go_wp2_with (go_at_call 11; refine (works_any _).mono ?_; rintro e w1 ⟨rfl, u1⟩)
  refine (txs_any a2 len2 cap2 z2 w1 (elems_up HE.out u1) hl hm).mono ?_
  rintro e w2 ⟨v, l, xs, rfl, hown, henc, hdr, hl20, u2⟩
  obtain ⟨a, cap, rfl⟩ := own_len hown
  have hT := henc.txs hown
  have hcap : l.length ≤ cap := by obtain ⟨_, _, he, h1, _⟩ := hT; simp only [Value.slice.injEq] at he; obtain ⟨_, _, rfl⟩ := he; exact h1
  have HT := Lib.hid hT
  have HD := Lib.hid hdr
  have hu2 := Up.trans u1 u2
  clear hdr hT hown henc
  have b0 := modV_nonneg a1 ((l.length : Int) + 1) (by omega)
  have b1 := modV_lt a1 ((l.length : Int) + 1) (by omega)
  obtain ⟨m, hmm⟩ := Int.eq_ofNat_of_zero_le b0
  have HM := Lib.hid hmm
  rw [hmm] at b1
  have hml : m ≤ l.length := by omega
  clear hmm b0 b1
  have EQ : Hid ((admV l).take m = admV (l.take m)) := (admit_take l hml).symm
  have EL : Hid ((l.take m).length = m) := by simp [Hid]; omega
  have EA : Hid ((admV l).length = l.length) := by simp [Hid, admV, admN_length]
  go_wp2_with (first
    | (go_at_call 15; refine (mod_any _ _ _ (by omega) (by omega)).mono ?_; rintro e w' ⟨rfl, rfl⟩; rw [HM.out]))
  refine (admit_any _ l _ HT.out (drawn_valid HD.out hl20)).mono ?_
  rintro e w3 ⟨g, rfl, hg, hb, u3⟩
  go_wp2_with fail
  refine (admit_any _ (l.take m) _ (arr_take (HT.out.grow txR_grows u3) hml) (valid_take (drawn_valid HD.out hl20) m)).mono ?_
  rintro e w4 ⟨g', rfl, hg', hb', u4⟩
  rw [EL.out]
  have hA : Bools w4 (.slice (some ⟨g, 0, none⟩) l.length l.length) (admV l) := by
    have h := bv_arr (hb.up u4) (by rw [EA.out]; omega)
    rw [EA.out] at h; exact h
  have hB : Bools w4 (.slice (some ⟨g', 0, none⟩) m m) (admV (l.take m)) := by
    have e : (admV (l.take m)).length = m := by simp [admV, admN_length]; omega
    have h := bv_arr hb' (by rw [e]; omega)
    rw [e] at h; exact h
  have HA := Lib.hid (arr_take hA hml)
  have HB := Lib.hid hB
  clear hA hB
  go_wp2_with (go_at_call 16; refine (equalB_any _ _ _ _ _ HA.out HB.out).mono ?_; rintro e w5 ⟨rfl, u5⟩; rw [show decide ((admV l).take m = admV (l.take m)) = true from decide_eq_true EQ.out])
  go_ret
  exact ⟨rfl, Up.trans (Up.trans (Up.trans hu2 u3) u4) u5⟩
end Go.Proofs.Ytfpegnlmpicekaa.C
