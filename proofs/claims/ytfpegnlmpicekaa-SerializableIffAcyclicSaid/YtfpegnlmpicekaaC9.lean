/- The law SSIAdmitsSerialTransactions: its walk. -/
import Derived.Test.YtfpegnlmpicekaaC8
namespace Go.Proofs.Ytfpegnlmpicekaa.C
open Go Go.RowKit Hp
set_option linter.unusedVariables false

theorem elems_of {w : World} {a : Option Addr} {len cap : Nat} {zs : List Int} (h : (a = none ∧ len = 0 ∧ cap = 0 ∧ zs = []) ∨
  ∃ x, a = some x ∧ len ≤ cap ∧ cap ≤ maxLen ∧ zs.length = cap ∧ (∀ i, i < zs.length → w.cell? (x.add i) = some (.int .i64 (zs.getD i 0))) ∧ ∀ n ∈ zs, (Lit.int .i64 n).wf = true) :
    Elems w a len zs ∧ len ≤ cap ∧ cap ≤ maxLen := by
  rcases h with ⟨rfl, rfl, rfl, rfl⟩ | ⟨x, rfl, hl, hm, hz, hcell, hwz⟩
  · exact ⟨fun i hi => by omega, by omega, by unfold maxLen; omega⟩
  · refine ⟨fun i hi => ?_, hl, hm⟩
    have hc := hcell i (by omega)
    obtain ⟨b, off, spot⟩ := x
    have h0 := hcell 0 (by omega)
    have hspot : spot = none := by simpa [Addr.add] using World.cell?_spot h0
    subst hspot
    have hc' : w.cell? ⟨b, off + i, none⟩ = some (.int .i64 (zs.getD i 0)) := by
      by_cases e : i = 0
      · subst e; simpa [Addr.add] using hc
      · simpa [Addr.add, e] using hc
    refine ⟨b, off, rfl, ?_, hc'⟩
    unfold World.cell? at hc'
    rcases Nat.lt_or_ge b w.heap.size with h | h
    · exact h
    · simp [Array.getElem?_eq_none h] at hc'

set_option maxRecDepth 100000 in
set_option maxHeartbeats 2000000 in
theorem walk7 (a2 : Option Addr) (len2 cap2 : Nat) (z2 : List Int) (w : World) (hE : Elems w a2 len2 z2) (hl : len2 ≤ cap2) (hm : cap2 ≤ 9223372036854775807) :
    Calls Try.prog 3 #[.slice a2 len2 cap2] w fun e w' => e = .returned (.bool true) ∧ Up w w' := by
  have HE := Lib.hid hE
  clear hE
  go_enter Try.func3, Try.ntmps3
  go_wp2_with (go_at_call 11; refine (works_any _).mono ?_; rintro e w1 ⟨rfl, u1⟩)
  refine (txs_any a2 len2 cap2 z2 w1 (fun i hi => by obtain ⟨b, off, ha, hb, hc⟩ := HE.out i hi; exact ⟨b, off, ha, by have := u1.size; omega, (u1.cell (p := ⟨b, off + i, none⟩) hb).trans hc⟩) hl hm).mono ?_
  rintro e w2 ⟨v, l, xs, rfl, hown, henc, hdr, hl20, u2⟩
  obtain ⟨a, cap, rfl⟩ := own_len hown
  have HD := Lib.hid hdr
  clear hdr
  have hu2 := Up.trans u1 u2
  go_wp2
  go_loopw [13] (fun iv wr => ∃ (k : Nat) (xs : List Value), k ≤ l.length ∧ iv = .int .i64 k ∧ wr.ownsRow w1.heap.size 28 4 (.slice a l.length cap) l.length xs ∧ EncT wr xs (ser l k) ∧ Up w wr) (fun iv _ => l.length - (intOf iv).toNat)
  case atStart => exact ⟨0, xs, by omega, rfl, hown, by rw [ser_zero]; exact henc, hu2⟩
  case round =>
    obtain ⟨k, xs, hk, rfl, hown, henc, hu⟩ := hrel
    by_cases hlt : k < l.length
    · obtain ⟨g, cap', hs, hg, hty⟩ := own_shape hown (by omega)
      simp only [Value.slice.injEq, true_and] at hs
      obtain ⟨rfl, rfl⟩ := hs
      have hsl := ser_length l k
      obtain ⟨rv, wv, x0, x1, x2, x3, z5, z6⟩ := henc.2 k (by omega)
      obtain ⟨s0, c0⟩ : ∃ s0 : Int, wr.cell? ⟨g, k * 4, none⟩ = some (.int .i64 s0) := ⟨_, (hown.cellAt (k * 4) (by omega)).trans x0⟩
      have c1 := (hown.cellAt (k * 4 + 1) (by omega)).trans x1
      have f0 := hown.frozenAt (k * 4)
      rw [ser_commit, (HD.out k hlt).1] at c1
      obtain ⟨hown', hgr⟩ := hown.stored (k * 4) (.int .i64 (3 * ((k : Int) + 1) - 3))
      have henc' := henc.setStart k (by omega) (3 * ((k : Int) + 1) - 3)
      have ES := ser_succ l k hlt
      rw [(HD.out k hlt).1] at ES
      rw [← ES] at henc'
      have henc2 := henc'.upE (UpE.of_grown hgr (fun j hj => by cases hj; exact hty))
      have HO := Lib.hid hown'; have HN := Lib.hid henc2
      have hsz : w.heap.size ≤ g := by have := u1.size; omega
      clear z5 z6 henc hown henc' henc2 hown' hgr ES x0 x1 x2 x3 hsl
      go_wp2
      go_roundw
      case rel => exact ⟨k + 1, _, by omega, by go_num, HO.out, HN.out, hu.set hsz _ _ _⟩
      case measure => simp [intOf]; omega
    · obtain rfl : k = l.length := by omega
      have ET := Lib.hid (henc.txs (l := ser l l.length) (base := w1.heap.size) (v := .slice a l.length cap) (by rw [ser_length]; exact hown))
      have EL := Lib.hid (ser_length l l.length)
      go_wp2_with (first
        | (go_at_call 13; refine (admit_any _ (ser l l.length) _ ET.out (ser_valid HD.out hl20)).mono ?_; rintro e w4 ⟨g, rfl, hg, hb, u4⟩; rw [ser_admit HD.out] at hb; rw [EL.out]; have hu4 := Up.trans hu u4)
        | (go_at_call 14; refine (containsB_any _ (List.replicate l.length true) false _ (by have h := bv_arr hb (by simp; omega); simpa using h)).mono ?_; rintro e w5 ⟨rfl, rfl⟩; rw [any_false_replicate]))
      go_ret
      exact ⟨rfl, hu4⟩
end Go.Proofs.Ytfpegnlmpicekaa.C
