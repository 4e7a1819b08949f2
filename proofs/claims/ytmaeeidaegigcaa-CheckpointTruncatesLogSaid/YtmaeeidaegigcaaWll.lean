/- Lists of records compared; scribble. -/
import Derived.Test.YtmaeeidaegigcaaWlk
namespace Go.Proofs.Ytmaeeidaegigcaa.Wl
open Go Go.RowKit Hp
open Dk (Dsk DiskR bc DOk Bytes)
set_option linter.unusedVariables false

/-- A slice of records, each readable. -/
def BsR (w : World) (v : Value) (rs : List (List Int)) : Prop :=
  ∃ xs, Dk.Src w 1 v rs.length xs ∧ ∀ i (h : i < rs.length), ∃ x, xs[i]? = some x ∧ Bytes w x rs[i]
theorem bytes_up {w w' : World} {v : Value} {l : List Int} (h : Bytes w v l) (hu : Up w w') : Bytes w' v l := by
  obtain ⟨a, cap, hv, h1, h2, h3, h4⟩ := h
  exact ⟨a, cap, hv, h1, h2, h3, fun i hi => by obtain ⟨b, off, e, hr⟩ := h4 i hi; exact ⟨b, off, e, hr.grow hu⟩⟩
theorem BsR.up {w w' : World} {v : Value} {rs : List (List Int)} (h : BsR w v rs) (hu : Up w w') : BsR w' v rs := by
  obtain ⟨xs, h1, h2⟩ := h
  exact ⟨xs, h1.up hu, fun i hi => by obtain ⟨x, a, b⟩ := h2 i hi; exact ⟨x, a, bytes_up b hu⟩⟩
theorem RecP.bs {w : World} {B : Nat} {v : Value} {rs : List (List Int)} (h : RecP w B v rs) : BsR w v rs := by
  obtain ⟨xs, h1, h2⟩ := h
  exact ⟨xs, Dk.own_src h1, fun i hi => by obtain ⟨x, a, b⟩ := h2.2 i hi; exact ⟨x, a, Dk.bytes_own b⟩⟩
theorem bs_form {w : World} {v : Value} {rs : List (List Int)} (h : BsR w v rs) : ∃ a c, v = .slice a rs.length c ∧ rs.length ≤ c ∧ ∀ k (hk : k < rs.length), ∃ b off, a = some ⟨b, off, none⟩ := by
  obtain ⟨xs, ⟨hx, h1⟩, h2⟩ := h
  rcases h1 with ⟨rfl, h0⟩ | ⟨b, off, cap, rfl, hc, _, _⟩
  · exact ⟨none, 0, by rw [h0], by omega, fun k hk => by omega⟩
  · exact ⟨_, _, rfl, hc, fun k hk => ⟨b, off, rfl⟩⟩
theorem bs_at {w : World} {b off c : Nat} {rs : List (List Int)} (h : BsR w (.slice (some ⟨b, off, none⟩) rs.length c) rs) (k : Nat) (hk : k < rs.length) : ∃ x, w.cell? ⟨b, off + k, none⟩ = some x ∧ b < w.heap.size ∧ Bytes w x rs[k] := by
  obtain ⟨xs, ⟨hx, h1⟩, h2⟩ := h
  obtain ⟨x, hx1, hx2⟩ := h2 k hk
  rcases h1 with ⟨e, h0⟩ | ⟨b', off', cap, e, hc, _, h3⟩
  · cases e
  · cases e
    have := h3 k x hx1
    exact ⟨x, this.2, this.1, hx2⟩
set_option maxRecDepth 100000 in
set_option maxHeartbeats 2000000 in
theorem eqf_any (v v' : Value) (rs : List (List Int)) (w : World) (h : BsR w v rs) (h' : BsR w v' rs) (hl : rs.length ≤ 1000000) :
    Calls Try.prog 29 #[v, v', .func (.func 18) #[] #[]] w fun e w' => e = .returned (.bool true) ∧ Up w w' := by
  obtain ⟨a, c, rfl, hc1, ha⟩ := bs_form h
  obtain ⟨a', c', rfl, hc1', ha'⟩ := bs_form h'
  have H := Lib.hid h
  have H' := Lib.hid h'
  obtain ⟨n, hn⟩ : ∃ n, n = rs.length := ⟨_, rfl⟩
  have HA := Lib.hid ha
  have HA' := Lib.hid ha'
  have HN := Lib.hid hn
  rw [← hn] at hl
  clear h h' ha ha'
  have hne : ((n : Int) != (n : Int)) = false := by simp
  rw [← hn]
  clear hn
  go_enter Try.func29, Try.ntmps29
  go_wp2
  go_loopw [17] (fun iv wr => ∃ k : Nat, k ≤ n ∧ iv = .int .i64 k ∧ Hid (Up w wr)) (fun iv _ => n - (intOf iv).toNat)
  case atStart => exact ⟨0, by omega, rfl, Up.refl _⟩
  case round =>
    obtain ⟨k, hk, rfl, HU⟩ := hrel
    by_cases hlt : k < n
    · have hlt2 : k < rs.length := by rw [← HN.out]; exact hlt
      obtain ⟨b, off, rfl⟩ := HA.out k hlt2
      obtain ⟨b', off', rfl⟩ := HA'.out k hlt2
      obtain ⟨x, x1, x2, x3⟩ := bs_at (H.out.up HU.out) k hlt2
      obtain ⟨x', x1', x2', x3'⟩ := bs_at (H'.out.up HU.out) k hlt2
      have HB := Lib.hid (Dk.equalB_same x x' rs[k] wr x3 x3')
      have hlk : (k : Int) < (n : Int) := by omega
      obtain ⟨ax, cx, rfl, _⟩ := x3
      obtain ⟨ax', cx', rfl, _⟩ := x3'
      go_wp2_with (first
        | (go_at_call 18; refine HB.out.mono ?_; rintro e w1 ⟨rfl, rfl⟩)
        | fail)
      go_roundw
      case rel => exact ⟨k + 1, hlt, by go_num, HU.out⟩
      case measure => simp [intOf]; omega
    · obtain rfl : k = n := by omega
      have hlk : ¬ (k : Int) < (k : Int) := by omega
      go_wp2
      go_ret
      exact ⟨rfl, HU.out⟩
set_option maxRecDepth 100000 in
set_option maxHeartbeats 2000000 in
theorem scribble_any (g n c : Nat) (cs : List Value) (x : Int) (w : World) (h : Blk w g cs 5) (hc : c ≤ cs.length) (hn : n ≤ c) (hc2 : c ≤ 9223372036854775807) :
    Calls Try.prog 25 #[.slice (some ⟨g, 0, none⟩) n c, .int .u8 x] w fun e w' => e = .returned (.tuple #[]) ∧ Chg (· = g) w w' ∧ ∃ ds, ds.length = cs.length ∧ Blk w' g ds 5 := by
  have HB := Lib.hid h
  clear h
  have hci : (n : Int) ≤ (c : Int) := by omega
  have hz : c = 0 ∨ 0 < c := by omega
  go_enter Try.func25, Try.ntmps25
  go_wp2
  go_loopw [11] (fun iv wr => ∃ k : Nat, k ≤ c ∧ iv = .int .i64 k ∧ Hid (∃ ds, ds.length = cs.length ∧ Blk wr g ds 5) ∧ Hid (Chg (· = g) w wr)) (fun iv _ => c - (intOf iv).toNat)
  case atStart => exact ⟨0, by omega, rfl, ⟨cs, rfl, HB.out⟩, Chg.refl _ _⟩
  case round =>
    obtain ⟨k, hk, rfl, HD, HC⟩ := hrel
    by_cases hlt : k < c
    · obtain ⟨ds, hdl, hb⟩ := HD.out
      have hlk : (k : Int) < (c : Int) := by omega
      have x1 := hb.cell k
      have x2 := hb.free k
      have x3 := hb.lt
      obtain ⟨y, hy⟩ : ∃ y, ds[k]? = some y := ⟨_, List.getElem?_eq_getElem (by omega)⟩
      rw [hy] at x1
      have B2 : Hid (∃ ds, ds.length = cs.length ∧ Blk (wr.setCell ⟨g, k, none⟩ (.int .u8 x)) g ds 5) := ⟨ds.set k (.int .u8 x), by rw [List.length_set]; exact hdl, hb.set k _⟩
      have C2 : Hid (Chg (· = g) w (wr.setCell ⟨g, k, none⟩ (.int .u8 x))) := HC.out.trans (chg_set wr g k none _) fun _ _ e => e
      clear hy hdl hb
      go_wp2
      go_roundw
      case rel => exact ⟨k + 1, hlt, by go_num, B2.out, C2.out⟩
      case measure => simp [intOf]; omega
    · obtain rfl : k = c := by omega
      have hlk : ¬ (k : Int) < (k : Int) := by omega
      go_wp2
      go_end0
      exact ⟨rfl, HC.out, HD.out⟩
end Go.Proofs.Ytmaeeidaegigcaa.Wl
