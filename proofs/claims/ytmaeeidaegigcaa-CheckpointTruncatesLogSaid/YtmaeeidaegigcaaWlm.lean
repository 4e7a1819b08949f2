/- walWorks. -/
import Derived.Test.YtmaeeidaegigcaaWll
namespace Go.Proofs.Ytmaeeidaegigcaa.Wl
open Go Go.RowKit Hp
open Dk (Dsk DiskR bc DOk Bytes)
set_option linter.unusedVariables false

def ww0 : Log := (newL 6).head
def ww1 : Log := ww0.app [7, 8]
def ww2 : Log := { ww1 with dsk := ww1.dsk.flush }
def ww3 : Log := ww2.crash []
theorem ww_full : ww0.full 2 = false := by kernel_rfl
theorem ww_num : decide (ww0.dsk.dur.length = 6 ∧ ww0.st + ww0.dat.length = 0 ∧ ww0.inc = 0 ∧ ww0.dsk.pend.length ≤ 1000 ∧ ww0.ends.length = 0 ∧ ww2.dsk.dur.length = 6) = true := by kernel_rfl
theorem ww_bytes0 : ((List.range 6).all fun s => ((ww2.dsk.crash []).read s).all fun x => decide (0 ≤ x ∧ x < 256)) = true := by kernel_rfl
theorem ww_bytes : ∀ s, s < 6 → IsB ((ww2.dsk.crash []).read s) := fun s hs x hx => by
  have h1 := List.all_eq_true.1 ww_bytes0 s (List.mem_range.2 hs)
  exact of_decide_eq_true (List.all_eq_true.1 h1 x hx)
theorem ww_head : decide (un32 ((hdrOf (ww2.dsk.crash [])).drop 4) ≤ 10000000 ∧ un32 (hdrOf (ww2.dsk.crash [])) + 1 < 4294967296 ∧ un32 ((hdrOf (ww2.dsk.crash [])).drop 8) + 1 < 4294967296) = true := by kernel_rfl
theorem ww_end : decide (ww3.recs = [[7, 8]] ∧ ww3.dat.length = 4 ∧ ww3.ends = [4]) = true := by kernel_rfl
theorem post_up {p : Nat} {L : Log} {F : Nat → Prop} {w w1 w2 : World} (h : LogPost p L F w1 w2) (hF : ∀ k, F k → w.heap.size ≤ k) (hu : Up w w1) : Up w w2 :=
  (((Below.chg F hu).trans h.2 fun _ _ e => e).up fun k hk e => by have := hF k e; omega)
set_option maxRecDepth 100000 in
set_option maxHeartbeats 2000000 in
theorem works_any (w : World) : Calls Try.prog 21 #[] w fun e w' => e = .returned (.bool true) ∧ Up w w' := by
  have hn := of_decide_eq_true ww_num
  obtain ⟨n1, n2, n3, n4, n5, n6⟩ := hn
  obtain ⟨m1, m2, m3⟩ := of_decide_eq_true ww_head
  obtain ⟨e1, e2, e3⟩ := of_decide_eq_true ww_end
  have NEW := Lib.hid (new_any 6 w (by decide) (by decide))
  have APP : Hid (∀ p F g W, LogR W p ww0 F → Blk W g [.int .u8 7, .int .u8 8] 5 → ¬ F g → Calls Try.prog 24 #[.pointer (some ⟨p, 0, none⟩), .slice (some ⟨g, 0, none⟩) 2 2] W fun e w' => e = .returned (.int .i64 0) ∧ LogPost p ww1 F W w') := by
    intro p F g W hR hb hg
    have h := append_any p ww0 F (.slice (some ⟨g, 0, none⟩) 2 2) [7, 8] W hR (Dk.bytes_own (base := 0) (own_base' (own_of_blk (n := 2) hb rfl (by decide)) fun _ _ => Nat.zero_le _)) (fun a n c e => by cases e; exact hg) (by rw [n1]; decide) (by rw [n1]; decide) (by rw [n2]; decide) (by rw [n3]; decide) n4 (by decide) (by rw [n5]; decide)
    refine h.mono fun e w' hh => ?_
    rw [show ([7, 8] : List Int).length = 2 from rfl, ww_full] at hh
    exact hh
  have CRA : Hid (∀ p F W, LogR W p ww2 F → Calls Try.prog 28 #[.pointer (some ⟨p, 0, none⟩), .slice none 0 0] W fun e w' => e = .returned (.int .i64 0) ∧ LogPost p ww3 F W w') := by
    intro p F W hR
    exact crash_any p ww2 F [] (.slice none 0 0) W hR ⟨none, 0, rfl, Nat.le_refl _, by decide, fun _ => rfl, fun i hi => absurd hi (Nat.not_lt_zero _)⟩ (fun _ a n c e => by cases e) (by rw [n6]; decide) (by rw [n6]; decide) (by rw [n6]; exact ww_bytes) m1 m2 m3
  have REC : Hid (∀ p F W, LogR W p ww3 F → Calls Try.prog 26 #[.pointer (some ⟨p, 0, none⟩)] W fun e w' => ∃ v, e = .returned v ∧ RecP w' W.heap.size v [[7, 8]] ∧ Up W w') := by
    intro p F W hR
    have h := recs_any p ww3 F W hR (by rw [e2, e3]; exact ⟨by decide, by decide, trivial⟩) (by rw [e3]; decide) (by rw [e2]; decide)
    rw [e1] at h
    exact h
  clear n1 n2 n3 n4 n5 n6 m1 m2 m3 e1 e2 e3
  go_enter Try.func21, Try.ntmps21
  go_wp2_with (first
    | (go_at_call 22; refine NEW.out.mono ?_; rintro e w1 ⟨p, F, rfl, hR, hF, hu⟩; have R1 : Hid (LogR w1 p ww0 F) := hR; have F1 := Lib.hid hF; have U1 := Lib.hid hu; clear hR hF hu)
    | (go_at_call 24; refine (APP.out p F _ _ (R1.out.up ((Up.refl _).alloc _)) (Blk.new _ _ _) (fun e => by have := R1.out.lt _ e; omega)).mono ?_; rintro e w2 ⟨rfl, h2⟩; have P2 := Lib.hid (LogPost.behind ((Up.refl w1).alloc _) h2 R1.out.lt); clear h2)
    | (go_at_call 27; refine (sync_any p ww1 _ _ P2.out.1).mono ?_; rintro e w3 ⟨rfl, h3⟩; have P3 : Hid (LogPost p ww2 F w1 w3) := P2.out.trans h3 R1.out.lt; clear h3)
    | (go_at_call 28; refine (CRA.out p _ _ P3.out.1).mono ?_; rintro e w4 ⟨rfl, h4⟩; have P4 : Hid (LogPost p ww3 F w1 w4) := P3.out.trans h4 R1.out.lt; clear h4)
    | (go_at_call 26; refine (REC.out p _ _ P4.out.1).mono ?_; rintro e w5 ⟨v, rfl, hr, hu⟩; have U5 : Hid (Up w w5) := (post_up P4.out F1.out U1.out).trans hu; have RB := Lib.hid hr.bs; obtain ⟨ra, rc, rfl, hrc, hra⟩ := bs_form hr.bs; obtain ⟨rb, ro, rfl⟩ := hra 0 (by decide); obtain ⟨x, x1, x2, x3⟩ := bs_at hr.bs 0 (by decide); have X3 := Lib.hid x3; rw [Nat.add_zero] at x1; clear hr hu x3 hra)
    | (go_at_call 18; refine (Dk.equalB_same _ _ [7, 8] _ (bytes_up X3.out ((Up.refl _).alloc _)) (Dk.bytes_own (base := 0) (own_base' (own_of_blk (n := 2) (Blk.new w5 #[.int .u8 7, .int .u8 8] 5) rfl (by decide)) fun _ _ => Nat.zero_le _))).mono ?_; rintro e w6 ⟨rfl, rfl⟩)
    | fail)
  go_ret
  exact ⟨rfl, U5.out.alloc _⟩
end Go.Proofs.Ytmaeeidaegigcaa.Wl
