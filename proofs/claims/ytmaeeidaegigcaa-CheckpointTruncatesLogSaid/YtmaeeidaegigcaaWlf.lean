/- The write-ahead log: Sync, New. -/
import Derived.Test.YtmaeeidaegigcaaWle
namespace Go.Proofs.Ytmaeeidaegigcaa.Wl
open Go Go.RowKit Hp
open Dk (Dsk DiskR bc DOk Bytes)
set_option linter.unusedVariables false

theorem sync_any (p : Nat) (L : Log) (F : Nat → Prop) (w : World) (h : LogR w p L F) :
    Calls Try.prog 27 #[.pointer (some ⟨p, 0, none⟩)] w fun e w' => e = .returned (.int .i64 0) ∧ LogPost p { L with dsk := L.dsk.flush } F w w' := by
  have HLT := Lib.hid h.lt
  obtain ⟨q, G, dv, ev, hP⟩ := h
  have c0 := (hP.blk.at (i := 0) rfl).2
  have hpl := hP.blk.lt
  have P0 := Lib.hid (hP.fx0 (Chg.refl F w) HLT.out)
  clear hP
  go_enter Try.func27, Try.ntmps27
  go_wp2_with (first
    | (go_at_call 16; refine (Dk.flush_any q _ _ _ P0.out.dk).mono ?_; rintro e w8 ⟨rfl, h1, h2⟩; have P8 := Lib.hid (P0.out.flow (Chg.refl F w) h1 h2 HLT.out); clear h1 h2)
    | fail)
  go_ret
  exact ⟨rfl, ⟨_, _, _, _, P8.out.1⟩, P8.out.2⟩
def Log.head (L : Log) : Log := { L with hd := L.hd + 1, dsk := (L.dsk.flush.write ((L.hd + 1) % 2) (be32 (L.hd + 1) ++ be32 L.st ++ be32 L.inc)).flush }
def newL (n : Nat) : Log := ⟨Dsk.new n, 0, 0, 0, [], []⟩
theorem made_log (n : Nat) (w w1 : World) (q : Nat) (hd : DiskR w1 q (Dsk.new n) fun k => w.heap.size ≤ k ∧ k < w1.heap.size) (hu : Up w w1) :
    LogR (w1.alloc (.cells #[.pointer (some ⟨q, 0, none⟩), .int .i64 0, .int .i64 0, .int .i64 0, .slice none 0 0, .slice none 0 0] 83)) w1.heap.size (newL n) (fun k => w.heap.size ≤ k ∧ k < (w1.alloc (.cells #[.pointer (some ⟨q, 0, none⟩), .int .i64 0, .int .i64 0, .int .i64 0, .slice none 0 0, .slice none 0 0] 83)).heap.size) := by
  have hs := (Up.refl w1).alloc (.cells #[.pointer (some ⟨q, 0, none⟩), .int .i64 0, .int .i64 0, .int .i64 0, .slice none 0 0, .slice none 0 0] 83)
  have hb := Blk.new w1 #[.pointer (some ⟨q, 0, none⟩), .int .i64 0, .int .i64 0, .int .i64 0, .slice none 0 0, .slice none 0 0] 83
  have hz := hs.size
  exact ⟨q, fun k => w.heap.size ≤ k ∧ k < w1.heap.size, .slice none 0 0, .slice none 0 0, fun k hk => hk.2, ⟨hu.size, hb.lt⟩, hb, hd.up hs, fun k hk => ⟨hk.1, by omega⟩, fun e => by have := e.2; omega, World.ownsRow_nil _ _ _ _, fun k hk => (by cases hk), World.ownsRow_nil _ _ _ _, fun k hk => (by cases hk)⟩
set_option maxRecDepth 100000 in
set_option maxHeartbeats 2000000 in
theorem new_any (n : Nat) (w : World) (h1 : 4 ≤ n) (h2 : n ≤ 256) :
    Calls Try.prog 22 #[.int .i64 (n : Int)] w fun e w' => ∃ p F, e = .returned (.tuple #[.pointer (some ⟨p, 0, none⟩), .int .i64 0]) ∧ LogR w' p (newL n).head F ∧ (∀ k, F k → w.heap.size ≤ k) ∧ Up w w' := by
  have d1 : ¬ (n : Int) < 4 := by omega
  have d2 : ¬ (256 : Int) < (n : Int) := by omega
  go_enter Try.func22, Try.ntmps22
  go_wp2_with (first
    | (go_at_call 13; refine (Dk.new_any n _ (by omega) h2).mono ?_; rintro e w1 ⟨q, rfl, hd, hu⟩; have D1 := Lib.hid hd; have U1 := Lib.hid hu; have HL := Lib.hid (made_log n w w1 q D1.out U1.out); clear hd hu)
    | (go_at_call 44; refine (header_any w1.heap.size (newL n) _ _ HL.out (by show 2 ≤ (List.replicate n (List.replicate 32 0)).length; rw [List.length_replicate]; omega) (by show 0 + 1 < 4294967296; decide) (by show 0 < 4294967296; decide) (by show 0 < 4294967296; decide)).mono ?_; rintro e w3 ⟨rfl, h3⟩; have H3 := Lib.hid h3; clear h3)
    | fail)
  go_ret2
  refine ⟨_, _, rfl, H3.out.1, fun k hk => ?_, ?_⟩
  · rcases hk with e | e
    · exact e.1
    · have := U1.out.size; have := ((Up.refl w1).alloc (.cells #[.pointer (some ⟨q, 0, none⟩), .int .i64 0, .int .i64 0, .int .i64 0, .slice none 0 0, .slice none 0 0] 83)).size; omega
  · have U2 := U1.out.alloc (.cells #[.pointer (some ⟨q, 0, none⟩), .int .i64 0, .int .i64 0, .int .i64 0, .slice none 0 0, .slice none 0 0] 83)
    exact ((Below.chg (fun k => w.heap.size ≤ k ∧ k < (w1.alloc (.cells #[.pointer (some ⟨q, 0, none⟩), .int .i64 0, .int .i64 0, .int .i64 0, .slice none 0 0, .slice none 0 0] 83)).heap.size) U2).trans H3.out.2 fun _ _ e => e).up fun k hk e => by have := e.1; omega
end Go.Proofs.Ytmaeeidaegigcaa.Wl
