/- The write-ahead log in plain words; how it lies in memory; numbers as bytes. -/
import Derived.Test.YtmaeeidaegigcaaDkg
import Derived.Test.YtmaeeidaegigcaaSl
import Derived.Laws.BitsAllLaws
namespace Go.Proofs.Ytmaeeidaegigcaa.Wl
open Go Go.RowKit Hp
open Dk (Dsk DiskR bc DOk)
set_option linter.unusedVariables false

/-! ### In plain words -/
structure Log where
  dsk : Dsk
  hd : Nat
  inc : Nat
  st : Nat
  dat : List Int
  ends : List Nat
/-- Big-endian. -/
def be32 (n : Nat) : List Int := [(n : Int) / 16777216, (n : Int) / 65536 % 256, (n : Int) / 256 % 256, (n : Int) % 256]
theorem be32_len (n : Nat) : (be32 n).length = 4 := rfl
theorem bc_app (a b : List Int) : bc (a ++ b) = bc a ++ bc b := List.map_append
theorem Try.info8 : (Try.prog.info? 5).map (fun i => (i.zero, i.size, i.bytes)) = some (some (.int .u8 0), 1, 1) := by kernel_rfl
theorem grown_up {a b c : World} {row : Option Nat} (h : Up a b) (k : b.grownBy c row) : a.grownBy c row :=
  ⟨k.os.trans h.os, k.tape.trans h.tape, k.output.trans h.output, Nat.le_trans h.size k.size, fun i hi hn => (k.block i (Nat.lt_of_lt_of_le hi h.size) hn).trans (h.block i hi)⟩
theorem cells4 (w : World) (a b c d : Value) (E : TypeId) (g : Nat) (hg : w.heap.size = g) : ∀ (j : Nat) u, [a, b, c, d][j]? = some u → (w.alloc (.cells #[a, b, c, d] E)).cell? ((⟨g, 0, none⟩ : Addr).add j) = some u := by
  subst hg
  exact cells_new w #[a, b, c, d] E
set_option maxRecDepth 100000 in
set_option maxHeartbeats 2000000 in
theorem app32_any (v : Value) (l : List Int) (n B : Nat) (w : World) (h : w.ownsRow B 5 1 v l.length (bc l)) (hB : B ≤ w.heap.size) (hn : n < 4294967296) (hl : l.length ≤ 100000) :
    Calls Try.prog 64 #[v, .int .i64 (n : Int)] w fun e w' => ∃ g c, e = .returned (.slice (some ⟨g, 0, none⟩) (l.length + 4) c) ∧ w'.ownsRow B 5 1 (.slice (some ⟨g, 0, none⟩) (l.length + 4) c) (l.length + 4) (bc (l ++ be32 n)) ∧ w.grownBy w' v.ownBlock ∧ (v.ownBlock = some g ∨ w.heap.size ≤ g) := by
  obtain ⟨i1, hi1, hz3, hz4, hz5⟩ := info_parts Try.info8
  have HO := Lib.hid h
  obtain ⟨va, vc, rfl, hvc1, hvc2, _⟩ := own_form h
  clear h
  go_enter Try.func64, Try.ntmps64
  go_wp2_with (first
    | (at_builtin; refine wpList_append_lies _ rfl (.tmp 5) (.tmp 17) 28 rfl B 5 i1 (.int .u8 0) 1 1 Try.underlying28 hi1 hz3 hz4 hz5 rfl (by decide) (.slice va l.length vc) l.length (bc l) rfl (own_up HO.out ((Up.refl _).alloc _)) ⟨w.heap.size, 0, none⟩ 4 4 (bc (be32 n)) rfl rfl (cells4 _ _ _ _ _ _ _ rfl) (Dk.bc_one _) (by decide) (by unfold maxLen; omega) (by omega) (Nat.le_trans hB ((Up.refl _).alloc _).size) _ rfl ?_
       intro g9 c9 w9 hown9 hgrow9 hat9 hlt9
       have HO9 := Lib.hid hown9
       have HG9 := Lib.hid hgrow9
       have HA9 := Lib.hid hat9
       clear hown9 hgrow9 hat9)
    | fail)
  go_ret
  have hz : w.heap.size ≤ (w.alloc (.cells #[.int .u8 ((n : Int) / 16777216), .int .u8 ((n : Int) / 65536 % 256), .int .u8 ((n : Int) / 256 % 256), .int .u8 ((n : Int) % 256)] 5)).heap.size := ((Up.refl w).alloc _).size
  exact ⟨g9, c9, rfl, by rw [bc_app]; exact HO9.out, grown_up ((Up.refl w).alloc _) HG9.out, HA9.out.imp id fun e => by rw [e]; exact hz⟩
theorem i64_or_sum (a b k : Nat) (hb : b < 2 ^ k) (hs : 2 ^ k * a + b < 9223372036854775808) : bits .or .i64 ((2 ^ k * a : Nat) : Int) (b : Int) = ((2 ^ k * a + b : Nat) : Int) := by
  have h := Nat.two_pow_add_eq_or_of_lt hb a
  show IntKind.i64.wrap ((BitVec.ofInt 64 ((2 ^ k * a : Nat) : Int) ||| BitVec.ofInt 64 (b : Int)).toNat : Int) = _
  rw [BitVec.toNat_or, ofInt_u64 _ (by omega), ofInt_u64 b (by omega), ← h]
  have hx : ((2 ^ k * a + b : Nat) : Int) < 9223372036854775808 := by omega
  have h0 : 0 ≤ ((2 ^ k * a + b : Nat) : Int) := Int.natCast_nonneg _
  clear h hb hs
  generalize ((2 ^ k * a + b : Nat) : Int) = x at *
  simp [IntKind.wrap, IntKind.bits, IntKind.signed]
  split <;> omega
/-- What four bytes say. -/
def un32 (l : List Int) : Int := l.getD 0 0 * 16777216 + l.getD 1 0 * 65536 + l.getD 2 0 * 256 + l.getD 3 0
def IsB (l : List Int) : Prop := ∀ x ∈ l, 0 ≤ x ∧ x < 256
set_option maxRecDepth 100000 in
set_option maxHeartbeats 2000000 in
theorem at32_any (v : Value) (n : Nat) (l : List Int) (w : World) (h : Src w 1 v n (bc l)) (hl : 4 ≤ l.length) (hb : IsB l) :
    Calls Try.prog 49 #[v] w fun e w' => e = .returned (.int .i64 (un32 l)) ∧ Up w w' := by
  obtain ⟨x0, x1, x2, x3, l', rfl⟩ : ∃ x0 x1 x2 x3 l', l = x0 :: x1 :: x2 :: x3 :: l' := by
    match l, hl with
    | x0 :: x1 :: x2 :: x3 :: l', _ => exact ⟨_, _, _, _, _, rfl⟩
  have b0 := hb x0 (by simp)
  have b1 := hb x1 (by simp)
  have b2 := hb x2 (by simp)
  have b3 := hb x3 (by simp)
  obtain ⟨hx, h⟩ := h
  simp at hx
  rcases h with ⟨rfl, rfl⟩ | ⟨b, off, cap, rfl, hc1, hc2, hc3⟩
  · omega
  have a0 := hc3 0 (.int .u8 x0) rfl
  have a1 := (hc3 1 (.int .u8 x1) rfl).2
  have a2 := (hc3 2 (.int .u8 x2) rfl).2
  have a3 := (hc3 3 (.int .u8 x3) rfl).2
  have hlt := a0.1
  have a0 := a0.2
  rw [Nat.add_zero] at a0
  have hn0 : (0 : Int) < n := by omega
  have hn1 : (1 : Int) < n := by omega
  have hn2 : (2 : Int) < n := by omega
  have hn3 : (3 : Int) < n := by omega
  clear hc3
  go_enter Try.func49, Try.ntmps49
  go_wp2
  refine wp_region_gr (by kernel_rfl) (by kernel_rfl) ?_
  repeat (go_big_quiet_step (fail))
  refine wpQuiet_nil ?_
  intro _ hw'
  obtain ⟨g, rfl⟩ := hw'
  obtain ⟨n0, rfl⟩ := Int.eq_ofNat_of_zero_le b0.1
  obtain ⟨n1, rfl⟩ := Int.eq_ofNat_of_zero_le b1.1
  obtain ⟨n2, rfl⟩ := Int.eq_ofNat_of_zero_le b2.1
  obtain ⟨n3, rfl⟩ := Int.eq_ofNat_of_zero_le b3.1
  have s1 := i64_or_sum n0 (n1 * 65536) 24 (by omega) (by omega)
  have s2 := i64_or_sum (n0 * 256 + n1) (n2 * 256) 16 (by omega) (by omega)
  have s3 := i64_or_sum (n0 * 65536 + n1 * 256 + n2) n3 8 (by omega) (by omega)
  rw [show ((2 ^ 24 * n0 : Nat) : Int) = (n0 : Int) * 16777216 by omega, show ((n1 * 65536 : Nat) : Int) = (n1 : Int) * 65536 by omega] at s1
  rw [show ((2 ^ 16 * (n0 * 256 + n1) : Nat) : Int) = ((2 ^ 24 * n0 + n1 * 65536 : Nat) : Int) by omega, show ((n2 * 256 : Nat) : Int) = (n2 : Int) * 256 by omega] at s2
  rw [show ((2 ^ 8 * (n0 * 65536 + n1 * 256 + n2) : Nat) : Int) = ((2 ^ 16 * (n0 * 256 + n1) + n2 * 256 : Nat) : Int) by omega] at s3
  have HS : bits BinOp.or IntKind.i64 (bits BinOp.or IntKind.i64 (bits BinOp.or IntKind.i64 ((n0 : Int) * 16777216) ((n1 : Int) * 65536)) ((n2 : Int) * 256)) (n3 : Int) = un32 ((n0 : Int) :: (n1 : Int) :: (n2 : Int) :: (n3 : Int) :: l') := by
    rw [s1, s2, s3]
    simp [un32]
    omega
  go_wp2
  go_ret
  exact ⟨by rw [HS]; rfl, gr_up w g⟩
end Go.Proofs.Ytmaeeidaegigcaa.Wl
