/- bits.Mul and bytes.Repeat at one byte; Record. -/
import Derived.Test.YtmaeeidaegigcaaWlj
import Derived.Lib.MakeNoZero
namespace Go.Proofs.Ytmaeeidaegigcaa.Wl
open Go Go.RowKit Hp
open Dk (Dsk DiskR bc DOk Bytes)
set_option linter.unusedVariables false

theorem u64_and_mask (n : Nat) (h : n < 4294967296) : bits .and .u64 (n : Int) 4294967295 = (n : Int) := by
  show IntKind.u64.wrap ((BitVec.ofInt 64 (n : Int) &&& BitVec.ofInt 64 4294967295).toNat : Int) = _
  rw [BitVec.toNat_and, ofInt_u64 n (by omega)]
  rw [show (BitVec.ofInt 64 4294967295).toNat = 2 ^ 32 - 1 by decide, Nat.and_two_pow_sub_one_eq_mod, Nat.mod_eq_of_lt (by omega)]
  simp [IntKind.wrap, IntKind.bits, IntKind.signed]
  omega
set_option maxRecDepth 100000 in
set_option maxHeartbeats 1000000 in
theorem mul64_any (n : Nat) (w : World) (h : n ≤ 1000) :
    Calls Try.prog 74 #[.int .u64 1, .int .u64 (n : Int)] w fun e w' => e = .returned (.tuple #[.int .u64 0, .int .u64 (n : Int)]) ∧ w = w' := by
  have h1 := u64_and_mask n (by omega)
  have h2 : bits .and .u64 1 4294967295 = 1 := u64_and_mask 1 (by decide)
  have h3 : bits .and .u64 0 4294967295 = 0 := u64_and_mask 0 (by decide)
  have h5 : IntKind.u64.wrap (n : Int) = (n : Int) := by simp [IntKind.wrap, IntKind.bits, IntKind.signed]; omega
  have h6 : IntKind.u64.wrap 0 = 0 := by decide
  have h4 : (n : Int) / 4294967296 = 0 := by omega
  have hn : (n : Int) ≤ 1000 := by omega
  go_enter Try.func74, Try.ntmps74
  go_wp2
  go_ret2
  exact ⟨rfl, rfl⟩
set_option maxRecDepth 100000 in
set_option maxHeartbeats 1000000 in
theorem mul_any (n : Nat) (w : World) (h : n ≤ 1000) :
    Calls Try.prog 65 #[.int .u64 1, .int .u64 (n : Int)] w fun e w' => e = .returned (.tuple #[.int .u64 0, .int .u64 (n : Int)]) ∧ w = w' := by
  have hn : (n : Int) ≤ 1000 := by omega
  go_enter Try.func65, Try.ntmps65
  go_wp2_with (first
    | (go_at_call 74; refine (mul64_any n _ h).mono ?_; rintro e w1 ⟨rfl, rfl⟩)
    | fail)
  go_ret2
  exact ⟨rfl, rfl⟩
theorem up_row {w wr : World} (g : Nat) (new : Array Value) (hu : Up w wr) (hg : w.heap.size ≤ g) : Up w (wr.setRow g new) :=
  ⟨hu.os, hu.tape, hu.output, by simpa using hu.size, fun k hk => (setRow_other wr g k new (by omega)).trans (hu.block k hk)⟩
theorem Try.size8 : (Try.prog.info? 5).map (·.size) = some 1 := by kernel_rfl
/-- One copy from the row's head to its middle. -/
theorem rep_copy (x : Int) (g j m n sc dc : Nat) (c : List Value) (W : World) (hb : Blk W g (List.replicate j (Value.int .u8 x) ++ c) 5) (hm : Nat.min j (n - j) = m) (hl : m ≤ c.length) (ty : TypeId) :
    (Builtin.copy_ #[28, 28] ty #[.slice (some ⟨g, j, none⟩) (n - j) dc, .slice (some ⟨g, 0, none⟩) j sc]).run Try.prog W = .ok (goInt m) (W.setRow g ((List.replicate j (Value.int .u8 x) ++ c).take j ++ List.replicate m (Value.int .u8 x) ++ (List.replicate j (Value.int .u8 x) ++ c).drop (j + (List.replicate m (Value.int .u8 x)).length)).toArray) := by
  have hmj : m ≤ j := by rw [← hm]; exact Nat.min_le_left _ _
  refine run_copy_k W 28 28 ty 5 1 g j (n - j) dc ⟨g, 0, none⟩ j sc m (List.replicate j (Value.int .u8 x) ++ c).toArray 5 (List.replicate m (Value.int .u8 x)) Try.underlying28 Try.size8 hm (by simp) ?_ hb (by simp; omega) (fun v hv => by rw [List.eq_of_mem_replicate hv]; rfl)
  intro i v hi
  have him : i < m := by have := (List.getElem?_eq_some_iff.1 hi).1; simpa using this
  rw [Addr.add_lit]
  rw [hb.cell, Nat.zero_add, List.getElem?_append_left (by simp; omega)]
  rw [← hi]
  simp [him, show i < j by omega]
theorem rep_row (x : Int) (j m : Nat) (c : List Value) (hl : m ≤ c.length) : (List.replicate j (Value.int .u8 x) ++ c).take j ++ List.replicate m (Value.int .u8 x) ++ (List.replicate j (Value.int .u8 x) ++ c).drop (j + (List.replicate m (Value.int .u8 x)).length) = List.replicate (j + m) (Value.int .u8 x) ++ c.drop m := by
  rw [List.take_left' (by simp), List.length_replicate, List.drop_append, List.length_replicate, List.drop_eq_nil_of_le (by simp), List.nil_append, List.replicate_append_replicate, show j + m - j = m by omega]
set_option maxRecDepth 100000 in
set_option maxHeartbeats 2000000 in
theorem repeat_any (x : Int) (n : Nat) (g0 c0 : Nat) (w : World) (h : w.cell? ⟨g0, 0, none⟩ = some (.int .u8 x)) (hg0 : g0 < w.heap.size) (h1 : 1 ≤ n) (h2 : n ≤ 1000) (hc0 : 1 ≤ c0) :
    Calls Try.prog 45 #[.slice (some ⟨g0, 0, none⟩) 1 c0, .int .i64 (n : Int)] w fun e w' => ∃ g, e = .returned (.slice (some ⟨g, 0, none⟩) n n) ∧ w.heap.size ≤ g ∧ (∃ c, Blk w' g (List.replicate n (Value.int .u8 x) ++ c) 5) ∧ Up w w' := by
  have hn0 : ¬ (n : Int) = 0 := by omega
  have hn1 : ¬ (n : Int) < 0 := by omega
  have hn2 : (n : Int) ≤ 1000 := by omega
  have HM := Lib.hid (fun W => mul_any n W h2)
  obtain ⟨cs, hrunM, hle, hmax⟩ := Lib.run_makeNoZero (P := Try.prog) w #[3] 28 5 Try.underlying28 n (by omega)
  go_enter Try.func45, Try.ntmps45
  go_upto_region 16 with (first
    | (go_at_call 65; refine (HM.out _).mono ?_; rintro e w1 ⟨rfl, rfl⟩)
    | fail)
  have hcall : (callFunc 66 #[.int .i64 (n : Int)]).run Try.prog w = .ok (.value (.slice (some ⟨w.heap.size, 0, none⟩) n cs.size)) ((w.alloc (.cells cs 5)).drewN 2) := by
    rw [run_callFunc_extern Try.func66 (by kernel_rfl) (by kernel_rfl) (by kernel_rfl) (e := Extern.BytealgMakeNoZero.makeNoZero #[3] #[28]) (by kernel_rfl), hrunM]
    rfl
  clear hrunM
  have i1 : (n : Int) ≤ (cs.size : Int) := by omega
  go_upto_region 17 with fail
  have B1 : Blk ((w.alloc (.cells cs 5)).drewN 2) w.heap.size cs.toList 5 := Blk.new w cs 5
  have U1 : Up w ((w.alloc (.cells cs 5)).drewN 2) := by
    have hu := (Up.refl w).alloc (.cells cs 5)
    exact ⟨hu.os, hu.tape, hu.output, hu.size, hu.block⟩
  have H1 : ((w.alloc (.cells cs 5)).drewN 2).cell? ⟨g0, 0, none⟩ = some (.int .u8 x) := (U1.cell (p := ⟨g0, 0, none⟩) hg0).trans h
  clear hcall
  generalize (w.alloc (.cells cs 5)).drewN 2 = w1 at *
  obtain ⟨G, hG⟩ : ∃ G, G = w.heap.size := ⟨_, rfl⟩
  rw [← hG] at B1 ⊢
  have hGL : w.heap.size ≤ G := by omega
  have hcl : n ≤ cs.toList.length := by simpa using hle
  have HG := Lib.hid hG
  clear hG
  have CP1 : Hid (∀ ty, (Builtin.copy_ #[28, 28] ty #[.slice (some ⟨G, 0, none⟩) n n, .slice (some ⟨g0, 0, none⟩) 1 c0]).run Try.prog w1 = .ok (goInt (1 : Nat)) (w1.setRow G (cs.toList.take 0 ++ [Value.int .u8 x] ++ cs.toList.drop (0 + 1)).toArray)) := fun ty =>
    run_copy_k w1 28 28 ty 5 1 G 0 n n ⟨g0, 0, none⟩ 1 c0 1 cs 5 [Value.int .u8 x] Try.underlying28 Try.size8 (by show min _ _ = _; omega) rfl (fun i v hi => by
      match i, hi with
      | 0, hi => cases hi; exact H1
      | i + 1, hi => simp at hi) B1 (by simp; omega) (fun v hv => by rw [List.mem_singleton.1 hv]; rfl)
  have B2 : Hid (Blk (w1.setRow G (cs.toList.take 0 ++ [Value.int .u8 x] ++ cs.toList.drop (0 + 1)).toArray) G (List.replicate 1 (Value.int .u8 x) ++ cs.toList.drop 1) 5) := setRow_at w1 G cs (cs.toList.take 0 ++ [Value.int .u8 x] ++ cs.toList.drop (0 + 1)).toArray _ B1
  have U2 : Hid (Up w (w1.setRow G (cs.toList.take 0 ++ [Value.int .u8 x] ++ cs.toList.drop (0 + 1)).toArray)) := up_row G _ U1 hGL
  obtain ⟨w2, hw2⟩ : ∃ w2, w2 = w1.setRow G (cs.toList.take 0 ++ [Value.int .u8 x] ++ cs.toList.drop (0 + 1)).toArray := ⟨_, rfl⟩
  rw [← hw2] at CP1 B2 U2
  clear hw2 B1 U1 H1
  have hcp := CP1.out 3
  go_wp2
  clear hcp
  go_loopw [10] (fun bv wr => ∃ (j : Nat) (c : List Value), 1 ≤ j ∧ j ≤ n ∧ bv = .int .i64 (j : Int) ∧ n ≤ j + c.length ∧ Hid (Blk wr G (List.replicate j (Value.int .u8 x) ++ c) 5) ∧ Hid (Up w wr)) (fun bv _ => n - (intOf bv).toNat)
  case atStart => exact ⟨1, cs.toList.drop 1, Nat.le_refl _, h1, rfl, by rw [List.length_drop]; omega, B2.out, U2.out⟩
  case round =>
    obtain ⟨j, c, hj1, hj2, rfl, hjc, BR, UR⟩ := hrel
    by_cases hlt : j < n
    · have q1 : (j : Int) < (n : Int) := by omega
      have q2 : (if (n : Int) < (j : Int) then (n : Int) else (j : Int)) = (j : Int) := by rw [if_neg (by omega)]
      have q3 : ¬ n = j := by omega
      obtain ⟨m, hm⟩ : ∃ m, m = Nat.min j (n - j) := ⟨_, rfl⟩
      have hmb : 1 ≤ m ∧ j + m ≤ n := by
        have h1 : m ≤ n - j := by rw [hm]; exact Nat.min_le_right _ _
        have h2 : m = j ∨ m = n - j := by rw [hm]; rcases Nat.le_total j (n - j) with h | h; exact .inl (Nat.min_eq_left h); exact .inr (Nat.min_eq_right h)
        omega
      have CP := Lib.hid (fun ty sc dc => rep_copy x G j m n sc dc c wr.drew BR.out.drew hm.symm (by omega) ty)
      have B3 : Hid (Blk (wr.drew.setRow G ((List.replicate j (Value.int .u8 x) ++ c).take j ++ List.replicate m (Value.int .u8 x) ++ (List.replicate j (Value.int .u8 x) ++ c).drop (j + (List.replicate m (Value.int .u8 x)).length)).toArray) G (List.replicate (j + m) (Value.int .u8 x) ++ c.drop m) 5) := by
        have h := setRow_at wr.drew G _ ((List.replicate j (Value.int .u8 x) ++ c).take j ++ List.replicate m (Value.int .u8 x) ++ (List.replicate j (Value.int .u8 x) ++ c).drop (j + (List.replicate m (Value.int .u8 x)).length)).toArray _ BR.out.drew
        rw [rep_row x j m c (by omega)] at h ⊢
        exact h
      have U3 : Hid (Up w (wr.drew.setRow G ((List.replicate j (Value.int .u8 x) ++ c).take j ++ List.replicate m (Value.int .u8 x) ++ (List.replicate j (Value.int .u8 x) ++ c).drop (j + (List.replicate m (Value.int .u8 x)).length)).toArray)) := up_row G _ UR.out.drew hGL
      obtain ⟨w3, hw3⟩ : ∃ w3, w3 = wr.drew.setRow G ((List.replicate j (Value.int .u8 x) ++ c).take j ++ List.replicate m (Value.int .u8 x) ++ (List.replicate j (Value.int .u8 x) ++ c).drop (j + (List.replicate m (Value.int .u8 x)).length)).toArray := ⟨_, rfl⟩
      rw [← hw3] at CP B3 U3
      obtain ⟨hmb1, hmb2⟩ := hmb
      clear hw3 hm
      go_wp2
      have hcp := CP.out 3 n (n - j)
      have hwr : IntKind.i64.wrap ((j : Int) + (m : Int)) = (j : Int) + (m : Int) := IntWalk.i64_in _ (by omega)
      go_region_law (fail)
      all_goals
        simp only [List.getElem_toArray, List.getElem_cons_succ, List.getElem_cons_zero, Act.put, List.setIfInBounds_toArray, List.set_cons_zero, List.set_cons_succ]
        go_wp2
        go_roundw
        case rel => exact ⟨j + m, c.drop m, by omega, hmb2, by go_num, by rw [List.length_drop]; omega, B3.out, U3.out⟩
        case measure => simp [intOf]; omega
    · obtain rfl : j = n := by omega
      have q1 : ¬ (j : Int) < (j : Int) := by omega
      go_wp2
      go_ret
      exact ⟨G, rfl, hGL, ⟨c, BR.out⟩, UR.out⟩
def byt (x : Int) : Int := x % 256
/-- The record of the laws. -/
def recd (i k : Int) : List Int := byt i :: List.replicate (modV k 40).toNat (byt k)
set_option maxRecDepth 100000 in
set_option maxHeartbeats 1000000 in
theorem record_any (i k : Int) (w : World) :
    Calls Try.prog 23 #[.int .i64 i, .int .i64 k] w fun e w' => ∃ g, e = .returned (.slice (some ⟨g, 0, none⟩) (recd i k).length (recd i k).length) ∧ w.heap.size ≤ g ∧ (∃ c, Blk w' g (bc (recd i k) ++ c) 5) ∧ Up w w' := by
  obtain ⟨n, hn⟩ : ∃ n : Nat, modV k 40 = (n : Int) := Int.eq_ofNat_of_zero_le (modV_nonneg k 40 (by decide))
  have hn40 : n < 40 := by have := modV_lt k 40 (by decide); omega
  have HR : Hid (recd i k = byt i :: List.replicate n (byt k)) := by unfold Hid recd; rw [hn]; rfl
  have HM : Hid (∀ W, Calls Try.prog 15 #[.int .i64 k, .int .i64 40] W fun e w' => e = .returned (.int .i64 (n : Int)) ∧ W = w') := fun W => by
    have := Dk.mod_any k 40 W (by decide) (by decide)
    rw [hn] at this
    exact this
  have HRL : Hid ((recd i k).length = n + 1) := by unfold Hid; rw [HR.out]; simp
  have hni : (n : Int) < 40 := by omega
  have HB : Hid (∀ W v, W = w.alloc (.cells #[v] 5) → W.cell? ⟨w.heap.size, 0, none⟩ = some v ∧ w.heap.size < W.heap.size) := by
    rintro W v rfl
    have hb := Blk.new w #[v] 5
    exact ⟨hb.cell 0, hb.lt⟩
  clear hn
  go_enter Try.func23, Try.ntmps23
  have HRP : Hid (∀ W, W = w.alloc (.cells #[.int .u8 (k % 256)] 5) → Calls Try.prog 45 #[.slice (some ⟨w.heap.size, 0, none⟩) 1 1, .int .i64 (1 + (n : Int))] W fun e w' => ∃ g, e = .returned (.slice (some ⟨g, 0, none⟩) (n + 1) (n + 1)) ∧ w.heap.size ≤ g ∧ (∃ c, Hid (Blk w' g (List.replicate (n + 1) (.int .u8 (k % 256)) ++ c) 5)) ∧ Hid (Up w w') ∧ w'.cell? ⟨g, 0, none⟩ = some (.int .u8 (k % 256)) ∧ w'.frozen? ⟨g, 0, none⟩ = false ∧ g < w'.heap.size) := by
    intro W hW
    obtain ⟨h1, h2⟩ := HB.out W _ hW
    rw [show 1 + (n : Int) = ((n + 1 : Nat) : Int) by omega]
    refine (repeat_any (k % 256) (n + 1) w.heap.size 1 W h1 h2 (by omega) (by omega) (Nat.le_refl _)).mono ?_
    rintro e w' ⟨g, rfl, hg, ⟨c, hb⟩, hu⟩
    have hu0 : Up w W := by rw [hW]; exact (Up.refl w).alloc _
    exact ⟨g, rfl, Nat.le_trans hu0.size hg, ⟨c, hb⟩, hu0.trans hu, (hb.cell 0).trans (by simp [List.replicate_succ]), hb.free 0, hb.lt⟩
  go_wp2_with (first
    | (go_at_call 15; refine (HM.out _).mono ?_; rintro e w1 ⟨rfl, rfl⟩)
    | (go_at_call 45; refine (HRP.out _ rfl).mono ?_; rintro e w2 ⟨g, rfl, hg, ⟨c, B2⟩, U2, x0, f0, bl⟩)
    | fail)
  go_ret
  refine ⟨g, by rw [HRL.out]; rfl, hg, ⟨c, ?_⟩, ?_⟩
  · have h := B2.out.set 0 (.int .u8 (i % 256))
    have he : (List.replicate (n + 1) (Value.int .u8 (k % 256)) ++ c).set 0 (.int .u8 (i % 256)) = bc (recd i k) ++ c := by
      rw [HR.out, List.replicate_succ]
      simp [byt, bc]
    rw [← he]
    exact h
  · exact ⟨U2.out.os, U2.out.tape, U2.out.output, by simpa using U2.out.size, fun j hj => ((chg_set w2 g 0 none (.int .u8 (i % 256))).block j (Nat.lt_of_lt_of_le hj U2.out.size) (by omega)).trans (U2.out.block j hj)⟩
end Go.Proofs.Ytmaeeidaegigcaa.Wl
