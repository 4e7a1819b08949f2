/- Locks: slices.Index, Contains at ints; slices.Grow, Concat at locks. -/
import Derived.Test.YtbimkciejfbodaaLkd
import Derived.Lib.AppendZeros
namespace Go.Proofs.Ytbimkciejfbodaa.Lk
open Go Go.RowKit Hp
set_option linter.unusedVariables false

def icI (l : List Int) : List Value := l.map fun i => .int .i64 i
theorem icI_len (l : List Int) : (icI l).length = l.length := by simp [icI]
theorem icI_get (l : List Int) (i : Nat) (h : i < l.length) : (icI l)[i]? = some (.int .i64 l[i]) := by simp [icI, h]
theorem icI_one (l : List Int) : ∀ u ∈ icI l, u.oneCell' = true := fun u hu => by
  obtain ⟨x, _, rfl⟩ := List.mem_map.1 hu; rfl
set_option maxRecDepth 100000 in
set_option maxHeartbeats 2000000 in
theorem index_any (v : Value) (l : List Int) (x : Int) (w : World) (h : Src w 1 v l.length (icI l)) (hbig : l.length ≤ 1000000) :
    Calls Try.prog 18 #[v, .int .i64 x] w fun e w' => e = .returned (.int .i64 (idx (fun y => decide (y = x)) l)) ∧ Up w w' := by
  have HS := Lib.hid h
  obtain ⟨a, cap, rfl⟩ := src_rn h
  clear h
  go_enter Try.func18, Try.ntmps18
  go_wp2
  go_loopw [8] (fun iv wr => ∃ k : Nat, k ≤ l.length ∧ iv = .int .i64 k ∧ Up w wr ∧ Hid (∀ j (h : j < l.length), j < k → decide (l[j] = x) = false)) (fun iv _ => l.length - (intOf iv).toNat)
  case atStart => exact ⟨0, by omega, rfl, Up.refl _, fun j h hj => by omega⟩
  case round =>
    obtain ⟨k, hk, rfl, hu, HN⟩ := hrel
    have HU := Lib.hid hu
    clear hu
    by_cases hlt : k < l.length
    · obtain ⟨b, off, rfl, hc⟩ := src_at HS.out (by omega)
      have d1 := ((hc _ _ (icI_get l k hlt)).grow HU.out).2
      have hlk : (k : Int) < (l.length : Int) := by omega
      have HT : Hid (decide (l[k] = x) = true → idx (fun y => decide (y = x)) l = (k : Int)) := fun he => idx_hit (p := fun y => decide (y = x)) hlt he HN.out
      have HF : Hid (decide (l[k] = x) = false → ∀ j (h : j < l.length), j < k + 1 → decide (l[j] = x) = false) := fun he j h hj => by
        rcases Nat.lt_or_ge j k with h1 | h1
        · exact HN.out j h h1
        · obtain rfl : j = k := by omega
          exact he
      generalize l[k] = n at *
      clear hc
      by_cases h0 : n = x
      · have HE := Lib.hid (HT.out (decide_eq_true h0))
        subst h0
        go_wp2
        go_ret
        exact ⟨by rw [HE.out]; rfl, HU.out⟩
      · have HE := Lib.hid (HF.out (decide_eq_false h0))
        have h1b : (n == x) = false := beq_eq_false_iff_ne.2 h0
        go_wp2
        go_roundw
        case rel => exact ⟨k + 1, by omega, by go_num, HU.out, HE.out⟩
        case measure => simp [intOf]; omega
    · obtain rfl : k = l.length := by omega
      have HE : Hid (idx (fun y => decide (y = x)) l = -1) := idx_miss fun j h => HN.out j h h
      go_wp2
      go_ret
      exact ⟨by rw [HE.out]; rfl, HU.out⟩
set_option maxRecDepth 100000 in
set_option maxHeartbeats 1000000 in
theorem contains_any (v : Value) (l : List Int) (x : Int) (w : World) (h : Src w 1 v l.length (icI l)) (hbig : l.length ≤ 1000000) :
    Calls Try.prog 56 #[v, .int .i64 x] w fun e w' => e = .returned (.bool (l.any fun y => decide (y = x))) ∧ Up w w' := by
  have HIX := Lib.hid (index_any v l x w h hbig)
  have HA := Lib.hid (idx_any (fun y => decide (y = x)) l)
  obtain ⟨a, cap, rfl⟩ := src_rn h
  clear h
  go_enter Try.func56, Try.ntmps56
  go_wp2_with (first
    | (go_at_call 18; refine HIX.out.mono ?_; rintro e w2 ⟨rfl, h2⟩; have H2 := Lib.hid h2; clear h2)
    | fail)
  go_ret
  exact ⟨ret_bool (by rw [← HA.out]), H2.out⟩
set_option maxRecDepth 100000 in
set_option maxHeartbeats 2000000 in
/-- slices.Grow(nil, n). -/
theorem grow_any (n : Nat) (w : World) (hn : n ≤ 100000) :
    Calls Try.prog 68 #[.slice none 0 0, .int .i64 n] w fun e w' => ∃ v, e = .returned v ∧ w'.ownsRow w.heap.size 33 4 v 0 [] ∧ Up w w' := by
  obtain ⟨i0, hi0, hz0, hz1, hz2⟩ := info_parts Try.infoL
  rcases Nat.eq_zero_or_pos n with h0 | h0
  · subst h0
    go_enter Try.func68, Try.ntmps68
    go_wp2
    go_ret
    exact ⟨_, rfl, World.ownsRow_nil _ _ _ _, Up.refl _⟩
  · have h1 : ¬ (n : Int) < 0 := by omega
    have h2 : (0 : Int) < (n : Int) := by omega
    have R := Lib.run_append_nil_zeros (P := Try.prog) w 52 3 52 33 i0 (.agg #[.int .i64 0, .string ByteArray.empty, .string ByteArray.empty, .int .i64 0]) .i64 .i64 Try.underlying52 Try.underlying3 hi0 hz0 n h0 (by rw [hz1]; omega) (by omega) (by rw [hz2]; omega)
    have hC1 := grownCap_ge w n 0 33
    have hC2 := grownCap_le_maxLen w n 0 33 (by unfold maxLen; omega)
    have hs : Hid ((Builtin.zeroCells (Value.agg #[.int .i64 0, .string ByteArray.empty, .string ByteArray.empty, .int .i64 0]).cells n ++ Builtin.zeroCells (Value.agg #[.int .i64 0, .string ByteArray.empty, .string ByteArray.empty, .int .i64 0]).cells (grownCap w n 0 33 - n)).size = grownCap w n 0 33 * 4) := by
      unfold Hid
      simp only [Array.size_append, zeroCells_size]
      rw [show ((.agg #[.int .i64 0, .string ByteArray.empty, .string ByteArray.empty, .int .i64 0] : Value).cells).size = 4 from rfl]
      omega
    obtain ⟨C, hC⟩ : ∃ C, C = grownCap w n 0 33 := ⟨_, rfl⟩
    obtain ⟨Z, hZ⟩ : ∃ Z, Z = (Builtin.zeroCells (Value.agg #[.int .i64 0, .string ByteArray.empty, .string ByteArray.empty, .int .i64 0]).cells n ++ Builtin.zeroCells (Value.agg #[.int .i64 0, .string ByteArray.empty, .string ByteArray.empty, .int .i64 0]).cells (grownCap w n 0 33 - n)) := ⟨_, rfl⟩
    rw [← hZ] at R hs
    rw [← hC] at R hs hC1 hC2
    have hCi : (0 : Int) ≤ (C : Int) := by omega
    clear hC hZ
    go_enter Try.func68, Try.ntmps68
    go_wp2_with (first
      | (at_builtin; refine Lib.wpList_append_run _ rfl (.tmp 20) (.tmp 21) 52 3 rfl _ _ rfl rfl _ _ R ?_)
      | fail)
    go_ret
    refine ⟨_, rfl, ⟨by simp, .inr ⟨w.heap.size, C, Z, rfl, Nat.le_refl _, heap_alloc_new _ _, by omega, hC2, hs.out, by simp⟩⟩, (Up.refl w).drew.alloc _⟩
theorem src_parts {w : World} {a : Option Addr} {n c size : Nat} {xs : List Value} (h : Src w size (.slice a n c) n xs) : (a = none → n = 0 ∧ c = 0) ∧ ∀ y, a = some y → ∀ j u, xs[j]? = some u → w.cell? (y.add j) = some u := by
  obtain ⟨hx, ⟨h1, h2⟩ | ⟨b, off, cap', hv, h1, h2, h3⟩⟩ := h
  · simp only [Value.slice.injEq] at h1
    exact ⟨fun _ => ⟨h2, h1.2.2⟩, fun y e => by rw [h1.1] at e; cases e⟩
  · simp only [Value.slice.injEq, true_and] at hv
    refine ⟨fun e => (by rw [hv.1] at e; cases e), fun y e j u hj => ?_⟩
    rw [hv.1] at e
    cases e
    rw [Addr.add_lit]
    exact (h3 j u hj).2
/-- The first q of two lists. -/
def cc (la lb : List Lk) : Nat → List Lk
  | 0 => []
  | 1 => la
  | _ => la ++ lb
theorem cc_len (la lb : List Lk) (q : Nat) : (cc la lb q).length ≤ la.length + lb.length := by
  unfold cc
  split <;> simp
theorem cc_part {w : World} {b : Nat} {A B : Value} {la lb : List Lk} (hb : Blk w b [A, B] 52) (hA : Src w 4 A la.length (lkC la)) (hB : Src w 4 B lb.length (lkC lb)) (hl : la.length ≤ 10000) (hl2 : lb.length ≤ 10000) {q : Nat} (hq : q < 2) :
    ∃ x c l, At w b q (.slice x (List.length l) c) ∧ Src w 4 (.slice x l.length c) l.length (lkC l) ∧ cc la lb (q + 1) = cc la lb q ++ l ∧ l.length ≤ 10000 := by
  rcases (by omega : q = 0 ∨ q = 1) with rfl | rfl
  · obtain ⟨aa, ac, rfl⟩ := src_rn hA
    exact ⟨aa, ac, la, hb.at (i := 0) rfl, hA, rfl, hl⟩
  · obtain ⟨aa, ac, rfl⟩ := src_rn hB
    exact ⟨aa, ac, lb, hb.at (i := 1) rfl, hB, rfl, hl2⟩
set_option maxRecDepth 100000 in
set_option maxHeartbeats 4000000 in
/-- slices.Concat of two. -/
theorem concat_any (b : Nat) (A B : Value) (la lb : List Lk) (w : World) (hb : Blk w b [A, B] 52) (hA : Src w 4 A la.length (lkC la)) (hB : Src w 4 B lb.length (lkC lb)) (hl : la.length ≤ 10000) (hl2 : lb.length ≤ 10000) :
    Calls Try.prog 54 #[.slice (some ⟨b, 0, none⟩) 2 2] w fun e w' => ∃ v, e = .returned v ∧ w'.ownsRow w.heap.size 33 4 v (la ++ lb).length (lkC (la ++ lb)) ∧ Up w w' := by
  obtain ⟨i0, hi0, hz0, hz1, hz2⟩ := info_parts Try.infoL
  have CP := Lib.hid (fun q hq => cc_part hb hA hB hl hl2 (q := q) hq)
  have CL := Lib.hid (cc_len la lb)
  have hbl := hb.lt
  have HE : Hid (cc la lb 2 = la ++ lb) := rfl
  clear hb hA hB
  go_enter Try.func54, Try.ntmps54
  go_wp2
  go_loopw [3, 11] (fun sv iv wr => ∃ q : Nat, q ≤ 2 ∧ iv = .int .i64 q ∧ sv = .int .i64 ((cc la lb q).length : Nat) ∧ wr = w) (fun _ iv _ => 2 - (intOf iv).toNat)
  case atStart => exact ⟨0, by omega, rfl, rfl, (by first | rfl | trivial)⟩
  case round =>
    obtain ⟨q, hq, rfl, rfl, hww⟩ := hrel
    replace hww := hww.symm
    subst hww
    have hcl := CL.out q
    obtain ⟨n, hn⟩ : ∃ n, (cc la lb q).length = n := ⟨_, rfl⟩
    have HN := Lib.hid hn
    rw [hn] at hcl ⊢
    clear hn
    by_cases hq2 : q < 2
    · obtain ⟨x, c, l, h1, h2, h3, h4⟩ := CP.out q hq2
      have b0 := h1.2
      have h5 : ¬ (n : Int) + (l.length : Int) < 0 := by omega
      have hqi : (q : Int) < 2 := by omega
      have HX := Lib.hid h3
      clear h1 h2 h3
      go_wp2
      go_roundw
      case rel => exact ⟨q + 1, by omega, by go_num, by rw [HX.out, List.length_append, HN.out]; go_num, (by first | rfl | trivial)⟩
      case measure => simp [intOf]; omega
    · obtain rfl : q = 2 := by omega
      go_wp2_with (first
        | (go_at_call 68; refine (grow_any n w (by omega)).mono ?_; rintro e w2 ⟨v, rfl, h2, h3⟩; obtain ⟨va, vc, rfl, _, _, _⟩ := own_form h2; have H2 := Lib.hid h2; have H3 := Lib.hid h3; clear h2 h3)
        | fail)
      go_loopw [6, 27] (fun v iv wr => ∃ q : Nat, q ≤ 2 ∧ iv = .int .i64 q ∧ Hid (wr.ownsRow w.heap.size 33 4 v (cc la lb q).length (lkC (cc la lb q)) ∧ Up w wr)) (fun _ iv _ => 2 - (intOf iv).toNat)
      case atStart => exact ⟨0, by omega, rfl, H2.out, H3.out⟩
      case round =>
        obtain ⟨q, hq', rfl, HQ⟩ := hrel
        obtain ⟨wo, hwo⟩ : ∃ wo : World, wo = wr := ⟨_, rfl⟩
        rw [← hwo] at HQ ⊢
        clear hwo
        have hcl2 := CL.out q
        obtain ⟨va, vc, rfl, _, _, _⟩ := own_form HQ.out.1
        by_cases hq3 : q < 2
        · obtain ⟨x, c, l, h1, h2, h3, h4⟩ := CP.out q hq3
          have b0 := (h1.grow HQ.out.2).2
          have bl := (h1.grow HQ.out.2).1
          have hp := src_parts (h2.up HQ.out.2)
          have hqi : (q : Int) < 2 := by omega
          have HX := Lib.hid h3
          have HPP := Lib.hid hp
          clear h1 h2 h3 hp
          go_wp2_with (first
            | (at_builtin; refine wl_append_any rfl (.tmp 31) (.tmp 32) 52 rfl w.heap.size 33 i0 (.agg #[.int .i64 0, .string ByteArray.empty, .string ByteArray.empty, .int .i64 0]) 4 48 Try.underlying52 hi0 hz0 hz1 hz2 rfl (by decide) _ (cc la lb q).length (lkC (cc la lb q)) rfl HQ.out.1 x l.length c (lkC l) rfl HPP.out.1 (by rw [lkC_len]) HPP.out.2 (lkC_one l) (by unfold maxLen; omega) (by omega) HQ.out.2.size ?_; intro v5 w5 h5 h6 h7; have N5 : Hid (w5.ownsRow w.heap.size 33 4 v5 (cc la lb (q + 1)).length (lkC (cc la lb (q + 1))) ∧ Up w w5) := ⟨by rw [HX.out, List.length_append]; simpa [lkC] using h5, Below.grown HQ.out.2 h6 HQ.out.2.size fun k hk => ((own_ty HQ.out.1) k hk).2⟩; clear h5 h6 h7)
            | fail)
          go_roundw
          case rel => exact ⟨q + 1, by omega, by go_num, N5.out⟩
          case measure => simp [intOf]; omega
        · obtain rfl : q = 2 := by omega
          go_wp2
          go_ret
          rw [← HE.out]
          exact ⟨_, rfl, HQ.out.1, HQ.out.2⟩
end Go.Proofs.Ytbimkciejfbodaa.Lk
