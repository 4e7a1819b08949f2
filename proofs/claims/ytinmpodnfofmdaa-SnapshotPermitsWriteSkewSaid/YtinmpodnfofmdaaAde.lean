/- Check, Admit. -/
import Derived.Test.YtinmpodnfofmdaaAdd
namespace Go.Proofs.Ytinmpodnfofmdaa.C
open Go Go.RowKit Hp
set_option linter.unusedVariables false

structure Valid (txs : List Tx) : Prop where
  len : txs.length ≤ 40
  start : ∀ i, i < txs.length → 0 ≤ (txs.getD i tx0).start
  live : ∀ i, i < txs.length → (txs.getD i tx0).start < (txs.getD i tx0).commit
  last : ∀ i, i < txs.length → (txs.getD i tx0).commit ≤ 1099511627776
  rd : ∀ i, i < txs.length → (txs.getD i tx0).reads.length ≤ 12
  wr : ∀ i, i < txs.length → (txs.getD i tx0).writes.length ≤ 12
  asc : ∀ i, i + 1 < txs.length → (txs.getD i tx0).commit < (txs.getD (i + 1) tx0).commit

set_option maxHeartbeats 1000000 in
theorem check_any (vt : Value) (txs : List Tx) (w : World) (ht : Txs w vt txs) (hv : Valid txs) :
    Calls Try.prog 57 #[vt] w fun e w' => e = .returned (.int .i64 0) ∧ Up w w' := by
  obtain ⟨a, cap, rfl, h1, h2, _, h3⟩ := ht
  have hlen := hv.len
  have HV := Lib.hid hv
  have H3 := Lib.hid h3
  clear h3 hv
  go_enter Try.func57, Try.ntmps57
  go_wp2
  go_loopw [10] (fun iv wr => ∃ k : Nat, k ≤ txs.length ∧ iv = .int .i64 k ∧ Up w wr) (fun iv _ => txs.length - (intOf iv).toNat)
  case atStart => exact ⟨0, by omega, rfl, Up.refl _⟩
  case round =>
    obtain ⟨k, hk, rfl, hu⟩ := hrel
    by_cases hlt : k < txs.length
    · obtain ⟨b, off, rfl, h4⟩ := arr_at (n := 0) (cap := 0) tx0 H3.out (by omega)
      obtain ⟨q1, q2, q3, q4, q5, q6, sr, sw, hbs, c0, c1, c2, c3⟩ := (txR_grows _ _ _ _ _ (h4 k (by omega)) hu).val
      have v1 := HV.out.start k hlt
      have v2 := HV.out.live k hlt
      have v3 := HV.out.last k hlt
      have v4 := HV.out.rd k hlt
      have v5 := HV.out.wr k hlt
      obtain ⟨_, _, e1, _⟩ := sr
      obtain ⟨_, _, e2, _⟩ := sw
      simp only [Value.slice.injEq] at e1 e2
      obtain ⟨rfl, rfl, rfl⟩ := e1
      obtain ⟨rfl, rfl, rfl⟩ := e2
      by_cases hk0 : k = 0
      · subst hk0
        generalize txs.getD 0 tx0 = t at *
        clear h4
        simp only [Nat.zero_mul, Nat.add_zero] at c0 c1 c2 c3
        go_wp2
        go_quiet (fail)
        go_wp2
        go_roundw
        case rel => exact ⟨0 + 1, by omega, by go_num, Up.trans hu ((Up.refl _).alloc _ |>.drewN _)⟩
        case measure => simp [intOf]; omega
      · obtain ⟨k', rfl⟩ : ∃ k', k = k' + 1 := ⟨k - 1, by omega⟩
        obtain ⟨q1', q2', q3', q4', q5', q6', sr', sw', hbs', c0', c1', c2', c3'⟩ := (txR_grows _ _ _ _ _ (h4 k' (by omega)) hu).val
        have v6 := HV.out.asc k' hlt
        clear h4 c0' c2' c3' sr' sw'
        generalize txs.getD (k' + 1) tx0 = t at *
        generalize txs.getD k' tx0 = t' at *
        go_wp2
        go_quiet (fail)
        go_wp2
        go_roundw
        case rel => exact ⟨k' + 1 + 1, by omega, by go_num, Up.trans hu ((Up.refl _).alloc _ |>.drewN _)⟩
        case measure => simp [intOf]; omega
    · go_wp2
      go_ret
      exact ⟨rfl, hu⟩

def admStep (txs : List Tx) (adm : List Bool) (i : Nat) : List Bool :=
  (adm.set i true).set i (!((List.range i).any (wcAt txs (adm.set i true) i)) && !((List.range (i + 1)).any fun p => inK txs (adm.set i true) p (i + 1) && outK txs (adm.set i true) p (i + 1)))
def admN (txs : List Tx) (k : Nat) : List Bool := (List.range k).foldl (admStep txs) (List.replicate txs.length false)
def admV (txs : List Tx) : List Bool := admN txs txs.length
theorem admN_succ (txs : List Tx) (k : Nat) : admN txs (k + 1) = admStep txs (admN txs k) k := by
  unfold admN; rw [List.range_succ, List.foldl_append]; rfl
theorem admStep_length (txs : List Tx) (adm : List Bool) (i : Nat) : (admStep txs adm i).length = adm.length := by simp [admStep]
theorem admN_length (txs : List Tx) (k : Nat) : (admN txs k).length = txs.length := by
  induction k with
  | zero => simp [admN]
  | succ k ih => rw [admN_succ, admStep_length, ih]

theorem Try.info4 : (Try.prog.info? 4).map (fun i => (i.zero, i.size, i.bytes)) = some (some (.bool false), 1, 1) := by kernel_rfl
abbrev bv (l : List Bool) : List Value := l.map Value.bool
theorem bv_set (l : List Bool) (i : Nat) (x : Bool) : (bv l).set i (.bool x) = bv (l.set i x) := by simp [bv, List.map_set]

theorem bv_arr {w : World} {b : Nat} {l : List Bool} {E : TypeId} (h : Blk w b (bv l) E) (hc2 : l.length ≤ 9223372036854775807) : Bools w (.slice (some ⟨b, 0, none⟩) l.length l.length) l :=
  h.arr (R := BoolR) (enc := Value.bool) (fun _ _ _ _ h => h) l l.length (fun i hi => by simp [bv, hi]) (Nat.le_refl _) hc2

set_option maxHeartbeats 2000000 in
theorem admit_any (vt : Value) (txs : List Tx) (w : World) (ht : Txs w vt txs) (hv : Valid txs) :
    Calls Try.prog 41 #[vt] w fun e w' => ∃ g, e = .returned (.tuple #[.slice (some ⟨g, 0, none⟩) txs.length txs.length, .int .i64 0]) ∧ w.heap.size ≤ g ∧ Blk w' g (bv (admV txs)) 4 ∧ Up w w' := by
  have HT := Lib.hid ht
  obtain ⟨a, cap, rfl, h1, h2, _, h3⟩ := ht
  have hlen := hv.len
  obtain ⟨i0, hi, hz0, hz1, hz2⟩ := info_parts Try.info4
  have hmk : ∀ w : World, (Instr.makeSlice 65 (.int .i64 (txs.length : Int)) (.int .i64 (txs.length : Int))).run Try.prog w = .ok (.slice (some ⟨w.heap.size, 0, none⟩) txs.length txs.length) (w.alloc (.cells (madeCells #[.bool false] txs.length) 4)) := fun w => by
    have h := run_make (P := Try.prog) w 65 4 i0 (.bool false) Try.underlying65 hi hz0 .i64 .i64 (txs.length : Int) (txs.length : Int) (by omega) (Int.le_refl _) (by rw [hz2]; omega) (by omega)
    rw [hz1] at h
    simpa [Value.cells] using h
  clear h3 hi hz0 hz1 hz2 i0
  go_enter Try.func41, Try.ntmps41
  go_wp2_with (go_at_call 57; refine (check_any _ txs _ HT.out hv).mono ?_; rintro e w1 ⟨rfl, hu1⟩)
  have hb1 := Blk.new w1 (madeCells #[.bool false] txs.length) 4
  rw [toList_madeCells_one] at hb1
  go_loopw [17] (fun iv wr => ∃ k : Nat, k ≤ txs.length ∧ iv = .int .i64 k ∧ Blk wr w1.heap.size (bv (admN txs k)) 4 ∧ Up w wr) (fun iv _ => txs.length - (intOf iv).toNat)
  case atStart => exact ⟨0, by omega, rfl, by simpa [bv, admN] using hb1, hu1.alloc _⟩
  case round =>
    obtain ⟨k, hk, rfl, hb, hu⟩ := hrel
    have hg : w.heap.size ≤ w1.heap.size := hu1.size
    by_cases hlt : k < txs.length
    · have hL := admN_length txs k
      obtain ⟨old, hc1⟩ : ∃ old : Bool, wr.cell? ⟨w1.heap.size, k, none⟩ = some (.bool old) := ⟨(admN txs k)[k]'(by omega), (hb.cell k).trans (by simp [bv, hL, hlt])⟩
      have hf1 := hb.free k
      have EQ := Lib.hid (admN_succ txs k)
      have HLL := Lib.hid hL
      have hb2 := hb.set k (.bool true)
      rw [bv_set] at hb2
      have hl2 : ((admN txs k).set k true).length = txs.length := by simp [hL]
      have hu2 := hu.set hg k none (.bool true)
      have HB2 := Lib.hid hb2
      have HL2 := Lib.hid hl2
      have ES := Lib.hid (show admN txs (k + 1) = _ from by rw [admN_succ]; exact rfl : admN txs (k + 1) = ((admN txs k).set k true).set k (!((List.range k).any (wcAt txs ((admN txs k).set k true) k)) && !((List.range (k + 1)).any fun p => inK txs ((admN txs k).set k true) p (k + 1) && outK txs ((admN txs k).set k true) p (k + 1))))
      clear hL hb2 hl2 EQ
      generalize (admN txs k).set k true = adm1 at *
      obtain ⟨x1, X1⟩ : ∃ x, Hid ((List.range k).any (wcAt txs adm1 k) = x) := ⟨_, rfl⟩
      obtain ⟨x2, X2⟩ : ∃ x, Hid ((List.range (k + 1)).any (fun p => inK txs adm1 p (k + 1) && outK txs adm1 p (k + 1)) = x) := ⟨_, rfl⟩
      have HA : Hid (Bools (wr.setCell ⟨w1.heap.size, k, none⟩ (.bool true)) (.slice (some ⟨w1.heap.size, 0, none⟩) txs.length txs.length) adm1) := by
        have h := bv_arr HB2.out (by have := HL2.out; omega)
        rw [HL2.out] at h
        exact h
      have HT2 : Hid (Txs (wr.setCell ⟨w1.heap.size, k, none⟩ (.bool true)) (.slice a txs.length cap) txs) := HT.out.grow txR_grows hu2
      have EC : Hid (∀ W, Blk W w1.heap.size (bv adm1) 4 → (∃ v, W.cell? ⟨w1.heap.size, k, none⟩ = some (.bool v)) ∧ W.frozen? ⟨w1.heap.size, k, none⟩ = false) := fun W h =>
        ⟨⟨adm1[k]'(by have := HL2.out; omega), (h.cell k).trans (by have := HL2.out; simp [bv, show k < adm1.length by omega])⟩, h.free k⟩
      cases x1 with
      | true =>
        go_wp2_with (go_at_call 58; refine (wc_any _ _ txs adm1 k _ HT2.out HA.out HL2.out hlt).mono ?_; rintro e w2 ⟨rfl, hu3⟩; rw [X1.out]; have hb3 := HB2.out.up hu3; obtain ⟨⟨_, hc3⟩, hf3⟩ := EC.out _ hb3)
        have hb4 := hb3.set k (.bool false)
        rw [bv_set] at hb4
        go_roundw
        case rel => exact ⟨k + 1, by omega, by go_num, by rw [ES.out, X1.out]; exact hb4, (Up.trans hu2 hu3).set hg _ _ _⟩
        case measure => simp [intOf]; omega
      | false =>
        go_wp2_with (first
          | (go_at_call 58; refine (wc_any _ _ txs adm1 k _ HT2.out HA.out HL2.out hlt).mono ?_; rintro e w2 ⟨rfl, hu3⟩; rw [X1.out]; have hb3 := HB2.out.up hu3)
          | (go_at_call 59; refine (dang_any _ _ txs adm1 k _ (HT2.out.grow txR_grows hu3) (HA.out.grow boolR_grows hu3) HL2.out hlt).mono ?_; rintro e w3 ⟨rfl, hu4⟩; rw [X2.out]; have hb4 := hb3.up hu4; obtain ⟨⟨_, hc3⟩, hf3⟩ := EC.out _ hb4))
        have hb5 := hb4.set k (.bool (!x2))
        rw [bv_set] at hb5
        go_roundw
        case rel => exact ⟨k + 1, by omega, by go_num, by rw [ES.out, X1.out, X2.out]; exact hb5, (Up.trans (Up.trans hu2 hu3) hu4).set hg _ _ _⟩
        case measure => simp [intOf]; omega
    · obtain rfl : k = txs.length := by omega
      go_wp2
      go_ret2
      exact ⟨_, rfl, hg, hb, hu⟩
end Go.Proofs.Ytinmpodnfofmdaa.C
