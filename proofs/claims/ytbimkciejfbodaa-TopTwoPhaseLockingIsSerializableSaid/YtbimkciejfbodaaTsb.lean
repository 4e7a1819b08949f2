/- Interleavings: operations; Check, Conflict. Ported from seat ser by gen5/in2.py. -/
import Derived.Test.YtbimkciejfbodaaTsa
namespace Go.Proofs.Ytbimkciejfbodaa.In
open Go Go.RowKit Hp
set_option linter.unusedVariables false

theorem any_succ (f : Nat → Bool) (n : Nat) : (List.range (n + 1)).any f = ((List.range n).any f || f n) := by
  rw [List.range_succ, List.any_append]; simp
theorem arr_at {α : Type} {R : World → Nat → Nat → α → Prop} {size : Nat} {w : World} {a : Option Addr} {n cap : Nat} {l : List α} (d : α)
    (h : ∀ i (h : i < l.length), ∃ b off, a = some ⟨b, off, none⟩ ∧ R w b (off + i * size) l[i]) (hl : 0 < l.length) :
    ∃ b off, a = some ⟨b, off, none⟩ ∧ ∀ i, i < l.length → R w b (off + i * size) (l.getD i d) := by
  obtain ⟨b, off, rfl, _⟩ := h 0 hl
  refine ⟨b, off, rfl, fun i hi => ?_⟩
  obtain ⟨b', off', he, hr⟩ := h i hi
  simp only [Option.some.injEq, Addr.mk.injEq, and_true] at he
  obtain ⟨rfl, rfl⟩ := he
  simpa [List.getD, hi] using hr
structure Hop where
  tx : Nat
  kind : Int
  key : ByteArray
deriving DecidableEq
def h0 : Hop := ⟨0, 0, ByteArray.empty⟩
/-- An operation in a row of operations (type 42). -/
def HopR (w : World) (b o : Nat) (h : Hop) : Prop := Ty w b 37 ∧ At w b o (.int .i64 (h.tx : Int)) ∧ At w b (o + 1) (.int .i64 h.kind) ∧ At w b (o + 2) (.string h.key)
theorem hopR_grows : Grows HopR := fun _ _ _ _ _ h hu => ⟨h.1.up hu, h.2.1.grow hu, h.2.2.1.grow hu, h.2.2.2.grow hu⟩
abbrev Hops := Arr HopR 3
def hv (h : Hop) : Value := .agg #[.int .i64 (h.tx : Int), .int .i64 h.kind, .string h.key]
structure HValid (l : List Hop) : Prop where
  len : l.length ≤ 200
  kind : ∀ i, i < l.length → (l.getD i h0).kind = 1 ∨ (l.getD i h0).kind = 2
  tx : ∀ i, i < l.length → (l.getD i h0).tx < 20
  key : ∀ i, i < l.length → (l.getD i h0).key.size ≤ 24
set_option maxHeartbeats 1000000 in
theorem hcheck_any (vt : Value) (l : List Hop) (w : World) (ht : Hops w vt l) (hv : HValid l) :
    Calls Try.prog 41 #[vt] w fun e w' => e = .returned (.int .i64 0) ∧ Up w w' := by
  obtain ⟨a, cap, rfl, h1, h2, _, h3⟩ := ht
  have hlen := hv.len
  have HV := Lib.hid hv
  have H3 := Lib.hid h3
  clear h3 hv
  go_enter Try.func41, Try.ntmps41
  go_wp2
  go_loopw [10] (fun iv wr => ∃ k : Nat, k ≤ l.length ∧ iv = .int .i64 k ∧ Up w wr) (fun iv _ => l.length - (intOf iv).toNat)
  case atStart => exact ⟨0, by omega, rfl, Up.refl _⟩
  case round =>
    obtain ⟨k, hk, rfl, hu⟩ := hrel
    by_cases hlt : k < l.length
    · obtain ⟨b, off, rfl, h4⟩ := arr_at (n := 0) (cap := 0) h0 H3.out (by omega)
      obtain ⟨_, ⟨hbs, c0⟩, ⟨_, c1⟩, ⟨_, c2⟩⟩ := hopR_grows _ _ _ _ _ (h4 k (by omega)) hu
      have v1 := HV.out.kind k hlt
      have v2 := HV.out.tx k hlt
      have v3 := HV.out.key k hlt
      clear h4
      generalize l.getD k h0 = t at *
      obtain ⟨tx, kind, key⟩ := t
      dsimp only at *
      rcases v1 with rfl | rfl
      all_goals
        go_wp2
        go_roundw
        case rel => exact ⟨k + 1, by omega, by go_num, hu.alloc _⟩
        case measure => simp [intOf]; omega
    · go_wp2
      go_ret
      exact ⟨rfl, hu⟩
def confl (a b : Hop) : Bool := !(a.tx == b.tx) && (a.key.toList == b.key.toList && (a.kind == 2 || b.kind == 2))
set_option maxHeartbeats 1000000 in
theorem confl_any (a b : Hop) (w : World) :
    Calls Try.prog 62 #[hv a, hv b] w fun e w' => e = .returned (.bool (confl a b)) ∧ Up w w' := by
  obtain ⟨ta, ka, sa⟩ := a
  obtain ⟨tb, kb, sb⟩ := b
  have U : Hid (∀ o1 o2, Up w ((w.alloc o1).alloc o2)) := fun o1 o2 => ((Up.refl _).alloc _).alloc _
  unfold hv
  dsimp only
  by_cases h1 : ta = tb
  · have E : Hid (confl ⟨ta, ka, sa⟩ ⟨tb, kb, sb⟩ = false) := by simp [Hid, confl, h1]
    have e1 : ((ta : Int) != (tb : Int)) = false := by simp [h1]
    have e2 : (ta != tb) = false := by simp [h1]
    clear h1
    go_enter Try.func62, Try.ntmps62
    go_wp2
    go_ret
    exact ⟨ret_bool E.out.symm, U.out _ _⟩
  · have e1 : ((ta : Int) != (tb : Int)) = true := by simp; omega
    have e2 : (ta != tb) = true := by simpa using h1
    by_cases h2 : (sa.toList == sb.toList) = true
    · by_cases h3 : ka = 2
      · have E : Hid (confl ⟨ta, ka, sa⟩ ⟨tb, kb, sb⟩ = true) := by simp [Hid, confl, h1, h3] at h2 ⊢; exact h2
        subst h3
        go_enter Try.func62, Try.ntmps62
        go_wp2
        go_ret
        exact ⟨ret_bool E.out.symm, U.out _ _⟩
      · have h3' : (ka == 2) = false := by simpa using h3
        have E : Hid (confl ⟨ta, ka, sa⟩ ⟨tb, kb, sb⟩ = (kb == 2)) := by
          show (!(ta == tb) && (sa.toList == sb.toList && (ka == 2 || kb == 2))) = (kb == 2)
          rw [h2, h3', show (ta == tb) = false by simpa using h1]; rfl
        clear h3
        go_enter Try.func62, Try.ntmps62
        go_wp2
        go_ret
        exact ⟨ret_bool E.out.symm, U.out _ _⟩
    · have h2' : (sa.toList == sb.toList) = false := by simpa using h2
      have E : Hid (confl ⟨ta, ka, sa⟩ ⟨tb, kb, sb⟩ = false) := by unfold Hid confl; rw [h2']; simp
      clear h2
      go_enter Try.func62, Try.ntmps62
      go_wp2
      go_ret
      exact ⟨ret_bool E.out.symm, U.out _ _⟩
end Go.Proofs.Ytbimkciejfbodaa.In
