/- Searches in slices of strings; two transactions held against each other. -/
import Derived.Test.YtinmpodnfofmdaaFr
namespace Go.Proofs.Ytinmpodnfofmdaa.C
open Go Go.RowKit Hp
set_option linter.unusedVariables false

theorem mod_any (k n : Int) (w : World) (h0 : 0 < n) (h1 : n ≤ 1000000) :
    Calls Try.prog 22 #[.int .i64 k, .int .i64 n] w fun e w' => e = .returned (.int .i64 (modV k n)) ∧ w = w' := by
  have HD := Lib.hid (mod_eq k n h0 h1)
  go_enter Try.func22, Try.ntmps22
  go_wp2
  go_ret
  exact ⟨by simp [HD.out], rfl⟩

/-- Go's == on strings. -/
def eqS (s t : ByteArray) : Bool := s.toList == t.toList

/-- slices.Index at []string. -/
theorem indexS_any (v : Value) (l : List ByteArray) (s : ByteArray) (w : World) (h : Strs w v l) :
    Calls Try.prog 105 #[v, .string s] w fun e w' => e = .returned (.int .i64 (idx (eqS s) l)) ∧ w = w' := by
  obtain ⟨a, cap, rfl, h1, h2, _, h3⟩ := h
  have H3 := Lib.hid h3
  clear h3
  go_enter Try.func105, Try.ntmps105
  go_wp2
  go_loop [8] (fun iv => ∃ k : Nat, k ≤ l.length ∧ iv = .int .i64 k ∧ ∀ j (h : j < l.length), j < k → (s.toList == l[j].toList) = false) (fun iv => l.length - (intOf iv).toNat)
  case atStart => exact ⟨0, by omega, rfl, fun j _ hj => by omega⟩
  case round =>
    obtain ⟨k, hk, rfl, hb⟩ := hrel
    have HB := Lib.hid hb
    clear hb
    by_cases hlt : k < l.length
    · obtain ⟨b, off, rfl, _, _, hc⟩ := H3.out k hlt
      rw [Nat.mul_one] at hc
      by_cases hq : (s.toList == l[k].toList) = true
      · have E := Lib.hid (idx_hit (p := (eqS s)) hlt hq HB.out)
        go_wp2
        go_ret
        rw [E.out]
        exact ⟨rfl, rfl⟩
      · have hq' : (s.toList == l[k].toList) = false := by simpa using hq
        clear hq
        go_wp2
        go_round
        case rel => exact ⟨k + 1, by omega, by go_num, fun j hj hjk => by
          by_cases e : j = k
          · subst e; exact hq'
          · exact HB.out j hj (by omega)⟩
        case measure => simp [intOf]; omega
    · have E := Lib.hid (idx_miss (p := (eqS s)) (l := l) fun j hj => HB.out j hj (by omega))
      go_wp2
      go_ret
      rw [E.out]
      exact ⟨rfl, rfl⟩
theorem containsS_any (v : Value) (l : List ByteArray) (s : ByteArray) (w : World) (h : Strs w v l) :
    Calls Try.prog 90 #[v, .string s] w fun e w' => e = .returned (.bool (l.any (eqS s))) ∧ w = w' := by
  have H := Lib.hid h
  clear h
  have E := Lib.hid (idx_any (eqS s) l)
  go_enter Try.func90, Try.ntmps90
  go_wp2_with (go_at_call 105; refine (indexS_any _ _ _ _ H.out).mono ?_; rintro e w' ⟨rfl, rfl⟩)
  go_ret
  exact ⟨ret_bool E.out, rfl⟩

structure Tx where
  start : Int
  commit : Int
  reads : List ByteArray
  writes : List ByteArray

/-- A transaction's four cells. -/
def TxV (w : World) (v : Value) (t : Tx) : Prop := ∃ rv wv, v = .agg #[.int .i64 t.start, .int .i64 t.commit, rv, wv] ∧ Strs w rv t.reads ∧ Strs w wv t.writes
def TxR (w : World) (b o : Nat) (t : Tx) : Prop := ∃ rv wv, At w b o (.int .i64 t.start) ∧ At w b (o + 1) (.int .i64 t.commit) ∧ At w b (o + 2) rv ∧ At w b (o + 3) wv ∧ Strs w rv t.reads ∧ Strs w wv t.writes
theorem txR_grows : Grows TxR := fun _ _ _ _ _ ⟨rv, wv, h1, h2, h3, h4, h5, h6⟩ hu => ⟨rv, wv, h1.grow hu, h2.grow hu, h3.grow hu, h4.grow hu, h5.grow strR_grows hu, h6.grow strR_grows hu⟩
theorem TxV.grow {w w' : World} {v : Value} {t : Tx} (h : TxV w v t) (hu : Up w w') : TxV w' v t := by
  obtain ⟨rv, wv, rfl, h1, h2⟩ := h
  exact ⟨rv, wv, rfl, h1.grow strR_grows hu, h2.grow strR_grows hu⟩

def conc (a b : Tx) : Bool := decide (a.start < b.commit) && decide (b.start < a.commit)

theorem conc_any (a b : Tx) (va vb : Value) (w : World) (ha : TxV w va a) (hb : TxV w vb b) :
    Calls Try.prog 76 #[va, vb] w fun e w' => e = .returned (.bool (conc a b)) ∧ Up w w' := by
  obtain ⟨ra, wa, rfl, _, _⟩ := ha
  obtain ⟨rb, wb, rfl, _, _⟩ := hb
  by_cases h1 : a.start < b.commit
  · by_cases h2 : b.start < a.commit
    · have E : Hid (conc a b = true) := by simp [Hid, conc, h1, h2]
      go_enter Try.func76, Try.ntmps76
      go_wp2
      go_ret
      exact ⟨ret_bool E.out.symm, ((Up.refl _).alloc _).alloc _⟩
    · have E : Hid (conc a b = false) := by simp [Hid, conc, h1, h2]
      go_enter Try.func76, Try.ntmps76
      go_wp2
      go_ret
      exact ⟨ret_bool E.out.symm, ((Up.refl _).alloc _).alloc _⟩
  · have E : Hid (conc a b = false) := by simp [Hid, conc, h1]
    go_enter Try.func76, Try.ntmps76
    go_wp2
    go_ret
    exact ⟨ret_bool E.out.symm, ((Up.refl _).alloc _).alloc _⟩
end Go.Proofs.Ytinmpodnfofmdaa.C
