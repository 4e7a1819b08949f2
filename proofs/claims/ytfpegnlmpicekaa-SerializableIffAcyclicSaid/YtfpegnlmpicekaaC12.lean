/- Searches in slices of numbers and of pairs; what ssi.SerialOrder asks of the transactions that are left. -/
import Derived.Test.YtfpegnlmpicekaaC11
import Derived.Test.YtfpegnlmpicekaaShelf
namespace Go.Proofs.Ytfpegnlmpicekaa.C
open Go Go.RowKit Hp
set_option linter.unusedVariables false

theorem indexI_any (v : Value) (l : List Int) (s : Int) (w : World) (h : Ints w v l) :
    Calls Try.prog 27 #[v, .int .i64 s] w fun e w' => e = .returned (.int .i64 (idx (s == ·) l)) ∧ w = w' := by
  obtain ⟨a, cap, rfl, h1, h2, _, h3⟩ := h
  have H3 := Lib.hid h3
  clear h3
  go_enter Try.func27, Try.ntmps27
  go_wp2
  go_loop [8] (fun iv => ∃ k : Nat, k ≤ l.length ∧ iv = .int .i64 k ∧ ∀ j (h : j < l.length), j < k → (s == l[j]) = false) (fun iv => l.length - (intOf iv).toNat)
  case atStart => exact ⟨0, by omega, rfl, fun j _ hj => by omega⟩
  case round =>
    obtain ⟨k, hk, rfl, hb⟩ := hrel
    have HB := Lib.hid hb
    clear hb
    by_cases hlt : k < l.length
    · obtain ⟨b, off, rfl, _, hc⟩ := H3.out k hlt
      rw [Nat.mul_one] at hc
      obtain ⟨x, hx⟩ : ∃ x, x = l[k] := ⟨_, rfl⟩
      rw [← hx] at hc
      have HX := Lib.hid hx
      clear hx
      by_cases hq : (s == x) = true
      · have E := Lib.hid (idx_hit (p := (s == ·)) hlt (by rw [← HX.out]; exact hq) HB.out)
        go_wp2
        go_ret
        exact ⟨ret_int E.out.symm, rfl⟩
      · have hq' : (s == x) = false := by simpa using hq
        have EN : Hid ((s == l[k]) = false) := by unfold Hid; rw [← HX.out]; exact hq'
        clear hq
        go_wp2
        go_round
        case rel => exact ⟨k + 1, by omega, by go_num, fun j hj hjk => by
          by_cases e : j = k
          · subst e; exact EN.out
          · exact HB.out j hj (by omega)⟩
        case measure => simp [intOf]; omega
    · have E := Lib.hid (idx_miss (p := (s == ·)) (l := l) fun j hj => HB.out j hj (by omega))
      go_wp2
      go_ret
      exact ⟨ret_int E.out.symm, rfl⟩
theorem containsI_any (v : Value) (l : List Int) (s : Int) (w : World) (h : Ints w v l) :
    Calls Try.prog 22 #[v, .int .i64 s] w fun e w' => e = .returned (.bool (l.any (s == ·))) ∧ w = w' := by
  have H := Lib.hid h
  clear h
  have E := Lib.hid (idx_any (s == ·) l)
  go_enter Try.func22, Try.ntmps22
  go_wp2_with (go_at_call 27; refine (indexI_any _ _ _ _ H.out).mono ?_; rintro e w' ⟨rfl, rfl⟩)
  go_ret
  exact ⟨ret_bool E.out, rfl⟩

/-- Two numbers in a row of pairs (type 48). -/
def PairR (w : World) (b o : Nat) (p : Int × Int) : Prop := Ty w b 48 ∧ At w b o (.int .i64 p.1) ∧ At w b (o + 1) (.int .i64 p.2)
theorem pairR_grows : Grows PairR := fun _ _ _ _ _ h hu => ⟨h.1.up hu, h.2.1.grow hu, h.2.2.grow hu⟩

/-- Does an edge lead to t out of one that is left? -/
def into (t : Int) (rem : List Int) (x : Int × Int) : Bool := x.2 == t && rem.any (x.1 == ·)

theorem c50_any (x : Int × Int) (t : Int) (bt br : Nat) (vr : Value) (rem : List Int) (w : World) (ht : At w bt 0 (.int .i64 t)) (hr : At w br 0 vr) (hv : Ints w vr rem) :
    Calls Try.prog 50 #[.agg #[.int .i64 x.1, .int .i64 x.2], .pointer (some ⟨bt, 0, none⟩), .pointer (some ⟨br, 0, none⟩)] w fun e w' => e = .returned (.bool (into t rem x)) ∧ Up w w' := by
  have HV := Lib.hid (hv.grow intR_grows ((Up.refl w).alloc (.cells #[.int .i64 x.1, .int .i64 x.2] 48)))
  obtain ⟨a, cap, rfl, _, _⟩ := hv
  obtain ⟨hbt, ct⟩ := ht
  obtain ⟨hbr, cr⟩ := hr
  obtain ⟨x1, x2⟩ := x
  by_cases hq : x2 = t
  · subst hq
    have E : Hid (into x2 rem (x1, x2) = rem.any (x1 == ·)) := by simp [Hid, into]
    go_enter Try.func50, Try.ntmps50
    go_wp2_with (go_at_call 22; refine (containsI_any _ _ _ _ HV.out).mono ?_; rintro e w1 ⟨rfl, rfl⟩)
    go_ret
    exact ⟨ret_bool E.out.symm, (Up.refl _).alloc _⟩
  · have E : Hid (into t rem (x1, x2) = false) := by simp [Hid, into, hq]
    have hq1 : (x2 == t) = false := by simpa using hq
    go_enter Try.func50, Try.ntmps50
    go_wp2
    go_ret
    exact ⟨ret_bool E.out.symm, (Up.refl _).alloc _⟩

theorem if60_any (t : Int) (bt br : Nat) (vr : Value) (rem : List Int) (l : List (Int × Int)) (v : Value) (w : World) (h : Arr PairR 2 w v l) (hbt : At w bt 0 (.int .i64 t)) (hbr : At w br 0 vr) (hvr : Ints w vr rem) :
    Calls Try.prog 60 #[v, .func (.func 50) #[] #[.pointer (some ⟨bt, 0, none⟩), .pointer (some ⟨br, 0, none⟩)]] w fun e w' => e = .returned (.int .i64 (idx (fun x => into t rem x) l)) ∧ Up w w' := by
  obtain ⟨a, cap, rfl, h1, h2, _, h3⟩ := h
  have H3 := Lib.hid h3
  clear h3
  go_enter Try.func60, Try.ntmps60
  go_wp2
  go_loopw [8] (fun iv wr => ∃ k : Nat, k ≤ l.length ∧ iv = .int .i64 k ∧ (∀ j (h : j < l.length), j < k → (fun x => into t rem x) l[j] = false) ∧ Up w wr) (fun iv _ => l.length - (intOf iv).toNat)
  case atStart => exact ⟨0, by omega, rfl, fun j _ hj => by omega, Up.refl _⟩
  case round =>
    obtain ⟨k, hk, rfl, hbb, hu⟩ := hrel
    have HB := Lib.hid hbb
    clear hbb
    by_cases hlt : k < l.length
    · obtain ⟨b, off, rfl, hr⟩ := H3.out k hlt
      have HX : Hid (∀ x, x = l[k] → (∀ y, (fun x => into t rem x) x = y → (fun x => into t rem x) l[k] = y)) := fun x hx y hy => by rw [← hx]; exact hy
      obtain ⟨x, hx⟩ : ∃ x, x = l[k] := ⟨_, rfl⟩
      rw [← hx] at hr
      have HY := Lib.hid (HX.out x hx)
      clear hx HX
      obtain ⟨y, hy⟩ : ∃ y, y = into t rem x := ⟨_, rfl⟩
      have Y := Lib.hid hy.symm
      clear hy
      have hbt := hbt.grow hu
      have hbr := hbr.grow hu
      have hvr := hvr.grow intR_grows hu
      obtain ⟨_, ⟨hbb, c0⟩, _, c1⟩ := pairR_grows _ _ _ _ _ hr hu
      obtain ⟨x1, x2⟩ := x
      dsimp only at c0 c1
      cases y with
      | true =>
        have E := Lib.hid (idx_hit (p := fun x => into t rem x) hlt (HY.out _ Y.out) HB.out)
        go_wp2_with (go_at_call 50; refine (c50_any (x1, x2) t bt br vr rem _ hbt hbr hvr).mono ?_; rintro e w2 ⟨rfl, hu2⟩; rw [Y.out])
        go_ret
        exact ⟨ret_int E.out.symm, Up.trans hu (by assumption)⟩
      | false =>
        go_wp2_with (go_at_call 50; refine (c50_any (x1, x2) t bt br vr rem _ hbt hbr hvr).mono ?_; rintro e w2 ⟨rfl, hu2⟩; rw [Y.out])
        go_roundw
        case rel => exact ⟨k + 1, by omega, by go_num, fun j hj hjk => by
          by_cases e : j = k
          · subst e; exact HY.out _ Y.out
          · exact HB.out j hj (by omega), Up.trans hu (by assumption)⟩
        case measure => simp [intOf]; omega
    · have E := Lib.hid (idx_miss (p := fun x => into t rem x) (l := l) fun j hj => HB.out j hj (by omega))
      go_wp2
      go_ret
      exact ⟨ret_int E.out.symm, hu⟩

theorem cf49_any (t : Int) (bt br : Nat) (vr : Value) (rem : List Int) (l : List (Int × Int)) (v : Value) (w : World) (h : Arr PairR 2 w v l) (hbt : At w bt 0 (.int .i64 t)) (hbr : At w br 0 vr) (hvr : Ints w vr rem) :
    Calls Try.prog 49 #[v, .func (.func 50) #[] #[.pointer (some ⟨bt, 0, none⟩), .pointer (some ⟨br, 0, none⟩)]] w fun e w' => e = .returned (.bool (l.any fun x => into t rem x)) ∧ Up w w' := by
  have E := Lib.hid (idx_any (fun x => into t rem x) l)
  go_enter Try.func49, Try.ntmps49
  go_wp2_with (go_at_call 60; refine (if60_any t bt br vr rem l v _ h hbt hbr hvr).mono ?_; rintro e w1 ⟨rfl, hu1⟩)
  go_ret
  exact ⟨ret_bool E.out, by assumption⟩

/-- Nothing that is left leads to t. -/
def free (edges : List (Int × Int)) (rem : List Int) (t : Int) : Bool := !(edges.any fun x => into t rem x)

theorem c48_any (t : Int) (be br : Nat) (ve vr : Value) (edges : List (Int × Int)) (rem : List Int) (w : World) (he : At w be 0 ve) (hr : At w br 0 vr) (hve : Arr PairR 2 w ve edges) (hvr : Ints w vr rem) :
    Calls Try.prog 48 #[.int .i64 t, .pointer (some ⟨be, 0, none⟩), .pointer (some ⟨br, 0, none⟩)] w fun e w' => e = .returned (.bool (free edges rem t)) ∧ Up w w' := by
  have U := (Up.refl w).alloc (.cells #[.int .i64 t] 3)
  have HE := Lib.hid (hve.grow pairR_grows U)
  have HV := Lib.hid (hvr.grow intR_grows U)
  have HR := Lib.hid (hr.grow U)
  obtain ⟨a, cap, rfl, _, _⟩ := hve
  obtain ⟨hbe, ce⟩ := he
  clear hvr
  go_enter Try.func48, Try.ntmps48
  go_wp2_with (go_at_call 49; refine (cf49_any t w.heap.size br vr rem edges _ _ HE.out (At.new _ _ _ _ _ rfl) HR.out HV.out).mono ?_; rintro e w1 ⟨rfl, hu1⟩)
  go_ret
  exact ⟨rfl, Up.trans U (by assumption)⟩

theorem if43s_any (be br : Nat) (ve vr : Value) (edges : List (Int × Int)) (rem : List Int) (l : List Int) (v : Value) (w : World) (h : Arr IntR 1 w v l) (hbe : At w be 0 ve) (hbr : At w br 0 vr) (hve : Arr PairR 2 w ve edges) (hvr : Ints w vr rem) :
    Calls Try.prog 43 #[v, .func (.func 48) #[] #[.pointer (some ⟨be, 0, none⟩), .pointer (some ⟨br, 0, none⟩)]] w fun e w' => e = .returned (.int .i64 (idx (fun x => free edges rem x) l)) ∧ Up w w' := by
  obtain ⟨a, cap, rfl, h1, h2, _, h3⟩ := h
  have H3 := Lib.hid h3
  clear h3
  go_enter Try.func43, Try.ntmps43
  go_wp2
  go_loopw [8] (fun iv wr => ∃ k : Nat, k ≤ l.length ∧ iv = .int .i64 k ∧ (∀ j (h : j < l.length), j < k → (fun x => free edges rem x) l[j] = false) ∧ Up w wr) (fun iv _ => l.length - (intOf iv).toNat)
  case atStart => exact ⟨0, by omega, rfl, fun j _ hj => by omega, Up.refl _⟩
  case round =>
    obtain ⟨k, hk, rfl, hbb, hu⟩ := hrel
    have HB := Lib.hid hbb
    clear hbb
    by_cases hlt : k < l.length
    · obtain ⟨b, off, rfl, hr⟩ := H3.out k hlt
      have HX : Hid (∀ x, x = l[k] → (∀ y, (fun x => free edges rem x) x = y → (fun x => free edges rem x) l[k] = y)) := fun x hx y hy => by rw [← hx]; exact hy
      obtain ⟨x, hx⟩ : ∃ x, x = l[k] := ⟨_, rfl⟩
      rw [← hx] at hr
      have HY := Lib.hid (HX.out x hx)
      clear hx HX
      obtain ⟨y, hy⟩ : ∃ y, y = free edges rem x := ⟨_, rfl⟩
      have Y := Lib.hid hy.symm
      clear hy
      have hbe := hbe.grow hu
      have hbr := hbr.grow hu
      have hve := hve.grow pairR_grows hu
      have hvr := hvr.grow intR_grows hu
      obtain ⟨hbb, c0⟩ := intR_grows _ _ _ _ _ hr hu
      rw [Nat.mul_one] at c0
      cases y with
      | true =>
        have E := Lib.hid (idx_hit (p := fun x => free edges rem x) hlt (HY.out _ Y.out) HB.out)
        go_wp2_with (go_at_call 48; refine (c48_any x be br ve vr edges rem _ hbe hbr hve hvr).mono ?_; rintro e w2 ⟨rfl, hu2⟩; rw [Y.out])
        go_ret
        exact ⟨ret_int E.out.symm, Up.trans hu (by assumption)⟩
      | false =>
        go_wp2_with (go_at_call 48; refine (c48_any x be br ve vr edges rem _ hbe hbr hve hvr).mono ?_; rintro e w2 ⟨rfl, hu2⟩; rw [Y.out])
        go_roundw
        case rel => exact ⟨k + 1, by omega, by go_num, fun j hj hjk => by
          by_cases e : j = k
          · subst e; exact HY.out _ Y.out
          · exact HB.out j hj (by omega), Up.trans hu (by assumption)⟩
        case measure => simp [intOf]; omega
    · have E := Lib.hid (idx_miss (p := fun x => free edges rem x) (l := l) fun j hj => HB.out j hj (by omega))
      go_wp2
      go_ret
      exact ⟨ret_int E.out.symm, hu⟩
end Go.Proofs.Ytfpegnlmpicekaa.C
