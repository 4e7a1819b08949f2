/- intersect, antidepends, precedes. -/
import Derived.Test.YtinmpodnfofmdaaAda
namespace Go.Proofs.Ytinmpodnfofmdaa.C
open Go Go.RowKit Hp
set_option linter.unusedVariables false

theorem inter1_any (s : ByteArray) (bb : Nat) (vb : Value) (l : List ByteArray) (w : World) (hc : At w bb 0 vb) (h : Strs w vb l) :
    Calls Try.prog 89 #[.string s, .pointer (some ⟨bb, 0, none⟩)] w fun e w' => e = .returned (.bool (l.any (eqS s))) ∧ w = w' := by
  have H := Lib.hid h
  obtain ⟨a, cap, rfl, _, _⟩ := h
  obtain ⟨_, c0⟩ := hc
  go_enter Try.func89, Try.ntmps89
  go_wp2_with (go_at_call 90; refine (containsS_any _ _ _ _ H.out).mono ?_; rintro e w' ⟨rfl, rfl⟩)
  go_ret
  exact ⟨rfl, rfl⟩

def inter (a b : List ByteArray) : Bool := a.any fun s => b.any (eqS s)

theorem ifS_any (v vb : Value) (la lb : List ByteArray) (bb : Nat) (w : World) (h : Strs w v la) (hc : At w bb 0 vb) (hb : Strs w vb lb) :
    Calls Try.prog 104 #[v, .func (.func 89) #[] #[.pointer (some ⟨bb, 0, none⟩)]] w fun e w' => e = .returned (.int .i64 (idx (fun s => lb.any (eqS s)) la)) ∧ w = w' := by
  obtain ⟨a, cap, rfl, h1, h2, _, h3⟩ := h
  have H3 := Lib.hid h3
  clear h3
  go_enter Try.func104, Try.ntmps104
  go_wp2
  go_loop [8] (fun iv => ∃ k : Nat, k ≤ la.length ∧ iv = .int .i64 k ∧ ∀ j (h : j < la.length), j < k → lb.any (eqS la[j]) = false) (fun iv => la.length - (intOf iv).toNat)
  case atStart => exact ⟨0, by omega, rfl, fun j _ hj => by omega⟩
  case round =>
    obtain ⟨k, hk, rfl, hbb⟩ := hrel
    have HB := Lib.hid hbb
    clear hbb
    by_cases hlt : k < la.length
    · obtain ⟨b, off, rfl, _, _, hcc⟩ := H3.out k hlt
      rw [Nat.mul_one] at hcc
      by_cases hq : lb.any (eqS la[k]) = true
      · have E := Lib.hid (idx_hit (p := fun s => lb.any (eqS s)) hlt hq HB.out)
        have HQ := Lib.hid hq
        clear hq
        generalize la[k] = x at *
        go_wp2_with (go_at_call 89; refine (inter1_any x bb vb lb _ hc hb).mono ?_; rintro e w' ⟨rfl, rfl⟩; rw [HQ.out])
        go_ret
        exact ⟨ret_int E.out.symm, rfl⟩
      · have HQ : Hid (lb.any (eqS la[k]) = false) := by unfold Hid; simpa using hq
        clear hq
        have HX : Hid (∀ x, x = la[k] → lb.any (eqS x) = false) := fun x hx => by rw [hx]; exact HQ.out
        obtain ⟨x, hx⟩ : ∃ x, x = la[k] := ⟨_, rfl⟩
        rw [← hx] at hcc
        have HQ2 := Lib.hid (HX.out x hx)
        clear hx
        go_wp2_with (go_at_call 89; refine (inter1_any x bb vb lb _ hc hb).mono ?_; rintro e w' ⟨rfl, rfl⟩; rw [HQ2.out])
        go_round
        case rel => exact ⟨k + 1, by omega, by go_num, fun j hj hjk => by
          by_cases e : j = k
          · subst e; exact HQ.out
          · exact HB.out j hj (by omega)⟩
        case measure => simp [intOf]; omega
    · have E := Lib.hid (idx_miss (p := fun s => lb.any (eqS s)) (l := la) fun j hj => HB.out j hj (by omega))
      go_wp2
      go_ret
      exact ⟨ret_int E.out.symm, rfl⟩
theorem cfS_any (v vb : Value) (la lb : List ByteArray) (bb : Nat) (w : World) (h : Strs w v la) (hc : At w bb 0 vb) (hb : Strs w vb lb) :
    Calls Try.prog 88 #[v, .func (.func 89) #[] #[.pointer (some ⟨bb, 0, none⟩)]] w fun e w' => e = .returned (.bool (inter la lb)) ∧ w = w' := by
  have E := Lib.hid (idx_any (fun s => lb.any (eqS s)) la)
  go_enter Try.func88, Try.ntmps88
  go_wp2_with (go_at_call 104; refine (ifS_any v vb la lb bb _ h hc hb).mono ?_; rintro e w' ⟨rfl, rfl⟩)
  go_ret
  exact ⟨ret_bool E.out, rfl⟩
theorem inter_any (va vb : Value) (la lb : List ByteArray) (w : World) (h : Strs w va la) (hb : Strs w vb lb) :
    Calls Try.prog 77 #[va, vb] w fun e w' => e = .returned (.bool (inter la lb)) ∧ Up w w' := by
  have HA := Lib.hid h
  have HB := Lib.hid hb
  obtain ⟨a, cap, rfl, _, _⟩ := h
  obtain ⟨a2, cap2, rfl, _, _⟩ := hb
  go_enter Try.func77, Try.ntmps77
  go_wp2_with (go_at_call 88; refine (cfS_any _ _ la lb w.heap.size _ (HA.out.grow strR_grows ((Up.refl _).alloc _)) (At.new _ _ _ _ _ rfl) (HB.out.grow strR_grows ((Up.refl _).alloc _))).mono ?_; rintro e w' ⟨rfl, rfl⟩)
  go_ret
  exact ⟨rfl, (Up.refl _).alloc _⟩
end Go.Proofs.Ytinmpodnfofmdaa.C
