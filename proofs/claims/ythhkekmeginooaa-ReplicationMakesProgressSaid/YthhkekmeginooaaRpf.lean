/- Replication: slices.Index, Contains at ints. -/
import Derived.Test.YthhkekmeginooaaRpe
namespace Go.Proofs.Ythhkekmeginooaa.Rp
open Go Go.RowKit Hp
set_option linter.unusedVariables false

theorem src_rn {w : World} {v : Value} {n : Nat} {xs : List Value} {size : Nat} (h : Src w size v n xs) : ∃ a c, v = .slice a n c := by
  rcases h.2 with ⟨rfl, rfl⟩ | ⟨b, off, cap, rfl, _⟩
  · exact ⟨_, _, rfl⟩
  · exact ⟨_, _, rfl⟩
theorem src_at {w : World} {a : Option Addr} {n cap size : Nat} {xs : List Value} (h : Src w size (.slice a n cap) n xs) (hn : 0 < n) : ∃ b off, a = some ⟨b, off, none⟩ ∧ ∀ j u, xs[j]? = some u → At w b (off + j) u := by
  obtain ⟨hx, ⟨h1, rfl⟩ | ⟨b, off, cap', hv, h1, h2, h3⟩⟩ := h
  · omega
  · simp only [Value.slice.injEq, true_and] at hv
    exact ⟨b, off, hv.1, h3⟩
def icI (l : List Int) : List Value := l.map fun i => .int .i64 i
theorem icI_len (l : List Int) : (icI l).length = l.length := by simp [icI]
theorem icI_get (l : List Int) (i : Nat) (h : i < l.length) : (icI l)[i]? = some (.int .i64 l[i]) := by simp [icI, h]
theorem icI_one (l : List Int) : ∀ u ∈ icI l, u.oneCell' = true := fun u hu => by
  obtain ⟨x, _, rfl⟩ := List.mem_map.1 hu; rfl
set_option maxRecDepth 100000 in
set_option maxHeartbeats 2000000 in
theorem index_any (v : Value) (l : List Int) (x : Int) (w : World) (h : Src w 1 v l.length (icI l)) (hbig : l.length ≤ 1000000) :
    Calls Try.prog 34 #[v, .int .i64 x] w fun e w' => e = .returned (.int .i64 (idx (fun y => decide (y = x)) l)) ∧ Up w w' := by
  have HS := Lib.hid h
  obtain ⟨a, cap, rfl⟩ := src_rn h
  clear h
  go_enter Try.func34, Try.ntmps34
  go_wp2
  go_loopw [8] (fun iv wr => ∃ k : Nat, k ≤ l.length ∧ iv = .int .i64 k ∧ Up w wr ∧ Hid (∀ j (h : j < l.length), j < k → decide (l[j] = x) = false)) (fun iv _ => l.length - (intOf iv).toNat)
  case atStart => exact ⟨0, by omega, rfl, Up.refl _, fun j h hj => by omega⟩
  case round =>
    obtain ⟨k, hk, rfl, hu, HN⟩ := hrel
    have HU := Lib.hid hu
    clear hu
    by_cases hlt : k < l.length
    · obtain ⟨b, off, rfl, hc⟩ := src_at HS.out (by omega)
      have d1 := ((hc _ _ (icI_get l k hlt)).grow HU.out).2
      have hlk : (k : Int) < (l.length : Int) := by omega
      have HT : Hid (decide (l[k] = x) = true → idx (fun y => decide (y = x)) l = (k : Int)) := fun he => idx_hit (p := fun y => decide (y = x)) hlt he HN.out
      have HF : Hid (decide (l[k] = x) = false → ∀ j (h : j < l.length), j < k + 1 → decide (l[j] = x) = false) := fun he j h hj => by
        rcases Nat.lt_or_ge j k with h1 | h1
        · exact HN.out j h h1
        · obtain rfl : j = k := by omega
          exact he
      generalize l[k] = n at *
      clear hc
      by_cases h0 : n = x
      · have HE := Lib.hid (HT.out (decide_eq_true h0))
        subst h0
        go_wp2
        go_ret
        exact ⟨by rw [HE.out]; rfl, HU.out⟩
      · have HE := Lib.hid (HF.out (decide_eq_false h0))
        have h1b : (n == x) = false := beq_eq_false_iff_ne.2 h0
        go_wp2
        go_roundw
        case rel => exact ⟨k + 1, by omega, by go_num, HU.out, HE.out⟩
        case measure => simp [intOf]; omega
    · obtain rfl : k = l.length := by omega
      have HE : Hid (idx (fun y => decide (y = x)) l = -1) := idx_miss fun j h => HN.out j h h
      go_wp2
      go_ret
      exact ⟨by rw [HE.out]; rfl, HU.out⟩
set_option maxRecDepth 100000 in
set_option maxHeartbeats 1000000 in
theorem contains_any (v : Value) (l : List Int) (x : Int) (w : World) (h : Src w 1 v l.length (icI l)) (hbig : l.length ≤ 1000000) :
    Calls Try.prog 30 #[v, .int .i64 x] w fun e w' => e = .returned (.bool (l.any fun y => decide (y = x))) ∧ Up w w' := by
  have HIX := Lib.hid (index_any v l x w h hbig)
  have HA := Lib.hid (idx_any (fun y => decide (y = x)) l)
  obtain ⟨a, cap, rfl⟩ := src_rn h
  clear h
  go_enter Try.func30, Try.ntmps30
  go_wp2_with (first
    | (go_at_call 34; refine HIX.out.mono ?_; rintro e w2 ⟨rfl, h2⟩; have H2 := Lib.hid h2; clear h2)
    | fail)
  go_ret
  exact ⟨ret_bool (by rw [← HA.out]), H2.out⟩
end Go.Proofs.Ythhkekmeginooaa.Rp
