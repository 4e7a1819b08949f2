/- Searches in slices of bools; the law's own check. -/
import Derived.Test.YtfpegnlmpicekaaC6
namespace Go.Proofs.Ytfpegnlmpicekaa.C
open Go Go.RowKit Hp
set_option linter.unusedVariables false

theorem indexB_any (v : Value) (l : List Bool) (s : Bool) (w : World) (h : Bools w v l) :
    Calls Try.prog 39 #[v, .bool s] w fun e w' => e = .returned (.int .i64 (idx (s == ·) l)) ∧ w = w' := by
  obtain ⟨a, cap, rfl, h1, h2, _, h3⟩ := h
  have H3 := Lib.hid h3
  clear h3
  go_enter Try.func39, Try.ntmps39
  go_wp2
  go_loop [8] (fun iv => ∃ k : Nat, k ≤ l.length ∧ iv = .int .i64 k ∧ ∀ j (h : j < l.length), j < k → (s == l[j]) = false) (fun iv => l.length - (intOf iv).toNat)
  case atStart => exact ⟨0, by omega, rfl, fun j _ hj => by omega⟩
  case round =>
    obtain ⟨k, hk, rfl, hb⟩ := hrel
    have HB := Lib.hid hb
    clear hb
    by_cases hlt : k < l.length
    · obtain ⟨b, off, rfl, _, hc⟩ := H3.out k hlt
      rw [Nat.mul_one] at hc
      obtain ⟨x, hx⟩ : ∃ x, x = l[k] := ⟨_, rfl⟩
      rw [← hx] at hc
      have HX := Lib.hid hx
      clear hx
      by_cases hq : (s == x) = true
      · have E := Lib.hid (idx_hit (p := (s == ·)) hlt (by rw [← HX.out]; exact hq) HB.out)
        obtain rfl : s = x := by simpa using hq
        clear hq
        go_wp2
        go_ret
        exact ⟨ret_int E.out.symm, rfl⟩
      · have hq' : (s == x) = false := by simpa using hq
        have EN : Hid ((s == l[k]) = false) := by unfold Hid; rw [← HX.out]; exact hq'
        cases s <;> cases x <;> simp at hq'
        all_goals
          clear hq
          go_wp2
          go_round
          case rel => exact ⟨k + 1, by omega, by go_num, fun j hj hjk => by
            by_cases e : j = k
            · subst e; exact EN.out
            · exact HB.out j hj (by omega)⟩
          case measure => simp [intOf]; omega
    · have E := Lib.hid (idx_miss (p := (s == ·)) (l := l) fun j hj => HB.out j hj (by omega))
      go_wp2
      go_ret
      exact ⟨ret_int E.out.symm, rfl⟩
theorem containsB_any (v : Value) (l : List Bool) (s : Bool) (w : World) (h : Bools w v l) :
    Calls Try.prog 14 #[v, .bool s] w fun e w' => e = .returned (.bool (l.any (s == ·))) ∧ w = w' := by
  have H := Lib.hid h
  clear h
  have E := Lib.hid (idx_any (s == ·) l)
  go_enter Try.func14, Try.ntmps14
  go_wp2_with (go_at_call 39; refine (indexB_any _ _ _ _ H.out).mono ?_; rintro e w' ⟨rfl, rfl⟩)
  go_ret
  exact ⟨ret_bool E.out, rfl⟩

/-- slices.Equal at []bool. -/
theorem equalB_any (v v' : Value) (l l' : List Bool) (w : World) (h : Bools w v l) (h' : Bools w v' l') :
    Calls Try.prog 16 #[v, v'] w fun e w' => e = .returned (.bool (decide (l = l'))) ∧ Up w w' := by
  obtain ⟨a, cap, rfl, h1, h2, _, h3⟩ := h
  obtain ⟨a', cap', rfl, h1', h2', _, h3'⟩ := h'
  have H3 := Lib.hid h3
  have H3' := Lib.hid h3'
  clear h3 h3'
  by_cases hn : l.length = l'.length
  · have hne : ((l.length : Int) != (l'.length : Int)) = false := by simp [hn]
    have hne2 : (l.length != l'.length) = false := by simp [hn]
    have hn1 : l.length ≤ l'.length := by omega
    have hn2 : l'.length ≤ l.length := by omega
    have HN := Lib.hid hn
    clear hn
    go_enter Try.func16, Try.ntmps16
    go_wp2
    go_loopw [13] (fun iv wr => ∃ k : Nat, k ≤ l.length ∧ iv = .int .i64 k ∧ (∀ j (h : j < l.length) (h' : j < l'.length), j < k → l[j] = l'[j]) ∧ Up w wr) (fun iv _ => l.length - (intOf iv).toNat)
    case atStart => exact ⟨0, by omega, rfl, fun j _ _ hj => by omega, Up.refl _⟩
    case round =>
      obtain ⟨k, hk, rfl, hb, hu⟩ := hrel
      have HB := Lib.hid hb
      clear hb
      by_cases hlt : k < l.length
      · obtain ⟨b, off, rfl, hb1, hc⟩ := H3.out k hlt
        obtain ⟨b', off', rfl, hb1', hc'⟩ := H3'.out k (by omega)
        rw [Nat.mul_one] at hc hc'
        have hd := (hu.cell (p := ⟨b, off + k, none⟩) hb1).trans hc
        have hd' := (hu.cell (p := ⟨b', off' + k, none⟩) hb1').trans hc'
        clear hc hc'
        have hlt' : k < l'.length := by omega
        obtain ⟨x, hx⟩ : ∃ x, x = l[k] := ⟨_, rfl⟩
        obtain ⟨x', hx'⟩ : ∃ x, x = l'[k] := ⟨_, rfl⟩
        rw [← hx] at hd
        rw [← hx'] at hd'
        have HX := Lib.hid hx
        have HX' := Lib.hid hx'
        clear hx hx'
        by_cases hq : x = x'
        · have EN : Hid (l[k] = l'[k]) := by unfold Hid; rw [← HX.out, ← HX'.out]; exact hq
          subst hq
          have hz : (x != x) = false := by simp
          go_wp2
          go_quiet (fail)
          go_wp2
          go_roundw
          case rel => exact ⟨k + 1, by omega, by go_num, fun j hj hj' hjk => by
            by_cases e : j = k
            · subst e; exact EN.out
            · exact HB.out j hj hj' (by omega), hu.drewN _⟩
          case measure => simp [intOf]; omega
        · have EN : Hid (decide (l = l') = false) := by
            unfold Hid; rw [decide_eq_false_iff_not]; rintro rfl; exact hq (by rw [HX.out, HX'.out])
          have hz : (x != x') = true := by simpa using hq
          have hz2 : x' = !x := by cases x <;> cases x' <;> simp_all
          subst hz2
          clear hq hz
          cases x
          all_goals
            go_wp2
            go_quiet (fail)
            go_wp2
            go_ret
            exact ⟨ret_bool EN.out.symm, hu.drewN _⟩
      · have EN : Hid (decide (l = l') = true) := by
          unfold Hid; rw [decide_eq_true_eq]
          exact List.ext_getElem HN.out (fun j h1 h2 => HB.out j h1 h2 (by omega))
        go_wp2
        go_ret
        exact ⟨ret_bool EN.out.symm, hu⟩
  · have hne : ((l.length : Int) != (l'.length : Int)) = true := by simp; omega
    have hne2 : (l.length != l'.length) = true := by simpa using hn
    have EN : Hid (decide (l = l') = false) := by
      unfold Hid; rw [decide_eq_false_iff_not]; rintro rfl; exact hn rfl
    go_enter Try.func16, Try.ntmps16
    go_wp2
    go_ret
    exact ⟨ret_bool EN.out.symm, Up.refl _⟩

def t1 : Tx := ⟨0, 1, [], [⟨#[120]⟩]⟩
theorem t1_valid : Valid [t1] := by
  refine ⟨by decide, ?_, ?_, ?_, ?_, ?_, ?_⟩ <;> intro i hi <;> simp at hi <;> subst hi <;> simp [t1]
theorem t1_admit : admV [t1] = [true] := by decide
theorem t1_txs (w : World) (E : TypeId) : Txs ((w.alloc (.cells #[.string ⟨#[120]⟩] 9)).alloc (.cells #[.int .i64 0, .int .i64 1, .slice none 0 0, .slice (some ⟨w.heap.size, 0, none⟩) 1 1] E)) (.slice (some ⟨w.heap.size + 1, 0, none⟩) 1 1) [t1] := by
  have hs : (w.alloc (.cells #[.string ⟨#[120]⟩] 9)).heap.size = w.heap.size + 1 := by simp
  refine ⟨_, 1, rfl, by simp, by omega, (fun h => by cases h), fun i hi => ⟨w.heap.size + 1, 0, rfl, ?_⟩⟩
  obtain rfl : i = 0 := by simpa using hi
  have hA := fun o v h => At.new (w.alloc (.cells #[.string ⟨#[120]⟩] 9)) #[.int .i64 0, .int .i64 1, .slice none 0 0, .slice (some ⟨w.heap.size, 0, none⟩) 1 1] E o v h
  rw [hs] at hA
  refine ⟨_, _, hA 0 _ rfl, hA 1 _ rfl, hA 2 _ rfl, hA 3 _ rfl, Arr.nil _ _ _, ?_⟩
  refine ⟨_, 1, rfl, by simp [t1], by omega, (fun h => by cases h), fun i hi => ⟨w.heap.size, 0, rfl, ?_⟩⟩
  obtain rfl : i = 0 := by simpa [t1] using hi
  refine ⟨?_, (At.new w #[.string ⟨#[120]⟩] 9 0 _ rfl).grow ((Up.refl _).alloc _)⟩
  refine Ty.up ⟨#[.string ⟨#[120]⟩], (0, 0), ?_⟩ ((Up.refl _).alloc _)
  show (w.heap.push _)[w.heap.size]? = _
  simp

theorem works_any (w : World) : Calls Try.prog 11 #[] w fun e w' => e = .returned (.bool true) ∧ Up w w' := by
  go_enter Try.func11, Try.ntmps11
  go_wp2_with (first
    | (go_at_call 13; refine (admit_any _ [t1] _ (t1_txs _ _) t1_valid).mono ?_; rintro e w1 ⟨g, rfl, hg, hb, hu⟩; rw [t1_admit] at hb; have hu1 := Up.trans (((Up.refl w).alloc _).alloc _) hu)
    | (go_at_call 16; refine (equalB_any _ _ [true] [true] _ (Arr.grow boolR_grows (bv_arr hb (by simp)) ((Up.refl _).alloc _)) (bv_arr (l := [true]) (Blk.new w1 #[.bool true] 4) (by simp))).mono ?_; rintro e w2 ⟨rfl, hu2⟩; rw [show decide ([true] = [true]) = true from rfl]))
  go_ret
  exact ⟨rfl, Up.trans (hu1.alloc _) hu2⟩
end Go.Proofs.Ytfpegnlmpicekaa.C
