/- Interleavings: operations as cells; dependent; slices.Equal at operations. Printed by gen5/in3.py. -/
import Derived.Test.YthcldanmppkkjaaIne
import Derived.Test.YthcldanmppkkjaaSo
namespace Go.Proofs.Ythcldanmppkkjaa.In
open Go Go.RowKit Hp
set_option linter.unusedVariables false

/-! ### Rows of records of k cells -/
section
variable {α : Type} {k : Nat} {f : α → List Value}
theorem fm_len (hk : ∀ a, (f a).length = k) (l : List α) : (l.flatMap f).length = l.length * k := by
  induction l with
  | nil => simp
  | cons a l ih => rw [List.flatMap_cons, List.length_append, ih, hk, List.length_cons, Nat.add_mul, Nat.one_mul, Nat.add_comm]
theorem fm_take (hk : ∀ a, (f a).length = k) (l : List α) (i : Nat) : (l.flatMap f).take (i * k) = (l.take i).flatMap f := by
  induction l generalizing i with
  | nil => simp
  | cons a l ih => cases i with
    | zero => simp
    | succ i => rw [List.take_succ_cons, List.flatMap_cons, List.flatMap_cons, Nat.add_mul, Nat.one_mul, Nat.add_comm, ← hk a, List.take_length_add_append, hk a, ih]
theorem fm_drop (hk : ∀ a, (f a).length = k) (l : List α) (i : Nat) : (l.flatMap f).drop (i * k) = (l.drop i).flatMap f := by
  induction l generalizing i with
  | nil => simp
  | cons a l ih => cases i with
    | zero => simp
    | succ i => rw [List.drop_succ_cons, List.flatMap_cons, Nat.add_mul, Nat.one_mul, Nat.add_comm, ← hk a, List.drop_length_add_append, hk a, ih]
theorem fm_get (hk : ∀ a, (f a).length = k) (l : List α) (i j : Nat) (h : i < l.length) (hj : j < k) : (l.flatMap f)[i * k + j]? = (f l[i])[j]? := by
  induction l generalizing i with
  | nil => simp at h
  | cons a l ih => cases i with
    | zero => rw [List.flatMap_cons, Nat.zero_mul, Nat.zero_add, List.getElem?_append_left (by rw [hk]; exact hj)]; rfl
    | succ i =>
      rw [List.flatMap_cons, List.getElem?_append_right (by rw [hk, Nat.add_mul]; omega), hk, show (i + 1) * k + j - k = i * k + j by rw [Nat.add_mul]; omega, ih i (by simpa using h)]
      rfl
theorem fm_set (hk : ∀ a, (f a).length = k) (l : List α) (i j : Nat) (h : i < l.length) (hj : j < k) (u : Value) (a : α) (ha : f a = (f l[i]).set j u) : (l.flatMap f).set (i * k + j) u = (l.set i a).flatMap f := by
  induction l generalizing i with
  | nil => simp at h
  | cons b l ih => cases i with
    | zero => rw [List.flatMap_cons, Nat.zero_mul, Nat.zero_add, List.set_append_left _ _ (by rw [hk]; exact hj), List.set_cons_zero, List.flatMap_cons, ha]; rfl
    | succ i =>
      rw [List.flatMap_cons, List.set_append_right _ _ (by rw [hk, Nat.add_mul]; omega), hk, show (i + 1) * k + j - k = i * k + j by rw [Nat.add_mul]; omega, ih i (by simpa using h) (by simpa using ha), List.set_cons_succ, List.flatMap_cons]
theorem fm_same (l : List α) (i : Nat) (h : i < l.length) (a : α) (ha : f a = f l[i]) : (l.set i a).flatMap f = l.flatMap f := by
  induction l generalizing i with
  | nil => simp at h
  | cons b l ih => cases i with
    | zero => rw [List.set_cons_zero, List.flatMap_cons, List.flatMap_cons, ha]; rfl
    | succ i => rw [List.set_cons_succ, List.flatMap_cons, List.flatMap_cons, ih i (by simpa using h) (by simpa using ha)]
theorem fm_one (h1 : ∀ a, ∀ u ∈ f a, u.oneCell' = true) (l : List α) : ∀ u ∈ l.flatMap f, u.oneCell' = true := fun u hu => by
  obtain ⟨a, _, ha⟩ := List.mem_flatMap.1 hu
  exact h1 a u ha
end


def hp1 (h : Hop) : List Value := [.int .i64 (h.tx : Int), .int .i64 h.kind, .string h.key]
def hpC (l : List Hop) : List Value := l.flatMap hp1
theorem hpC_len (l : List Hop) : (hpC l).length = l.length * 3 := fm_len (k := 3) (fun _ => rfl) l
theorem hpC_one (l : List Hop) : ∀ u ∈ hpC l, u.oneCell' = true := fm_one (fun a u hu => by simp [hp1] at hu; rcases hu with rfl | rfl | rfl <;> rfl) l
theorem hpC_take (l : List Hop) (i : Nat) : (hpC l).take (i * 3) = hpC (l.take i) := fm_take (k := 3) (fun _ => rfl) l i
theorem hpC_drop (l : List Hop) (i : Nat) : (hpC l).drop (i * 3) = hpC (l.drop i) := fm_drop (k := 3) (fun _ => rfl) l i
theorem hpC_app (a b : List Hop) : hpC (a ++ b) = hpC a ++ hpC b := List.flatMap_append
theorem hpC_get (l : List Hop) (i : Nat) (h : i < l.length) : (hpC l)[i * 3]? = some (.int .i64 (l[i].tx : Int)) ∧ (hpC l)[i * 3 + 1]? = some (.int .i64 l[i].kind) ∧ (hpC l)[i * 3 + 2]? = some (.string l[i].key) :=
  ⟨(fm_get (k := 3) (f := hp1) (fun _ => rfl) l i 0 h (by decide)).trans rfl, (fm_get (k := 3) (f := hp1) (fun _ => rfl) l i 1 h (by decide)).trans rfl, (fm_get (k := 3) (f := hp1) (fun _ => rfl) l i 2 h (by decide)).trans rfl⟩
abbrev OpsO (w : World) (base : Nat) (v : Value) (l : List Hop) : Prop := w.ownsRow base 33 3 v l.length (hpC l)
theorem hops_own {w : World} {base : Nat} {v : Value} {l : List Hop} (h : OpsO w base v l) : Hops w v l :=
  own_arr h fun g hg hc i hi => ⟨hg, hc _ _ (hpC_get l i hi).1, hc _ _ (hpC_get l i hi).2.1, hc _ _ (hpC_get l i hi).2.2⟩
theorem hops_take {w : World} {a : Option Addr} {c m : Nat} {l : List Hop} (h : Hops w (.slice a l.length c) l) (hm : m ≤ l.length) : Hops w (.slice a m c) (l.take m) := by
  obtain ⟨a', cap, hv, h1, h2, h3, h4⟩ := h
  simp only [Value.slice.injEq, true_and] at hv
  obtain ⟨rfl, rfl⟩ := hv
  have e : (l.take m).length = m := by rw [List.length_take]; omega
  refine ⟨a, c, by rw [e], by omega, h2, h3, fun i hi => ?_⟩
  obtain ⟨b, off, ha, hr⟩ := h4 i (by omega)
  exact ⟨b, off, ha, by rw [List.getElem_take]; exact hr⟩
/-! ### dependent -/
def depH (a b : Hop) : Bool := (a.tx == b.tx) || confl a b
theorem depH_tx {a b : Hop} (h : a.tx = b.tx) : depH a b = true := by unfold depH; rw [h]; simp
theorem depH_symm (a b : Hop) : depH a b = depH b a := by
  unfold depH confl
  rw [show (b.tx == a.tx) = (a.tx == b.tx) from BEq.comm, show (b.key.toList == a.key.toList) = (a.key.toList == b.key.toList) from BEq.comm, Bool.or_comm (b.kind == 2)]
set_option maxRecDepth 100000 in
set_option maxHeartbeats 1000000 in
theorem dep_any (a b : Hop) (w : World) : Calls Try.prog 33 #[hv a, hv b] w fun e w' => e = .returned (.bool (depH a b)) ∧ Up w w' := by
  have HC := Lib.hid (fun W => confl_any a b W)
  obtain ⟨ta, ka, sa⟩ := a
  obtain ⟨tb, kb, sb⟩ := b
  have U := ((Up.refl w).alloc (.cells #[.int .i64 (ta : Int), .int .i64 ka, .string sa] 33)).alloc (.cells #[.int .i64 (tb : Int), .int .i64 kb, .string sb] 33)
  have HU := Lib.hid U
  clear U
  unfold hv at HC ⊢
  dsimp only at HC ⊢
  by_cases h : ta = tb
  · subst h
    have hb : ((ta : Int) == (ta : Int)) = true := by simp
    have E : Hid (depH ⟨ta, ka, sa⟩ ⟨ta, kb, sb⟩ = true) := depH_tx rfl
    go_enter Try.func33, Try.ntmps33
    go_wp2
    go_ret
    exact ⟨ret_bool E.out.symm, HU.out⟩
  · have hb : ((ta : Int) == (tb : Int)) = false := beq_eq_false_iff_ne.2 (by omega)
    have hi : ¬ (ta : Int) = (tb : Int) := by omega
    have E : Hid (depH ⟨ta, ka, sa⟩ ⟨tb, kb, sb⟩ = confl ⟨ta, ka, sa⟩ ⟨tb, kb, sb⟩) := by
      unfold Hid depH
      rw [show ((⟨ta, ka, sa⟩ : Hop).tx == (⟨tb, kb, sb⟩ : Hop).tx) = false from beq_eq_false_iff_ne.2 h, Bool.false_or]
    rw [E.out]
    generalize confl ⟨ta, ka, sa⟩ ⟨tb, kb, sb⟩ = x at *
    clear h E
    go_enter Try.func33, Try.ntmps33
    go_wp2_with (first
      | (go_at_call 38; refine (HC.out _).mono ?_; rintro e w1 ⟨rfl, h1⟩; have U1 := Lib.hid (HU.out.trans h1); clear h1)
      | fail)
    go_ret
    exact ⟨rfl, U1.out⟩
/-! ### slices.Equal -/
theorem hop_ext {a b : Hop} (h1 : a.tx = b.tx) (h2 : a.kind = b.kind) (h3 : a.key = b.key) : a = b := by cases a; cases b; simp at h1 h2 h3; rw [h1, h2, h3]
theorem hop_eq (W : World) (t : Nat) (s : Int) (x : ByteArray) (t' : Nat) (s' : Int) (x' : ByteArray) : (Op.equalIn 10000 33 (.agg #[.int .i64 (t : Int), .int .i64 s, .string x]) (.agg #[.int .i64 (t' : Int), .int .i64 s', .string x'])).run Try.prog W = .ok (decide (t = t') && decide (s = s') && decide (x = x')) W := by
  rw [show (10000 : Nat) = 9999 + 1 from rfl, Op.equalIn]
  simp only [Sem.run_bind, run_underlying Try.underlying33, Result.andThen_ok]
  simp only [part]
  have ha1 : ∀ W : World, (isAgg 3).run Try.prog W = .ok false W := Try.isAgg3
  have ha2 : ∀ W : World, (isAgg 9).run Try.prog W = .ok false W := Try.isAgg9
  have hi : ∀ a b : ByteArray, ¬ a = b → (a.toList == b.toList) = false := fun a b h => beq_eq_false_iff_ne.2 fun e => h (_root_.Go.Proofs.Ythcldanmppkkjaa.So.ba_inj (by rw [_root_.Go.Proofs.Ythcldanmppkkjaa.So.tl, _root_.Go.Proofs.Ythcldanmppkkjaa.So.tl] at e; exact e))
  have hn : ∀ a b : Nat, ¬ a = b → ¬ (a : Int) = (b : Int) := fun a b h e => h (by omega)
  by_cases h1 : t = t'
  · by_cases h2 : s = s'
    · by_cases h3 : x = x'
      · simp [ha1, ha2, go_sem, h1, h2, h3]
      · simp [ha1, ha2, go_sem, h1, h2, h3]
        all_goals simpa using hi _ _ h3
    · simp [ha1, ha2, go_sem, h1, h2]
  · simp [ha1, ha2, go_sem, h1, hn _ _ h1]
theorem guardO : Try.prog.eqGuardType Try.prog.depth 33 = false := by kernel_rfl

set_option maxRecDepth 100000 in
set_option maxHeartbeats 1000000 in
theorem equalO_any (v v' : Value) (l l' : List Hop) (w : World) (h : Src w 3 v l.length (hpC l)) (h' : Src w 3 v' l'.length (hpC l')) (hl : l.length ≤ 1000) (hl' : l'.length ≤ 1000) :
    Calls Try.prog 23 #[v, v'] w fun e w' => e = .returned (.bool (decide (l = l'))) ∧ Up w w' := by
  have HS := Lib.hid h
  have HS' := Lib.hid h'
  obtain ⟨a, cap, rfl⟩ : ∃ a cap, v = .slice a l.length cap := by
    rcases h.2 with ⟨e, h0⟩ | ⟨b, off, c, e, _⟩
    · exact ⟨none, 0, by rw [h0]; exact e⟩
    · exact ⟨_, _, e⟩
  obtain ⟨a', cap', rfl⟩ : ∃ a cap, v' = .slice a l'.length cap := by
    rcases h'.2 with ⟨e, h0⟩ | ⟨b, off, c, e, _⟩
    · exact ⟨none, 0, by rw [h0]; exact e⟩
    · exact ⟨_, _, e⟩
  clear h h'
  by_cases hll : l.length = l'.length
  · have hne : ((l.length : Int) != (l'.length : Int)) = false := by rw [hll]; simp
    have HLL := Lib.hid hll
    rw [← hll]
    rw [← hll] at hne
    clear hll
    go_enter Try.func23, Try.ntmps23
    go_wp2
    go_loopw [13] (fun iv wr => ∃ k : Nat, k ≤ l.length ∧ iv = .int .i64 k ∧ Hid (Up w wr) ∧ Hid (l.take k = l'.take k)) (fun iv _ => l.length - (intOf iv).toNat)
    case atStart => exact ⟨0, by omega, rfl, Up.refl _, rfl⟩
    case round =>
      obtain ⟨k, hk, rfl, HU, HT⟩ := hrel
      by_cases hlt : k < l.length
      · have hlt' : k < l'.length := by have := HLL.out; omega
        obtain ⟨b, off, hv, c1, c2, c3⟩ : ∃ b off, a = some ⟨b, off, none⟩ ∧ At w b (off + k * 3) (.int .i64 (l[k].tx : Int)) ∧ At w b (off + (k * 3 + 1)) (.int .i64 l[k].kind) ∧ At w b (off + (k * 3 + 2)) (.string l[k].key) := by
          rcases HS.out.2 with ⟨e, h0⟩ | ⟨b, off, c, e, _, _, hc⟩
          · omega
          · simp only [Value.slice.injEq] at e
            exact ⟨b, off, e.1, hc _ _ (hpC_get l k hlt).1, hc _ _ (hpC_get l k hlt).2.1, hc _ _ (hpC_get l k hlt).2.2⟩
        obtain ⟨b', off', hv', c1', c2', c3'⟩ : ∃ b off, a' = some ⟨b, off, none⟩ ∧ At w b (off + k * 3) (.int .i64 (l'[k].tx : Int)) ∧ At w b (off + (k * 3 + 1)) (.int .i64 l'[k].kind) ∧ At w b (off + (k * 3 + 2)) (.string l'[k].key) := by
          rcases HS'.out.2 with ⟨e, h0⟩ | ⟨b, off, c, e, _, _, hc⟩
          · omega
          · simp only [Value.slice.injEq] at e
            exact ⟨b, off, e.1, hc _ _ (hpC_get l' k hlt').1, hc _ _ (hpC_get l' k hlt').2.1, hc _ _ (hpC_get l' k hlt').2.2⟩
        subst hv
        subst hv'
        obtain ⟨t, ht⟩ : ∃ t, t = l[k].tx := ⟨_, rfl⟩
        obtain ⟨s, hs⟩ : ∃ s, s = l[k].kind := ⟨_, rfl⟩
        obtain ⟨x, hx⟩ : ∃ x, x = l[k].key := ⟨_, rfl⟩
        obtain ⟨t', ht'⟩ : ∃ t, t = l'[k].tx := ⟨_, rfl⟩
        obtain ⟨s', hs'⟩ : ∃ s, s = l'[k].kind := ⟨_, rfl⟩
        obtain ⟨x', hx'⟩ : ∃ x, x = l'[k].key := ⟨_, rfl⟩
        rw [← ht] at c1
        rw [← hs] at c2
        rw [← hx] at c3
        rw [← ht'] at c1'
        rw [← hs'] at c2'
        rw [← hx'] at c3'
        have HE : Hid ((decide (t = t') && decide (s = s') && decide (x = x')) = true ↔ l[k] = l'[k]) := by
          unfold Hid
          rw [Bool.and_eq_true, Bool.and_eq_true, decide_eq_true_eq, decide_eq_true_eq, decide_eq_true_eq, ht, hs, hx, ht', hs', hx']
          exact ⟨fun h => hop_ext h.1.1 h.1.2 h.2, fun h => by rw [h]; exact ⟨⟨rfl, rfl⟩, rfl⟩⟩
        clear ht hs hx ht' hs' hx'
        have d1 := (c1.grow HU.out).2
        have d2 := (c2.grow HU.out).2
        have d3 := (c3.grow HU.out).2
        have d4 := (c1'.grow HU.out).2
        have d5 := (c2'.grow HU.out).2
        have d6 := (c3'.grow HU.out).2
        rw [← Nat.add_assoc] at d2 d3 d5 d6
        have hlk : (k : Int) < (l.length : Int) := by omega
        clear c1 c2 c3 c1' c2' c3'
        have hpn := fun W => hop_eq W t s x t' s' x'
        have hgd := guardO
        generalize (decide (t = t') && decide (s = s') && decide (x = x')) = bb at *
        cases bb with
        | true =>
          have HEQ : Hid (l[k] = l'[k]) := HE.out.1 rfl
          go_wp2
          go_quiet (fail)
          go_wp2
          go_roundw
          case rel => exact ⟨k + 1, by omega, by go_num, HU.out.drewN _, by unfold Hid; rw [List.take_add_one, List.take_add_one, HT.out, List.getElem?_eq_getElem hlt, List.getElem?_eq_getElem hlt', HEQ.out]⟩
          case measure => simp [intOf]; omega
        | false =>
          have HNE : Hid (¬ l = l') := fun e => by
            subst e
            have := HE.out.2 rfl
            cases this
          go_wp2
          go_quiet (fail)
          go_wp2
          go_ret
          exact ⟨by rw [decide_eq_false HNE.out]; rfl, HU.out.drewN _⟩
      · obtain rfl : k = l.length := by omega
        have HEQ : Hid (l = l') := by
          have h1 := HT.out
          have h2 := HLL.out
          rw [List.take_length, h2, List.take_length] at h1
          exact h1
        go_wp2
        go_ret
        exact ⟨by rw [decide_eq_true HEQ.out]; rfl, HU.out⟩
  · have hne : ((l.length : Int) != (l'.length : Int)) = true := by simp; omega
    have HNE : Hid (¬ l = l') := fun e => hll (by rw [e])
    have hne2 : ¬ (l.length : Int) = (l'.length : Int) := by omega
    clear hll
    go_enter Try.func23, Try.ntmps23
    go_wp2
    go_ret
    exact ⟨by rw [decide_eq_false HNE.out]; rfl, Up.refl _⟩
end Go.Proofs.Ythcldanmppkkjaa.In
