/- A region that draws its order, whose operations but the last read or call (calls may make memory), and whose last one, a store, waits for all the others. -/
import Derived.Test.YthcldanmppkkjaaRi
import Derived.Deep.Quiet
namespace Go.Proofs.Ythcldanmppkkjaa.Hp
open Go Go.RowKit
set_option linter.unusedVariables false

/-- The last operation, made idle. -/
def idle (o : Oper) : Oper := { o with dst := none, op := .move (.const undef), guard := none }
section
variable {P : Program} {ops : Array Oper} {C : World → Prop} {Q : Exit → Act → World → Prop} {n : Nat} {o : Oper}
theorem idle_other (n : Nat) (o : Oper) {i : Nat} (h : i ≠ n) : (ops.setIfInBounds n (idle o))[i]? = ops[i]? := by
  rw [Array.getElem?_setIfInBounds_ne (fun e => h e.symm)]
theorem idle_ready (md : Region.Mode) (ho : ops[n]? = some o) (L : Array Bool) : Region.ready md (ops.setIfInBounds n (idle o)) L = Region.ready md ops L := by
  have hn : n < ops.size := (Array.getElem?_eq_some_iff.1 ho).1
  unfold Region.ready
  rw [Array.size_setIfInBounds]
  congr 1
  funext i
  by_cases e : i = n
  · subst e
    rw [Array.getElem?_setIfInBounds_self_of_lt hn, ho]
    rfl
  · rw [idle_other n o e]
theorem idle_yield (ho : ops[n]? = some o) (hd : o.dst = none) (t : Array Value) (j : Nat) : yielded (ops.setIfInBounds n (idle o)) t j = yielded ops t j := by
  have hn : n < ops.size := (Array.getElem?_eq_some_iff.1 ho).1
  unfold yielded
  by_cases e : j = n
  · subst e
    rw [Array.getElem?_setIfInBounds_self_of_lt hn, ho]
    simp [idle, hd]
  · rw [idle_other n o e]
theorem idle_wanted (ho : ops[n]? = some o) (hd : o.dst = none) (o' : Oper) (t : Array Value) : Region.wanted o' (yielded (ops.setIfInBounds n (idle o)) t) = Region.wanted o' (yielded ops t) := by
  rw [show yielded (ops.setIfInBounds n (idle o)) t = yielded ops t from funext fun j => idle_yield ho hd t j]
theorem idle_any (hlex : ∀ (i : Nat) (o : Oper), ops[i]? = some o → ∀ e ∈ o.after, e.on < i) (ho : ops[n]? = some o) (hd : o.dst = none) (hg : o.guard = none) (hw : ∀ i, i < ops.size → i ≠ n → ∃ e ∈ o.after, Region.binds .any e = true ∧ e.on = i) {R : Act → Prop}
    (hR : ∀ a w, C w → R a → wpList P ops Q [o] a w) :
    ∀ (fuel : Nat) (L : Array Bool) (a : Act) (w : World), C w → L.size = ops.size → L.getD n true = false →
      wpAnyQ P .any (ops.setIfInBounds n (idle o)) C R fuel L a → wpAny P .any ops Q (fuel) L a w := by
  have hn : n < ops.size := (Array.getElem?_eq_some_iff.1 ho).1
  have hready : ∀ L : Array Bool, L.size = ops.size → (∀ i, i < ops.size → i ≠ n → L.getD i false = true) → L.getD n true = false → Region.ready .any ops L = [n] ∨ Region.ready .any ops L = [] := fun L hs hall h0 => by
    have hsub : ∀ i ∈ Region.ready .any ops L, i = n := fun i hi => by
      obtain ⟨h1, o', ho', _⟩ := mem_ready.1 hi
      have hil : i < ops.size := (Array.getElem?_eq_some_iff.1 ho').1
      by_cases e : i = n
      · exact e
      · have := hall i hil e
        simp [hs, hil] at this h1
        rw [this] at h1; cases h1
    have hnd : (Region.ready .any ops L).Nodup := by
      unfold Region.ready
      exact List.Nodup.sublist List.filter_sublist List.nodup_range
    cases hr : Region.ready .any ops L with
    | nil => exact .inr rfl
    | cons x r =>
      rw [hr] at hsub hnd
      have hx := hsub x (List.mem_cons_self ..)
      cases r with
      | nil => rw [hx]; exact .inl rfl
      | cons y r =>
        have hy := hsub y (List.mem_cons_of_mem _ (List.mem_cons_self ..))
        rw [hx, hy] at hnd
        simp at hnd
  have hself : ∀ L : Array Bool, L.size = ops.size → n ∈ Region.ready .any ops L → Region.ready .any ops (L.setIfInBounds n true) = [] := fun L hs hm => by
    obtain ⟨h0, o', ho', hall⟩ := mem_ready.1 hm
    rw [ho] at ho'
    cases ho'
    cases hr : Region.ready .any ops (L.setIfInBounds n true) with
    | nil => rfl
    | cons x r =>
      exfalso
      obtain ⟨h1, o', ho', _⟩ := mem_ready.1 (show x ∈ Region.ready .any ops (L.setIfInBounds n true) by rw [hr]; exact List.mem_cons_self ..)
      have hxl : x < ops.size := (Array.getElem?_eq_some_iff.1 ho').1
      by_cases e : x = n
      · subst e
        simp [hs, hn] at h1
      · obtain ⟨ed, he1, he2, he3⟩ := hw x hxl e
        have h2 := hall ed he1 he2
        rw [he3] at h2
        simp [hs, hxl, Ne.symm e] at h1 h2
        rw [h2] at h1; cases h1
  have hdone : ∀ L : Array Bool, L.size = ops.size → L.getD n true = false → Region.ready .any ops L ≠ [] := fun L hs h0 hr => by
    have := all_done hlex hs hr n hn
    rw [getD_dd (by omega) false true, h0] at this
    cases this
  intro fuel
  induction fuel with
  | zero =>
    intro L a w hC hs h0 h
    have h1 := h.1
    rw [idle_ready .any ho] at h1
    exact absurd h1 (hdone L hs h0)
  | succ fuel ih =>
    intro L a w hC hs h0 h
    refine ⟨fun hr => absurd hr (hdone L hs h0), fun i hi => ?_⟩
    have hq := h.2 i (by rw [idle_ready .any ho]; exact hi)
    by_cases e : i = n
    · subst e
      have hr := hself L hs hi
      have hRa : R a := by
        unfold qOp at hq
        rw [Array.getElem?_setIfInBounds_self_of_lt hn] at hq
        have hw0 : Region.wanted (idle o) (yielded (ops.setIfInBounds i (idle o)) a.tmps) = true := rfl
        simp only [hw0, if_true] at hq
        obtain ⟨v, _, hk⟩ := hq
        rw [show a.put (idle o).dst v = a from rfl] at hk
        cases fuel with
        | zero => exact hk.2
        | succ fuel => exact hk.1 (by rw [idle_ready .any ho]; exact hr)
      have hwp := hR a w hC hRa
      unfold wpOp
      rw [ho]
      have hw1 : Region.wanted o (yielded ops a.tmps) = true := by simp [Region.wanted, hg]
      simp only [hw1, if_true]
      unfold wpList at hwp
      simp only [hw1, if_true] at hwp
      refine hwp.imp (fun hwp => Oper.wp_mono (fun a' w' h' => ?_) hwp) id
      unfold wpList at h'
      cases fuel with
      | zero => exact ⟨hr, h'⟩
      | succ fuel => exact ⟨fun _ => h', fun j hj => by rw [hr] at hj; cases hj⟩
    · refine wpOp_of_qOp (K := wpAnyQ P .any (ops.setIfInBounds n (idle o)) C R fuel (L.setIfInBounds i true)) hC (fun a' w' hw' h' => ih _ a' w' hw' (by simpa using hs) ?_ h') ?_
      · rw [getD_set_other e]; exact h0
      · unfold qOp at hq ⊢
        rw [idle_other n o e] at hq
        simpa only [idle_wanted ho hd] using hq
theorem quiet_snoc (ho : ops[n]? = some o) (hd : o.dst = none) {R : Act → Prop} : ∀ (l : List Oper) (a : Act), wpQuiet P ops C R l a → wpQuiet P (ops.setIfInBounds n (idle o)) C R (l ++ [idle o]) a
  | [], a, h => by
    have hw0 : Region.wanted (idle o) (yielded (ops.setIfInBounds n (idle o)) a.tmps) = true := rfl
    rw [List.nil_append]
    unfold wpQuiet
    rw [if_pos hw0]
    exact ⟨undef, fun w _ => ⟨rfl, rfl⟩, by unfold wpQuiet; exact h⟩
  | x :: l, a, h => by
    rw [List.cons_append]
    unfold wpQuiet at h ⊢
    rw [idle_wanted ho hd]
    split
    · rename_i hw
      rw [if_pos hw] at h
      exact Oper.quiet_mono (fun a' h' => quiet_snoc ho hd l a' h') h
    · rename_i hw
      rw [if_neg hw] at h
      exact quiet_snoc ho hd l _ h
theorem wp_region_gr_last {id : Nat} {a : Act} {w : World} {l : List Oper} (o : Oper) (n : Nat) (hm : P.follows .mixedOrders = true) (ho : l[n]? = some o) (hl : l.length = n + 1) (hd : o.dst = none) (hg : o.guard = none)
    (hB : Region.lexB .any (l.toArray.setIfInBounds n (idle o)) = true)
    (hw : ((List.range l.length).all fun i => decide (i = n) || o.after.any fun e => Region.binds .any e && decide (e.on = i)) = true)
    (hx : ((List.range l.toArray.size).all fun i => ((l.toArray[i]?).map fun o => o.after.all fun e => decide (e.on < i)).getD true) = true)
    (h : wpQuiet P l.toArray (fun w' => ∃ g, w' = gr w g) (fun a' => ∀ w', (∃ g, w' = gr w g) → wpList P l.toArray Q (l.drop n) a' w') (l.take n) a) : (Code.region id l.toArray true).wp P Q a w := by
  have ho' : l.toArray[n]? = some o := by simpa using ho
  have hn : n < l.length := by omega
  have hdr : l.drop n = [o] := by
    rw [List.drop_eq_getElem_cons hn, List.drop_eq_nil_of_le (by omega)]
    rw [List.getElem?_eq_getElem hn] at ho
    rw [Option.some.inj ho]
  have htk : l.take n ++ [idle o] = (l.toArray.setIfInBounds n (idle o)).toList := by
    simp only [Array.toList_setIfInBounds]
    rw [List.set_eq_take_append_cons_drop, if_pos hn, List.drop_eq_nil_of_le (by omega)]
  rw [hdr] at h
  have h2 := quiet_snoc ho' hd _ _ h
  rw [htk] at h2
  have hsz : (l.toArray.setIfInBounds n (idle o)).size = l.toArray.size := by simp
  simp only [Region.lexB, Bool.and_eq_true] at hB
  refine wp_region_any hm (idle_any (C := fun w' => ∃ g, w' = gr w g) (R := fun a' => ∀ w', (∃ g, w' = gr w g) → wpList P l.toArray Q [o] a' w') (lex_of hx) ho' hd hg (fun i hi hne => ?_) (fun a w' hC hR => hR w' hC) _ _ _ _ (Up.gr (Up.drew (Up.refl w))) (by simp) (by simp [hn]) ?_)
  · have h1 := List.all_eq_true.1 hw i (List.mem_range.2 (by simpa using hi))
    simp only [Bool.or_eq_true, decide_eq_true_eq] at h1
    rcases h1 with h1 | h1
    · exact absurd h1 hne
    · obtain ⟨e, he, h3⟩ := Array.any_eq_true'.1 h1
      simp only [Bool.and_eq_true, decide_eq_true_eq] at h3
      exact ⟨e, he, h3.1, h3.2⟩
  · have := wpAnyQ_lex (C := fun w' => ∃ g, w' = gr w g) (md := .any) hB.1 _ 0 (Array.replicate (l.toArray.setIfInBounds n (idle o)).size false) a (by simp) (by simpa using hB.2) h2
    simpa [hsz] using this
end
end Go.Proofs.Ythcldanmppkkjaa.Hp
