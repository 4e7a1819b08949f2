/- A region that draws its order, whose last operation, a store, waits for all the others: the others are walked with a condition on the world held; the last one comes behind. -/
import Derived.Test.YthcldanmppkkjaaQt
import Derived.Deep.RegionHeld3
namespace Go.Proofs.Ythcldanmppkkjaa.Hp
open Go Go.RowKit
set_option linter.unusedVariables false

/-- The post behind the others: the last operation. -/
def Fin1 (P : Program) (ops : Array Oper) (Q : Exit → Act → World → Prop) (o : Oper) : Exit → Act → World → Prop
  | .normal, a, w => wpList P ops Q [o] a w
  | .panic _, _, _ => False
  | e, a, w => Q e a w
section
variable {P : Program} {ops : Array Oper} {Q : Exit → Act → World → Prop} {S : World → Prop} {n : Nat} {o : Oper}
theorem Fin1.of {a : Act} {w : World} (h : wpList P ops Q [o] a w) : Fin1 P ops Q o .normal a w := h
theorem fin1_lets (h : LetsOut (Fin1 P ops Q o)) : LetsOut Q := by
  first | exact h | exact fun a w => h a w
theorem wp_fin1 {o' : Oper} {a : Act} {w : World} {K : Act → World → Prop} (hh : o'.wp P a w K (Fin1 P ops Q o)) : o'.wp P a w K Q := by
  unfold Oper.wp at *
  generalize (execOp a.eval o').run P w = r at *
  cases r with
  | ok n w' =>
    cases n <;> simp only [Oper.upon] at hh ⊢ <;>
      first
        | exact hh
        | exact Calls.mono hh (fun e w'' he => by
            cases e <;> first | exact he | exact (he : False).elim | exact fin1_lets he)
  | halt x w' => cases x <;> simp only [Oper.upon] at hh ⊢ <;> first | exact hh | exact (hh : False).elim
theorem idle_held (hlex : ∀ (i : Nat) (o : Oper), ops[i]? = some o → ∀ e ∈ o.after, e.on < i) (ho : ops[n]? = some o) (hd : o.dst = none) (hg : o.guard = none) (hw : ∀ i, i < ops.size → i ≠ n → ∃ e ∈ o.after, Region.binds .any e = true ∧ e.on = i) :
    ∀ (fuel : Nat) (L : Array Bool) (a : Act) (w : World), L.size = ops.size → L.getD n true = false →
      wpAnyH P .any (ops.setIfInBounds n (idle o)) (Fin1 P ops Q o) S fuel L a w → wpAny P .any ops Q fuel L a w := by
  have hn : n < ops.size := (Array.getElem?_eq_some_iff.1 ho).1
  have hself : ∀ L : Array Bool, L.size = ops.size → n ∈ Region.ready .any ops L → Region.ready .any ops (L.setIfInBounds n true) = [] := fun L hs hm => by
    obtain ⟨h0, o', ho', hall⟩ := mem_ready.1 hm
    rw [ho] at ho'
    cases ho'
    cases hr : Region.ready .any ops (L.setIfInBounds n true) with
    | nil => rfl
    | cons x r =>
      exfalso
      obtain ⟨h1, o', ho', _⟩ := mem_ready.1 (show x ∈ Region.ready .any ops (L.setIfInBounds n true) by rw [hr]; exact List.mem_cons_self ..)
      have hxl : x < ops.size := (Array.getElem?_eq_some_iff.1 ho').1
      by_cases e : x = n
      · subst e
        simp [hs, hn] at h1
      · obtain ⟨ed, he1, he2, he3⟩ := hw x hxl e
        have h2 := hall ed he1 he2
        rw [he3] at h2
        simp [hs, hxl, Ne.symm e] at h1 h2
        rw [h2] at h1; cases h1
  have hdone : ∀ L : Array Bool, L.size = ops.size → L.getD n true = false → Region.ready .any ops L ≠ [] := fun L hs h0 hr => by
    have := all_done hlex hs hr n hn
    rw [getD_dd (by omega) false true, h0] at this
    cases this
  intro fuel
  induction fuel with
  | zero =>
    intro L a w hs h0 h
    have h1 := h.1
    rw [idle_ready .any ho] at h1
    exact absurd h1 (hdone L hs h0)
  | succ fuel ih =>
    intro L a w hs h0 h
    refine ⟨fun hr => absurd hr (hdone L hs h0), fun i hi => ?_⟩
    have hq := h.2 i (by rw [idle_ready .any ho]; exact hi)
    by_cases e : i = n
    · subst e
      have hr := hself L hs hi
      have hR : wpList P ops Q [o] a w := by
        unfold wpOp at hq
        rw [Array.getElem?_setIfInBounds_self_of_lt hn] at hq
        have hw0 : Region.wanted (idle o) (yielded (ops.setIfInBounds i (idle o)) a.tmps) = true := rfl
        simp only [hw0, if_true] at hq
        have hq1 : Oper.wp P (idle o) a w (fun a' w' => S w' ∧ wpAnyH P .any (ops.setIfInBounds i (idle o)) (Fin1 P ops Q o) S fuel (L.setIfInBounds i true) a' w') (Fin1 P ops Q o) := by
          rcases hq with hq | ⟨hq, _⟩
          · exact hq
          · exact absurd hq.1 (Array.not_mem_empty _)
        have hk : wpAnyH P .any (ops.setIfInBounds i (idle o)) (Fin1 P ops Q o) S fuel (L.setIfInBounds i true) a w := hq1.2
        cases fuel with
        | zero => exact hk.2
        | succ fuel => exact hk.1 (by rw [idle_ready .any ho]; exact hr)
      unfold wpOp
      rw [ho]
      have hw1 : Region.wanted o (yielded ops a.tmps) = true := by simp [Region.wanted, hg]
      simp only [hw1, if_true]
      unfold wpList at hR
      simp only [hw1, if_true] at hR
      refine hR.imp (fun hwp => Oper.wp_mono (fun a' w' h' => ?_) hwp) id
      unfold wpList at h'
      cases fuel with
      | zero => exact ⟨hr, h'⟩
      | succ fuel => exact ⟨fun _ => h', fun j hj => by rw [hr] at hj; cases hj⟩
    · have hL : (L.setIfInBounds i true).getD n true = false := by rw [getD_set_other e]; exact h0
      unfold wpOp at hq ⊢
      rw [idle_other n o e] at hq
      cases hoi : ops[i]? with
      | none => rw [hoi] at hq; exact ih _ _ _ (by simpa using hs) hL hq.2
      | some oi =>
        rw [hoi] at hq
        simp only [idle_wanted ho hd] at hq ⊢
        split
        · rename_i hwt
          simp only [hwt, if_true] at hq
          rcases hq with hq | ⟨h1, h2⟩
          · exact .inl (Oper.wp_mono (fun a' w' h' => ih _ _ _ (by simpa using hs) hL h'.2) (wp_fin1 hq))
          · exact .inr ⟨h1, fin1_lets h2⟩
        · rename_i hwt
          simp only [hwt] at hq
          exact ih _ _ _ (by simpa using hs) hL hq.2
theorem wp_region_held_last {id : Nat} {a : Act} {w : World} {l : List Oper} (o : Oper) (n : Nat) (hm : P.follows .mixedOrders = true) (ho : l[n]? = some o) (hl : l.length = n + 1) (hd : o.dst = none) (hg : o.guard = none)
    (hw : ((List.range l.length).all fun i => decide (i = n) || o.after.any fun e => Region.binds .any e && decide (e.on = i)) = true)
    (hx : ((List.range l.toArray.size).all fun i => ((l.toArray[i]?).map fun o => o.after.all fun e => decide (e.on < i)).getD true) = true)
    (S : World → Prop) (hS : S w.drew)
    (h : S w.drew → wpAnyH P .any (l.set n (idle o)).toArray (Fin1 P l.toArray Q o) S (n + 1) (Array.replicate (n + 1) false) a w.drew) : (Code.region id l.toArray true).wp P Q a w := by
  have ho' : l.toArray[n]? = some o := by simpa using ho
  have hn : n < l.length := by omega
  have hset : (l.toArray.setIfInBounds n (idle o)) = (l.set n (idle o)).toArray := by simp
  have hsz : l.toArray.size = n + 1 := by simpa using hl
  refine wp_region_any hm (idle_held (S := S) (lex_of hx) ho' hd hg (fun i hi hne => ?_) _ _ _ _ (by simp) ?_ ?_)
  · have h1 := List.all_eq_true.1 hw i (List.mem_range.2 (by simpa using hi))
    simp only [Bool.or_eq_true, decide_eq_true_eq] at h1
    rcases h1 with h1 | h1
    · exact absurd h1 hne
    · obtain ⟨e, he, h3⟩ := Array.any_eq_true'.1 h1
      simp only [Bool.and_eq_true, decide_eq_true_eq] at h3
      exact ⟨e, he, h3.1, h3.2⟩
  · simp [hl]
  · rw [hset, hsz]
    exact h hS
end
end Go.Proofs.Ythcldanmppkkjaa.Hp
