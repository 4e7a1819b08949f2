/- A region that draws its order, by an invariant: what holds of the frame and the world, given which operations have come up. -/
import Derived.Test.YthcldanmppkkjaaSl
import Derived.Orders
namespace Go.Proofs.Ythcldanmppkkjaa.Hp
open Go Go.RowKit
set_option linter.unusedVariables false

theorem getD_set_self {L : Array Bool} {i : Nat} (h : i < L.size) (d b : Bool) : (L.setIfInBounds i b).getD i d = b := by
  simp [Array.getD, h]
theorem getD_set_other {L : Array Bool} {i j : Nat} (h : i ≠ j) (d b : Bool) : (L.setIfInBounds i b).getD j d = L.getD j d := by
  rw [Array.getD_eq_getD_getElem?, Array.getD_eq_getD_getElem?, Array.getElem?_setIfInBounds_ne h]
theorem getD_dd {L : Array Bool} {i : Nat} (h : i < L.size) (d d' : Bool) : L.getD i d = L.getD i d' := by simp [Array.getD, h]
/-- How many have not come up. -/
def left (L : Array Bool) : Nat := (L.toList.filter fun b => !b).length
theorem filter_set_lt : ∀ (l : List Bool) (i : Nat) (h : l[i]? = some false), ((l.set i true).filter fun b => !b).length < (l.filter fun b => !b).length
  | [], i, h => by simp at h
  | x :: l, 0, h => by simp at h; subst h; simp
  | x :: l, i + 1, h => by
    have := filter_set_lt l i (by simpa using h)
    rw [List.set_cons_succ, List.filter_cons, List.filter_cons]
    split <;> simp <;> omega
theorem left_set {L : Array Bool} {i : Nat} (h : L.getD i true = false) : left (L.setIfInBounds i true) < left L := by
  unfold left
  rw [Array.toList_setIfInBounds]
  refine filter_set_lt _ _ ?_
  rw [Array.getD_eq_getD_getElem?] at h
  rw [Array.getElem?_toList]
  cases hL : L[i]? with
  | none => rw [hL] at h; cases h
  | some b => rw [hL] at h; simp at h; rw [h]
section
variable {P : Program} {ops : Array Oper} {Q : Exit → Act → World → Prop}
theorem all_done (hlex : ∀ (i : Nat) (o : Oper), ops[i]? = some o → ∀ e ∈ o.after, e.on < i) {L : Array Bool} (hsz : L.size = ops.size) (h : Region.ready .any ops L = []) : ∀ i, i < ops.size → L.getD i false = true := by
  intro i
  induction i using Nat.strongRecOn with
  | ind i ih =>
    intro hi
    cases hb : L.getD i false with
    | true => rfl
    | false =>
      exfalso
      have ho : ops[i]? = some ops[i] := Array.getElem?_eq_getElem hi
      have : i ∈ Region.ready .any ops L := mem_ready.2 ⟨by rw [getD_dd (by omega) true false]; exact hb, _, ho, fun e he _ => ih e.on (hlex i _ ho e he) (by have := hlex i _ ho e he; omega)⟩
      rw [h] at this
      cases this
theorem lex_of (h : ((List.range ops.size).all fun i => ((ops[i]?).map fun o => o.after.all fun e => decide (e.on < i)).getD true) = true) : ∀ (i : Nat) (o : Oper), ops[i]? = some o → ∀ e ∈ o.after, e.on < i := fun i o ho e he => by
  have hi : i < ops.size := (Array.getElem?_eq_some_iff.1 ho).1
  have h1 := List.all_eq_true.1 h i (List.mem_range.2 hi)
  rw [ho] at h1
  simp only [Option.map_some, Option.getD_some, Array.all_eq_true_iff_forall_mem] at h1
  exact of_decide_eq_true (h1 e he)
/-- A call of a Go function. -/
theorem wp_go {dst : Option Tmp} {f : FuncId} {xs : Array Operand} {ats : Array TypeId} {ty : TypeId} {pos : String} {after : Array Edge} {a : Act} {w : World} {K : Act → World → Prop}
    (hcall : ∀ args w, (callFunc f args).run P w = .ok (.enter f args) w) (vs : Array Value) (hv : #[] ++ xs.map a.eval ++ #[] = vs) {R : Ending → World → Prop} (hc : Calls P f vs w R) (h : ∀ e w', R e w' → ∃ v, e = .returned v ∧ K (a.put dst v) w') :
    Oper.wp P { dst, op := .call { callee := .value (.func f), args := xs, argTypes := ats }, type := ty, pos, after, guard := none } a w K Q := by
  unfold Oper.wp
  rw [execOp_call_go, hcall, hv, Oper.upon_enter]
  refine hc.mono fun e w' hr => ?_
  obtain ⟨v, rfl, hk⟩ := h e w' hr
  exact hk
theorem wpAny_inv {I : Array Bool → Act → World → Prop}
    (hs : ∀ L a w i o, I L a w → L.size = ops.size → ops[i]? = some o → L.getD i true = false → (∀ e ∈ o.after, Region.binds .any e = true → L.getD e.on false = true) → wpOp P ops Q i (I (L.setIfInBounds i true)) a w)
    (he : ∀ L a w, I L a w → L.size = ops.size → Region.ready .any ops L = [] → Q .normal a w) :
    ∀ fuel L a w, I L a w → L.size = ops.size → left L ≤ fuel → wpAny P .any ops Q fuel L a w := by
  intro fuel
  induction fuel with
  | zero =>
    intro L a w hI hsz hl
    have hr : Region.ready .any ops L = [] := by
      cases hr : Region.ready .any ops L with
      | nil => rfl
      | cons i r =>
        have hi : i ∈ Region.ready .any ops L := by rw [hr]; exact List.mem_cons_self ..
        have := left_set (mem_ready.1 hi).1
        omega
    exact ⟨hr, he L a w hI hsz hr⟩
  | succ fuel ih =>
    intro L a w hI hsz hl
    refine ⟨fun hr => he L a w hI hsz hr, fun i hi => ?_⟩
    obtain ⟨h0, o, ho, hall⟩ := mem_ready.1 hi
    exact wpOp_mono (fun a' w' h' => ih _ a' w' h' (by simpa using hsz) (by have := left_set h0; omega)) (hs L a w i o hI hsz ho h0 hall)
theorem wp_region_inv {id : Nat} {a : Act} {w : World} {I : Array Bool → Act → World → Prop} (hm : P.follows .mixedOrders = true) (h0 : I (Array.replicate ops.size false) a w.drew)
    (hs : ∀ L a w i o, I L a w → L.size = ops.size → ops[i]? = some o → L.getD i true = false → (∀ e ∈ o.after, Region.binds .any e = true → L.getD e.on false = true) → wpOp P ops Q i (I (L.setIfInBounds i true)) a w)
    (he : ∀ L a w, I L a w → L.size = ops.size → Region.ready .any ops L = [] → Q .normal a w) : (Code.region id ops true).wp P Q a w :=
  wp_region_any hm (wpAny_inv hs he _ _ _ _ h0 (by simp) (by simp [left]))
/-- One operation that has come up. -/
theorem wpOp_of {i : Nat} {o : Oper} {K : Act → World → Prop} {a : Act} {w : World} (ho : ops[i]? = some o) (hg : o.guard = none) (h : o.wp P a w K Q) : wpOp P ops Q i K a w := by
  unfold wpOp
  rw [ho]
  have hw : Region.wanted o (yielded ops a.tmps) = true := by simp [Region.wanted, hg]
  simp only [hw, if_true]
  exact .inl h
end
end Go.Proofs.Ythcldanmppkkjaa.Hp
