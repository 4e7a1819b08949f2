/- joined: Ri, Qt, Ql, Qp -/
import Derived.Test.YtnbhdpmhgamjfaaSl
import Derived.Orders
import Derived.Deep.Quiet
import Derived.Deep.RegionHeld3
/- A region that draws its order, by an invariant: what holds of the frame and the world, given which operations have come up. -/
namespace Go.Proofs.Ytnbhdpmhgamjfaa.Hp
open Go Go.RowKit
set_option linter.unusedVariables false

theorem getD_set_self {L : Array Bool} {i : Nat} (h : i < L.size) (d b : Bool) : (L.setIfInBounds i b).getD i d = b := by
  simp [Array.getD, h]
theorem getD_set_other {L : Array Bool} {i j : Nat} (h : i ≠ j) (d b : Bool) : (L.setIfInBounds i b).getD j d = L.getD j d := by
  rw [Array.getD_eq_getD_getElem?, Array.getD_eq_getD_getElem?, Array.getElem?_setIfInBounds_ne h]
theorem getD_dd {L : Array Bool} {i : Nat} (h : i < L.size) (d d' : Bool) : L.getD i d = L.getD i d' := by simp [Array.getD, h]
/-- How many have not come up. -/
def left (L : Array Bool) : Nat := (L.toList.filter fun b => !b).length
theorem filter_set_lt : ∀ (l : List Bool) (i : Nat) (h : l[i]? = some false), ((l.set i true).filter fun b => !b).length < (l.filter fun b => !b).length
  | [], i, h => by simp at h
  | x :: l, 0, h => by simp at h; subst h; simp
  | x :: l, i + 1, h => by
    have := filter_set_lt l i (by simpa using h)
    rw [List.set_cons_succ, List.filter_cons, List.filter_cons]
    split <;> simp <;> omega
theorem left_set {L : Array Bool} {i : Nat} (h : L.getD i true = false) : left (L.setIfInBounds i true) < left L := by
  unfold left
  rw [Array.toList_setIfInBounds]
  refine filter_set_lt _ _ ?_
  rw [Array.getD_eq_getD_getElem?] at h
  rw [Array.getElem?_toList]
  cases hL : L[i]? with
  | none => rw [hL] at h; cases h
  | some b => rw [hL] at h; simp at h; rw [h]
section
variable {P : Program} {ops : Array Oper} {Q : Exit → Act → World → Prop}
theorem all_done (hlex : ∀ (i : Nat) (o : Oper), ops[i]? = some o → ∀ e ∈ o.after, e.on < i) {L : Array Bool} (hsz : L.size = ops.size) (h : Region.ready .any ops L = []) : ∀ i, i < ops.size → L.getD i false = true := by
  intro i
  induction i using Nat.strongRecOn with
  | ind i ih =>
    intro hi
    cases hb : L.getD i false with
    | true => rfl
    | false =>
      exfalso
      have ho : ops[i]? = some ops[i] := Array.getElem?_eq_getElem hi
      have : i ∈ Region.ready .any ops L := mem_ready.2 ⟨by rw [getD_dd (by omega) true false]; exact hb, _, ho, fun e he _ => ih e.on (hlex i _ ho e he) (by have := hlex i _ ho e he; omega)⟩
      rw [h] at this
      cases this
theorem lex_of (h : ((List.range ops.size).all fun i => ((ops[i]?).map fun o => o.after.all fun e => decide (e.on < i)).getD true) = true) : ∀ (i : Nat) (o : Oper), ops[i]? = some o → ∀ e ∈ o.after, e.on < i := fun i o ho e he => by
  have hi : i < ops.size := (Array.getElem?_eq_some_iff.1 ho).1
  have h1 := List.all_eq_true.1 h i (List.mem_range.2 hi)
  rw [ho] at h1
  simp only [Option.map_some, Option.getD_some, Array.all_eq_true_iff_forall_mem] at h1
  exact of_decide_eq_true (h1 e he)
/-- A call of a Go function. -/
theorem wp_go {dst : Option Tmp} {f : FuncId} {xs : Array Operand} {ats : Array TypeId} {ty : TypeId} {pos : String} {after : Array Edge} {a : Act} {w : World} {K : Act → World → Prop}
    (hcall : ∀ args w, (callFunc f args).run P w = .ok (.enter f args) w) (vs : Array Value) (hv : #[] ++ xs.map a.eval ++ #[] = vs) {R : Ending → World → Prop} (hc : Calls P f vs w R) (h : ∀ e w', R e w' → ∃ v, e = .returned v ∧ K (a.put dst v) w') :
    Oper.wp P { dst, op := .call { callee := .value (.func f), args := xs, argTypes := ats }, type := ty, pos, after, guard := none } a w K Q := by
  unfold Oper.wp
  rw [execOp_call_go, hcall, hv, Oper.upon_enter]
  refine hc.mono fun e w' hr => ?_
  obtain ⟨v, rfl, hk⟩ := h e w' hr
  exact hk
theorem wpAny_inv {I : Array Bool → Act → World → Prop}
    (hs : ∀ L a w i o, I L a w → L.size = ops.size → ops[i]? = some o → L.getD i true = false → (∀ e ∈ o.after, Region.binds .any e = true → L.getD e.on false = true) → wpOp P ops Q i (I (L.setIfInBounds i true)) a w)
    (he : ∀ L a w, I L a w → L.size = ops.size → Region.ready .any ops L = [] → Q .normal a w) :
    ∀ fuel L a w, I L a w → L.size = ops.size → left L ≤ fuel → wpAny P .any ops Q fuel L a w := by
  intro fuel
  induction fuel with
  | zero =>
    intro L a w hI hsz hl
    have hr : Region.ready .any ops L = [] := by
      cases hr : Region.ready .any ops L with
      | nil => rfl
      | cons i r =>
        have hi : i ∈ Region.ready .any ops L := by rw [hr]; exact List.mem_cons_self ..
        have := left_set (mem_ready.1 hi).1
        omega
    exact ⟨hr, he L a w hI hsz hr⟩
  | succ fuel ih =>
    intro L a w hI hsz hl
    refine ⟨fun hr => he L a w hI hsz hr, fun i hi => ?_⟩
    obtain ⟨h0, o, ho, hall⟩ := mem_ready.1 hi
    exact wpOp_mono (fun a' w' h' => ih _ a' w' h' (by simpa using hsz) (by have := left_set h0; omega)) (hs L a w i o hI hsz ho h0 hall)
theorem wp_region_inv {id : Nat} {a : Act} {w : World} {I : Array Bool → Act → World → Prop} (hm : P.follows .mixedOrders = true) (h0 : I (Array.replicate ops.size false) a w.drew)
    (hs : ∀ L a w i o, I L a w → L.size = ops.size → ops[i]? = some o → L.getD i true = false → (∀ e ∈ o.after, Region.binds .any e = true → L.getD e.on false = true) → wpOp P ops Q i (I (L.setIfInBounds i true)) a w)
    (he : ∀ L a w, I L a w → L.size = ops.size → Region.ready .any ops L = [] → Q .normal a w) : (Code.region id ops true).wp P Q a w :=
  wp_region_any hm (wpAny_inv hs he _ _ _ _ h0 (by simp) (by simp [left]))
/-- One operation that has come up. -/
theorem wpOp_of {i : Nat} {o : Oper} {K : Act → World → Prop} {a : Act} {w : World} (ho : ops[i]? = some o) (hg : o.guard = none) (h : o.wp P a w K Q) : wpOp P ops Q i K a w := by
  unfold wpOp
  rw [ho]
  have hw : Region.wanted o (yielded ops a.tmps) = true := by simp [Region.wanted, hg]
  simp only [hw, if_true]
  exact .inl h
end
end Go.Proofs.Ytnbhdpmhgamjfaa.Hp

/- A region that draws its order, whose operations but the last read or call (calls may make memory), and whose last one, a store, waits for all the others. -/
namespace Go.Proofs.Ytnbhdpmhgamjfaa.Hp
open Go Go.RowKit
set_option linter.unusedVariables false

/-- The last operation, made idle. -/
def idle (o : Oper) : Oper := { o with dst := none, op := .move (.const undef), guard := none }
section
variable {P : Program} {ops : Array Oper} {C : World → Prop} {Q : Exit → Act → World → Prop} {n : Nat} {o : Oper}
theorem idle_other (n : Nat) (o : Oper) {i : Nat} (h : i ≠ n) : (ops.setIfInBounds n (idle o))[i]? = ops[i]? := by
  rw [Array.getElem?_setIfInBounds_ne (fun e => h e.symm)]
theorem idle_ready (md : Region.Mode) (ho : ops[n]? = some o) (L : Array Bool) : Region.ready md (ops.setIfInBounds n (idle o)) L = Region.ready md ops L := by
  have hn : n < ops.size := (Array.getElem?_eq_some_iff.1 ho).1
  unfold Region.ready
  rw [Array.size_setIfInBounds]
  congr 1
  funext i
  by_cases e : i = n
  · subst e
    rw [Array.getElem?_setIfInBounds_self_of_lt hn, ho]
    rfl
  · rw [idle_other n o e]
theorem idle_yield (ho : ops[n]? = some o) (hd : o.dst = none) (t : Array Value) (j : Nat) : yielded (ops.setIfInBounds n (idle o)) t j = yielded ops t j := by
  have hn : n < ops.size := (Array.getElem?_eq_some_iff.1 ho).1
  unfold yielded
  by_cases e : j = n
  · subst e
    rw [Array.getElem?_setIfInBounds_self_of_lt hn, ho]
    simp [idle, hd]
  · rw [idle_other n o e]
theorem idle_wanted (ho : ops[n]? = some o) (hd : o.dst = none) (o' : Oper) (t : Array Value) : Region.wanted o' (yielded (ops.setIfInBounds n (idle o)) t) = Region.wanted o' (yielded ops t) := by
  rw [show yielded (ops.setIfInBounds n (idle o)) t = yielded ops t from funext fun j => idle_yield ho hd t j]
theorem idle_any (hlex : ∀ (i : Nat) (o : Oper), ops[i]? = some o → ∀ e ∈ o.after, e.on < i) (ho : ops[n]? = some o) (hd : o.dst = none) (hg : o.guard = none) (hw : ∀ i, i < ops.size → i ≠ n → ∃ e ∈ o.after, Region.binds .any e = true ∧ e.on = i) {R : Act → Prop}
    (hR : ∀ a w, C w → R a → wpList P ops Q [o] a w) :
    ∀ (fuel : Nat) (L : Array Bool) (a : Act) (w : World), C w → L.size = ops.size → L.getD n true = false →
      wpAnyQ P .any (ops.setIfInBounds n (idle o)) C R fuel L a → wpAny P .any ops Q (fuel) L a w := by
  have hn : n < ops.size := (Array.getElem?_eq_some_iff.1 ho).1
  have hready : ∀ L : Array Bool, L.size = ops.size → (∀ i, i < ops.size → i ≠ n → L.getD i false = true) → L.getD n true = false → Region.ready .any ops L = [n] ∨ Region.ready .any ops L = [] := fun L hs hall h0 => by
    have hsub : ∀ i ∈ Region.ready .any ops L, i = n := fun i hi => by
      obtain ⟨h1, o', ho', _⟩ := mem_ready.1 hi
      have hil : i < ops.size := (Array.getElem?_eq_some_iff.1 ho').1
      by_cases e : i = n
      · exact e
      · have := hall i hil e
        simp [hs, hil] at this h1
        rw [this] at h1; cases h1
    have hnd : (Region.ready .any ops L).Nodup := by
      unfold Region.ready
      exact List.Nodup.sublist List.filter_sublist List.nodup_range
    cases hr : Region.ready .any ops L with
    | nil => exact .inr rfl
    | cons x r =>
      rw [hr] at hsub hnd
      have hx := hsub x (List.mem_cons_self ..)
      cases r with
      | nil => rw [hx]; exact .inl rfl
      | cons y r =>
        have hy := hsub y (List.mem_cons_of_mem _ (List.mem_cons_self ..))
        rw [hx, hy] at hnd
        simp at hnd
  have hself : ∀ L : Array Bool, L.size = ops.size → n ∈ Region.ready .any ops L → Region.ready .any ops (L.setIfInBounds n true) = [] := fun L hs hm => by
    obtain ⟨h0, o', ho', hall⟩ := mem_ready.1 hm
    rw [ho] at ho'
    cases ho'
    cases hr : Region.ready .any ops (L.setIfInBounds n true) with
    | nil => rfl
    | cons x r =>
      exfalso
      obtain ⟨h1, o', ho', _⟩ := mem_ready.1 (show x ∈ Region.ready .any ops (L.setIfInBounds n true) by rw [hr]; exact List.mem_cons_self ..)
      have hxl : x < ops.size := (Array.getElem?_eq_some_iff.1 ho').1
      by_cases e : x = n
      · subst e
        simp [hs, hn] at h1
      · obtain ⟨ed, he1, he2, he3⟩ := hw x hxl e
        have h2 := hall ed he1 he2
        rw [he3] at h2
        simp [hs, hxl, Ne.symm e] at h1 h2
        rw [h2] at h1; cases h1
  have hdone : ∀ L : Array Bool, L.size = ops.size → L.getD n true = false → Region.ready .any ops L ≠ [] := fun L hs h0 hr => by
    have := all_done hlex hs hr n hn
    rw [getD_dd (by omega) false true, h0] at this
    cases this
  intro fuel
  induction fuel with
  | zero =>
    intro L a w hC hs h0 h
    have h1 := h.1
    rw [idle_ready .any ho] at h1
    exact absurd h1 (hdone L hs h0)
  | succ fuel ih =>
    intro L a w hC hs h0 h
    refine ⟨fun hr => absurd hr (hdone L hs h0), fun i hi => ?_⟩
    have hq := h.2 i (by rw [idle_ready .any ho]; exact hi)
    by_cases e : i = n
    · subst e
      have hr := hself L hs hi
      have hRa : R a := by
        unfold qOp at hq
        rw [Array.getElem?_setIfInBounds_self_of_lt hn] at hq
        have hw0 : Region.wanted (idle o) (yielded (ops.setIfInBounds i (idle o)) a.tmps) = true := rfl
        simp only [hw0, if_true] at hq
        obtain ⟨v, _, hk⟩ := hq
        rw [show a.put (idle o).dst v = a from rfl] at hk
        cases fuel with
        | zero => exact hk.2
        | succ fuel => exact hk.1 (by rw [idle_ready .any ho]; exact hr)
      have hwp := hR a w hC hRa
      unfold wpOp
      rw [ho]
      have hw1 : Region.wanted o (yielded ops a.tmps) = true := by simp [Region.wanted, hg]
      simp only [hw1, if_true]
      unfold wpList at hwp
      simp only [hw1, if_true] at hwp
      refine hwp.imp (fun hwp => Oper.wp_mono (fun a' w' h' => ?_) hwp) id
      unfold wpList at h'
      cases fuel with
      | zero => exact ⟨hr, h'⟩
      | succ fuel => exact ⟨fun _ => h', fun j hj => by rw [hr] at hj; cases hj⟩
    · refine wpOp_of_qOp (K := wpAnyQ P .any (ops.setIfInBounds n (idle o)) C R fuel (L.setIfInBounds i true)) hC (fun a' w' hw' h' => ih _ a' w' hw' (by simpa using hs) ?_ h') ?_
      · rw [getD_set_other e]; exact h0
      · unfold qOp at hq ⊢
        rw [idle_other n o e] at hq
        simpa only [idle_wanted ho hd] using hq
theorem quiet_snoc (ho : ops[n]? = some o) (hd : o.dst = none) {R : Act → Prop} : ∀ (l : List Oper) (a : Act), wpQuiet P ops C R l a → wpQuiet P (ops.setIfInBounds n (idle o)) C R (l ++ [idle o]) a
  | [], a, h => by
    have hw0 : Region.wanted (idle o) (yielded (ops.setIfInBounds n (idle o)) a.tmps) = true := rfl
    rw [List.nil_append]
    unfold wpQuiet
    rw [if_pos hw0]
    exact ⟨undef, fun w _ => ⟨rfl, rfl⟩, by unfold wpQuiet; exact h⟩
  | x :: l, a, h => by
    rw [List.cons_append]
    unfold wpQuiet at h ⊢
    rw [idle_wanted ho hd]
    split
    · rename_i hw
      rw [if_pos hw] at h
      exact Oper.quiet_mono (fun a' h' => quiet_snoc ho hd l a' h') h
    · rename_i hw
      rw [if_neg hw] at h
      exact quiet_snoc ho hd l _ h
theorem wp_region_gr_last {id : Nat} {a : Act} {w : World} {l : List Oper} (o : Oper) (n : Nat) (hm : P.follows .mixedOrders = true) (ho : l[n]? = some o) (hl : l.length = n + 1) (hd : o.dst = none) (hg : o.guard = none)
    (hB : Region.lexB .any (l.toArray.setIfInBounds n (idle o)) = true)
    (hw : ((List.range l.length).all fun i => decide (i = n) || o.after.any fun e => Region.binds .any e && decide (e.on = i)) = true)
    (hx : ((List.range l.toArray.size).all fun i => ((l.toArray[i]?).map fun o => o.after.all fun e => decide (e.on < i)).getD true) = true)
    (h : wpQuiet P l.toArray (fun w' => ∃ g, w' = gr w g) (fun a' => ∀ w', (∃ g, w' = gr w g) → wpList P l.toArray Q (l.drop n) a' w') (l.take n) a) : (Code.region id l.toArray true).wp P Q a w := by
  have ho' : l.toArray[n]? = some o := by simpa using ho
  have hn : n < l.length := by omega
  have hdr : l.drop n = [o] := by
    rw [List.drop_eq_getElem_cons hn, List.drop_eq_nil_of_le (by omega)]
    rw [List.getElem?_eq_getElem hn] at ho
    rw [Option.some.inj ho]
  have htk : l.take n ++ [idle o] = (l.toArray.setIfInBounds n (idle o)).toList := by
    simp only [Array.toList_setIfInBounds]
    rw [List.set_eq_take_append_cons_drop, if_pos hn, List.drop_eq_nil_of_le (by omega)]
  rw [hdr] at h
  have h2 := quiet_snoc ho' hd _ _ h
  rw [htk] at h2
  have hsz : (l.toArray.setIfInBounds n (idle o)).size = l.toArray.size := by simp
  simp only [Region.lexB, Bool.and_eq_true] at hB
  refine wp_region_any hm (idle_any (C := fun w' => ∃ g, w' = gr w g) (R := fun a' => ∀ w', (∃ g, w' = gr w g) → wpList P l.toArray Q [o] a' w') (lex_of hx) ho' hd hg (fun i hi hne => ?_) (fun a w' hC hR => hR w' hC) _ _ _ _ (Up.gr (Up.drew (Up.refl w))) (by simp) (by simp [hn]) ?_)
  · have h1 := List.all_eq_true.1 hw i (List.mem_range.2 (by simpa using hi))
    simp only [Bool.or_eq_true, decide_eq_true_eq] at h1
    rcases h1 with h1 | h1
    · exact absurd h1 hne
    · obtain ⟨e, he, h3⟩ := Array.any_eq_true'.1 h1
      simp only [Bool.and_eq_true, decide_eq_true_eq] at h3
      exact ⟨e, he, h3.1, h3.2⟩
  · have := wpAnyQ_lex (C := fun w' => ∃ g, w' = gr w g) (md := .any) hB.1 _ 0 (Array.replicate (l.toArray.setIfInBounds n (idle o)).size false) a (by simp) (by simpa using hB.2) h2
    simpa [hsz] using this
end
end Go.Proofs.Ytnbhdpmhgamjfaa.Hp

/- A region that draws its order, whose last operation, a store, waits for all the others: the others are walked with a condition on the world held; the last one comes behind. -/
namespace Go.Proofs.Ytnbhdpmhgamjfaa.Hp
open Go Go.RowKit
set_option linter.unusedVariables false

/-- The post behind the others: the last operation. -/
def Fin1 (P : Program) (ops : Array Oper) (Q : Exit → Act → World → Prop) (o : Oper) : Exit → Act → World → Prop
  | .normal, a, w => wpList P ops Q [o] a w
  | .panic _, _, _ => False
  | e, a, w => Q e a w
section
variable {P : Program} {ops : Array Oper} {Q : Exit → Act → World → Prop} {S : World → Prop} {n : Nat} {o : Oper}
theorem Fin1.of {a : Act} {w : World} (h : wpList P ops Q [o] a w) : Fin1 P ops Q o .normal a w := h
theorem fin1_lets (h : LetsOut (Fin1 P ops Q o)) : LetsOut Q := by
  first | exact h | exact fun a w => h a w
theorem wp_fin1 {o' : Oper} {a : Act} {w : World} {K : Act → World → Prop} (hh : o'.wp P a w K (Fin1 P ops Q o)) : o'.wp P a w K Q := by
  unfold Oper.wp at *
  generalize (execOp a.eval o').run P w = r at *
  cases r with
  | ok n w' =>
    cases n <;> simp only [Oper.upon] at hh ⊢ <;>
      first
        | exact hh
        | exact Calls.mono hh (fun e w'' he => by
            cases e <;> first | exact he | exact (he : False).elim | exact fin1_lets he)
  | halt x w' => cases x <;> simp only [Oper.upon] at hh ⊢ <;> first | exact hh | exact (hh : False).elim
theorem idle_held (hlex : ∀ (i : Nat) (o : Oper), ops[i]? = some o → ∀ e ∈ o.after, e.on < i) (ho : ops[n]? = some o) (hd : o.dst = none) (hg : o.guard = none) (hw : ∀ i, i < ops.size → i ≠ n → ∃ e ∈ o.after, Region.binds .any e = true ∧ e.on = i) :
    ∀ (fuel : Nat) (L : Array Bool) (a : Act) (w : World), L.size = ops.size → L.getD n true = false →
      wpAnyH P .any (ops.setIfInBounds n (idle o)) (Fin1 P ops Q o) S fuel L a w → wpAny P .any ops Q fuel L a w := by
  have hn : n < ops.size := (Array.getElem?_eq_some_iff.1 ho).1
  have hself : ∀ L : Array Bool, L.size = ops.size → n ∈ Region.ready .any ops L → Region.ready .any ops (L.setIfInBounds n true) = [] := fun L hs hm => by
    obtain ⟨h0, o', ho', hall⟩ := mem_ready.1 hm
    rw [ho] at ho'
    cases ho'
    cases hr : Region.ready .any ops (L.setIfInBounds n true) with
    | nil => rfl
    | cons x r =>
      exfalso
      obtain ⟨h1, o', ho', _⟩ := mem_ready.1 (show x ∈ Region.ready .any ops (L.setIfInBounds n true) by rw [hr]; exact List.mem_cons_self ..)
      have hxl : x < ops.size := (Array.getElem?_eq_some_iff.1 ho').1
      by_cases e : x = n
      · subst e
        simp [hs, hn] at h1
      · obtain ⟨ed, he1, he2, he3⟩ := hw x hxl e
        have h2 := hall ed he1 he2
        rw [he3] at h2
        simp [hs, hxl, Ne.symm e] at h1 h2
        rw [h2] at h1; cases h1
  have hdone : ∀ L : Array Bool, L.size = ops.size → L.getD n true = false → Region.ready .any ops L ≠ [] := fun L hs h0 hr => by
    have := all_done hlex hs hr n hn
    rw [getD_dd (by omega) false true, h0] at this
    cases this
  intro fuel
  induction fuel with
  | zero =>
    intro L a w hs h0 h
    have h1 := h.1
    rw [idle_ready .any ho] at h1
    exact absurd h1 (hdone L hs h0)
  | succ fuel ih =>
    intro L a w hs h0 h
    refine ⟨fun hr => absurd hr (hdone L hs h0), fun i hi => ?_⟩
    have hq := h.2 i (by rw [idle_ready .any ho]; exact hi)
    by_cases e : i = n
    · subst e
      have hr := hself L hs hi
      have hR : wpList P ops Q [o] a w := by
        unfold wpOp at hq
        rw [Array.getElem?_setIfInBounds_self_of_lt hn] at hq
        have hw0 : Region.wanted (idle o) (yielded (ops.setIfInBounds i (idle o)) a.tmps) = true := rfl
        simp only [hw0, if_true] at hq
        have hq1 : Oper.wp P (idle o) a w (fun a' w' => S w' ∧ wpAnyH P .any (ops.setIfInBounds i (idle o)) (Fin1 P ops Q o) S fuel (L.setIfInBounds i true) a' w') (Fin1 P ops Q o) := by
          rcases hq with hq | ⟨hq, _⟩
          · exact hq
          · exact absurd hq.1 (Array.not_mem_empty _)
        have hk : wpAnyH P .any (ops.setIfInBounds i (idle o)) (Fin1 P ops Q o) S fuel (L.setIfInBounds i true) a w := hq1.2
        cases fuel with
        | zero => exact hk.2
        | succ fuel => exact hk.1 (by rw [idle_ready .any ho]; exact hr)
      unfold wpOp
      rw [ho]
      have hw1 : Region.wanted o (yielded ops a.tmps) = true := by simp [Region.wanted, hg]
      simp only [hw1, if_true]
      unfold wpList at hR
      simp only [hw1, if_true] at hR
      refine hR.imp (fun hwp => Oper.wp_mono (fun a' w' h' => ?_) hwp) id
      unfold wpList at h'
      cases fuel with
      | zero => exact ⟨hr, h'⟩
      | succ fuel => exact ⟨fun _ => h', fun j hj => by rw [hr] at hj; cases hj⟩
    · have hL : (L.setIfInBounds i true).getD n true = false := by rw [getD_set_other e]; exact h0
      unfold wpOp at hq ⊢
      rw [idle_other n o e] at hq
      cases hoi : ops[i]? with
      | none => rw [hoi] at hq; exact ih _ _ _ (by simpa using hs) hL hq.2
      | some oi =>
        rw [hoi] at hq
        simp only [idle_wanted ho hd] at hq ⊢
        split
        · rename_i hwt
          simp only [hwt, if_true] at hq
          rcases hq with hq | ⟨h1, h2⟩
          · exact .inl (Oper.wp_mono (fun a' w' h' => ih _ _ _ (by simpa using hs) hL h'.2) (wp_fin1 hq))
          · exact .inr ⟨h1, fin1_lets h2⟩
        · rename_i hwt
          simp only [hwt] at hq
          exact ih _ _ _ (by simpa using hs) hL hq.2
theorem wp_region_held_last {id : Nat} {a : Act} {w : World} {l : List Oper} (o : Oper) (n : Nat) (hm : P.follows .mixedOrders = true) (ho : l[n]? = some o) (hl : l.length = n + 1) (hd : o.dst = none) (hg : o.guard = none)
    (hw : ((List.range l.length).all fun i => decide (i = n) || o.after.any fun e => Region.binds .any e && decide (e.on = i)) = true)
    (hx : ((List.range l.toArray.size).all fun i => ((l.toArray[i]?).map fun o => o.after.all fun e => decide (e.on < i)).getD true) = true)
    (S : World → Prop) (hS : S w.drew)
    (h : S w.drew → wpAnyH P .any (l.set n (idle o)).toArray (Fin1 P l.toArray Q o) S (n + 1) (Array.replicate (n + 1) false) a w.drew) : (Code.region id l.toArray true).wp P Q a w := by
  have ho' : l.toArray[n]? = some o := by simpa using ho
  have hn : n < l.length := by omega
  have hset : (l.toArray.setIfInBounds n (idle o)) = (l.set n (idle o)).toArray := by simp
  have hsz : l.toArray.size = n + 1 := by simpa using hl
  refine wp_region_any hm (idle_held (S := S) (lex_of hx) ho' hd hg (fun i hi hne => ?_) _ _ _ _ (by simp) ?_ ?_)
  · have h1 := List.all_eq_true.1 hw i (List.mem_range.2 (by simpa using hi))
    simp only [Bool.or_eq_true, decide_eq_true_eq] at h1
    rcases h1 with h1 | h1
    · exact absurd h1 hne
    · obtain ⟨e, he, h3⟩ := Array.any_eq_true'.1 h1
      simp only [Bool.and_eq_true, decide_eq_true_eq] at h3
      exact ⟨e, he, h3.1, h3.2⟩
  · simp [hl]
  · rw [hset, hsz]
    exact h hS
end
end Go.Proofs.Ytnbhdpmhgamjfaa.Hp

/- A region that draws its order in two phases: each operation of the second waits for all of the first. The first is walked with a condition on the world held (the second made idle); then the second by itself. -/
namespace Go.Proofs.Ytnbhdpmhgamjfaa.Hp
open Go Go.RowKit
set_option linter.unusedVariables false

theorem all_done' {ops : Array Oper} (hlex : ∀ (i : Nat) (o : Oper), ops[i]? = some o → ∀ e ∈ o.after, Region.binds .any e = true → e.on < i) {L : Array Bool} (hsz : L.size = ops.size) (h : Region.ready .any ops L = []) : ∀ i, i < ops.size → L.getD i false = true := by
  intro i
  induction i using Nat.strongRecOn with
  | ind i ih =>
    intro hi
    cases hb : L.getD i false with
    | true => rfl
    | false =>
      exfalso
      have hm : i ∈ Region.ready .any ops L := by
        refine mem_ready.2 ⟨?_, ops[i], by simp [hi], fun e he hbe => ?_⟩
        · simp [hsz, hi] at hb ⊢
          exact hb
        · have h1 := hlex i ops[i] (by simp [hi]) e he hbe
          exact ih e.on h1 (by omega)
      rw [h] at hm
      cases hm
/-- Operation i waits for j, along at most n edges. -/
def reachN (ops : Array Oper) : Nat → Nat → Nat → Bool
  | 0, _, _ => false
  | n + 1, i, j => ((ops[i]?).map fun o => o.after.any fun e => Region.binds .any e && (decide (e.on = j) || reachN ops n e.on j)).getD false
/-- What has come up has come up behind what it waits for. -/
def Shutd (ops : Array Oper) (L : Array Bool) : Prop := ∀ (i : Nat) (o : Oper), ops[i]? = some o → L.getD i false = true → ∀ e ∈ o.after, Region.binds .any e = true → L.getD e.on false = true
theorem reach_on {ops : Array Oper} {L : Array Bool} (hc : Shutd ops L) : ∀ (n i j : Nat) (o : Oper), ops[i]? = some o → (∀ e ∈ o.after, Region.binds .any e = true → L.getD e.on false = true) → reachN ops n i j = true → L.getD j false = true
  | 0, i, j, o, ho, h, hr => by cases hr
  | n + 1, i, j, o, ho, h, hr => by
    unfold reachN at hr
    rw [ho] at hr
    simp only [Option.map_some, Option.getD_some] at hr
    obtain ⟨e, he, h2⟩ := Array.any_eq_true'.1 hr
    simp only [Bool.and_eq_true, Bool.or_eq_true, decide_eq_true_eq] at h2
    obtain ⟨hb, h3 | h3⟩ := h2
    · rw [← h3]; exact h e he hb
    · cases ho2 : ops[e.on]? with
      | none =>
        exfalso
        cases n with
        | zero => cases h3
        | succ n => unfold reachN at h3; rw [ho2] at h3; cases h3
      | some o2 => exact reach_on hc n e.on j o2 ho2 (hc e.on o2 ho2 (h e he hb)) h3
/-- The post behind the first phase: the second. -/
def Fin2 (P : Program) (ops : Array Oper) (Q : Exit → Act → World → Prop) (n : Nat) (LA : Array Bool) : Exit → Act → World → Prop
  | .normal, a, w => ∀ f, n ≤ f → wpAny P .any ops Q f LA a w
  | .panic _, _, _ => False
  | e, a, w => Q e a w
section
variable {P : Program} {ops ops' : Array Oper} {Q : Exit → Act → World → Prop} {S : World → Prop} {n : Nat} {LA : Array Bool}
theorem fin2_lets (h : LetsOut (Fin2 P ops Q n LA)) : LetsOut Q := by
  first | exact h | exact fun a w => h a w
theorem wp_fin2 {o' : Oper} {a : Act} {w : World} {K : Act → World → Prop} (hh : o'.wp P a w K (Fin2 P ops Q n LA)) : o'.wp P a w K Q := by
  unfold Oper.wp at *
  generalize (execOp a.eval o').run P w = r at *
  cases r with
  | ok n w' =>
    cases n <;> simp only [Oper.upon] at hh ⊢ <;>
      first
        | exact hh
        | exact Calls.mono hh (fun e w'' he => by
            cases e <;> first | exact he | exact (he : False).elim | exact fin2_lets he)
  | halt x w' => cases x <;> simp only [Oper.upon] at hh ⊢ <;> first | exact hh | exact (hh : False).elim
def leftN (m : Nat) (L : Array Bool) : Nat := ((List.range m).filter fun i => !L.getD i false).length
theorem leftN_set {m : Nat} {L : Array Bool} (hs : L.size = m) {i : Nat} (hi : i < m) (h0 : L.getD i false = false) : leftN m (L.setIfInBounds i true) < leftN m L := by
  unfold leftN
  have e : ((List.range m).filter fun j => !(L.setIfInBounds i true).getD j false) = ((List.range m).filter fun j => !L.getD j false).filter fun j => decide (j ≠ i) := by
    rw [List.filter_filter]
    refine List.filter_congr fun j hj => ?_
    rw [List.mem_range] at hj
    by_cases e : j = i
    · subst e; simp [hs, hi]
    · simp [hs, hj, e, Ne.symm e]
  rw [e]
  exact List.length_filter_lt_length_iff_exists.2 ⟨i, List.mem_filter.2 ⟨List.mem_range.2 hi, by rw [h0]; rfl⟩, by simp⟩
theorem getD_eq' {L : Array Bool} {i : Nat} (hi : i < L.size) : L.getD i true = L.getD i false := by simp [hi]
/-- B: the second phase, made idle in ops'. -/
theorem two_phase (B : Nat → Bool) (hlex : ∀ (i : Nat) (o : Oper), ops[i]? = some o → ∀ e ∈ o.after, Region.binds .any e = true → e.on < i) (hsz : ops'.size = ops.size)
    (hA : ∀ i, B i = false → ops'[i]? = ops[i]?) (hB : ∀ i o, B i = true → ops[i]? = some o → ops'[i]? = some (idle o)) (hg : ∀ (i : Nat) (o : Oper), ops[i]? = some o → o.guard = none)
    (L0 : Array Bool) (hL0 : ∀ i, L0.getD i false = true → B i = false)
    (hw : ∀ i o, B i = true → ops[i]? = some o → ∀ j, j < ops.size → B j = false → L0.getD j false = true ∨ reachN ops 8 i j = true) (hS0 : Shutd ops L0)
    (b0 : Nat) (hb0 : b0 < ops.size) (hb1 : B b0 = true) (hLA : LA.size = ops.size ∧ (∀ i, i < ops.size → LA.getD i false = !B i)) (hn : n = leftN ops.size LA) :
    ∀ (fuel : Nat) (L : Array Bool) (a : Act) (w : World), L.size = ops.size → (∀ i, B i = true → L.getD i false = false) → (∀ i, L0.getD i false = true → L.getD i false = true) → Shutd ops L → leftN ops.size L ≤ fuel →
      wpAnyH P .any ops' (Fin2 P ops Q n LA) S fuel L a w → wpAny P .any ops Q fuel L a w := by
  have hafter : ∀ (i : Nat) (o' : Oper), ops'[i]? = some o' → ∃ o : Oper, ops[i]? = some o ∧ o'.after = o.after := fun i o' h => by
    have hil : i < ops.size := by rw [← hsz]; exact (Array.getElem?_eq_some_iff.1 h).1
    cases hBi : B i with
    | false => rw [hA i hBi] at h; exact ⟨o', h, rfl⟩
    | true =>
      have h2 := hB i ops[i] hBi (by simp [hil])
      rw [h2] at h
      cases h
      exact ⟨ops[i], by simp [hil], rfl⟩
  have hrdy : ∀ L i, i ∈ Region.ready .any ops' L ↔ i ∈ Region.ready .any ops L := fun L i => by
    rw [mem_ready, mem_ready]
    constructor
    · rintro ⟨h1, o', ho', h2⟩
      obtain ⟨o, ho, e⟩ := hafter i o' ho'
      exact ⟨h1, o, ho, by rw [← e]; exact h2⟩
    · rintro ⟨h1, o, ho, h2⟩
      cases hBi : B i with
      | false => exact ⟨h1, o, by rw [hA i hBi]; exact ho, h2⟩
      | true => exact ⟨h1, idle o, hB i o hBi ho, h2⟩
  have hnil : ∀ L, Region.ready .any ops' L = [] ↔ Region.ready .any ops L = [] := fun L => by
    rw [List.eq_nil_iff_forall_not_mem, List.eq_nil_iff_forall_not_mem]
    exact forall_congr' fun i => not_congr (hrdy L i)
  have hwant : ∀ (o : Oper) (y : Nat → Option Bool), o.guard = none → Region.wanted o y = true := fun o y h => by simp [Region.wanted, h]
  -- once the first phase has come up, the idle ones change nothing
  have hidle : ∀ (f : Nat) (L : Array Bool) (a : Act) (w : World), L.size = ops.size → (∀ i, i < ops.size → B i = false → L.getD i false = true) → wpAnyH P .any ops' (Fin2 P ops Q n LA) S f L a w → Fin2 P ops Q n LA .normal a w := fun f => by
    induction f with
    | zero => intro L a w _ _ h; exact h.2
    | succ f ih =>
      intro L a w hs hall h
      cases hr : Region.ready .any ops' L with
      | nil => exact h.1 hr
      | cons i r =>
        have hi : i ∈ Region.ready .any ops' L := by rw [hr]; exact List.mem_cons_self ..
        have hq := h.2 i hi
        obtain ⟨h1, o, ho, _⟩ := mem_ready.1 ((hrdy L i).1 hi)
        have hil : i < ops.size := (Array.getElem?_eq_some_iff.1 ho).1
        have hBi : B i = true := by
          cases hBi : B i with
          | true => rfl
          | false =>
            have := hall i hil hBi
            rw [getD_eq' (by omega), this] at h1
            cases h1
        unfold wpOp at hq
        rw [hB i o hBi ho] at hq
        simp only [hwant (idle o) _ rfl, if_true] at hq
        have hq1 : Oper.wp P (idle o) a w (fun a' w' => S w' ∧ wpAnyH P .any ops' (Fin2 P ops Q n LA) S f (L.setIfInBounds i true) a' w') (Fin2 P ops Q n LA) := by
          rcases hq with hq | ⟨hq, _⟩
          · exact hq
          · exact absurd hq.1 (Array.not_mem_empty _)
        have hk : wpAnyH P .any ops' (Fin2 P ops Q n LA) S f (L.setIfInBounds i true) a w := hq1.2
        refine ih _ a w (by simpa using hs) (fun j hj hBj => ?_) hk
        by_cases e : j = i
        · subst e; rw [hBi] at hBj; cases hBj
        · rw [getD_set_other (Ne.symm e)]; exact hall j hj hBj
  have hdone : ∀ L : Array Bool, L.size = ops.size → (∀ i, B i = true → L.getD i false = false) → Region.ready .any ops L ≠ [] := fun L hs h0 hr => by
    have := all_done' hlex hs hr b0 hb0
    rw [h0 b0 hb1] at this
    cases this
  intro fuel
  induction fuel with
  | zero =>
    intro L a w hs h0 _ _ _ h
    exact absurd ((hnil L).1 h.1) (hdone L hs h0)
  | succ fuel ih =>
    intro L a w hs h0 hL hcl hf h
    by_cases hex : ∃ i ∈ Region.ready .any ops L, B i = true
    · obtain ⟨i, hi, hBi⟩ := hex
      obtain ⟨h1, o, ho, h2⟩ := mem_ready.1 hi
      have hall : ∀ j, j < ops.size → B j = false → L.getD j false = true := fun j hj hBj => by
        rcases hw i o hBi ho j hj hBj with h3 | h3
        · exact hL j h3
        · exact reach_on hcl 8 i j o ho h2 h3
      have hLL : L = LA := by
        refine Array.ext (by rw [hs, hLA.1]) fun j hj1 hj2 => ?_
        have a1 := hLA.2 j (by omega)
        have a2 : L.getD j false = !B j := by
          cases hBj : B j with
          | true => rw [h0 j hBj]; rfl
          | false => rw [hall j (by omega) hBj]; rfl
        have := a2.trans a1.symm
        simpa [hj1, hj2] using this
      have hfin := hidle (fuel + 1) L a w hs hall h
      rw [hLL]
      exact hfin (fuel + 1) (by rw [hn, ← hLL]; exact hf)
    · refine ⟨fun hr => absurd hr (hdone L hs h0), fun i hi => ?_⟩
      have hBi : B i = false := by
        cases hBi : B i with
        | false => rfl
        | true => exact absurd ⟨i, hi, hBi⟩ hex
      have hq := h.2 i ((hrdy L i).2 hi)
      obtain ⟨h1, o, ho, hrdy2⟩ := mem_ready.1 hi
      have hil : i < ops.size := (Array.getElem?_eq_some_iff.1 ho).1
      have hLi : L.getD i false = false := by rw [← getD_eq' (by omega)]; exact h1
      have step : ∀ a' w', (S w' ∧ wpAnyH P .any ops' (Fin2 P ops Q n LA) S fuel (L.setIfInBounds i true) a' w') → wpAny P .any ops Q fuel (L.setIfInBounds i true) a' w' := fun a' w' h' => by
        refine ih _ _ _ (by simpa using hs) (fun j hBj => ?_) (fun j hj => ?_) (fun j oj hoj hLj e he hbe => ?_) ?_ h'.2
        · have e : i ≠ j := fun e => by subst e; rw [hBi] at hBj; cases hBj
          rw [getD_set_other e]; exact h0 j hBj
        · by_cases e : i = j
          · subst e; simp [hs, hil]
          · rw [getD_set_other e]; exact hL j hj
        · have hon : L.getD e.on false = true := by
            by_cases e2 : i = j
            · subst e2
              rw [ho] at hoj
              cases hoj
              exact hrdy2 e he hbe
            · rw [getD_set_other e2] at hLj
              exact hcl j oj hoj hLj e he hbe
          by_cases e3 : i = e.on
          · rw [← e3]; simp [hs, hil]
          · rw [getD_set_other e3]; exact hon
        · have := leftN_set hs hil hLi
          omega
      unfold wpOp at hq ⊢
      rw [hA i hBi] at hq
      rw [ho] at hq ⊢
      simp only [hwant o _ (hg i o ho), if_true] at hq ⊢
      rcases hq with hq | ⟨h1, h2⟩
      · exact .inl (Oper.wp_mono step (wp_fin2 hq))
      · exact .inr ⟨h1, fin2_lets h2⟩
/-- What two_phase asks of the region itself. -/
def twoOk (l : List Oper) (bs L0 : List Bool) : Bool :=
  decide (bs.length = l.length) && decide (L0.length = l.length) && (bs.any id) &&
  (List.range l.length).all fun i => ((l[i]?).map fun o => o.guard.isNone && (o.after.all fun e => !Region.binds .any e || decide (e.on < i)) && (!(bs.getD i false && L0.getD i false)) &&
    (!L0.getD i false || o.after.all fun e => !Region.binds .any e || L0.getD e.on false) &&
    (!bs.getD i false || (List.range l.length).all fun j => bs.getD j false || L0.getD j false || reachN l.toArray 8 i j)).getD true
theorem two_apply {l l' : List Oper} {bs L0 : List Bool} {fuel : Nat} {a : Act} {w : World} (hc : twoOk l bs L0 = true) (hl' : l' = List.zipWith (fun o b => if b then idle o else o) l bs) (hf : leftN l.length L0.toArray ≤ fuel)
    (h : wpAnyH P .any l'.toArray (Fin2 P l.toArray Q (leftN l.length (bs.map (!·)).toArray) (bs.map (!·)).toArray) S fuel L0.toArray a w) : wpAny P .any l.toArray Q fuel L0.toArray a w := by
  unfold twoOk at hc
  simp only [Bool.and_eq_true, decide_eq_true_eq] at hc
  obtain ⟨⟨⟨h1, h2⟩, h3⟩, h4⟩ := hc
  have hat : ∀ (i : Nat) (o : Oper), l.toArray[i]? = some o → i < l.length ∧ o.guard.isNone = true ∧ (∀ e ∈ o.after, Region.binds .any e = true → e.on < i) ∧ ¬ (bs.getD i false = true ∧ L0.getD i false = true) ∧
      (L0.getD i false = true → ∀ e ∈ o.after, Region.binds .any e = true → L0.getD e.on false = true) ∧
      (bs.getD i false = true → ∀ j, j < l.length → bs.getD j false = true ∨ L0.getD j false = true ∨ reachN l.toArray 8 i j = true) := fun i o ho => by
    have ho' : l[i]? = some o := by simpa using ho
    have hi : i < l.length := (List.getElem?_eq_some_iff.1 ho').1
    have g := List.all_eq_true.1 h4 i (List.mem_range.2 hi)
    rw [ho'] at g
    simp only [Option.map_some, Option.getD_some, Bool.and_eq_true, Array.all_eq_true_iff_forall_mem, Bool.or_eq_true, Bool.not_eq_true', decide_eq_true_eq] at g
    obtain ⟨⟨⟨⟨g1, g2⟩, g3⟩, g5⟩, g4⟩ := g
    refine ⟨hi, g1, fun e he hb => ?_, fun e => ?_, fun h0 e he hb => ?_, fun hb j hj => ?_⟩
    · rcases g2 e he with g | g
      · rw [hb] at g; cases g
      · exact g
    · rw [e.1, e.2] at g3; cases g3
    · rcases g5 with g | g
      · rw [h0] at g; cases g
      · rcases g e he with g | g
        · rw [hb] at g; cases g
        · exact g
    · rcases g4 with g | g
      · rw [hb] at g; cases g
      · have g5 := List.all_eq_true.1 g j (List.mem_range.2 hj)
        simp only [Bool.or_eq_true] at g5
        rcases g5 with (g5 | g5) | g5
        · exact .inl g5
        · exact .inr (.inl g5)
        · exact .inr (.inr g5)
  have hzl : l'.length = l.length := by rw [hl', List.length_zipWith, h1, Nat.min_self]
  have hz : ∀ (i : Nat) (o : Oper), l[i]? = some o → l'[i]? = some (if bs.getD i false = true then idle o else o) := fun i o ho => by
    have hi : i < l.length := (List.getElem?_eq_some_iff.1 ho).1
    rw [hl', List.getElem?_zipWith, ho, List.getElem?_eq_getElem (by omega), List.getD_eq_getElem?_getD, List.getElem?_eq_getElem (by omega)]
    rfl
  obtain ⟨b0, hb0, hb1⟩ : ∃ b0, b0 < l.length ∧ bs.getD b0 false = true := by
    obtain ⟨b, hb, e⟩ := List.any_eq_true.1 h3
    obtain ⟨k, hk, rfl⟩ := List.mem_iff_getElem.1 hb
    exact ⟨k, by omega, by rw [List.getD_eq_getElem?_getD, List.getElem?_eq_getElem hk]; exact e⟩
  have tg : ∀ (x : List Bool) (i : Nat), x.toArray.getD i false = x.getD i false := fun x i => by
    rw [List.getD_eq_getElem?_getD]; simp [Array.getD_eq_getD_getElem?]
  refine two_phase (fun i => bs.getD i false) (fun i o ho => (hat i o ho).2.2.1) (by simpa using hzl) (fun i hi => ?_) (fun i o hi ho => ?_) (fun i o ho => ?_) L0.toArray (fun i hi => ?_) (fun i o hi ho j hj hbj => ?_) (fun i o ho h0 e he hb => ?_) b0 (by simpa using hb0) hb1 ⟨by simp [h1], fun i hi => ?_⟩ (by simp) fuel L0.toArray a w (by simpa using h2) (fun i hi => ?_) (fun i hi => hi) (fun i o ho h0 e he hb => ?_) (by simpa using hf) h
  · cases ho : l[i]? with
    | none =>
      have : l.length ≤ i := List.getElem?_eq_none_iff.1 ho
      have h5 : l'[i]? = none := List.getElem?_eq_none_iff.2 (by omega)
      simp [ho, h5]
    | some o =>
      have := hz i o ho
      simp only [hi] at this
      simp [ho, this]
  · have := hz i o (by simpa using ho)
    simp only [hi, if_true] at this
    simpa using this
  · have := (hat i o ho).2.1
    cases hg : o.guard with
    | none => rfl
    | some g => rw [hg] at this; cases this
  · rw [tg] at hi
    cases hb : bs.getD i false with
    | false => rfl
    | true =>
      exfalso
      by_cases hil : i < l.length
      · exact (hat i l[i] (by simp [hil])).2.2.2.1 ⟨hb, hi⟩
      · rw [List.getD_eq_getElem?_getD, List.getElem?_eq_none_iff.2 (by omega)] at hb
        cases hb
  · rcases (hat i o ho).2.2.2.2.2 hi j (by simpa using hj) with g | g | g
    · rw [g] at hbj; cases hbj
    · exact .inl (by rw [tg]; exact g)
    · exact .inr g
  · rw [tg] at h0 ⊢
    exact (hat i o ho).2.2.2.2.1 h0 e he hb
  · rw [tg, List.getD_eq_getElem?_getD, List.getElem?_map, List.getD_eq_getElem?_getD]
    have hi' : i < bs.length := by simp at hi; omega
    rw [List.getElem?_eq_getElem hi']
    rfl
  · rw [tg]
    cases hb : L0.getD i false with
    | false => rfl
    | true =>
      exfalso
      by_cases hil : i < l.length
      · exact (hat i l[i] (by simp [hil])).2.2.2.1 ⟨hi, hb⟩
      · rw [List.getD_eq_getElem?_getD, List.getElem?_eq_none_iff.2 (by omega)] at hb
        cases hb
  · rw [tg] at h0 ⊢
    exact (hat i o ho).2.2.2.2.1 h0 e he hb
end
end Go.Proofs.Ytnbhdpmhgamjfaa.Hp
