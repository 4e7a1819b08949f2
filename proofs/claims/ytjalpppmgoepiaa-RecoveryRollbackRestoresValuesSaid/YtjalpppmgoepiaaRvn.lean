/- Recovery: the log as a machine, plain. -/
import Derived.Test.YtjalpppmgoepiaaRvm
namespace Go.Proofs.Ytjalpppmgoepiaa.Rv
open Go Go.RowKit Hp
set_option linter.unusedVariables false

def upd {α : Type} (f : Nat → α) (k : Nat) (v : α) : Nat → α := fun x => if x = k then v else f x
theorem upd_same {α : Type} (f : Nat → α) (k : Nat) (v : α) : upd f k v k = v := if_pos rfl
theorem upd_other {α : Type} (f : Nat → α) (k : Nat) (v : α) {x : Nat} (h : x ≠ k) : upd f k v x = f x := if_neg h
structure Ls where
  own : Nat → Nat
  cm : Nat → Int
  stk : Nat → List (Nat × Int)
  vl : Nat → Int
  en : Nat → Bool
def ls0 : Ls := ⟨fun _ => 0, fun _ => 0, fun _ => [], fun _ => 0, fun _ => false⟩
def lst (s : Ls) (r : Rec) : Ls :=
  if r.kind = 1 then { s with own := upd s.own r.page r.tx, stk := upd s.stk r.tx ((r.page, r.before) :: s.stk r.tx), vl := upd s.vl r.page r.after }
  else if r.kind = 2 then { s with stk := upd s.stk r.tx (s.stk r.tx).tail, vl := upd s.vl r.page r.after }
  else { s with cm := fun p => if s.own p = r.tx then s.vl p else s.cm p, own := fun p => if s.own p = r.tx then 0 else s.own p, en := upd s.en r.tx true }
def lsl (l : List Rec) : Ls := l.foldl lst ls0
theorem lsl_snoc (l : List Rec) (r : Rec) : lsl (l ++ [r]) = lst (lsl l) r := by unfold lsl; rw [List.foldl_append]; rfl
structure Legal (s : Ls) (r : Rec) : Prop where
  tx : 1 ≤ r.tx
  en : s.en r.tx = false
  pg : r.page < 6
  kd : r.kind = 1 ∨ r.kind = 2 ∨ r.kind = 3
  k1 : r.kind = 1 → r.before = s.vl r.page ∧ (s.own r.page = 0 ∨ s.own r.page = r.tx)
  k2 : r.kind = 2 → ∃ rest, s.stk r.tx = (r.page, r.after) :: rest
def LegL (l : List Rec) : Prop := ∀ l1 r l2, l = l1 ++ r :: l2 → Legal (lsl l1) r
theorem LegL.nil : LegL [] := fun l1 r l2 e => by cases l1 <;> cases e
theorem LegL.pre {l m : List Rec} (h : LegL (l ++ m)) : LegL l := fun l1 r l2 e => h l1 r (l2 ++ m) (by rw [e]; simp)
theorem LegL.take {l : List Rec} (h : LegL l) (n : Nat) : LegL (l.take n) := LegL.pre (m := l.drop n) (by rw [List.take_append_drop]; exact h)
theorem LegL.last {l : List Rec} {r : Rec} (h : LegL (l ++ [r])) : Legal (lsl l) r := h l r [] rfl
theorem LegL.snoc {l : List Rec} {r : Rec} (h : LegL l) (hr : Legal (lsl l) r) : LegL (l ++ [r]) := fun l1 q l2 e => by
  rcases List.eq_nil_or_concat l2 with rfl | ⟨l3, x, rfl⟩
  · obtain ⟨rfl, e2⟩ := List.append_inj' e rfl
    simp only [List.cons.injEq, and_true] at e2
    subst e2
    exact hr
  · rw [show l1 ++ q :: (l3.concat x) = (l1 ++ q :: l3) ++ [x] by simp] at e
    exact h l1 q l3 (List.append_inj' e rfl).1
theorem snoc_induct {P : List Rec → Prop} (h0 : P []) (h1 : ∀ l r, P l → P (l ++ [r])) : ∀ l, P l := fun l => by
  suffices ∀ n, ∀ l : List Rec, l.length = n → P l from this _ l rfl
  intro n
  induction n with
  | zero => intro l h; rw [List.eq_nil_of_length_eq_zero h]; exact h0
  | succ n ih =>
    intro l h
    rcases List.eq_nil_or_concat l with rfl | ⟨l2, x, rfl⟩
    · cases h
    · rw [List.concat_eq_append]
      refine h1 l2 x (ih l2 ?_)
      rw [List.concat_eq_append, List.length_append] at h
      simpa using h
/-- What unwinding a stack leaves. -/
def U (s : List (Nat × Int)) (v : Nat → Int) : Nat → Int := s.foldl (fun v e => upd v e.1 e.2) v
theorem U_cons (e : Nat × Int) (s : List (Nat × Int)) (v : Nat → Int) : U (e :: s) v = U s (upd v e.1 e.2) := rfl
/-- It depends on the pages that it is asked of. -/
theorem U_congr (s : List (Nat × Int)) : ∀ (v v' : Nat → Int) (p : Nat), v p = v' p → U s v p = U s v' p := by
  induction s with
  | nil => intro v v' p h; exact h
  | cons e s ih =>
    intro v v' p h
    rw [U_cons, U_cons]
    refine ih _ _ p ?_
    unfold upd
    split
    · rfl
    · exact h
theorem upd_upd (v : Nat → Int) (q : Nat) (a b : Int) (x : Nat) : upd (upd v q a) q b x = upd v q b x := by unfold upd; split <;> rfl
structure Ki (s : Ls) : Prop where
  k1 : ∀ p, s.own p = 0 → s.vl p = s.cm p
  k2 : ∀ p, s.own p ≠ 0 → s.en (s.own p) = false ∧ U (s.stk (s.own p)) s.vl p = s.cm p
  k3 : ∀ t, t ≠ 0 → s.en t = false → ∀ e ∈ s.stk t, s.own e.1 = t
theorem Ki.zero : Ki ls0 := ⟨fun p _ => rfl, fun p h => absurd rfl h, fun t _ _ e he => by cases he⟩
theorem Ki.step {s : Ls} {r : Rec} (h : Ki s) (hr : Legal s r) : Ki (lst s r) := by
  unfold lst
  by_cases e1 : r.kind = 1
  · rw [if_pos e1]
    obtain ⟨hb, ho⟩ := hr.k1 e1
    have htx := hr.tx
    refine ⟨fun p hp => ?_, fun p hp => ?_, fun t ht0 ht e he => ?_⟩
    · show upd s.vl r.page r.after p = s.cm p
      by_cases ep : p = r.page
      · subst ep
        have : upd s.own r.page r.tx r.page = 0 := hp
        rw [upd_same] at this
        omega
      · rw [upd_other _ _ _ ep]
        exact h.k1 p (by have : upd s.own r.page r.tx p = 0 := hp; rwa [upd_other _ _ _ ep] at this)
    · show s.en (upd s.own r.page r.tx p) = false ∧ U (upd s.stk r.tx ((r.page, r.before) :: s.stk r.tx) (upd s.own r.page r.tx p)) (upd s.vl r.page r.after) p = s.cm p
      by_cases ep : p = r.page
      · subst ep
        rw [upd_same, upd_same]
        refine ⟨hr.en, ?_⟩
        rw [U_cons]
        have e0 : U (s.stk r.tx) (upd (upd s.vl r.page r.after) r.page r.before) r.page = U (s.stk r.tx) s.vl r.page := U_congr _ _ _ _ (by rw [upd_same, hb])
        show U (s.stk r.tx) (upd (upd s.vl r.page r.after) r.page r.before) r.page = _
        rw [e0]
        rcases ho with ho | ho
        · have hn : ∀ e ∈ s.stk r.tx, e.1 ≠ r.page := fun e he e2 => by
            have := h.k3 r.tx (by omega) hr.en e he
            rw [e2, ho] at this
            omega
          have : ∀ (l : List (Nat × Int)) (v : Nat → Int), (∀ e ∈ l, e.1 ≠ r.page) → U l v r.page = v r.page := by
            intro l
            induction l with
            | nil => intro v _; rfl
            | cons e l ih =>
              intro v hl
              rw [U_cons, ih _ fun x hx => hl x (List.mem_cons_of_mem _ hx), upd_other _ _ _ (fun e2 => hl e List.mem_cons_self e2.symm)]
          rw [this _ _ hn]
          exact h.k1 _ ho
        · have := (h.k2 r.page (by omega)).2
          rw [ho] at this
          exact this
      · rw [upd_other _ _ _ ep]
        have hp' : s.own p ≠ 0 := by have : upd s.own r.page r.tx p ≠ 0 := hp; rwa [upd_other _ _ _ ep] at this
        obtain ⟨a1, a2⟩ := h.k2 p hp'
        refine ⟨a1, ?_⟩
        by_cases et : s.own p = r.tx
        · rw [et, upd_same, U_cons, ← a2, et]
          exact U_congr _ _ _ _ (by rw [upd_other _ _ _ ep, upd_other _ _ _ ep])
        · rw [upd_other _ _ _ et, ← a2]
          exact U_congr _ _ _ _ (by rw [upd_other _ _ _ ep])
    · show upd s.own r.page r.tx e.1 = t
      have he2 : e ∈ upd s.stk r.tx ((r.page, r.before) :: s.stk r.tx) t := he
      have ht' : s.en t = false := ht
      by_cases et : t = r.tx
      · subst et
        rw [upd_same] at he2
        rcases List.mem_cons.1 he2 with rfl | h2
        · exact upd_same _ _ _
        · by_cases e3 : e.1 = r.page
          · rw [e3, upd_same]
          · rw [upd_other _ _ _ e3]; exact h.k3 _ ht0 ht' e h2
      · rw [upd_other _ _ _ et] at he2
        have h4 := h.k3 t ht0 ht' e he2
        by_cases e3 : e.1 = r.page
        · rw [e3] at h4
          rcases ho with ho | ho
          · exact absurd (h4.symm.trans ho) ht0
          · exact absurd (h4.symm.trans ho) et
        · rw [upd_other _ _ _ e3]; exact h4
  · rw [if_neg e1]
    have htx := hr.tx
    by_cases e2 : r.kind = 2
    · rw [if_pos e2]
      obtain ⟨rest, hs⟩ := hr.k2 e2
      have ho : s.own r.page = r.tx := h.k3 r.tx (by omega) hr.en (r.page, r.after) (by rw [hs]; exact List.mem_cons_self)
      refine ⟨fun p hp => ?_, fun p hp => ?_, fun t ht0 ht e he => ?_⟩
      · show upd s.vl r.page r.after p = s.cm p
        have hp' : s.own p = 0 := hp
        rw [upd_other _ _ _ (fun e => by subst e; omega)]
        exact h.k1 p hp'
      · show s.en (s.own p) = false ∧ U (upd s.stk r.tx (s.stk r.tx).tail (s.own p)) (upd s.vl r.page r.after) p = s.cm p
        obtain ⟨a1, a2⟩ := h.k2 p hp
        refine ⟨a1, ?_⟩
        by_cases et : s.own p = r.tx
        · rw [et, upd_same, hs, List.tail_cons, ← a2, et, hs]
          rfl
        · rw [upd_other _ _ _ et, ← a2]
          exact U_congr _ _ _ _ (upd_other _ _ _ fun e => by subst e; exact et ho)
      · show s.own e.1 = t
        have he2 : e ∈ upd s.stk r.tx (s.stk r.tx).tail t := he
        have ht' : s.en t = false := ht
        by_cases et : t = r.tx
        · subst et
          rw [upd_same] at he2
          exact h.k3 _ ht0 ht' e (List.mem_of_mem_tail he2)
        · rw [upd_other _ _ _ et] at he2
          exact h.k3 t ht0 ht' e he2
    · rw [if_neg e2]
      refine ⟨fun p hp => ?_, fun p hp => ?_, fun t ht0 ht e he => ?_⟩
      · show s.vl p = if s.own p = r.tx then s.vl p else s.cm p
        have hp' : (if s.own p = r.tx then 0 else s.own p) = 0 := hp
        by_cases e3 : s.own p = r.tx
        · rw [if_pos e3]
        · rw [if_neg e3] at hp' ⊢
          exact h.k1 p hp'
      · have hp' : (if s.own p = r.tx then 0 else s.own p) ≠ 0 := hp
        show upd s.en r.tx true (if s.own p = r.tx then 0 else s.own p) = false ∧ U (s.stk (if s.own p = r.tx then 0 else s.own p)) s.vl p = if s.own p = r.tx then s.vl p else s.cm p
        by_cases e3 : s.own p = r.tx
        · rw [if_pos e3] at hp'; exact absurd rfl hp'
        · rw [if_neg e3] at hp' ⊢
          rw [if_neg e3, upd_other _ _ _ e3]
          exact h.k2 p hp'
      · show (if s.own e.1 = r.tx then 0 else s.own e.1) = t
        have ht' : upd s.en r.tx true t = false := ht
        have et : t ≠ r.tx := fun e => by subst e; rw [upd_same] at ht'; cases ht'
        rw [upd_other _ _ _ et] at ht'
        have := h.k3 t ht0 ht' e he
        rw [if_neg (by rw [this]; exact et)]
        exact this
theorem ki (l : List Rec) : LegL l → Ki (lsl l) := snoc_induct (P := fun l => LegL l → Ki (lsl l)) (fun _ => Ki.zero) (fun l r ih h => by rw [lsl_snoc]; exact (ih h.pre).step h.last) l
/-! ### Undoing follows the stack -/
/-- What a scan back over the log finds. -/
def scan (t : Nat) : List Rec → Nat → List (Nat × Int)
  | [], _ => []
  | r :: l, k => if r.tx ≠ t then scan t l k else if r.kind = 2 then scan t l (k + 1) else if r.kind = 1 then (if 0 < k then scan t l (k - 1) else (r.page, r.before) :: scan t l 0) else scan t l k
theorem scan_stk (t : Nat) (l : List Rec) : ∀ k, scan t l.reverse k = ((lsl l).stk t).drop k := by
  refine snoc_induct (P := fun l => ∀ k, scan t l.reverse k = ((lsl l).stk t).drop k) (fun k => ?_) (fun l r ih k => ?_) l
  · unfold scan; show [] = List.drop k []; simp
  · rw [List.reverse_append, lsl_snoc]
    show scan t (r :: l.reverse) k = _
    unfold scan lst
    by_cases et : r.tx = t
    · rw [if_neg (by simp [et])]
      by_cases e1 : r.kind = 1
      · rw [if_neg (by omega), if_pos e1, if_pos e1]
        show _ = (upd (lsl l).stk r.tx ((r.page, r.before) :: (lsl l).stk r.tx) t).drop k
        rw [et, upd_same]
        cases k with
        | zero => rw [if_neg (by omega), ih 0]; rfl
        | succ k => rw [if_pos (by omega), ih]; rfl
      · rw [if_neg e1]
        by_cases e2 : r.kind = 2
        · rw [if_pos e2, if_neg e1, if_pos e2, ih]
          show _ = (upd (lsl l).stk r.tx ((lsl l).stk r.tx).tail t).drop k
          rw [et, upd_same, ← List.drop_one, List.drop_drop, Nat.add_comm]
        · rw [if_neg e2, if_neg e1, if_neg e2, ih]
    · rw [if_pos et, ih]
      have : ∀ (v : List (Nat × Int)), upd (lsl l).stk r.tx v t = (lsl l).stk t := fun v => upd_other _ _ _ (fun e => et e.symm)
      split
      · show _ = (upd (lsl l).stk r.tx _ t).drop k
        rw [this]
      · split
        · show _ = (upd (lsl l).stk r.tx _ t).drop k
          rw [this]
        · rfl
end Go.Proofs.Ytjalpppmgoepiaa.Rv
