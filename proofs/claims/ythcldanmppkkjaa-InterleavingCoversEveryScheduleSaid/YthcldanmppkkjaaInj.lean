/- Interleavings: what is left of the transactions, sleep sets as rows of bools; the explorer in memory. -/
import Derived.Test.YthcldanmppkkjaaIni
namespace Go.Proofs.Ythcldanmppkkjaa.In
open Go Go.RowKit Hp
set_option linter.unusedVariables false

def remL (L : List (List Hop)) (ns : List Nat) : List (List Hop) := (List.range L.length).map fun i => (L.getD i []).drop (ns.getD i 0)
theorem remL_len (L : List (List Hop)) (ns : List Nat) : (remL L ns).length = L.length := by simp [remL]
theorem remL_get (L : List (List Hop)) (ns : List Nat) (i : Nat) : (remL L ns).getD i [] = (L.getD i []).drop (ns.getD i 0) := by
  unfold remL
  rcases Nat.lt_or_ge i L.length with h | h
  · simp [List.getD, h]
  · have : (List.range L.length)[i]? = none := by simp [h]
    simp [List.getD, List.getElem?_eq_none h, this]
theorem getD_ext {α : Type} {d : α} {a b : List α} (hl : a.length = b.length) (h : ∀ i, i < a.length → a.getD i d = b.getD i d) : a = b := by
  refine List.ext_getElem hl fun i h1 h2 => ?_
  have := h i h1
  simpa [List.getD, h1, h2] using this
theorem remL_set {L : List (List Hop)} {ns : List Nat} {i : Nat} (hi : i < L.length) (hl : ns.length = L.length) : remL L (ns.set i (ns.getD i 0 + 1)) = (remL L ns).set i ((L.getD i []).drop (ns.getD i 0 + 1)) := by
  refine getD_ext (d := []) (by simp [remL_len]) fun j hj => ?_
  rw [remL_get, getD_set _ _ _ _ (by rw [remL_len]; exact hi)]
  by_cases e : j = i
  · subst e
    rw [if_pos rfl]
    simp [List.getD, hl, hi]
  · rw [if_neg e, remL_get]
    simp [List.getD, List.getElem?_set_ne (Ne.symm e)]
def inC (l : List Nat) : List Value := l.map fun (n : Nat) => .int .i64 (n : Int)
def boC (l : List Bool) : List Value := l.map .bool
theorem inC_len (l : List Nat) : (inC l).length = l.length := by simp [inC]
theorem boC_len (l : List Bool) : (boC l).length = l.length := by simp [boC]
theorem inC_get (l : List Nat) {i : Nat} (h : i < l.length) : (inC l)[i]? = some (.int .i64 (l.getD i 0 : Nat)) := by simp [inC, List.getD, h]
theorem boC_get (l : List Bool) {i : Nat} (h : i < l.length) : (boC l)[i]? = some (.bool (l.getD i false)) := by simp [boC, List.getD, h]
theorem inC_set (l : List Nat) (i : Nat) (x : Nat) : (inC l).set i (.int .i64 (x : Int)) = inC (l.set i x) := by unfold inC; rw [List.map_set]
theorem boC_set (l : List Bool) (i : Nat) (x : Bool) : (boC l).set i (.bool x) = boC (l.set i x) := by unfold boC; rw [List.map_set]
theorem inC_one (l : List Nat) : ∀ u ∈ inC l, u.oneCell' = true := fun u hu => by obtain ⟨x, _, rfl⟩ := List.mem_map.1 hu; rfl
theorem boC_one (l : List Bool) : ∀ u ∈ boC l, u.oneCell' = true := fun u hu => by obtain ⟨x, _, rfl⟩ := List.mem_map.1 hu; rfl
/-- The sleep set, as a function. -/
def slf (bs : List Bool) : Nat → Bool := fun k => bs.getD k false
theorem slf_set {bs : List Bool} {i : Nat} (h : i < bs.length) : slf (bs.set i true) = fun k => slf bs k || decide (k = i) := by
  funext k
  unfold slf
  simp only [List.getD]
  rw [List.getElem?_set]
  by_cases e : i = k
  · subst e; simp [h]
  · rw [if_neg e]; simp [Ne.symm e]
/-- What is still asleep behind a. -/
def stB (L : List (List Hop)) (ns : List Nat) (bs : List Bool) (a : Hop) (k : Nat) : Bool := sleepN depH (remL L ns) a (slf bs) k
def stL (L : List (List Hop)) (ns : List Nat) (bs : List Bool) (a : Hop) : List Bool := (List.range L.length).map (stB L ns bs a)
theorem stL_slf {L : List (List Hop)} {ns : List Nat} {bs : List Bool} (hb : bs.length = L.length) (a : Hop) : slf (stL L ns bs a) = sleepN depH (remL L ns) a (slf bs) := by
  funext k
  show (stL L ns bs a).getD k false = stB L ns bs a k
  unfold stL
  rcases Nat.lt_or_ge k L.length with h | h
  · simp [List.getD, h]
  · have : slf bs k = false := by unfold slf; simp [List.getD, List.getElem?_eq_none (show bs.length ≤ k by omega)]
    unfold stB sleepN
    rw [this]
    have h2 : (List.range L.length)[k]? = none := by simp [h]
    simp [List.getD, h2]
theorem stB_off {L : List (List Hop)} {ns : List Nat} {bs : List Bool} {a : Hop} {k : Nat} (h : slf bs k = false) : stB L ns bs a k = false := by
  unfold stB sleepN
  rw [h, Bool.false_and]
theorem stB_on {L : List (List Hop)} {ns : List Nat} {bs : List Bool} {a b : Hop} {r : List Hop} {k : Nat} (h : slf bs k = true) (hr : (remL L ns).getD k [] = b :: r) : stB L ns bs a k = !depH b a := by
  unfold stB sleepN
  rw [h, Bool.true_and, hr]
/-- The row under way. -/
def stP (L : List (List Hop)) (ns : List Nat) (bs : List Bool) (a : Hop) (q : Nat) : List Bool := (List.range L.length).map fun k => decide (k < q) && stB L ns bs a k
theorem stP_zero (L : List (List Hop)) (ns : List Nat) (bs : List Bool) (a : Hop) : stP L ns bs a 0 = List.replicate L.length false := by
  unfold stP
  simp [List.map_const']
theorem stP_full (L : List (List Hop)) (ns : List Nat) (bs : List Bool) (a : Hop) : stP L ns bs a L.length = stL L ns bs a := by
  unfold stP stL
  exact List.map_congr_left fun k hk => by rw [decide_eq_true (List.mem_range.1 hk), Bool.true_and]
theorem stP_len (L : List (List Hop)) (ns : List Nat) (bs : List Bool) (a : Hop) (q : Nat) : (stP L ns bs a q).length = L.length := by simp [stP]
theorem stP_next (L : List (List Hop)) (ns : List Nat) (bs : List Bool) (a : Hop) {q : Nat} (h : q < L.length) : (stP L ns bs a q).set q (stB L ns bs a q) = stP L ns bs a (q + 1) := by
  refine getD_ext (d := false) (by simp [stP_len]) fun j hj => ?_
  rw [List.length_set, stP_len] at hj
  by_cases e : q = j
  · subst e
    simp [stP, List.getD, h]
  · simp only [List.getD, List.getElem?_set_ne e]
    simp only [stP, List.getElem?_map, List.getElem?_range hj, Option.map_some, Option.getD_some]
    congr 1
    exact decide_eq_decide.2 (by omega)
/-- The part of the walk that is left. -/
theorem range_part {m i : Nat} (h : i < m) : List.range' i (m - i) = i :: List.range' (i + 1) (m - (i + 1)) := by
  rw [show m - i = (m - (i + 1)) + 1 by omega, List.range'_succ]
theorem loopE_pass {f : List (List Hop) → (Nat → Bool) → List (List Hop)} {rem : List (List Hop)} {i : Nat} {is : List Nat} {Z : Nat → Bool} (h : rem.getD i [] = [] ∨ Z i = true) : loopE depH f rem (i :: is) Z = loopE depH f rem is Z := by
  rw [loopE]
  rcases h with h | h
  · rw [h]
  · split
    · rfl
    · rw [if_pos h]
theorem loopE_take {f : List (List Hop) → (Nat → Bool) → List (List Hop)} {rem : List (List Hop)} {i : Nat} {is : List Nat} {Z : Nat → Bool} {a : Hop} {r : List Hop} (h : rem.getD i [] = a :: r) (hz : Z i = false) :
    loopE depH f rem (i :: is) Z = (f (rem.set i r) (sleepN depH rem a Z)).map (a :: ·) ++ loopE depH f rem is (fun k => Z k || decide (k = i)) := by
  rw [loopE, h]
  simp [hz]
theorem loopE_empty {f : List (List Hop) → (Nat → Bool) → List (List Hop)} {rem : List (List Hop)} (h : ∀ i, rem.getD i [] = []) : ∀ (is : List Nat) (Z : Nat → Bool), loopE depH f rem is Z = []
  | [], _ => rfl
  | i :: is, Z => by rw [loopE_pass (.inl (h i))]; exact loopE_empty h is Z
/-- expl, by its first step. -/
theorem expl_step (n : Nat) (rem : List (List Hop)) (Z : Nat → Bool) (ht : tot rem = n) :
    expl depH n rem Z = if (∀ i, i < rem.length → rem.getD i [] = []) then [[]] else loopE depH (expl depH (n - 1)) rem (List.range' 0 rem.length) Z := by
  cases n with
  | zero =>
    rw [if_pos fun i hi => ?_]
    · rfl
    · have := List.all_eq_true.1 (tot_zero ht) (rem.getD i []) (by simp [List.getD, hi])
      exact List.isEmpty_iff.1 this
  | succ n =>
    rw [if_neg fun h => ?_]
    · rw [expl, List.range_eq_range']; rfl
    · have : tot rem = 0 := by
        unfold tot
        rw [List.sum_eq_zero_iff_forall_eq_nat]
        intro k hk
        obtain ⟨l, hl, rfl⟩ := List.mem_map.1 hk
        obtain ⟨i, hi, rfl⟩ := List.getElem_of_mem hl
        have := h i hi
        simp only [List.getD, List.getElem?_eq_getElem hi, Option.getD_some] at this
        rw [this]; rfl
      omega
theorem all_nil_not {rem : List (List Hop)} {n : Nat} (ht : tot rem = n + 1) : ¬ ∀ i, i < rem.length → rem.getD i [] = [] := fun h => by
  have := expl_step 0 rem (fun _ => false)
  have h0 : tot rem = 0 := by
    unfold tot
    rw [List.sum_eq_zero_iff_forall_eq_nat]
    intro k hk
    obtain ⟨l, hl, rfl⟩ := List.mem_map.1 hk
    obtain ⟨i, hi, rfl⟩ := List.getElem_of_mem hl
    have := h i hi
    simp only [List.getD, List.getElem?_eq_getElem hi, Option.getD_some] at this
    rw [this]; rfl
  omega
/-! ### The explorer in memory -/
structure ExS (w : World) (P B : Nat) (tv sv : Value) (L S : List (List Hop)) : Prop where
  blk : Blk w P [tv, sv] 56
  txs : TxR w 0 tv L
  sch : TxR w B sv S
  low : ∀ k, tv.ownBlock = some k → k < B
  base : B ≤ w.heap.size
theorem ExS.up {w w' : World} {P B : Nat} {tv sv : Value} {L S : List (List Hop)} (h : ExS w P B tv sv L S) (hu : Up w w') : ExS w' P B tv sv L S :=
  ⟨h.blk.up hu, h.txs.up hu, h.sch.up hu, h.low, Nat.le_trans h.base hu.size⟩
/-- What a call may change: the explorer, and the row that it holds. -/
def ExF (P : Nat) (sv : Value) : Nat → Prop := fun k => k = P ∨ sv.ownBlock = some k
theorem TxR.ty {w : World} {B : Nat} {v : Value} {L : List (List Hop)} (h : TxR w B v L) : ∀ k, v.ownBlock = some k → Ty w k 30 ∧ B ≤ k := by
  obtain ⟨vs, h1, _⟩ := h
  exact own_ty h1
/-- Rows of other element types stay. -/
theorem ExS.keep {w w' : World} {P B : Nat} {tv sv : Value} {L S : List (List Hop)} (h : ExS w P B tv sv L S) (hc : Chg (ExF P sv) w w') {E : TypeId} {base size n : Nat} {v : Value} {xs : List Value}
    (hv : w.ownsRow base E size v n xs) (h1 : E ≠ 56) (h2 : E ≠ 30) : w'.ownsRow base E size v n xs :=
  own_chg hv hc fun k hk e => by
    rcases e with e | e
    · rw [e] at hk
      exact ((own_ty hv) P hk).1.ne h1 (blk_ty h.blk)
    · exact ((own_ty hv) k hk).1.ne h2 (h.sch.ty k e).1
/-- Rows of bools, altered. -/
theorem ExS.bool {w w' : World} {P B : Nat} {tv sv : Value} {L S : List (List Hop)} (h : ExS w P B tv sv L S) {F : Nat → Prop} (hc : Chg F w w') (hF : ∀ k, F k → Ty w k 4) : ExS w' P B tv sv L S := by
  have h1 : ¬ F P := fun e => (hF P e).ne (by decide) (blk_ty h.blk)
  have h2 : ∀ k, F k → ¬ Ty w k 33 := fun k e => (hF k e).ne (by decide)
  have h3 : ∀ k, F k → ¬ Ty w k 30 := fun k e => (hF k e).ne (by decide)
  exact ⟨h.blk.chg hc h1, h.txs.chg hc (fun k hk e => h3 k e (h.txs.ty k hk).1) h2, h.sch.chg hc (fun k hk e => h3 k e (h.sch.ty k hk).1) h2, h.low, Nat.le_trans h.base hc.size⟩
theorem ExS.chgF {w w' : World} {P : Nat} {sv sv' : Value} {w0 : World} (h : Chg (ExF P sv) w0 w) (hs : sv'.ownBlock = sv.ownBlock ∨ ∀ k, sv'.ownBlock = some k → w0.heap.size ≤ k) (hc : Chg (ExF P sv') w w') : Chg (ExF P sv) w0 w' :=
  h.trans hc fun k hk e => by
    rcases e with e | e
    · exact .inl e
    · rcases hs with h1 | h1
      · exact .inr (by rw [← h1]; exact e)
      · have := h1 k e; omega
/-- A schedule more. -/
theorem TxR.snoc {W w2 : World} {B g c : Nat} {v u : Value} {S : List (List Hop)} {x : List Hop} (h : TxR W B v S) (hx : OpsO W B u x) (hg : W.grownBy w2 v.ownBlock) (vs : List Value)
    (hvs : ∀ i (h : i < S.length), ∃ u, vs[i]? = some u ∧ OpsO W B u S[i]) (hn : w2.ownsRow B 30 1 (.slice (some ⟨g, 0, none⟩) (S.length + 1) c) (S.length + 1) (vs ++ [u])) (hl : vs.length = S.length) :
    TxR w2 B (.slice (some ⟨g, 0, none⟩) (S.length + 1) c) (S ++ [x]) := by
  have far : ∀ u y, OpsO W B u y → OpsO w2 B u y := fun u y hy => own_chg hy ((Chg.refl (fun k => v.ownBlock = some k) W).grown hg fun k hk => .inl hk) fun k hk e => ((own_ty hy) k hk).1.ne (by decide) (h.ty k e).1
  refine ⟨vs ++ [u], by rw [List.length_append]; exact hn, fun i hi => ?_⟩
  rw [List.length_append, List.length_singleton] at hi
  by_cases e : i < S.length
  · obtain ⟨y, h1, h2⟩ := hvs i e
    exact ⟨y, by rw [List.getElem?_append_left (by omega)]; exact h1, by rw [List.getElem_append_left e]; exact far _ _ h2⟩
  · obtain rfl : i = S.length := by omega
    exact ⟨u, by rw [List.getElem?_append_right (by omega), hl]; simp, by rw [List.getElem_append_right (Nat.le_refl _)]; simpa using far _ _ hx⟩
/-- The explorer with a schedule more. -/
theorem ExS.snoc {w W w3 : World} {P B g c : Nat} {tv sv u : Value} {L S : List (List Hop)} {x : List Hop} (h : ExS w P B tv sv L S) (hu : Up w W) (hx : OpsO W B u x) (hg : W.grownBy w3 sv.ownBlock) (vs : List Value)
    (hvs : ∀ i (h : i < S.length), ∃ u, vs[i]? = some u ∧ OpsO w B u S[i]) (hl : vs.length = S.length) (hn : w3.ownsRow B 30 1 (.slice (some ⟨g, 0, none⟩) (S.length + 1) c) (S.length + 1) (vs ++ [u]))
    (hat : sv.ownBlock = some g ∨ w.heap.size ≤ g) :
    ExS (w3.setCell ⟨P, 1, none⟩ (.slice (some ⟨g, 0, none⟩) (S.length + 1) c)) P B tv (.slice (some ⟨g, 0, none⟩) (S.length + 1) c) L (S ++ [x]) ∧ Chg (ExF P sv) w (w3.setCell ⟨P, 1, none⟩ (.slice (some ⟨g, 0, none⟩) (S.length + 1) c)) ∧
      ((Value.slice (some ⟨g, 0, none⟩) (S.length + 1) c).ownBlock = sv.ownBlock ∨ ∀ k, (Value.slice (some ⟨g, 0, none⟩) (S.length + 1) c).ownBlock = some k → w.heap.size ≤ k) := by
  have hE := h.up hu
  have hc3 : Chg (ExF P sv) W w3 := (Chg.refl _ W).grown hg fun k hk => .inl (.inr hk)
  have hc3' : Chg (fun k => sv.ownBlock = some k) W w3 := (Chg.refl _ W).grown hg fun k hk => .inl hk
  have hb3 : Blk w3 P [tv, sv] 56 := hE.blk.chg hc3' fun e => (hE.sch.ty P e).1.ne (by decide) (blk_ty hE.blk)
  have ht3 : TxR w3 0 tv L := hE.txs.chg hc3' (fun k hk e => by have := h.low k hk; have := (hE.sch.ty k e).2; omega) fun k e => (hE.sch.ty k e).1.ne (by decide)
  have hs3 : TxR w3 B (.slice (some ⟨g, 0, none⟩) (S.length + 1) c) (S ++ [x]) := hE.sch.snoc hx hg vs (fun i hi => by obtain ⟨y, h1, h2⟩ := hvs i hi; exact ⟨y, h1, own_up h2 hu⟩) hn hl
  have hcs := chg_set w3 P 1 none (Value.slice (some ⟨g, 0, none⟩) (S.length + 1) c)
  have hne : ∀ k, k = P → ¬ Ty w3 k 33 := fun k e => by subst e; exact (blk_ty hb3).ne (by decide)
  refine ⟨⟨?_, ht3.chg hcs (fun k hk e => ?_) hne, hs3.chg hcs (fun k hk e => ?_) hne, h.low, ?_⟩, ?_, ?_⟩
  · exact hb3.set 1 _
  · subst e; exact (ht3.ty k hk).1.ne (by decide) (blk_ty hb3)
  · subst e; exact (hs3.ty k hk).1.ne (by decide) (blk_ty hb3)
  · exact Nat.le_trans hE.base (hc3.trans (hcs.mono fun k _ e => .inl e) fun _ _ e => e : Chg (ExF P sv) W _).size
  · exact ((hu.chg (ExF P sv)).trans hc3 fun _ _ e => e).trans (hcs.mono fun k _ e => (.inl e : ExF P sv k)) fun _ _ e => e
  · rcases hat with e | e
    · exact .inl e.symm
    · exact .inr fun k hk => by cases hk; exact e
end Go.Proofs.Ythcldanmppkkjaa.In
