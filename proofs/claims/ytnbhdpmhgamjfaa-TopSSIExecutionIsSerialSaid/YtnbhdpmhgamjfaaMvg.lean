/- The multi-version store: visible. -/
import Derived.Test.YtnbhdpmhgamjfaaMvf
import Derived.Laws.OwnMore
import Derived.Sort.QuietIn
import Derived.Sort.QuietTacIn
namespace Go.Proofs.Ytnbhdpmhgamjfaa.Mv
open Go Go.RowKit Go.Shelf Hp So
set_option linter.unusedVariables false
attribute [local go_sem] Oper.semAt_some

set_option maxRecDepth 100000 in
set_option maxHeartbeats 2000000 in
theorem backward_any (a : Option Addr) (n c : Nat) (w : World) :
    Calls Try.prog 66 #[.slice a n c] w fun e w' => e = .returned (.func (.func 73) #[] #[.pointer (some ⟨w.heap.size, 0, none⟩)]) ∧ w.alloc (.cells #[.slice a n c] 95) = w' := by
  go_enter Try.func66, Try.ntmps66
  go_wp2
  go_ret
  exact ⟨rfl, rfl⟩
theorem blk_noncells {w w' : World} {b : Nat} {xs : List Value} {E : TypeId} {row : Option Nat} (h : Blk w b xs E) (hg : w.grownBy w' row) (hr : ∀ r, row = some r → ∃ o : Obj, w.heap[r]? = some o ∧ o.isCells = false) : Blk w' b xs E :=
  (hg.block b h.lt fun e => by obtain ⟨o, ho, hc⟩ := hr b e.symm; unfold Blk at h; rw [h] at ho; cases ho; cases hc).trans h
theorem boxed_below {B' : Nat} {w w' : World} {B : Nat} {t : TypeId} {v : Value} (h : Boxed w B t v) (hb : Below B' w w') (hB : B < B') : Boxed w' B t v := (hb.block B hB).trans h
theorem boxed_stored {w : World} {B : Nat} {t : TypeId} {v : Value} (h : Boxed w B t v) (u : Value) : Boxed (w.setCell ⟨B, 0, none⟩ u) B t u := by
  have h' : Blk w B [v] t := h
  exact h'.set 0 u
theorem keeps_up {w w' : World} (h : Up w w') (B : Nat) : KeepsFrom B w w' := ⟨h.size, fun k o _ hk _ => (h.block k (Array.getElem?_eq_some_iff.1 hk).1).trans hk⟩

def sa (v : Value) : Option Addr := match v with | .slice a _ _ => a | _ => none
def sn (v : Value) : Nat := match v with | .slice _ n _ => n | _ => 0
def sc (v : Value) : Nat := match v with | .slice _ _ c => c | _ => 0
theorem slice_eq {w : World} {F : Nat → Prop} {rv : Value} {row : List Val} (h : RowIn w F rv row) : rv = .slice (sa rv) (sn rv) (sc rv) := by
  rcases h.1.2 with ⟨rfl, _⟩ | ⟨b, off, cap, rfl, _⟩ <;> rfl
/-- The version that a reader at ts sees; the zero version where there is none. -/
def visM (l : List MV) (ts : Int) : MV := (l.reverse.find? fun v => decide (v.ts ≤ ts)).getD ⟨0, false, .slice none 0 0, []⟩
def visB (l : List MV) (ts : Int) : Bool := match l.reverse.find? fun v => decide (v.ts ≤ ts) with | some v => !v.tomb | none => false
theorem find_hit {l : List MV} {ts : Int} {i : Nat} (hi : i < l.length) (h : l[i].ts ≤ ts) (hl : ∀ j (hj : j < l.length), i < j → ¬ l[j].ts ≤ ts) : (l.reverse.find? fun v => decide (v.ts ≤ ts)) = some l[i] := by
  rw [List.find?_eq_some_iff_getElem]
  refine ⟨by simpa using h, l.length - 1 - i, by rw [List.length_reverse]; omega, ?_, fun j hj => ?_⟩
  · rw [List.getElem_reverse]; congr 1; omega
  · rw [List.getElem_reverse]
    have := hl (l.length - 1 - j) (by omega) (by omega)
    simpa using this
theorem find_miss {l : List MV} {ts : Int} (hl : ∀ j (hj : j < l.length), ¬ l[j].ts ≤ ts) : (l.reverse.find? fun v => decide (v.ts ≤ ts)) = none := by
  rw [List.find?_eq_none]
  intro x hx
  obtain ⟨j, hj, rfl⟩ := List.getElem_of_mem (List.mem_reverse.1 hx)
  simpa using hl j hj
/-- The two results, read out of their variables. -/
theorem vis_res {W : World} {b b' : Nat} {tmps : Array Value} {t : Int} {tb x : Bool} {a : Option Addr} {n c : Nat} {l : List Value} {l' : List Value} (c0 : W.cell? ⟨b, 0, none⟩ = l[0]?) (c1 : W.cell? ⟨b, 1, none⟩ = l[1]?) (c2 : W.cell? ⟨b, 2, none⟩ = l[2]?) (c3 : W.cell? ⟨b', 0, none⟩ = l'[0]?)
    (e0 : l = [.int .i64 t, .bool tb, .slice a n c] := by rfl) (e1 : l' = [.bool x] := by rfl) (h4 : tmps[4]? = some (.pointer (some ⟨b, 0, none⟩)) := by rfl) (h5 : tmps[5]? = some (.pointer (some ⟨b', 0, none⟩)) := by rfl) :
    (results Try.f52 tmps).run Try.prog W = .ok (.tuple #[.agg #[.int .i64 t, .bool tb, .slice a n c], .bool x]) W := by
  subst e0 e1
  simp [results, Try.f52, go_sem, c0, c1, c2, c3, h4, h5]
def tsA (l : List MV) (j : Nat) : Int := (l.getD j ⟨0, false, .slice none 0 0, []⟩).ts
def tbA (l : List MV) (j : Nat) : Bool := (l.getD j ⟨0, false, .slice none 0 0, []⟩).tomb
def rvA (l : List MV) (j : Nat) : Value := (l.getD j ⟨0, false, .slice none 0 0, []⟩).rv

set_option maxRecDepth 100000 in
set_option maxHeartbeats 4000000 in
theorem visible_any (key : ByteArray) (vv : Value) (vs : List MV) (ts : Int) (w : World) (F : Nat → Prop) (hv : w.ownsRow 0 94 3 vv vs.length (mvC vs)) (hr : ∀ v ∈ vs, RowIn w F v.rv v.row) (hm : vs.length ≤ 1000000) :
    Calls Try.prog 52 #[.agg #[.string key, vv], .int .i64 ts] w fun e w' => e = .returned (.tuple #[.agg #[.int .i64 (visM vs ts).ts, .bool (visM vs ts).tomb, (visM vs ts).rv], .bool (visB vs ts)]) ∧ Up w w' := by
  have HV := Lib.hid hv
  have HR := Lib.hid hr
  obtain ⟨aq, cq, rfl, hc4, hc5, hc6⟩ := own_form hv
  clear hc6 hv hr
  refine (callsIn_wide (n := 3)).1 ?_
  refine callsIn_of_wp_marks Try.func52 rfl trivial ?_ rfl
  simp only [Try.ntmps52, List.size_toArray, List.length_cons, List.length_nil, Nat.reduceAdd, Nat.reduceSub, Array.replicate_succ, Array.replicate_zero, List.push_toArray, List.append_toArray, List.nil_append, List.cons_append]
  gi_wp2
  refine ⟨trivial, ?_⟩
  refine (callsIn_wide.2 (backward_any _ _ _ _)).mono ?_
  rintro e w1 ⟨rfl, rfl⟩
  gi_wp2
  obtain ⟨w0, hw0⟩ : ∃ w0, w0 = ((((w.alloc (.cells #[.string key, .slice aq vs.length cq] 97)).alloc (.cells #[.int .i64 ts] 3)).alloc (.cells #[.int .i64 0, .bool false, .slice none 0 0] 94)).alloc (.cells #[.bool false] 4)).alloc (.cells #[.slice aq vs.length cq] 95) := ⟨_, rfl⟩
  have hz0 : w0.heap.size = w.heap.size + 5 := by rw [hw0]; simp
  have hUw : Up w w0 := by rw [hw0]; exact ((((((Up.refl w).alloc _).alloc _).alloc _).alloc _)).alloc _
  have B1 : Boxed w0 (w.heap.size + 1) 3 (.int .i64 ts) := by
    rw [hw0]; have h := (Boxed.new (w.alloc (.cells #[.string key, .slice aq vs.length cq] 97)) 3 (.int .i64 ts)); rw [World.size_alloc] at h; exact ((h.alloc _).alloc _).alloc _
  have B2 : Blk w0 (w.heap.size + 1 + 1) [.int .i64 0, .bool false, .slice none 0 0] 94 := by
    rw [hw0]; have h := (Blk.new ((w.alloc (.cells #[.string key, .slice aq vs.length cq] 97)).alloc (.cells #[.int .i64 ts] 3)) #[.int .i64 0, .bool false, .slice none 0 0] 94); rw [World.size_alloc, World.size_alloc] at h; exact (h.up ((Up.refl _).alloc _)).up ((Up.refl _).alloc _)
  have B3 : Boxed w0 (w.heap.size + 1 + 1 + 1) 4 (.bool false) := by
    rw [hw0]; have h := (Boxed.new (((w.alloc (.cells #[.string key, .slice aq vs.length cq] 97)).alloc (.cells #[.int .i64 ts] 3)).alloc (.cells #[.int .i64 0, .bool false, .slice none 0 0] 94)) 4 (.bool false)); rw [World.size_alloc, World.size_alloc, World.size_alloc] at h; exact h.alloc _
  have B4 : Boxed w0 (w.heap.size + 1 + 1 + 1 + 1) 95 (.slice aq vs.length cq) := by
    rw [hw0]; have h := (Boxed.new ((((w.alloc (.cells #[.string key, .slice aq vs.length cq] 97)).alloc (.cells #[.int .i64 ts] 3)).alloc (.cells #[.int .i64 0, .bool false, .slice none 0 0] 94)).alloc (.cells #[.bool false] 4)) 95 (.slice aq vs.length cq)); simpa using h
  rw [← hw0]
  clear hw0
  have hz1 : w.heap.size + 5 ≤ w0.heap.size := by omega
  have hz2 : w0.heap.size ≤ w.heap.size + 5 := by omega
  clear hz0
  have HU := Lib.hid hUw
  have HG : Hid (∀ j, j < vs.length → ∃ b off, aq = some ⟨b, off, none⟩ ∧ b < w0.heap.size ∧ w0.cell? ⟨b, off + j * 3, none⟩ = some (.int .i64 (tsA vs j)) ∧ w0.cell? ⟨b, off + j * 3 + 1, none⟩ = some (.bool (tbA vs j)) ∧ w0.cell? ⟨b, off + j * 3 + 2, none⟩ = some (.slice (sa (rvA vs j)) (sn (rvA vs j)) (sc (rvA vs j)))) := by
    intro j hj
    obtain ⟨g, cap, hvq, _, _, hcq⟩ := own_cell (own_up HV.out hUw) (by omega)
    simp only [Value.slice.injEq] at hvq
    obtain ⟨rfl, _, rfl⟩ := hvq
    obtain ⟨y0, y1, y2⟩ := mvC_get vs j hj
    have gd : vs.getD j ⟨0, false, .slice none 0 0, []⟩ = vs[j] := by simp [List.getD, hj]
    refine ⟨g, 0, rfl, (hcq _ _ y0).1, ?_, ?_, ?_⟩
    · unfold tsA; rw [gd, Nat.zero_add]; exact (hcq _ _ y0).2
    · unfold tbA; rw [gd, Nat.zero_add]; exact (hcq _ _ y1).2
    · unfold rvA; rw [gd, Nat.zero_add, ← slice_eq (HR.out _ (List.getElem_mem hj))]; exact (hcq _ _ y2).2
  refine wpIn_rangeFunc_ownH rfl (by decide) (gf := 73) (lb := #[.pointer (some ⟨w.heap.size + 1 + 1 + 1 + 1, 0, none⟩)]) rfl trivial (enters_of Try.func73 (by kernel_rfl) rfl)
    (back_stops Fence.wide 2 trivial rfl (by decide) (w.heap.size + 1 + 1 + 1 + 1) vs.length cq aq (fun j => .int .i64 (tsA vs j)) (fun j => .bool (tbA vs j)) (fun j => .slice (sa (rvA vs j)) (sn (rvA vs j)) (sc (rvA vs j))) hc4 hc5 w0 (by omega) B4.cell
      (fun j hj => HG.out j hj)) belowK_t (belowK_b (Nat.le_refl _)) (Below.refl _ _) (fun _ => rfl)
    (fun pre W => (∀ x ∈ pre, ¬ tsA vs x.1 ≤ ts) ∧ Below w0.heap.size w0 W)
    (fun c pre W => (c = .ret ∧ ∃ ini last, pre = ini ++ [last] ∧ (∀ x ∈ ini, ¬ tsA vs x.1 ≤ ts) ∧ tsA vs last.1 ≤ ts ∧ Blk W (w.heap.size + 1 + 1) [.int .i64 (tsA vs last.1), .bool (tbA vs last.1), .slice (sa (rvA vs last.1)) (sn (rvA vs last.1)) (sc (rvA vs last.1))] 94 ∧ Boxed W (w.heap.size + 1 + 1 + 1) 4 (.bool (!tbA vs last.1))) ∧ Below w.heap.size w W)
    (OwnFrom.and (ownFrom_pure _ _) (ownFrom_below (Nat.le_refl _) (Nat.le_refl _)))
    (fun c => OwnFrom.and (Own.from (fun st A B row hs hg hr => by
        obtain ⟨hc, ini, last, e1, e2, e3, b1, b2⟩ := hs
        exact ⟨hc, ini, last, e1, e2, e3, blk_noncells b1 hg hr, boxed_own _ _ (fun _ : Unit => .bool (!tbA vs last.1)) () A B row b2 hg hr⟩) _) (ownFrom_below (Nat.le_refl _) (by omega)))
    ⟨(fun x hx => by cases hx), Below.refl _ _⟩
    (fun x a' W => ∃ Bx, w0.heap.size ≤ Bx ∧ Blk W Bx [.int .i64 (tsA vs x.1), .bool (tbA vs x.1), .slice (sa (rvA vs x.1)) (sn (rvA vs x.1)) (sc (rvA vs x.1))] 94 ∧ a' = { tmps := #[.agg #[.string key, .slice aq vs.length cq], .int .i64 ts, .pointer (some ⟨w.heap.size, 0, none⟩), .pointer (some ⟨w.heap.size + 1, 0, none⟩), .pointer (some ⟨w.heap.size + 1 + 1, 0, none⟩), .pointer (some ⟨w.heap.size + 1 + 1 + 1, 0, none⟩), undef, .pointer (some ⟨Bx, 0, none⟩), .pointer (some ⟨w.heap.size, 1, none⟩), .slice aq vs.length cq, .func (.func 73) #[] #[.pointer (some ⟨w.heap.size + 1 + 1 + 1 + 1, 0, none⟩)], .int .i64 (x.1 : Int), .agg #[.int .i64 (tsA vs x.1), .bool (tbA vs x.1), .slice (sa (rvA vs x.1)) (sn (rvA vs x.1)) (sc (rvA vs x.1))], undef, undef, undef, undef, undef, undef, undef, undef, undef], defers := [] })
    (fun x a' st A B row hs hg hr => by obtain ⟨Bx, h1, h2, h3⟩ := hs; exact ⟨Bx, h1, blk_noncells h2 hg fun r e => (hr r e).2, h3⟩) ?assign ?body ?done ?stop
  case assign =>
    rintro l pre x W K ⟨hi1, hi2⟩ hK
    gi_wp2
    refine hK _ _ ((KeepsOthers.alloc _ _).from _) ((Below.refl _ W).alloc hi2.size _) ⟨hi1, hi2.alloc hi2.size _⟩ ⟨W.heap.size, hi2.size, Blk.new W _ _, rfl⟩
  case body =>
    rintro l pre x a' W hl ⟨r, hr⟩ ⟨hp1, hB⟩ ⟨Bx, hBx, bX, rfl⟩ hlt
    have HP1 := Lib.hid hp1
    have HB2 := Lib.hid hB
    have HL := Lib.hid hl
    have hlb := bX.lt
    obtain ⟨t, ht⟩ : ∃ t, t = tsA vs x.1 := ⟨_, rfl⟩
    obtain ⟨tb, htb⟩ : ∃ t, t = tbA vs x.1 := ⟨_, rfl⟩
    obtain ⟨ra, hra⟩ : ∃ t, t = sa (rvA vs x.1) := ⟨_, rfl⟩
    obtain ⟨rn, hrn⟩ : ∃ t, t = sn (rvA vs x.1) := ⟨_, rfl⟩
    obtain ⟨rc, hrc⟩ : ∃ t, t = sc (rvA vs x.1) := ⟨_, rfl⟩
    rw [← ht, ← htb, ← hra, ← hrn, ← hrc] at bX ⊢
    have BX := Lib.hid bX
    have e0 := bX.cell 0
    have e1 := bX.cell 1
    have e2 := bX.cell 2
    rw [show ([Value.int .i64 t, .bool tb, .slice ra rn rc])[0]? = some (.int .i64 t) from rfl] at e0
    rw [show ([Value.int .i64 t, .bool tb, .slice ra rn rc])[1]? = some (.bool tb) from rfl] at e1
    rw [show ([Value.int .i64 t, .bool tb, .slice ra rn rc])[2]? = some (.slice ra rn rc) from rfl] at e2
    have f1 := (hB.cell (p := ⟨w.heap.size + 1, 0, none⟩) (by show w.heap.size + 1 < w0.heap.size; omega)).trans B1.cell
    have HT := Lib.hid ht
    have HTB := Lib.hid htb
    have HRA := Lib.hid (And.intro hra (And.intro hrn hrc))
    clear bX ht htb hra hrn hrc hp1 hl
    by_cases hq : t ≤ ts
    · have b2 := B2.below hB (by omega)
      have b3 := boxed_below B3 hB (by omega)
      have g0 := b2.cell 0
      have g1 := b2.cell 1
      have g2 := b2.cell 2
      rw [show ([Value.int .i64 0, .bool false, .slice none 0 0])[0]? = some (.int .i64 0) from rfl] at g0
      rw [show ([Value.int .i64 0, .bool false, .slice none 0 0])[1]? = some (.bool false) from rfl] at g1
      rw [show ([Value.int .i64 0, .bool false, .slice none 0 0])[2]? = some (.slice none 0 0) from rfl] at g2
      have q0 := b2.free 0
      have q1 := b2.free 1
      have q2 := b2.free 2
      have g3 := b3.cell
      have q3 := b3.frozen
      have hx1 : ¬ Bx = w.heap.size + 1 + 1 := by omega
      have hx2 : ¬ Bx = w.heap.size + 1 + 1 + 1 := by omega
      have HB3 := Lib.hid b3
      have HB22 := Lib.hid b2
      clear b2 b3 hB
      gi_wp2
      refine Code.wpIn_mono NoPanic.imp ?_
      gi_region
      all_goals
        refine NoPanic.normal ?_
        gi_wp2
        have x2 := (((HB22.out.set 0 (.int .i64 t)).set 1 (.bool tb)).set 2 (.slice ra rn rc)).other (b' := w.heap.size + 1 + 1 + 1) (by omega) 0 none (.bool !tb)
        have x3' : Blk W (w.heap.size + 1 + 1 + 1) [.bool false] 4 := HB3.out
        have x3 := (((x3'.other (b' := w.heap.size + 1 + 1) (by omega) 0 none (.int .i64 t)).other (b' := w.heap.size + 1 + 1) (by omega) 1 none (.bool tb)).other (b' := w.heap.size + 1 + 1) (by omega) 2 none (.slice ra rn rc)).set 0 (.bool !tb)
        have C : Chg (fun j => j = w.heap.size + 1 + 1 ∨ j = w.heap.size + 1 + 1 + 1) W ((((W.setCell ⟨w.heap.size + 1 + 1, 0, none⟩ (.int .i64 t)).setCell ⟨w.heap.size + 1 + 1, 1, none⟩ (.bool tb)).setCell ⟨w.heap.size + 1 + 1, 2, none⟩ (.slice ra rn rc)).setCell ⟨w.heap.size + 1 + 1 + 1, 0, none⟩ (.bool !tb)) := ((((Chg.refl _ W).set (.inl (.inl rfl)) _ _ _).set (.inl (.inl rfl)) _ _ _).set (.inl (.inl rfl)) _ _ _).set (.inl (.inr rfl)) _ _ _
        refine ⟨?_, ⟨rfl, pre, x, rfl, HP1.out, by rw [← HT.out]; exact hq, by rw [← HT.out, ← HTB.out, ← HRA.out.1, ← HRA.out.2.1, ← HRA.out.2.2]; exact x2, by rw [← HTB.out]; exact x3⟩, ?_⟩
        · have K := (((KeepsOthers.setCell W ⟨w.heap.size + 1 + 1, 0, none⟩ (.int .i64 t)).trans (KeepsOthers.setCell _ ⟨w.heap.size + 1 + 1, 1, none⟩ (.bool tb))).trans ((KeepsOthers.setCell _ ⟨w.heap.size + 1 + 1, 2, none⟩ (.slice ra rn rc)).trans (KeepsOthers.setCell _ ⟨w.heap.size + 1 + 1 + 1, 0, none⟩ (.bool !tb)))).from w0.heap.size
          exact ⟨K.1, K.2⟩
        · exact (Below.trans (Up.trans HU.out HB2.out) (C.below (by have := HB2.out.size; omega) fun j hj e => by omega)).drew
    · gi_wp2
      exact ⟨KeepsFrom.refl _ _, Below.refl _ _, fun y hy => by
        rcases List.mem_append.1 hy with h | h
        · exact HP1.out y h
        · rw [List.mem_singleton.1 h, ← HT.out]; exact hq, HB2.out⟩
  case stop =>
    rintro D c pre W hD ⟨k, hk, rfl⟩ ⟨⟨rfl, ini, last, e1, e2, e3, b1, b2⟩, hBw⟩ hK
    gi_wp2
    refine ⟨by simp, .inl ⟨_, _, rfl, run_takeDeferred hK, ?_⟩⟩
    have b1' := blk_noncells b1 (grownBy_putObj' _ D (.deferred none)) (fun r e => by cases e; exact ⟨_, hK, rfl⟩)
    have c0 := b1'.cell 0
    have c1 := b1'.cell 1
    have c2 := b1'.cell 2
    have c3 := cell_kept b2.cell (grownBy_putObj' _ D (.deferred none)) (fun r e => by cases e; exact ⟨_, hK, rfl⟩)
    obtain ⟨k', rfl⟩ : ∃ k', k = k' + 1 := by
      cases k with
      | zero => simp [dn] at e1
      | succ k' => exact ⟨k', rfl⟩
    rw [dn_succ (by omega)] at e1
    obtain ⟨rfl, e5⟩ := List.append_inj' e1 rfl
    have hlv : last.1 = vs.length - 1 - k' := by have := congrArg (fun l => l.map Fin.val) e5; simpa using this.symm
    obtain ⟨lv, hlp⟩ := last
    dsimp only at hlv e3 c0 c1 c2 c3
    clear e5
    have gd : ∀ j (hj : j < vs.length), vs.getD j ⟨0, false, .slice none 0 0, []⟩ = vs[j] := fun j hj => by simp [List.getD, hj]
    have RH := find_hit (l := vs) (ts := ts) (i := lv) hlp (by have := e3; unfold tsA at this; rwa [gd _ hlp] at this) (fun j h2 h1 => by
      have h3 : tsA vs j = vs[j].ts := by unfold tsA; simp [List.getD, h2]
      have h4 := e2 ⟨j, h2⟩ ((mem_dn (by omega)).2 (by show vs.length - k' ≤ j; omega))
      rw [← h3]
      first | exact h4 | exact Int.not_le.2 h4)
    have V1 : visM vs ts = vs[lv] := by unfold visM; rw [RH]; rfl
    have V2 : visB vs ts = !vs[lv].tomb := by unfold visB; rw [RH]
    have E1 : tsA vs lv = vs[lv].ts := by unfold tsA; rw [gd _ hlp]
    have E2 : tbA vs lv = vs[lv].tomb := by unfold tbA; rw [gd _ hlp]
    have E3 : Value.slice (sa (rvA vs lv)) (sn (rvA vs lv)) (sc (rvA vs lv)) = vs[lv].rv := by unfold rvA; rw [gd _ hlp]; exact (slice_eq (HR.out _ (List.getElem_mem hlp))).symm
    have hDw : w.heap.size ≤ D := by omega
    refine ⟨.tuple #[.agg #[.int .i64 (tsA vs lv), .bool (tbA vs lv), .slice (sa (rvA vs lv)) (sn (rvA vs lv)) (sc (rvA vs lv))], .bool (!tbA vs lv)], ?_, by rw [V1, V2, E1, E2, E3], hBw.trans (belowK_b (w := w) (Nat.le_refl _) W D _ _ hDw hK rfl rfl)⟩
    exact vis_res c0 c1 c2 c3
  case done =>
    rintro D ys' W hD rfl ⟨hp1, hB⟩ hK
    have RM := find_miss (l := vs) (ts := ts) (fun j hj => by
      have h2 : tsA vs j = vs[j].ts := by unfold tsA; simp [List.getD, hj]
      have h4 := hp1 ⟨j, hj⟩ ((mem_dn (Nat.le_refl _)).2 (by omega))
      rw [← h2]
      first | exact h4 | exact Int.not_le.2 h4)
    have V1 : Hid (visM vs ts = ⟨0, false, .slice none 0 0, []⟩) := by unfold Hid visM; rw [RM]; rfl
    have V2 : Hid (visB vs ts = false) := by unfold Hid visB; rw [RM]
    have HB2 := Lib.hid hB
    have HK := Lib.hid hK
    have b2 := B2.below hB (by omega)
    have b3 := boxed_below B3 hB (by omega)
    have g0 := b2.cell 0
    have g1 := b2.cell 1
    have g2 := b2.cell 2
    rw [show ([Value.int .i64 0, .bool false, .slice none 0 0])[0]? = some (.int .i64 0) from rfl] at g0
    rw [show ([Value.int .i64 0, .bool false, .slice none 0 0])[1]? = some (.bool false) from rfl] at g1
    rw [show ([Value.int .i64 0, .bool false, .slice none 0 0])[2]? = some (.slice none 0 0) from rfl] at g2
    have q0 := b2.free 0
    have q1 := b2.free 1
    have q2 := b2.free 2
    have g3 := b3.cell
    have q3 := b3.frozen
    have HB3 := Lib.hid b3
    have HB22 := Lib.hid b2
    clear b2 b3 hB hp1 hK RM
    gi_wp2
    have x2 := (((HB22.out.set 0 (.int .i64 0)).set 1 (.bool false)).set 2 (.slice none 0 0)).other (b' := w.heap.size + 1 + 1 + 1) (by omega) 0 none (.bool false)
    have x3' : Blk W (w.heap.size + 1 + 1 + 1) [.bool false] 4 := HB3.out
    have x3 := (((x3'.other (b' := w.heap.size + 1 + 1) (by omega) 0 none (.int .i64 0)).other (b' := w.heap.size + 1 + 1) (by omega) 1 none (.bool false)).other (b' := w.heap.size + 1 + 1) (by omega) 2 none (.slice none 0 0)).set 0 (.bool false)
    have C : Chg (fun j => j = w.heap.size + 1 + 1 ∨ j = w.heap.size + 1 + 1 + 1) W ((((W.setCell ⟨w.heap.size + 1 + 1, 0, none⟩ (.int .i64 0)).setCell ⟨w.heap.size + 1 + 1, 1, none⟩ (.bool false)).setCell ⟨w.heap.size + 1 + 1, 2, none⟩ (.slice none 0 0)).setCell ⟨w.heap.size + 1 + 1 + 1, 0, none⟩ (.bool false)) := ((((Chg.refl _ W).set (.inl (.inl rfl)) _ _ _).set (.inl (.inl rfl)) _ _ _).set (.inl (.inl rfl)) _ _ _).set (.inl (.inr rfl)) _ _ _
    have hK2 : ((((W.setCell ⟨w.heap.size + 1 + 1, 0, none⟩ (.int .i64 0)).setCell ⟨w.heap.size + 1 + 1, 1, none⟩ (.bool false)).setCell ⟨w.heap.size + 1 + 1, 2, none⟩ (.slice none 0 0)).setCell ⟨w.heap.size + 1 + 1 + 1, 0, none⟩ (.bool false)).heap[D]? = some (.deferred (some [])) := by
      have hDW : D < W.heap.size := (Array.getElem?_eq_some_iff.1 HK.out).1
      rw [C.block D (by omega) (by omega)]
      exact HK.out
    have hC := C.below (B := w.heap.size) (by have := HB2.out.size; omega) fun j hj e => by omega
    generalize ((((W.setCell ⟨w.heap.size + 1 + 1, 0, none⟩ (.int .i64 0)).setCell ⟨w.heap.size + 1 + 1, 1, none⟩ (.bool false)).setCell ⟨w.heap.size + 1 + 1, 2, none⟩ (.slice none 0 0)).setCell ⟨w.heap.size + 1 + 1 + 1, 0, none⟩ (.bool false)) = W2 at *
    clear C g0 g1 g2 g3 q0 q1 q2 q3
    refine ⟨by simp, .inl ⟨_, _, rfl, run_takeDeferred hK2, ?_⟩⟩
    have y2 := blk_noncells x2 (grownBy_putObj' _ D (.deferred none)) (fun r e => by cases e; exact ⟨_, hK2, rfl⟩)
    have y3 := blk_noncells x3 (grownBy_putObj' _ D (.deferred none)) (fun r e => by cases e; exact ⟨_, hK2, rfl⟩)
    have c0 := y2.cell 0
    have c1 := y2.cell 1
    have c2 := y2.cell 2
    have c3 := y3.cell 0
    have hDw : w.heap.size ≤ D := by omega
    refine ⟨.tuple #[.agg #[.int .i64 0, .bool false, .slice none 0 0], .bool false], ?_, by rw [V1.out, V2.out], (Below.trans (Up.trans HU.out HB2.out) hC).trans (belowK_b (w := w) (Nat.le_refl _) W2 D _ _ hDw hK2 rfl rfl)⟩
    exact vis_res c0 c1 c2 c3
end Go.Proofs.Ytnbhdpmhgamjfaa.Mv
