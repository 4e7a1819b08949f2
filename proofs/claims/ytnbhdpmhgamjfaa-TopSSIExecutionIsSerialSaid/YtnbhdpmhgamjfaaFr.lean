/- Frames by footprint: w' is w but for the blocks of a set and new ones; rows that are known whole. -/
import Derived.Test.YtnbhdpmhgamjfaaHp
import Derived.Maps.AppendAt
import Derived.Deep.AppendLies
import Derived.Deep.RegionLaw
import Derived.Laws.AppendOwnNone
namespace Go.Proofs.Ytnbhdpmhgamjfaa.Hp
open Go Go.RowKit
set_option linter.unusedVariables false

/-- w' is w, but for the blocks of S and new ones. -/
structure Chg (S : Nat → Prop) (w w' : World) : Prop where
  os : w'.os = w.os
  tape : w'.tape = w.tape
  output : w'.output = w.output
  size : w.heap.size ≤ w'.heap.size
  block : ∀ k, k < w.heap.size → ¬ S k → w'.heap[k]? = w.heap[k]?
theorem Chg.refl (S : Nat → Prop) (w : World) : Chg S w w := ⟨rfl, rfl, rfl, Nat.le_refl _, fun _ _ _ => rfl⟩
theorem Chg.trans {S S' : Nat → Prop} {a b c : World} (h : Chg S a b) (k : Chg S' b c) (hs : ∀ i, i < a.heap.size → S' i → S i) : Chg S a c :=
  ⟨k.os.trans h.os, k.tape.trans h.tape, k.output.trans h.output, Nat.le_trans h.size k.size, fun i hi hn => (k.block i (Nat.lt_of_lt_of_le hi h.size) fun e => hn (hs i hi e)).trans (h.block i hi hn)⟩
theorem Chg.or {S S' : Nat → Prop} {a b c : World} (h : Chg S a b) (k : Chg S' b c) : Chg (fun i => S i ∨ S' i) a c :=
  ⟨k.os.trans h.os, k.tape.trans h.tape, k.output.trans h.output, Nat.le_trans h.size k.size, fun i hi hn => (k.block i (Nat.lt_of_lt_of_le hi h.size) fun e => hn (.inr e)).trans (h.block i hi fun e => hn (.inl e))⟩
theorem Chg.mono {S S' : Nat → Prop} {a b : World} (h : Chg S a b) (hs : ∀ i, i < a.heap.size → S i → S' i) : Chg S' a b :=
  ⟨h.os, h.tape, h.output, h.size, fun i hi hn => h.block i hi fun e => hn (hs i hi e)⟩
theorem _root_.Go.RowKit.Below.chg {w w' : World} (S : Nat → Prop) (h : Below w.heap.size w w') : Chg S w w' := ⟨h.os, h.tape, h.output, h.size, fun k hk _ => h.block k hk⟩
theorem Chg.below {S : Nat → Prop} {w w' : World} {B : Nat} (h : Chg S w w') (hB : B ≤ w.heap.size) (hS : ∀ k, k < B → ¬ S k) : Below B w w' := ⟨h.os, h.tape, h.output, h.size, fun k hk => h.block k (by omega) (hS k hk)⟩
theorem Chg.up {S : Nat → Prop} {w w' : World} (h : Chg S w w') (hS : ∀ k, k < w.heap.size → ¬ S k) : Up w w' := h.below (Nat.le_refl _) hS
theorem Chg.alloc {S : Nat → Prop} {a w : World} (h : Chg S a w) (o : Obj) : Chg S a (w.alloc o) := h.trans (((Up.refl w).alloc o).chg S) fun _ _ e => e
theorem Chg.drew {S : Nat → Prop} {a w : World} (h : Chg S a w) : Chg S a w.drew := ⟨h.os, h.tape, h.output, h.size, h.block⟩
theorem Chg.drewN {S : Nat → Prop} {a w : World} (h : Chg S a w) (n : Nat) : Chg S a (w.drewN n) := ⟨h.os, h.tape, h.output, h.size, h.block⟩
theorem Chg.set {S : Nat → Prop} {a w : World} {b : Nat} (h : Chg S a w) (hb : S b ∨ a.heap.size ≤ b) (i : Nat) (s : Option Nat) (v : Value) : Chg S a (w.setCell ⟨b, i, s⟩ v) :=
  h.trans (S' := fun k => k = b) ⟨rfl, rfl, rfl, by simp [World.setCell], fun k _ hk => Below.heap_setCell _ _ _ _ hk⟩ fun k hk e => by subst e; rcases hb with hb | hb; exact hb; omega
theorem chg_set (w : World) (b i : Nat) (s : Option Nat) (v : Value) : Chg (fun j => j = b) w (w.setCell ⟨b, i, s⟩ v) := (Chg.refl (fun j => j = b) w).set (b := b) (.inl rfl) i s v
theorem Chg.grown {S : Nat → Prop} {a w w' : World} {row : Option Nat} (h : Chg S a w) (hg : w.grownBy w' row) (hr : ∀ k, row = some k → S k ∨ a.heap.size ≤ k) : Chg S a w' :=
  h.trans (S' := fun k => row = some k) ⟨hg.os, hg.tape, hg.output, hg.size, fun k hk hn => hg.block k hk fun e => hn e.symm⟩ fun k hk e => by rcases hr k e with h | h; exact h; omega
theorem Chg.cell {S : Nat → Prop} {w w' : World} (h : Chg S w w') {b o : Nat} (hb : b < w.heap.size) (hn : ¬ S b) : w'.cell? ⟨b, o, none⟩ = w.cell? ⟨b, o, none⟩ := World.cell?_of_block (w := w) (a := ⟨b, o, none⟩) (h.block b hb hn)
theorem At.chg {S : Nat → Prop} {w w' : World} {b o : Nat} {v : Value} (h : At w b o v) (hc : Chg S w w') (hn : ¬ S b) : At w' b o v :=
  ⟨by have := h.1; have := hc.size; omega, (hc.cell h.1 hn).trans h.2⟩
theorem Blk.chg {S : Nat → Prop} {w w' : World} {b : Nat} {xs : List Value} {E : TypeId} (h : Blk w b xs E) (hc : Chg S w w') (hn : ¬ S b) : Blk w' b xs E := (hc.block b h.lt hn).trans h
theorem own_chg {S : Nat → Prop} {w w' : World} {base : Nat} {E : TypeId} {size : Nat} {v : Value} {n : Nat} {xs : List Value} (h : w.ownsRow base E size v n xs) (hc : Chg S w w') (hn : ∀ k, v.ownBlock = some k → ¬ S k) : w'.ownsRow base E size v n xs := by
  obtain ⟨hx, h⟩ := h
  refine ⟨hx, ?_⟩
  rcases h with h | ⟨g, cap, cur, hv, hb, hg, r⟩
  · exact Or.inl h
  · exact Or.inr ⟨g, cap, cur, hv, hb, (hc.block g (Ty.lt ⟨cur, (0, 0), hg⟩) (hn g (by subst hv; rfl))).trans hg, r⟩

theorem blk_ty {w : World} {b : Nat} {xs : List Value} {E : TypeId} (h : Blk w b xs E) : Ty w b E := ⟨_, _, h⟩
/-- The footprint F, and what is new between w and w'. -/
def Fx (F : Nat → Prop) (w w' : World) : Nat → Prop := fun k => F k ∨ (w.heap.size ≤ k ∧ k < w'.heap.size)
theorem own_lt {w : World} {base : Nat} {E : TypeId} {size : Nat} {v : Value} {n : Nat} {xs : List Value} (h : w.ownsRow base E size v n xs) : ∀ k, v.ownBlock = some k → k < w.heap.size := fun k hk => ((own_ty h) k hk).1.lt
theorem own_base' {w : World} {base base' : Nat} {E : TypeId} {size : Nat} {v : Value} {n : Nat} {xs : List Value} (h : w.ownsRow base E size v n xs) (hb : ∀ k, v.ownBlock = some k → base' ≤ k) : w.ownsRow base' E size v n xs := by
  obtain ⟨hx, h⟩ := h
  refine ⟨hx, ?_⟩
  rcases h with h | ⟨g, cap, cur, hv, hb', r⟩
  · exact Or.inl h
  · exact Or.inr ⟨g, cap, cur, hv, hb g (by subst hv; rfl), r⟩
theorem own_form {w : World} {base : Nat} {E : TypeId} {size : Nat} {v : Value} {n : Nat} {xs : List Value} (h : w.ownsRow base E size v n xs) : ∃ a cap, v = .slice a n cap ∧ n ≤ cap ∧ cap ≤ 9223372036854775807 ∧ (a = none → cap = 0) := by
  obtain ⟨hx, h⟩ := h
  rcases h with ⟨rfl, rfl⟩ | ⟨g, cap, cur, rfl, hb, hg, hn, hc, r⟩
  · exact ⟨none, 0, rfl, Nat.le_refl _, by omega, fun _ => rfl⟩
  · exact ⟨_, cap, rfl, hn, by unfold maxLen at hc; exact hc, fun e => by cases e⟩
/-- Where something is owned, there is a row. -/
theorem own_some {w : World} {base : Nat} {E : TypeId} {size : Nat} {v : Value} {n : Nat} {xs : List Value} (h : w.ownsRow base E size v n xs) (hn : 0 < n) :
    ∃ g cap, v = .slice (some ⟨g, 0, none⟩) n cap ∧ n ≤ cap ∧ cap ≤ 9223372036854775807 ∧ g < w.heap.size ∧ (∀ j u, xs[j]? = some u → w.cell? ⟨g, j, none⟩ = some u) ∧ ∀ j, w.frozen? ⟨g, j, none⟩ = false := by
  obtain ⟨hx, h⟩ := h
  rcases h with ⟨rfl, rfl⟩ | ⟨g, cap, cur, rfl, hb, hg, hn', hc, hs, ht⟩
  · omega
  · refine ⟨g, cap, rfl, hn', by unfold maxLen at hc; exact hc, Ty.lt ⟨cur, (0, 0), hg⟩, fun j u hj => ?_, fun j => by simp [World.frozen?, hg]⟩
    unfold World.cell?
    simp only [hg]
    rw [← ht, List.getElem?_take] at hj
    split at hj
    · simpa using hj
    · cases hj
/-- A cell of an owned row is stored into. -/
theorem own_set {w : World} {base g cap : Nat} {E : TypeId} {size n : Nat} {xs : List Value} (h : w.ownsRow base E size (.slice (some ⟨g, 0, none⟩) n cap) n xs) (i : Nat) (hi : i < xs.length) (u : Value) :
    (w.setCell ⟨g, i, none⟩ u).ownsRow base E size (.slice (some ⟨g, 0, none⟩) n cap) n (xs.set i u) := by
  obtain ⟨hx, h⟩ := h
  rcases h with ⟨h0, _⟩ | ⟨g', cap', cur, hv, hb, hg, hn, hc, hs, ht⟩
  · cases h0
  · simp only [Value.slice.injEq, Option.some.injEq, Addr.mk.injEq, and_true, true_and] at hv
    obtain ⟨rfl, rfl⟩ := hv
    refine ⟨by simpa using hx, Or.inr ⟨g, cap, cur.setIfInBounds i u, rfl, hb, ?_, hn, hc, by simpa using hs, ?_⟩⟩
    · simp only [World.setCell, Array.getElem?_modify, if_true, hg, Option.map_some]; rfl
    · simp only [Array.toList_setIfInBounds]
      rw [List.take_set, ht]
theorem cells_new (w : World) (cs : Array Value) (E : TypeId) : ∀ (j : Nat) u, cs.toList[j]? = some u → (w.alloc (.cells cs E)).cell? ((⟨w.heap.size, 0, none⟩ : Addr).add j) = some u := by
  intro j u hj
  rw [Addr.add_lit, Nat.zero_add]
  rw [World.cell?_alloc_new]
  simpa using hj
theorem wl_index_one {P : Program} {ops : Array Oper} {rest : List Oper} {o : Oper} {a : Act} {w : World} {Q : Exit → Act → World → Prop} (hgd : o.guard = none) (T : TypeId) (x ix : Operand) (ho : o.op = .index T x ix)
    (cs : List Value) (k : Nat) (v : Value) (n : Nat) (e : TypeId) (d : TypeDesc) (hx : a.eval x = .agg cs.toArray) (hix : a.eval ix = .int .i64 k) (hu : P.underlying T = some (.array n e)) (hk : k < n)
    (he : P.underlying e = some d) (hd : d.isRow = false) (hs : (P.info? e).map (·.size) = some 1) (hv : cs[k]? = some v) (h : wpList P ops Q rest (a.put o.dst v) w) : wpList P ops Q (o :: rest) a w :=
  wpList_plain hgd fun K hK => by
    have h2 := hK _ _ h
    have hr : (Instr.index T (.agg cs.toArray) (.int .i64 k)).run P w = .ok v w := by
      cases hq : P.info? e with
      | none => simp [hq] at hs
      | some i =>
        have hsz : i.size = 1 := by simpa [hq] using hs
        have hagg : (isAgg e).run P w = .ok false w := by
          unfold isAgg
          rw [Sem.run_bind, run_underlying he w]
          cases d <;> simp_all
        have hv' : cs.toArray[k]? = some v := by simpa using hv
        unfold Instr.index
        simp only [asIntOf, Sem.run_bind, Sem.run_pure, Result.andThen_ok, run_underlying hu w]
        rw [if_pos (by omega)]
        simp [sizeOf, typeInfo, hq, hsz, part, hagg, Sem.run_bind, hv]
    unfold Oper.wp execOp
    simp only [ho, hx, hix, hr, Sem.run_bind, Result.andThen_ok, Sem.run_pure]
    exact h2

/-- append(own, src...), src nil or not. -/
theorem wl_append_any {P : Program} {w : World} {ops : Array Oper} {rest : List Oper} {o : Oper} {a : Act} {Q : Exit → Act → World → Prop} (hgd : o.guard = none) (s x : Operand) (t : TypeId)
    (ho : o.op = .call { callee := .builtin .append, args := #[s, x], argTypes := #[t, t] })
    (base : Nat) (e : TypeId) (i : TypeInfo) (z : Value) (size bytes : Nat) (ht : P.underlying t = some (.slice e)) (hi : P.info? e = some i) (hz : i.zero = some z)
    (hsize : i.size = size) (hby : i.bytes = bytes) (hzs : z.cells.size = size) (hsz : 0 < size)
    (v : Value) (n : Nat) (xs : List Value) (hs : a.eval s = v) (hown : w.ownsRow base e size v n xs)
    (ad : Option Addr) (m c : Nat) (news : List Value) (hx : a.eval x = .slice ad m c) (hnil : ad = none → m = 0 ∧ c = 0) (hl : news.length = m * size) (hnews : ∀ y, ad = some y → ∀ j u, news[j]? = some u → w.cell? (y.add j) = some u) (h1 : ∀ u ∈ news, u.oneCell' = true)
    (h63 : n + m ≤ maxLen) (hbytes : (n + m) * bytes ≤ 140737488355328) (hbase : base ≤ w.heap.size)
    (h : ∀ v' w', w'.ownsRow base e size v' (n + m) (xs ++ news) → w.grownBy w' v.ownBlock → (v'.ownBlock = v.ownBlock ∨ v'.ownBlock = some w.heap.size) → wpList P ops Q rest (a.put o.dst v') w') :
    wpList P ops Q (o :: rest) a w := by
  cases ad with
  | none =>
    obtain ⟨rfl, rfl⟩ := hnil rfl
    obtain rfl : news = [] := List.eq_nil_of_length_eq_zero (by simpa using hl)
    refine wpList_append_own_none hgd s x t ho base e i size ht hi v n xs hs hown hx ?_
    exact h v w (by simpa using hown) ⟨rfl, rfl, rfl, Nat.le_refl _, fun _ _ _ => rfl⟩ (.inl rfl)
  | some y =>
    refine wpList_append_own_at w hgd s x t ho base e i z size bytes ht hi hz hsize hby hzs hsz v n xs hs hown y m c news hx hl (hnews y rfl) h1 h63 hbytes hbase ?_
    intro v' w' a1 a2 _ a4
    exact h v' w' a1 a2 a4
/-! ### p.f = append(p.f, ..): what the append and the store behind it leave -/
/-- Behind the append, ahead of the store: the struct's block is as it was. -/
theorem fld_far {wr W1 w2 : World} {p : Nat} {fs : List Value} {E T : TypeId} {size n : Nat} {v : Value} {xs : List Value} (hb : Blk wr p fs E) (hne : T ≠ E) (hv : wr.ownsRow 0 T size v n xs) (hU : Up wr W1) (hg : W1.grownBy w2 v.ownBlock) : Blk w2 p fs E :=
  (hb.up hU).chg ((Chg.refl (fun j => v.ownBlock = some j) _).grown hg fun j hj => .inl hj) fun e => (((own_ty hv) _ e).1).ne hne (blk_ty hb)
theorem fld_append {wr W1 w2 : World} {p i g m c H n size : Nat} {fs : List Value} {E T : TypeId} {v : Value} {xs ys : List Value} (hb : Blk wr p fs E) (hne : T ≠ E) (hv : wr.ownsRow 0 T size v n xs) (hU : Up wr W1)
    (hown : w2.ownsRow 0 T size (.slice (some ⟨g, 0, none⟩) m c) m ys) (hg : W1.grownBy w2 v.ownBlock) (hat : v.ownBlock = some g ∨ g = H) (hH : wr.heap.size ≤ H) :
    Blk (w2.setCell ⟨p, i, none⟩ (.slice (some ⟨g, 0, none⟩) m c)) p (fs.set i (.slice (some ⟨g, 0, none⟩) m c)) E ∧
    (w2.setCell ⟨p, i, none⟩ (.slice (some ⟨g, 0, none⟩) m c)).ownsRow 0 T size (.slice (some ⟨g, 0, none⟩) m c) m ys ∧
    Chg (fun j => v.ownBlock = some j ∨ j = p) W1 (w2.setCell ⟨p, i, none⟩ (.slice (some ⟨g, 0, none⟩) m c)) ∧
    Chg (fun j => v.ownBlock = some j ∨ j = p) wr (w2.setCell ⟨p, i, none⟩ (.slice (some ⟨g, 0, none⟩) m c)) ∧
    (v.ownBlock = some g ∨ wr.heap.size ≤ g) ∧ g < (w2.setCell ⟨p, i, none⟩ (.slice (some ⟨g, 0, none⟩) m c)).heap.size ∧ (∀ j, v.ownBlock = some j → Ty wr j T) := by
  have hlt := (own_ty hown) g rfl
  have hb2 := fld_far hb hne hv hU hg
  have hs : (w2.setCell ⟨p, i, none⟩ (.slice (some ⟨g, 0, none⟩) m c)).heap.size = w2.heap.size := by simp [World.setCell]
  have A : Chg (fun j => v.ownBlock = some j ∨ j = p) W1 (w2.setCell ⟨p, i, none⟩ (.slice (some ⟨g, 0, none⟩) m c)) := ((Chg.refl _ W1).grown hg fun j hj => .inl (.inl hj)).set (.inl (.inr rfl)) _ _ _
  refine ⟨hb2.set i _, own_chg hown (chg_set _ _ _ _ _) fun j hj e => ?_, A, (hU.chg (fun j => v.ownBlock = some j ∨ j = p)).trans A fun _ _ h => h, ?_, by rw [hs]; exact hlt.1.lt, fun j hj => ((own_ty hv) j hj).1⟩
  · obtain rfl : g = j := by simpa [Value.ownBlock] using hj
    subst e
    exact hlt.1.ne hne (blk_ty hb2)
  · rcases hat with h | h
    · exact .inl h
    · exact .inr (by omega)
end Go.Proofs.Ytnbhdpmhgamjfaa.Hp
