/- Recovery: the crash's pieces: the map in memory; fields that are stored anew. -/
import Derived.Test.YtjalpppmgoepiaaRvi
import Derived.Maps.Own
import Derived.Maps.Views
namespace Go.Proofs.Ytjalpppmgoepiaa.Rv
open Go Go.RowKit Hp
set_option linter.unusedVariables false

def RB (v : Value) : Option (DataW Value × List MemPlace) := some (.held v, [])
def MV (w : World) (mb n : Nat) (V : List Nat) : Prop := ∃ D, w.ownsMap Try.prog 3 RB mb n D ∧ ∀ x : Nat, D.atKey (.int .i64 (x : Int)) (.held (.bool false)) = .held (.bool (decide (x ∈ V)))
theorem MV.new (w : World) : MV (w.alloc (.map #[] 0)) w.heap.size 0 [] := ⟨_, World.ownsMap_made _ _ _ _, fun x => by simp [DataW.atKey]⟩
theorem MV.chg {S : Nat → Prop} {w w' : World} {b n : Nat} {V : List Nat} (h : MV w b n V) (hc : Chg S w w') (hn : ¬ S b) : MV w' b n V := by
  obtain ⟨D, h, hv⟩ := h
  have hlt := h.lt
  obtain ⟨es, clock, hb, F, hs, hD⟩ := h
  exact ⟨D, ⟨es, clock, (hc.block b hlt hn).trans hb, F, hs, hD⟩, hv⟩
theorem MV.up {w w' : World} {b n : Nat} {V : List Nat} (h : MV w b n V) (hu : Up w w') : MV w' b n V := h.chg (Below.chg (fun _ => False) hu) fun e => e
theorem zeroB (w : World) : (zeroValue 4).run Try.prog w = .ok (.bool false) w := by kernel_rfl
theorem keyI {x : Nat} (h1 : x < 10000000) : keyOf Try.prog 3 (.int .i64 (x : Int)) = some (.int .i64 (x : Int)) := Maps.keyOf_int_mk Try.underlying3 (by have e1 : IntKind.i64.min = -9223372036854775808 := rfl; have e2 : IntKind.i64.max = 9223372036854775807 := rfl; simp [Lit.wf, e1, e2]; omega)
theorem MV.look {w : World} {b n : Nat} {V : List Nat} (h : MV w b n V) {x : Nat} (h1 : x < 10000000) : Sem.run Try.prog (Instr.lookup 54 (.map (some b)) (.int .i64 (x : Int)) false) w = .ok (.bool (decide (x ∈ V))) w := by
  obtain ⟨D, h, hv⟩ := h
  obtain ⟨v', ps, hr, hR⟩ := h.lookup (Maps.int_keyed Try.underlying3) Try.underlying54 (zeroB w) (zd := .held (.bool false)) (zp := []) rfl (keyI h1)
  rw [hv x] at hR
  unfold RB at hR
  simp only [Option.some.injEq, Prod.mk.injEq, DataW.held.injEq] at hR
  rw [hr, hR.1]
theorem MV.put {w : World} {b n : Nat} {V : List Nat} (h : MV w b n V) (hn : n < 1000000) {x : Nat} (h1 : x < 10000000) : ∃ w', Sem.run Try.prog (Instr.mapUpdate 54 (.map (some b)) (.int .i64 (x : Int)) (.bool true)) w = .ok () w' ∧ MV w' b (n + 1) (x :: V) ∧ w.grownBy w' (some b) := by
  obtain ⟨D, h, hv⟩ := h
  have T := h.tidy (Maps.int_keyed Try.underlying3)
  obtain ⟨w', r1, r2, r3⟩ := h.update (Maps.int_keyed Try.underlying3) Try.underlying54 (by unfold maxLen; omega) (keyI h1) (val := .bool true) (d := .held (.bool true)) (ps := []) rfl
  refine ⟨w', r1, ⟨_, r2, fun y => ?_⟩, r3⟩
  by_cases e : y = x
  · subst e
    rw [Maps.atKey_put_same (k := .int .i64 (y : Int)) T.isMap trivial]
    simp
  · rw [Maps.atKey_put_other (k := .int .i64 x) (k' := .int .i64 (y : Int)) (fun e2 => e (by have e3 : (x : Int) = (y : Int) := (by cases e2; rfl); omega)), hv y]
    simp [e]
/-! ### Fields stored anew -/
section
variable {w w' wr W1 w2 : World} {p : Nat} {F F' : Nat → Prop} {E : Eng} {bv dv lv av wv v' : Value}
theorem fresh_not {E' : TypeId} {size n : Nat} {xs : List Value} {B : Nat} (hl : ∀ k, F k → k < B) (ho : w2.ownsRow B E' size v' n xs) : ∀ k, v'.ownBlock = some k → ¬ F k := fun k hk e => by have := ((own_ty ho) k hk).2; have := hl k e; omega
theorem EngP.newF {i : Nat} (h : EngP w p F E bv dv lv av wv) (hu : Up w w2) : Chg (fun j => j = p) w (w2.setCell ⟨p, i, none⟩ v') ∧ Blk w2 p [bv, dv, lv, .int .i64 (E.fl : Int), .int .i64 (E.last : Int), av, wv] 44 :=
  ⟨(Below.chg (fun j => j = p) hu).trans (chg_set w2 p i none v') fun _ _ e => e, h.blk.up hu⟩
theorem EngP.newL {l' : List Rec} (h : EngP w p F E bv dv lv av wv) (hu : Up w w2) (ho : w2.ownsRow w.heap.size 50 5 v' l'.length (reC l')) :
    EngP (w2.setCell ⟨p, 2, none⟩ v') p (Fx F w (w2.setCell ⟨p, 2, none⟩ v')) { E with log := l' } bv dv v' av wv ∧ Chg F w (w2.setCell ⟨p, 2, none⟩ v') := by
  obtain ⟨C, B⟩ := h.newF (i := 2) (v' := v') hu
  have hs : (w2.setCell ⟨p, 2, none⟩ v').heap.size = w2.heap.size := by simp [World.setCell]
  exact ⟨h.putL (C.mono fun j _ e => .inr e) (B.set 2 v') (own_chg (own_base' ho fun _ _ => Nat.zero_le _) (chg_set w2 p 2 none v') fun k hk e => by subst e; have := ((own_ty ho) _ hk).2; have := h.blk.lt; omega) (fun k hk => .inl hk) (fun k hk => fx_ltp h.lt C.size hk) (fun k hk => .inr ⟨((own_ty ho) k hk).2, by rw [hs]; exact own_lt ho k hk⟩) (fun k hk => .inr (fresh_not h.lt ho k hk)),
    C.mono fun j _ e => e ▸ h.fp⟩
theorem EngP.newB {l' : List (Int × Nat)} (h : EngP w p F E bv dv lv av wv) (hu : Up w w2) (ho : w2.ownsRow w.heap.size 53 2 v' l'.length (pgC l')) :
    EngP (w2.setCell ⟨p, 0, none⟩ v') p (Fx F w (w2.setCell ⟨p, 0, none⟩ v')) { E with buf := l' } v' dv lv av wv ∧ Chg F w (w2.setCell ⟨p, 0, none⟩ v') := by
  obtain ⟨C, B⟩ := h.newF (i := 0) (v' := v') hu
  have hs : (w2.setCell ⟨p, 0, none⟩ v').heap.size = w2.heap.size := by simp [World.setCell]
  exact ⟨h.putB (C.mono fun j _ e => .inr e) (B.set 0 v') (own_chg (own_base' ho fun _ _ => Nat.zero_le _) (chg_set w2 p 0 none v') fun k hk e => by subst e; have := ((own_ty ho) _ hk).2; have := h.blk.lt; omega) (fun k hk => .inl hk) (fun k hk => fx_ltp h.lt C.size hk) (fun k hk => .inr ⟨((own_ty ho) k hk).2, by rw [hs]; exact own_lt ho k hk⟩) (fun k hk => .inr (fresh_not h.lt ho k hk)),
    C.mono fun j _ e => e ▸ h.fp⟩
theorem EngP.newW {l' : List Nat} (h : EngP w p F E bv dv lv av wv) (hu : Up w w2) (ho : w2.ownsRow w.heap.size 3 1 v' l'.length (naC l')) :
    EngP (w2.setCell ⟨p, 6, none⟩ v') p (Fx F w (w2.setCell ⟨p, 6, none⟩ v')) { E with wri := l' } bv dv lv av v' ∧ Chg F w (w2.setCell ⟨p, 6, none⟩ v') := by
  obtain ⟨C, B⟩ := h.newF (i := 6) (v' := v') hu
  have hs : (w2.setCell ⟨p, 6, none⟩ v').heap.size = w2.heap.size := by simp [World.setCell]
  exact ⟨h.putW (C.mono fun j _ e => .inr e) (B.set 6 v') (own_chg (own_base' ho fun _ _ => Nat.zero_le _) (chg_set w2 p 6 none v') fun k hk e => by subst e; have := ((own_ty ho) _ hk).2; have := h.blk.lt; omega) (fun k hk => .inl hk) (fun k hk => fx_ltp h.lt C.size hk) (fun k hk => .inr ⟨((own_ty ho) k hk).2, by rw [hs]; exact own_lt ho k hk⟩) (fun k hk => .inr (fresh_not h.lt ho k hk)),
    C.mono fun j _ e => e ▸ h.fp⟩
theorem EngP.nilA (h : EngP w p F E bv dv lv av wv) : EngP (w.setCell ⟨p, 5, none⟩ (.slice none 0 0)) p F { E with act := [] } bv dv lv (.slice none 0 0) wv ∧ Chg F w (w.setCell ⟨p, 5, none⟩ (.slice none 0 0)) := by
  have C := chg_set w p 5 none (.slice none 0 0)
  exact ⟨h.putA (C.mono fun j _ e => .inr e) (h.blk.set 5 _) (World.ownsRow_nil _ _ _ _) (fun k hk => hk) (fun k hk => Nat.lt_of_lt_of_le (h.lt k hk) C.size) (fun k hk => (by cases hk)) (fun k hk => (by cases hk)),
    C.mono fun j _ e => e ▸ h.fp⟩
theorem src_takeR {w : World} {B : Nat} {E : TypeId} {a : Option Addr} {m c n : Nat} {l : List Rec} (h : w.ownsRow B E 5 (.slice a m c) m (reC l)) (hl : l.length = m) (hn : n ≤ m) : Src w 5 (.slice a n c) (l.take n).length (reC (l.take n)) := by
  have e : (l.take n).length = n := by simp; omega
  obtain ⟨hx, h⟩ := own_src h
  rw [e]
  refine ⟨by rw [reC_len, e], ?_⟩
  rcases h with ⟨h1, h2⟩ | ⟨b, off, cap, hv, h1, h2, h3⟩
  · simp only [Value.slice.injEq] at h1
    obtain ⟨rfl, rfl, rfl⟩ := h1
    obtain rfl : n = 0 := by omega
    exact .inl ⟨rfl, rfl⟩
  · simp only [Value.slice.injEq, true_and] at hv
    obtain ⟨rfl, rfl⟩ := hv
    refine .inr ⟨b, off, c, rfl, by omega, h2, fun j u hj => h3 j u ?_⟩
    unfold reC at *
    rw [← fm_take (f := reC1) (k := 5) (fun _ => rfl), List.getElem?_take] at hj
    split at hj
    · exact hj
    · cases hj
end
end Go.Proofs.Ytjalpppmgoepiaa.Rv
