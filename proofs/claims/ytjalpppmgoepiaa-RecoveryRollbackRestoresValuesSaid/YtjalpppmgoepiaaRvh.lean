/- Recovery: slices.Backward over log records: the iterator's contract. -/
import Derived.Test.YtjalpppmgoepiaaRvg
import Derived.RangeFuncNested
import Derived.RangeFuncBound
import Derived.RangeFuncCalls
import Derived.RangeFuncLeaves
import Derived.RangeFuncBox
import Derived.Shelf.Abstract
import Derived.Shelf.RegionOpen
import Derived.OwnWalkIn
import Derived.TacticsInMore
import Derived.LoopNIn
import Derived.LoopIn
namespace Go.Proofs.Ytjalpppmgoepiaa.Rv
open Go Go.RowKit Go.Shelf Hp
set_option linter.unusedVariables false
attribute [local go_sem] Oper.semAt_some

/-- The first k of len - 1, len - 2, .., 0. -/
def dn (len k : Nat) : List (Fin len) := ((List.finRange len).reverse).take k
theorem dn_succ {len k : Nat} (h : k < len) : dn len (k + 1) = dn len k ++ [⟨len - 1 - k, by omega⟩] := by
  unfold dn
  rw [List.take_succ_eq_append_getElem (by simpa using h)]
  congr 2
  rw [List.getElem_reverse]
  apply Fin.ext
  simp
theorem dn_len {len k : Nat} (h : k ≤ len) : (dn len k).length = k := by simp [dn, h]
theorem mem_dn {len k : Nat} (h : k ≤ len) {x : Fin len} : x ∈ dn len k ↔ len - k ≤ x.1 := by
  induction k with
  | zero => simp [dn]
  | succ k ih =>
    rw [dn_succ (by omega), List.mem_append, ih (by omega), List.mem_singleton]
    constructor
    · rintro (h | rfl)
      · omega
      · show len - (k + 1) ≤ len - 1 - k; omega
    · intro h
      by_cases e : len - k ≤ x.1
      · exact .inl e
      · exact .inr (Fin.ext (show x.1 = len - 1 - k by omega))

/-- The blocks of T lie as they lay. -/
def KpT (T : Nat → Prop) (A B : World) : Prop := A.heap.size ≤ B.heap.size ∧ ∀ k, T k → B.heap[k]? = A.heap[k]?
theorem KpT.refl (T : Nat → Prop) (A : World) : KpT T A A := ⟨Nat.le_refl _, fun _ _ => rfl⟩
theorem KpT.trans {T : Nat → Prop} {A B C : World} (h : KpT T A B) (k : KpT T B C) : KpT T A C := ⟨Nat.le_trans h.1 k.1, fun i hi => (k.2 i hi).trans (h.2 i hi)⟩
theorem KpT.cell {T : Nat → Prop} {A B : World} (h : KpT T A B) {b o : Nat} (hb : T b) : B.cell? ⟨b, o, none⟩ = A.cell? ⟨b, o, none⟩ := World.cell?_of_block (w := A) (a := ⟨b, o, none⟩) (h.2 b hb)
theorem kpT_b {T : Nat → Prop} {w : World} (hT : ∀ k, T k → k < w.heap.size) (W : World) (l : Nat) (o o' : Obj) (hl : w.heap.size ≤ l) (h : W.heap[l]? = some o) (_ : o.isCells = false) (_ : o.isWalk = false) : KpT T W (W.putObj l o') := by
  have hg := grownBy_putObj' W l o'
  have hlt := (Array.getElem?_eq_some_iff.1 h).1
  refine ⟨hg.size, fun k hk => ?_⟩
  rcases Nat.lt_or_ge k W.heap.size with hkl | hkl
  · exact hg.block k hkl fun e => by cases e; have := hT _ hk; omega
  · have := hT k hk; omega
theorem KpT.of_chg {T S : Nat → Prop} {A B : World} (h : Chg S A B) (hT : ∀ k, T k → k < A.heap.size ∧ ¬ S k) : KpT T A B := ⟨h.size, fun k hk => h.block k (hT k hk).1 (hT k hk).2⟩

set_option maxRecDepth 100000 in
set_option maxHeartbeats 2000000 in
theorem back1_in (F : Fence) (n : Nat) (hF : F.fn 30) (hro : F.round = none) (hn : 1 ≤ n) (T : Nat → Prop) (l Bs len cap : Nat) (a : Option Addr) (c0 c1 c2 c3 c4 : Nat → Value) (hlen : len ≤ cap) (hcap : cap ≤ 9223372036854775807) (hBT : T Bs) (J Jx : List (Fin len) → World → Prop)
    (hY : ∀ pre x W, J pre W → pre.length < len → YieldAt F (n - 1) Try.prog l #[.int .i64 (x.1 : Int), .agg #[c0 x.1, c1 x.1, c2 x.1, c3 x.1, c4 x.1]] W fun e W' =>
      (e = .returned (.bool true) ∧ J (pre ++ [x]) W' ∧ KpT T W W') ∨ (e = .returned (.bool false) ∧ Jx (pre ++ [x]) W'))
    (W : World) (hBl : Bs < W.heap.size) (hBs : W.cell? ⟨Bs, 0, none⟩ = some (.slice a len cap)) (hc : ∀ j, j < len → ∃ b off, a = some ⟨b, off, none⟩ ∧ T b ∧ b < W.heap.size ∧ W.cell? ⟨b, off + j * 5, none⟩ = some (c0 j) ∧ W.cell? ⟨b, off + j * 5 + 1, none⟩ = some (c1 j) ∧ W.cell? ⟨b, off + j * 5 + 2, none⟩ = some (c2 j) ∧ W.cell? ⟨b, off + j * 5 + 3, none⟩ = some (c3 j) ∧ W.cell? ⟨b, off + j * 5 + 4, none⟩ = some (c4 j)) (h0 : J [] W) :
    CallsIn F n Try.prog 30 #[.func (.yield l) #[] #[], .pointer (some ⟨Bs, 0, none⟩)] W fun e W' => (∃ v, e = .returned v) ∧
      ((∃ ys, ys = dn len len ∧ J ys W') ∨ (∃ pre, (∃ k, k ≤ len ∧ pre = dn len k) ∧ Jx pre W')) := by
  have HC := Lib.hid hc
  clear hc
  refine callsIn_of_wp Try.func30 rfl hF ?_ hro
  simp only [Try.ntmps30, List.size_toArray, List.length_cons, List.length_nil, Nat.reduceAdd, Nat.reduceSub, Array.replicate_succ, Array.replicate_zero, List.push_toArray, List.append_toArray, List.nil_append, List.cons_append]
  gi_wp2
  gi_loopw [3] (fun i wr => ∃ k : Nat, k ≤ len ∧ i = .int .i64 ((len : Int) - 1 - k) ∧ J (dn len k) wr ∧ KpT T W wr)
    (fun i _ => (intOf i + 1).toNat)
  case atStart => exact ⟨0, Nat.zero_le _, by simp, h0, KpT.refl _ _⟩
  case round =>
    obtain ⟨k, hk, rfl, hJs, hnx⟩ := hrel
    have hbx := (hnx.cell (o := 0) hBT).trans hBs
    have hbl := Nat.lt_of_lt_of_le hBl hnx.1
    by_cases hlt : k < len
    · obtain ⟨x, hx⟩ : ∃ x : Nat, x = len - 1 - k := ⟨_, rfl⟩
      have hxl : x < len := by omega
      have hxe : (len : Int) - 1 - k = (x : Int) := by omega
      obtain ⟨b, off, rfl, hb, hbw, e0, e1, e2, e3, e4⟩ := HC.out x hxl
      have f0 := (hnx.cell (o := off + x * 5) hb).trans e0
      have f1 := (hnx.cell (o := off + x * 5 + 1) hb).trans e1
      have f2 := (hnx.cell (o := off + x * 5 + 2) hb).trans e2
      have f3 := (hnx.cell (o := off + x * 5 + 3) hb).trans e3
      have f4 := (hnx.cell (o := off + x * 5 + 4) hb).trans e4
      have hbw2 := Nat.lt_of_lt_of_le hbw hnx.1
      have DS := Lib.hid (dn_succ hlt)
      have XE : Hid ((⟨len - 1 - k, by omega⟩ : Fin len) = ⟨x, hxl⟩) := Fin.ext hx.symm
      rw [XE.out] at DS
      obtain ⟨fn, tmps, assign, body, hy, hR⟩ := hY _ ⟨x, hxl⟩ wr hJs (by rw [dn_len hk]; exact hlt)
      dsimp only at hy
      rw [hxe]
      have HX := Lib.hid hx
      have hk1 : k + x + 1 ≤ len := by omega
      have hk2 : len ≤ k + x + 1 := by omega
      clear e0 e1 e2 e3 e4 hBs hx hxe XE
      gi_wp2
      refine hR.mono ?_
      rintro e W3 (⟨rfl, hJ3, hk3⟩ | ⟨rfl, hJx3⟩)
      · gi_wp2
        go_roundw
        case rel =>
          refine ⟨k + 1, by omega, ?_, by rw [DS.out]; exact hJ3, hnx.trans hk3⟩
          rw [show (len : Int) - 1 - ((k + 1 : Nat) : Int) = (x : Int) - 1 by omega]
        case measure => simp [intOf]
      · gi_wp2
        refine bodyPost_ret (results_none rfl _ _ _) rfl ?_
        exact ⟨⟨_, rfl⟩, .inr ⟨_, ⟨k + 1, by omega, DS.out.symm⟩, hJx3⟩⟩
    · obtain rfl : k = len := by omega
      have hm1 : (k : Int) - 1 - k = -1 := by omega
      rw [hm1]
      gi_wp2
      go_end0
      exact ⟨⟨_, rfl⟩, .inl ⟨_, rfl, hJs⟩⟩

theorem back_stops (F : Fence) (n : Nat) (hF : F.fn 30) (hro : F.round = none) (hn : 1 ≤ n) (T : Nat → Prop) (Bs len cap : Nat) (a : Option Addr) (c0 c1 c2 c3 c4 : Nat → Value) (hlen : len ≤ cap) (hcap : cap ≤ 9223372036854775807) (w : World) (hBT : T Bs) (hBs : Bs < w.heap.size)
    (hc : w.cell? ⟨Bs, 0, none⟩ = some (.slice a len cap)) (hcs : ∀ j, j < len → ∃ b off, a = some ⟨b, off, none⟩ ∧ T b ∧ b < w.heap.size ∧ w.cell? ⟨b, off + j * 5, none⟩ = some (c0 j) ∧ w.cell? ⟨b, off + j * 5 + 1, none⟩ = some (c1 j) ∧ w.cell? ⟨b, off + j * 5 + 2, none⟩ = some (c2 j) ∧ w.cell? ⟨b, off + j * 5 + 3, none⟩ = some (c3 j) ∧ w.cell? ⟨b, off + j * 5 + 4, none⟩ = some (c4 j)) :
    SeqStopsK F n Try.prog 30 #[.pointer (some ⟨Bs, 0, none⟩)] (fun x : Fin len => #[.int .i64 (x.1 : Int), .agg #[c0 x.1, c1 x.1, c2 x.1, c3 x.1, c4 x.1]]) (KpT T) (fun ys => ys = dn len len)
      (fun pre => ∃ k, k ≤ len ∧ pre = dn len k) len w := fun l J Jx W hW _ _ hY h0 =>
  back1_in F n hF hro hn T l Bs len cap a c0 c1 c2 c3 c4 hlen hcap hBT J Jx hY W (Nat.lt_of_lt_of_le hBs hW.size) ((hW.cell (p := ⟨Bs, 0, none⟩) hBs).trans hc)
    (fun j hj => by
      obtain ⟨b, off, ha, ht, hb, h0, h1, h2, h3, h4⟩ := hcs j hj
      exact ⟨b, off, ha, ht, Nat.lt_of_lt_of_le hb hW.size, (hW.cell (p := ⟨b, off + j * 5, none⟩) hb).trans h0, (hW.cell (p := ⟨b, off + j * 5 + 1, none⟩) hb).trans h1, (hW.cell (p := ⟨b, off + j * 5 + 2, none⟩) hb).trans h2, (hW.cell (p := ⟨b, off + j * 5 + 3, none⟩) hb).trans h3, (hW.cell (p := ⟨b, off + j * 5 + 4, none⟩) hb).trans h4⟩) h0
/-- What is owned is so still, where another block than cells has turned. -/
theorem own_noncells {w w' : World} {base : Nat} {E : TypeId} {size : Nat} {v : Value} {n : Nat} {xs : List Value} {row : Option Nat} (h : w.ownsRow base E size v n xs) (hg : w.grownBy w' row) (hr : ∀ r, row = some r → ∃ o : Obj, w.heap[r]? = some o ∧ o.isCells = false) : w'.ownsRow base E size v n xs := by
  refine h.kept hg ?_
  rcases hv : v.ownBlock with _ | k
  · exact .inl rfl
  · refine .inr fun e => ?_
    obtain ⟨o, ho, hc⟩ := hr k e.symm
    obtain ⟨c, fz, ht⟩ := ((own_ty h) k hv).1
    rw [ht] at ho
    cases ho
    cases hc
theorem blk_noncells {w w' : World} {b : Nat} {xs : List Value} {E : TypeId} {row : Option Nat} (h : Blk w b xs E) (hg : w.grownBy w' row) (hr : ∀ r, row = some r → ∃ o : Obj, w.heap[r]? = some o ∧ o.isCells = false) : Blk w' b xs E :=
  (hg.block b h.lt fun e => by obtain ⟨o, ho, hc⟩ := hr b e.symm; unfold Blk at h; rw [h] at ho; cases ho; cases hc).trans h
theorem EngP.noncells {w w' : World} {p : Nat} {F : Nat → Prop} {E : Eng} {bv dv lv av wv : Value} {row : Option Nat} (h : EngP w p F E bv dv lv av wv) (hg : w.grownBy w' row) (hr : ∀ r, row = some r → ∃ o : Obj, w.heap[r]? = some o ∧ o.isCells = false) : EngP w' p F E bv dv lv av wv :=
  ⟨fun k hk => Nat.lt_of_lt_of_le (h.lt k hk) hg.size, h.fp, blk_noncells h.blk hg hr, own_noncells h.bo hg hr, h.bF, own_noncells h.do_ hg hr, h.dF, own_noncells h.lo hg hr, h.lF, own_noncells h.ao hg hr, h.aF, own_noncells h.wo hg hr, h.wF, h.bd, h.aw⟩
set_option maxRecDepth 100000 in
set_option maxHeartbeats 2000000 in
theorem backward_any (a : Option Addr) (n c : Nat) (w : World) :
    Calls Try.prog 26 #[.slice a n c] w fun e w' => e = .returned (.func (.func 30) #[] #[.pointer (some ⟨w.heap.size, 0, none⟩)]) ∧ w.alloc (.cells #[.slice a n c] 42) = w' := by
  go_enter Try.func26, Try.ntmps26
  go_wp2
  go_ret
  exact ⟨rfl, rfl⟩
theorem keeps_up {w w' : World} (h : Up w w') (B : Nat) : KeepsFrom B w w' := ⟨h.size, fun k o _ hk _ => (h.block k (Array.getElem?_eq_some_iff.1 hk).1).trans hk⟩
end Go.Proofs.Ytjalpppmgoepiaa.Rv
