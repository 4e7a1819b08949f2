/- slices.Backward over pending writes: the iterator's contract. -/
import Derived.Test.YtmaeeidaegigcaaDkd
import Derived.RangeFuncNested
import Derived.RangeFuncBound
import Derived.RangeFuncCalls
import Derived.RangeFuncLeaves
import Derived.RangeFuncBox
import Derived.Shelf.Abstract
import Derived.Shelf.RegionOpen
import Derived.OwnWalkIn
import Derived.TacticsInMore
import Derived.LoopNIn
import Derived.LoopIn
namespace Go.Proofs.Ytmaeeidaegigcaa.Dk
open Go Go.RowKit Go.Shelf Hp
set_option linter.unusedVariables false
attribute [local go_sem] Oper.semAt_some

/-- The first k of len - 1, len - 2, .., 0. -/
def dn (len k : Nat) : List (Fin len) := ((List.finRange len).reverse).take k
theorem dn_succ {len k : Nat} (h : k < len) : dn len (k + 1) = dn len k ++ [⟨len - 1 - k, by omega⟩] := by
  unfold dn
  rw [List.take_succ_eq_append_getElem (by simpa using h)]
  congr 2
  rw [List.getElem_reverse]
  apply Fin.ext
  simp
theorem dn_len {len k : Nat} (h : k ≤ len) : (dn len k).length = k := by simp [dn, h]
theorem mem_dn {len k : Nat} (h : k ≤ len) {x : Fin len} : x ∈ dn len k ↔ len - k ≤ x.1 := by
  induction k with
  | zero => simp [dn]
  | succ k ih =>
    rw [dn_succ (by omega), List.mem_append, ih (by omega), List.mem_singleton]
    constructor
    · rintro (h | rfl)
      · omega
      · show len - (k + 1) ≤ len - 1 - k; omega
    · intro h
      by_cases e : len - k ≤ x.1
      · exact .inl e
      · exact .inr (Fin.ext (show x.1 = len - 1 - k by omega))

set_option maxRecDepth 100000 in
set_option maxHeartbeats 2000000 in
theorem back1_in (F : Fence) (n : Nat) (hF : F.fn 63) (hro : F.round = none) (hn : 1 ≤ n) (l Bs n₀ len cap : Nat) (a : Option Addr) (c0 c1 : Nat → Value) (hlen : len ≤ cap) (hcap : cap ≤ 9223372036854775807) (hBn : Bs < n₀) (J Jx : List (Fin len) → World → Prop)
    (hY : ∀ pre x W, J pre W → pre.length < len → YieldAt F (n - 1) Try.prog l #[.int .i64 (x.1 : Int), .agg #[c0 x.1, c1 x.1]] W fun e W' =>
      (e = .returned (.bool true) ∧ J (pre ++ [x]) W' ∧ Below n₀ W W') ∨ (e = .returned (.bool false) ∧ Jx (pre ++ [x]) W'))
    (W : World) (hBs : W.cell? ⟨Bs, 0, none⟩ = some (.slice a len cap)) (hc : ∀ j, j < len → ∃ b off, a = some ⟨b, off, none⟩ ∧ b < n₀ ∧ W.cell? ⟨b, off + j * 2, none⟩ = some (c0 j) ∧ W.cell? ⟨b, off + j * 2 + 1, none⟩ = some (c1 j)) (h0 : J [] W) :
    CallsIn F n Try.prog 63 #[.func (.yield l) #[] #[], .pointer (some ⟨Bs, 0, none⟩)] W fun e W' => (∃ v, e = .returned v) ∧
      ((∃ ys, ys = dn len len ∧ J ys W') ∨ (∃ pre, (∃ k, k ≤ len ∧ pre = dn len k) ∧ Jx pre W')) := by
  have HC := Lib.hid hc
  clear hc
  refine callsIn_of_wp Try.func63 rfl hF ?_ hro
  simp only [Try.ntmps63, List.size_toArray, List.length_cons, List.length_nil, Nat.reduceAdd, Nat.reduceSub, Array.replicate_succ, Array.replicate_zero, List.push_toArray, List.append_toArray, List.nil_append, List.cons_append]
  gi_wp2
  gi_loopw [3] (fun i wr => ∃ k : Nat, k ≤ len ∧ i = .int .i64 ((len : Int) - 1 - k) ∧ J (dn len k) wr ∧ Below n₀ W wr)
    (fun i _ => (intOf i + 1).toNat)
  case atStart => exact ⟨0, Nat.zero_le _, by simp, h0, Below.refl _ _⟩
  case round =>
    obtain ⟨k, hk, rfl, hJs, hnx⟩ := hrel
    have hbx := (hnx.cell (p := ⟨Bs, 0, none⟩) hBn).trans hBs
    by_cases hlt : k < len
    · obtain ⟨x, hx⟩ : ∃ x : Nat, x = len - 1 - k := ⟨_, rfl⟩
      have hxl : x < len := by omega
      have hxe : (len : Int) - 1 - k = (x : Int) := by omega
      obtain ⟨b, off, rfl, hb, e0, e1⟩ := HC.out x hxl
      have f0 := (hnx.cell (p := ⟨b, off + x * 2, none⟩) hb).trans e0
      have f1 := (hnx.cell (p := ⟨b, off + x * 2 + 1, none⟩) hb).trans e1
      have DS := Lib.hid (dn_succ hlt)
      have XE : Hid ((⟨len - 1 - k, by omega⟩ : Fin len) = ⟨x, hxl⟩) := Fin.ext hx.symm
      rw [XE.out] at DS
      obtain ⟨fn, tmps, assign, body, hy, hR⟩ := hY _ ⟨x, hxl⟩ wr hJs (by rw [dn_len hk]; exact hlt)
      dsimp only at hy
      rw [hxe]
      have HX := Lib.hid hx
      have hk1 : k + x + 1 ≤ len := by omega
      have hk2 : len ≤ k + x + 1 := by omega
      clear e0 e1 hBs hx hxe XE
      gi_wp2
      refine hR.mono ?_
      rintro e W3 (⟨rfl, hJ3, hk3⟩ | ⟨rfl, hJx3⟩)
      · gi_wp2
        go_roundw
        case rel =>
          refine ⟨k + 1, by omega, ?_, by rw [DS.out]; exact hJ3, hnx.trans hk3⟩
          rw [show (len : Int) - 1 - ((k + 1 : Nat) : Int) = (x : Int) - 1 by omega]
        case measure => simp [intOf]
      · gi_wp2
        refine bodyPost_ret (results_none rfl _ _ _) rfl ?_
        exact ⟨⟨_, rfl⟩, .inr ⟨_, ⟨k + 1, by omega, DS.out.symm⟩, hJx3⟩⟩
    · obtain rfl : k = len := by omega
      have hm1 : (k : Int) - 1 - k = -1 := by omega
      rw [hm1]
      gi_wp2
      go_end0
      exact ⟨⟨_, rfl⟩, .inl ⟨_, rfl, hJs⟩⟩

theorem back_stops (F : Fence) (n : Nat) (hF : F.fn 63) (hro : F.round = none) (hn : 1 ≤ n) (Bs len cap : Nat) (a : Option Addr) (c0 c1 : Nat → Value) (hlen : len ≤ cap) (hcap : cap ≤ 9223372036854775807) (w : World) (hBs : Bs < w.heap.size)
    (hc : w.cell? ⟨Bs, 0, none⟩ = some (.slice a len cap)) (hcs : ∀ j, j < len → ∃ b off, a = some ⟨b, off, none⟩ ∧ b < w.heap.size ∧ w.cell? ⟨b, off + j * 2, none⟩ = some (c0 j) ∧ w.cell? ⟨b, off + j * 2 + 1, none⟩ = some (c1 j)) :
    SeqStopsK F n Try.prog 63 #[.pointer (some ⟨Bs, 0, none⟩)] (fun x : Fin len => #[.int .i64 (x.1 : Int), .agg #[c0 x.1, c1 x.1]]) (Below w.heap.size) (fun ys => ys = dn len len)
      (fun pre => ∃ k, k ≤ len ∧ pre = dn len k) len w := fun l J Jx W hW _ _ hY h0 =>
  back1_in F n hF hro hn l Bs w.heap.size len cap a c0 c1 hlen hcap hBs J Jx hY W ((hW.cell (p := ⟨Bs, 0, none⟩) hBs).trans hc)
    (fun j hj => by
      obtain ⟨b, off, ha, hb, h1, h2⟩ := hcs j hj
      exact ⟨b, off, ha, hb, (hW.cell (p := ⟨b, off + j * 2, none⟩) hb).trans h1, (hW.cell (p := ⟨b, off + j * 2 + 1, none⟩) hb).trans h2⟩) h0
/-- What is owned is so still, where another block than cells has turned. -/
theorem own_noncells {w w' : World} {base : Nat} {E : TypeId} {size : Nat} {v : Value} {n : Nat} {xs : List Value} {row : Option Nat} (h : w.ownsRow base E size v n xs) (hg : w.grownBy w' row) (hr : ∀ r, row = some r → ∃ o : Obj, w.heap[r]? = some o ∧ o.isCells = false) : w'.ownsRow base E size v n xs := by
  refine h.kept hg ?_
  rcases hv : v.ownBlock with _ | k
  · exact .inl rfl
  · refine .inr fun e => ?_
    obtain ⟨o, ho, hc⟩ := hr k e.symm
    obtain ⟨c, fz, ht⟩ := ((own_ty h) k hv).1
    rw [ht] at ho
    cases ho
    cases hc
end Go.Proofs.Ytmaeeidaegigcaa.Dk
