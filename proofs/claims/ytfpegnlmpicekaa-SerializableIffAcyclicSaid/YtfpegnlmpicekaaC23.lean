/- serializabilityWorks, History. -/
import Derived.Test.YtfpegnlmpicekaaC22
namespace Go.Proofs.Ytfpegnlmpicekaa.C
open Go Go.RowKit Hp
set_option linter.unusedVariables false

def kx : ByteArray := ⟨#[120]⟩
def hw0 : List Hop := [⟨3, 2, kx⟩, ⟨1, 1, kx⟩]
theorem orderOf_congr {l : List Hop} {M : Nat → Bool} (h : ∀ c, cfN l l.length c = M c) : orderOf l = topo (fm M) (tids l 20).length (tids l 20) [] := by
  unfold orderOf; rw [show cfN l l.length = M from funext h]
theorem order_hw0 : orderOf hw0 = some [3, 1] := by
  rw [orderOf_congr (M := fun c => decide (c = 61)) (fun c => by
    simp [hw0, cfN, cfIn, hitc, confl, List.range_succ])]
  have e : tids hw0 20 = [1, 3] := by decide
  rw [e]
  decide
theorem valid_hw0 : HValid hw0 := ⟨by decide, fun i hi => by
  match i, hi with
  | 0, _ => exact .inr rfl
  | 1, _ => exact .inl rfl, fun i hi => by
  match i, hi with
  | 0, _ => decide
  | 1, _ => decide, fun i hi => by
  match i, hi with
  | 0, _ => decide
  | 1, _ => decide⟩

theorem cells_hops {w : World} {b : Nat} {l : List Hop} {cap : Nat} (h : Blk w b (l.flatMap fun x => [.int .i64 (x.tx : Int), .int .i64 x.kind, .string x.key]) 42) (hc : l.length ≤ cap) (hc2 : cap ≤ 9223372036854775807) :
    Hops w (.slice (some ⟨b, 0, none⟩) l.length cap) l := by
  refine ⟨_, cap, rfl, hc, hc2, (fun h => by cases h), fun i hi => ⟨b, 0, rfl, blk_ty h, ?_⟩⟩
  have key : ∀ (l : List Hop) (i : Nat) (hi : i < l.length), (l.flatMap fun x => [Value.int .i64 (x.tx : Int), .int .i64 x.kind, .string x.key])[i * 3]? = some (.int .i64 (l[i].tx : Int)) ∧
      (l.flatMap fun x => [Value.int .i64 (x.tx : Int), .int .i64 x.kind, .string x.key])[i * 3 + 1]? = some (.int .i64 l[i].kind) ∧ (l.flatMap fun x => [Value.int .i64 (x.tx : Int), .int .i64 x.kind, .string x.key])[i * 3 + 2]? = some (.string l[i].key) := by
    intro l
    induction l with
    | nil => intro i hi; cases hi
    | cons a l ih =>
      intro i hi
      cases i with
      | zero => simp
      | succ i =>
        have := ih i (by simpa using hi)
        simp only [List.flatMap_cons, List.getElem_cons_succ]
        rw [List.getElem?_append_right (by simp; omega), List.getElem?_append_right (by simp; omega), List.getElem?_append_right (by simp; omega)]
        simpa [show (i + 1) * 3 - 3 = i * 3 by omega, show (i + 1) * 3 + 1 - 3 = i * 3 + 1 by omega, show (i + 1) * 3 + 2 - 3 = i * 3 + 2 by omega] using this
  obtain ⟨k1, k2, k3⟩ := key l i hi
  exact ⟨by rw [Nat.zero_add]; exact h.at k1, by rw [Nat.zero_add]; exact h.at k2, by rw [Nat.zero_add]; exact h.at k3⟩

set_option maxHeartbeats 2000000 in
theorem sworks_any (w : World) : Calls Try.prog 17 #[] w fun e w' => e = .returned (.bool true) ∧ Up w w' := by
  go_enter Try.func17, Try.ntmps17
  go_wp2_with fail
  refine (sorder_any _ hw0 _ (cells_hops (Blk.new w _ _) (by decide) (by decide)) valid_hw0).mono ?_
  rintro e w1 ⟨⟨hs, _⟩, hu1⟩
  obtain ⟨v, rfl, hown⟩ := hs _ order_hw0
  clear hs
  have hi := Lib.hid (ints_own hown)
  clear hown
  go_wp2_with fail
  refine (equalI_any _ _ [3, 1] [3, 1] _ (hi.out.grow intR_grows ((Up.refl _).alloc _)) (Blk.arr (enc := fun x => .int .i64 x) (fun _ _ _ _ h => h) (Blk.new w1 _ _) [3, 1] 2 (fun i hi => by
    match i, hi with
    | 0, _ => rfl
    | 1, _ => rfl) (by decide) (by decide))).mono ?_
  rintro e w2 ⟨rfl, hu2⟩
  rw [show decide (([3, 1] : List Int) = [3, 1]) = true from rfl]
  go_wp2
  go_ret
  exact ⟨rfl, Up.trans (((Up.refl w).alloc _).trans hu1) (Up.trans ((Up.refl _).alloc _) hu2)⟩

/-! ### The histories that the laws draw -/
abbrev hcells (l : List Hop) : List Value := l.flatMap fun x => [.int .i64 (x.tx : Int), .int .i64 x.kind, .string x.key]
theorem hcells_at : ∀ (l : List Hop) (i : Nat) (hi : i < l.length), (hcells l)[i * 3]? = some (.int .i64 (l[i].tx : Int)) ∧ (hcells l)[i * 3 + 1]? = some (.int .i64 l[i].kind) ∧ (hcells l)[i * 3 + 2]? = some (.string l[i].key)
  | a :: l, 0, _ => by simp [hcells]
  | a :: l, i + 1, h => by
    have := hcells_at l i (by simpa using h)
    simp only [hcells, List.flatMap_cons, List.getElem_cons_succ] at this ⊢
    rw [List.getElem?_append_right (by simp; omega), List.getElem?_append_right (by simp; omega), List.getElem?_append_right (by simp; omega)]
    simpa [show (i + 1) * 3 - 3 = i * 3 by omega, show (i + 1) * 3 + 1 - 3 = i * 3 + 1 by omega, show (i + 1) * 3 + 2 - 3 = i * 3 + 2 by omega] using this
theorem hops_own {w : World} {base : Nat} {v : Value} {l : List Hop} (h : w.ownsRow base 42 3 v l.length (hcells l)) : Hops w v l :=
  own_arr h fun g hg hc i hi => ⟨hg, hc _ _ (hcells_at l i hi).1, hc _ _ (hcells_at l i hi).2.1, hc _ _ (hcells_at l i hi).2.2⟩
def HOk (x : Hop) : Prop := x.tx < 5 ∧ (x.kind = 1 ∨ x.kind = 2) ∧ ∃ q : Nat, q < 4 ∧ x.key = one (119 + (q : Int))
theorem hok_valid {l : List Hop} (h : ∀ x ∈ l, HOk x) (hl : l.length ≤ 60) : HValid l := by
  have g : ∀ i, i < l.length → HOk (l.getD i h0) := fun i hi => h _ (by simp [List.getD, hi])
  refine ⟨by omega, fun i hi => (g i hi).2.1, fun i hi => by have := (g i hi).1; omega, fun i hi => ?_⟩
  obtain ⟨_, _, q, hq, e⟩ := g i hi
  rw [e]; simp [one, ByteArray.size, ByteArray.push]
theorem modn_any (k n : Int) (w : World) (h0 : 0 < n) (h1 : n ≤ 1000000) :
    Calls Try.prog 15 #[.int .i64 k, .int .i64 n] w fun e w' => ∃ q : Nat, e = .returned (.int .i64 q) ∧ (q : Int) < n ∧ w = w' :=
  (mod_any k n w h0 h1).mono fun e w' h => by
    obtain ⟨q, hq⟩ := Int.eq_ofNat_of_zero_le (modV_nonneg k n h0)
    have := modV_lt k n h0
    rw [hq] at h this
    exact ⟨q, h.1, this, h.2⟩
theorem Try.info42 : (Try.prog.info? 42).map (fun i => (i.zero, i.size, i.bytes)) = some (some (.agg #[.int .i64 0, .int .i64 0, .string ByteArray.empty]), 3, 32) := by kernel_rfl
theorem cell_three_new' (w : World) (o : Obj) (x y z : Value) (E : TypeId) : ∀ (j : Nat) u, [x, y, z][j]? = some u → ((w.alloc o).alloc (.cells #[x, y, z] E)).cell? ((⟨w.heap.size + 1, 0, none⟩ : Addr).add j) = some u := by
  intro j u hj
  rw [show (⟨w.heap.size + 1, 0, none⟩ : Addr).add j = ⟨(w.alloc o).heap.size, j, none⟩ by unfold Addr.add; split <;> simp_all, World.cell?_alloc_new]
  simpa using hj

set_option maxRecDepth 100000 in
set_option maxHeartbeats 2000000 in
theorem hist_any (a2 : Option Addr) (len2 cap2 : Nat) (z2 : List Int) (w : World) (hE : Elems w a2 len2 z2) (hl : len2 ≤ cap2) (hm : cap2 ≤ 9223372036854775807) :
    Calls Try.prog 18 #[.slice a2 len2 cap2] w fun e w' => ∃ v l, e = .returned v ∧ w'.ownsRow w.heap.size 42 3 v l.length (hcells l) ∧ (∀ x ∈ l, HOk x) ∧ l.length ≤ 60 ∧ Up w w' := by
  obtain ⟨i0, hi, hz0, hz1, hz2⟩ := info_parts Try.info42
  have HE := Lib.hid hE
  clear hE
  obtain ⟨m, hmin, hm1, hm2⟩ : ∃ m : Nat, min (len2 : Int) 60 = (m : Int) ∧ m ≤ len2 ∧ m ≤ 60 := ⟨min len2 60, by omega, by omega, by omega⟩
  go_enter Try.func18, Try.ntmps18
  go_wp2
  clear hmin
  go_loopw [3, 12] (fun v iv wr => ∃ (k : Nat) (l : List Hop), k ≤ m ∧ iv = .int .i64 k ∧ l.length = k ∧ wr.ownsRow w.heap.size 42 3 v l.length (hcells l) ∧ (∀ x ∈ l, HOk x) ∧ Up w wr) (fun _ iv _ => m - (intOf iv).toNat)
  case atStart => exact ⟨0, [], by omega, rfl, rfl, World.ownsRow_nil _ _ _ _, fun x hx => (by cases hx), Up.refl _⟩
  case round =>
    obtain ⟨k, l, hk, rfl, hlk, hown, hok, hu⟩ := hrel
    by_cases hlt : k < m
    · obtain ⟨b, off, rfl, hbl, hc⟩ := HE.out k (by omega)
      have hc' := (hu.cell (p := ⟨b, off + k, none⟩) hbl).trans hc
      clear hc
      generalize z2.getD k 0 = x at *
      have HLK := Lib.hid hlk
      have OK := Lib.hid hok
      clear hlk hok
      have hcv := conv1 (P := Try.prog) 35 9 5 Try.underlying35 Try.underlying5 Try.underlying9
      go_wp2_with fail
      refine (modn_any _ _ _ (by decide) (by decide)).mono ?_
      rintro e w' ⟨tx, rfl, htx, rfl⟩
      go_wp2_with fail
      refine (modn_any _ _ _ (by decide) (by decide)).mono ?_
      rintro e w' ⟨kd, rfl, hkd, rfl⟩
      go_wp2_with fail
      refine (modn_any _ _ _ (by decide) (by decide)).mono ?_
      rintro e w' ⟨q, rfl, hq, rfl⟩
      go_wp2_with (at_builtin; refine wpList_append_own _ rfl _ _ 39 rfl w.heap.size 42 i0 (.agg #[.int .i64 0, .int .i64 0, .string ByteArray.empty]) 3 32 Try.underlying39 hi hz0 hz1 hz2 rfl (by decide) _ _ _ rfl ((hown.alloc _).alloc _) ⟨wr.heap.size + 1, 0, none⟩ 1 1 [.int .i64 (tx : Int), .int .i64 (1 + (kd : Int)), .string (one (119 + (q : Int)))] rfl rfl ?c1 ?c2 ?c3 ?c4 ?c5 ?_)
      case c1 => exact cell_three_new' _ _ _ _ _ _
      case c2 => intro u hu; simp at hu; rcases hu with rfl | rfl | rfl <;> rfl
      case c3 => have := HLK.out; unfold maxLen; omega
      case c4 => have := HLK.out; omega
      case c5 => have := hu.size; simp; omega
      intro v' wl hown' hgrow _
      have hul : Up w wl := Below.grown ((hu.alloc _).alloc _) hgrow (by have := hu.size; simp; omega) (fun j hj => (own_ty hown j hj).2)
      clear hown hgrow
      have OK2 : Hid (∀ x ∈ l ++ [⟨tx, 1 + (kd : Int), one (119 + (q : Int))⟩], HOk x) := fun x hx => by
        rcases List.mem_append.1 hx with h | h
        · exact OK.out x h
        · obtain rfl := List.mem_singleton.1 h
          exact ⟨by simp only; omega, by simp only; omega, q, by omega, rfl⟩
      go_wp2
      go_roundw
      case rel => exact ⟨k + 1, _, by omega, by go_num, by have := HLK.out; simp; omega, by simpa [hcells] using hown', OK2.out, hul⟩
      case measure => simp [intOf]; omega
    · obtain rfl : k = m := by omega
      have HLK := Lib.hid hlk
      clear hlk
      go_wp2
      go_ret
      exact ⟨_, l, rfl, hown, hok, by have := HLK.out; omega, hu⟩
end Go.Proofs.Ytfpegnlmpicekaa.C
