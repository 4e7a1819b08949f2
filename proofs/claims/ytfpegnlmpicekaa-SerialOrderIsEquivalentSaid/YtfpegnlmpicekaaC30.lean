/- ReadsFrom, finalWriters. -/
import Derived.Test.YtfpegnlmpicekaaC29
namespace Go.Proofs.Ytfpegnlmpicekaa.C
open Go Go.RowKit Hp
set_option linter.unusedVariables false

/-- The place of the last write of a key among the first m. -/
def lwi (l : List Hop) (k : ByteArray) : Nat → Int
  | 0 => -1
  | m + 1 => if wrk k (l.getD m h0) then (m : Int) else lwi l k m
theorem lwi_bd (l : List Hop) (k : ByteArray) : ∀ m, -1 ≤ lwi l k m ∧ lwi l k m < m
  | 0 => by simp [lwi]
  | m + 1 => by
    have := lwi_bd l k m
    unfold lwi; split <;> omega
theorem lwi_lastw (l : List Hop) (k : ByteArray) : ∀ m, m ≤ l.length → (if 0 ≤ lwi l k m then ((l.getD (lwi l k m).toNat h0).tx : Int) else -1) = lastw (l.take m) k
  | 0, _ => by simp [lwi, lastw]
  | m + 1, h => by
    rw [List.take_succ_eq_append_getElem (by omega), lastw_snoc, ← hgetD l (by omega), lwi, ← lwi_lastw l k m (by omega)]
    by_cases hw : wrk k (l.getD m h0) = true
    · rw [if_pos hw, if_pos hw, if_pos (by omega)]; simp
    · rw [if_neg hw, if_neg hw]
def src (l : List Hop) (i : Nat) : Int := if (l.getD i h0).kind = 1 then lwi l (l.getD i h0).key i else -1
def srcs (l : List Hop) (n : Nat) : List Int := (List.range n).map (src l)
theorem srcs_succ (l : List Hop) (n : Nat) : srcs l (n + 1) = srcs l n ++ [src l n] := by
  unfold srcs; rw [List.range_succ, List.map_append]; rfl
theorem srcs_len (l : List Hop) (n : Nat) : (srcs l n).length = n := by simp [srcs]
theorem cell_one_new3 (w : World) (v : Value) (E : TypeId) : ∀ (j : Nat) u, [v][j]? = some u → (w.alloc (.cells #[v] E)).cell? ((⟨w.heap.size, 0, none⟩ : Addr).add j) = some u := cell_one_new2 w v E

set_option maxRecDepth 100000 in
set_option maxHeartbeats 4000000 in
theorem readsfrom_any (vt : Value) (l : List Hop) (w : World) (ht : Hops w vt l) (hv' : HValid l) :
    Calls Try.prog 52 #[vt] w fun e w' => ∃ v, e = .returned (.tuple #[v, .int .i64 0]) ∧ w'.ownsRow w.heap.size 3 1 v (srcs l l.length).length (ic (srcs l l.length)) ∧ Up w w' := by
  obtain ⟨i0, hi, hz0, hz1, hz2⟩ := info_parts Try.info3
  have HT := Lib.hid ht
  have HV := Lib.hid hv'
  have hl200 := hv'.len
  obtain ⟨a, cap, rfl, h1, h2, _, h3⟩ := ht
  have H3 := Lib.hid h3
  clear h3 hv'
  go_enter Try.func52, Try.ntmps52
  go_wp2_with (go_at_call 40; refine (hcheck_any _ l _ HT.out HV.out).mono ?_; rintro e w1 ⟨rfl, hu1⟩)
  go_loopw [5, 18] (fun v kv wr => ∃ i : Nat, i ≤ l.length ∧ kv = .int .i64 i ∧ wr.ownsRow w.heap.size 3 1 v (srcs l i).length (ic (srcs l i)) ∧ Up w wr) (fun _ kv _ => l.length - (intOf kv).toNat)
  case atStart => exact ⟨0, by omega, rfl, World.ownsRow_nil _ _ _ _, hu1⟩
  case round =>
    obtain ⟨i, hin, rfl, hown, hu⟩ := hrel
    have hsl := srcs_len l i
    by_cases hlt : i < l.length
    · obtain ⟨b, off, rfl, h4⟩ := arr_at (n := 0) (cap := 0) h0 H3.out (by omega)
      have H4 := Lib.hid h4
      clear h4
      obtain ⟨_, ⟨hbs, c0⟩, ⟨_, c1⟩, ⟨_, c2⟩⟩ := hopR_grows _ _ _ _ _ (H4.out i (by omega)) hu
      have KD := HV.out.kind i hlt
      have SS := Lib.hid (srcs_succ l i)
      have SR : Hid (src l i = if (l.getD i h0).kind = 1 then lwi l (l.getD i h0).key i else -1) := rfl
      generalize l.getD i h0 = x at *
      obtain ⟨tx, kd, ky⟩ := x
      dsimp only at *
      have hsz := hu.size
      rcases KD with rfl | rfl
      · have SR2 : Hid (src l i = lwi l ky i) := by unfold Hid; rw [SR.out, if_pos rfl]
        go_wp2
        obtain ⟨wo, rfl⟩ : ∃ wo : World, wo = wr := ⟨_, rfl⟩
        obtain ⟨W0, hW0⟩ : ∃ W0, W0 = wo.alloc (.cells #[.int .i64 (tx : Int), .int .i64 1, .string ky] 42) := ⟨_, rfl⟩
        have hB7 : Blk W0 wo.heap.size [.int .i64 (tx : Int), .int .i64 1, .string ky] 42 := hW0 ▸ Blk.new wo _ _
        have huW : Up wo W0 := hW0 ▸ (Up.refl _).alloc _
        rw [← hW0]
        clear hW0
        go_loopw [8, 30] (fun sv kv wi => ∃ k : Nat, k ≤ i ∧ kv = .int .i64 k ∧ sv = .int .i64 (lwi l ky k) ∧ Up W0 wi) (fun _ kv _ => i - (intOf kv).toNat)
        case atStart => exact ⟨0, by omega, rfl, rfl, Up.refl _⟩
        case round =>
          obtain ⟨k, hk, rfl, rfl, hui⟩ := hrel
          have huI := (hu.trans huW).trans hui
          by_cases hlk : k < i
          · have LS : Hid (lwi l ky (k + 1) = if wrk ky (l.getD k h0) then (k : Int) else lwi l ky k) := rfl
            obtain ⟨_, ⟨hbi, d0⟩, ⟨_, d1⟩, ⟨_, d2⟩⟩ := hopR_grows _ _ _ _ _ (H4.out k (by omega)) huI
            have KD2 := HV.out.kind k (by omega)
            obtain ⟨z, hz⟩ : ∃ z, z = lwi l ky k := ⟨_, rfl⟩
            rw [← hz] at LS ⊢
            have HZ := Lib.hid hz
            clear hz
            generalize l.getD k h0 = y at *
            obtain ⟨ty, kdy, kyy⟩ := y
            dsimp only at *
            have ⟨g0, g1⟩ := (hB7.up hui).at (i := 2) rfl
            have hszi := huI.size
            by_cases hky : (kyy.toList == ky.toList) = true
            · rcases KD2 with rfl | rfl
              · have L2 : Hid (lwi l ky (k + 1) = z) := by unfold Hid; rw [LS.out, if_neg (by simp [wrk])]
                go_wp2
                go_roundw
                case rel => exact ⟨k + 1, by omega, by go_num, by rw [L2.out], hui.alloc _⟩
                case measure => simp [intOf]; omega
              · have L2 : Hid (lwi l ky (k + 1) = (k : Int)) := by unfold Hid; rw [LS.out, if_pos (by simp only [wrk, hky]; rfl)]
                go_wp2
                go_roundw
                case rel => exact ⟨k + 1, by omega, by go_num, by rw [L2.out], hui.alloc _⟩
                case measure => simp [intOf]; omega
            · have hky' : (kyy.toList == ky.toList) = false := by simpa using hky
              have L2 : Hid (lwi l ky (k + 1) = z) := by unfold Hid; rw [LS.out, if_neg (by simp only [wrk, hky']; simp)]
              rcases KD2 with rfl | rfl
              all_goals
                go_wp2
                go_roundw
                case rel => exact ⟨k + 1, by omega, by go_num, by rw [L2.out], hui.alloc _⟩
                case measure => simp [intOf]; omega
          · obtain rfl : k = i := by omega
            have hown2 := own_up (own_up hown huW) hui
            obtain ⟨z, hz⟩ : ∃ z, z = lwi l ky k := ⟨_, rfl⟩
            rw [← hz] at SR2 ⊢
            clear hz
            go_wp2_with (at_builtin; refine wpList_append_own _ rfl _ _ 22 rfl w.heap.size 3 i0 (.int .i64 0) 1 8 Try.underlying22 hi hz0 hz1 hz2 rfl (by decide) _ _ _ rfl (hown2.alloc _) ⟨wr.heap.size, 0, none⟩ 1 1 [.int .i64 z] rfl rfl ?e1 ?e2 ?e3 ?e4 ?e5 ?_)
            first | (case e1 => exact cell_one_new2 _ _ _) | skip
            case e2 => first | rfl | (intro u hu; simp at hu; subst hu; rfl)
            case e3 => unfold maxLen; omega
            case e4 => omega
            case e5 => have := huI.size; simp; omega
            intro v' w2 hown' hgrow _
            have hu2 : Up w w2 := Below.grown (huI.alloc _) hgrow (by have := huI.size; simp; omega) (fun j hj => (own_ty (hown2.alloc (.cells #[.int .i64 z] 3)) j hj).2)
            clear hgrow hown hown2
            go_wp2
            go_roundw
            case rel => exact ⟨k + 1, by omega, by go_num, by rw [SS.out, SR2.out]; simpa [srcs_len] using hown', hu2⟩
            case measure => simp [intOf]; omega
      · have SR2 : Hid (src l i = -1) := by unfold Hid; rw [SR.out, if_neg (by decide)]
        have hown2 := own_up hown ((Up.refl wr).alloc (.cells #[.int .i64 (tx : Int), .int .i64 2, .string ky] 42))
        have hu2 := hu.alloc (.cells #[.int .i64 (tx : Int), .int .i64 2, .string ky] 42)
        go_wp2_with (at_builtin; refine wpList_append_own _ rfl _ _ 22 rfl w.heap.size 3 i0 (.int .i64 0) 1 8 Try.underlying22 hi hz0 hz1 hz2 rfl (by decide) _ _ _ rfl (hown2.alloc _) ⟨wr.heap.size + 1, 0, none⟩ 1 1 [.int .i64 (-1)] rfl rfl ?f1 ?f2 ?f3 ?f4 ?f5 ?_)
        first | (case f1 => exact cell_one_new' _ _ _ _) | skip
        case f2 => first | rfl | (intro u hu; simp at hu; subst hu; rfl)
        case f3 => unfold maxLen; omega
        case f4 => omega
        case f5 => simp; omega
        intro v' w2 hown' hgrow _
        have hu3 : Up w w2 := Below.grown (hu2.alloc _) hgrow (by simp; omega) (fun j hj => (own_ty (hown2.alloc (.cells #[.int .i64 (-1)] 3)) j hj).2)
        clear hgrow hown hown2
        go_wp2
        go_roundw
        case rel => exact ⟨i + 1, by omega, by go_num, by rw [SS.out, SR2.out]; simpa [srcs_len] using hown', hu3⟩
        case measure => simp [intOf]; omega
    · obtain rfl : i = l.length := by omega
      go_wp2
      go_ret2
      exact ⟨_, rfl, hown, hu⟩
end Go.Proofs.Ytfpegnlmpicekaa.C
