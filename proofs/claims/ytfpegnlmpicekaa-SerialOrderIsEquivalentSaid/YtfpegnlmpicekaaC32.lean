/- EqualFunc; readsOf. -/
import Derived.Test.YtfpegnlmpicekaaC30
import Derived.Deep.AppendLies
import Derived.Deep.RegionLaw
import Derived.Laws.OwnMore
namespace Go.Proofs.Ytfpegnlmpicekaa.C
open Go Go.RowKit Hp
set_option linter.unusedVariables false

/-- A slice of numbers that lies in a row. -/
def SlR (w : World) (b o : Nat) (l : List Int) : Prop := ∃ v, At w b o v ∧ Ints w v l
theorem slR_grows : Grows SlR := fun _ _ _ _ _ ⟨v, h1, h2⟩ hu => ⟨v, h1.grow hu, h2.grow intR_grows hu⟩
theorem c31_any (v v' : Value) (l : List Int) (w : World) (h : Ints w v l) (h' : Ints w v' l) :
    Calls Try.prog 31 #[v, v'] w fun e w' => e = .returned (.bool true) ∧ Up w w' := by
  have H := Lib.hid h
  have H' := Lib.hid h'
  go_enter Try.func31, Try.ntmps31
  go_wp2_with (go_at_call 32; refine (equalI_any _ _ l l _ H.out H'.out).mono ?_; rintro e w1 ⟨rfl, hu1⟩; rw [decide_eq_true rfl])
  go_ret
  exact ⟨rfl, by assumption⟩

theorem eqf_any (v v' : Value) (ls : List (List Int)) (w : World) (h : Arr SlR 1 w v ls) (h' : Arr SlR 1 w v' ls) :
    Calls Try.prog 30 #[v, v', .func (.func 31) #[] #[]] w fun e w' => e = .returned (.bool true) ∧ Up w w' := by
  obtain ⟨a, cap, rfl, h1, h2, _, h3⟩ := h
  obtain ⟨a', cap', rfl, h1', h2', _, h3'⟩ := h'
  have H3 := Lib.hid h3
  have H3' := Lib.hid h3'
  have hne : ((ls.length : Int) != (ls.length : Int)) = false := by simp
  have hne2 : (ls.length != ls.length) = false := by simp
  clear h3 h3'
  go_enter Try.func30, Try.ntmps30
  go_wp2
  go_loopw [17] (fun iv wr => ∃ k : Nat, k ≤ ls.length ∧ iv = .int .i64 k ∧ Up w wr) (fun iv _ => ls.length - (intOf iv).toNat)
  case atStart => exact ⟨0, by omega, rfl, Up.refl _⟩
  case round =>
    obtain ⟨k, hk, rfl, hu⟩ := hrel
    by_cases hlt : k < ls.length
    · obtain ⟨b, off, rfl, hr⟩ := H3.out k hlt
      obtain ⟨b', off', rfl, hr'⟩ := H3'.out k hlt
      obtain ⟨x, ⟨hb1, hc⟩, hx⟩ := slR_grows _ _ _ _ _ hr hu
      obtain ⟨x', ⟨hb1', hc'⟩, hx'⟩ := slR_grows _ _ _ _ _ hr' hu
      rw [Nat.mul_one] at hc hc'
      have X := Lib.hid hx
      have X' := Lib.hid hx'
      obtain ⟨ax, cx, rfl, _⟩ := hx
      obtain ⟨ax', cx', rfl, _⟩ := hx'
      clear hr hr'
      go_wp2_with (go_at_call 31; refine (c31_any _ _ _ _ X.out X'.out).mono ?_; rintro e w2 ⟨rfl, hu2⟩)
      go_roundw
      case rel => exact ⟨k + 1, by omega, by go_num, hu.trans (by assumption)⟩
      case measure => simp [intOf]; omega
    · go_wp2
      go_ret
      exact ⟨rfl, hu⟩

/-! ### readsOf -/
theorem Try.info22 : (Try.prog.info? 22).map (fun i => (i.zero, i.size, i.bytes)) = some (some (.slice none 0 0), 1, 24) := by kernel_rfl
theorem made5 : madeCells #[.slice none 0 0] 5 = #[.slice none 0 0, .slice none 0 0, .slice none 0 0, .slice none 0 0, .slice none 0 0] := by
  apply Array.ext'
  rw [toList_madeCells_one]; rfl
structure Rows5 (w wr : World) (base g : Nat) (vs : List Value) (rd : Nat → List Int) : Prop where
  len : vs.length = 5
  blk : Blk wr g vs 22
  own : ∀ t, t < 5 → wr.ownsRow base 3 1 (vs.getD t (.int .i64 0)) (rd t).length (ic (rd t))
  apart : ∀ s t, s < 5 → t < 5 → s ≠ t → ∀ k, (vs.getD s (.int .i64 0)).ownBlock = some k → (vs.getD t (.int .i64 0)).ownBlock ≠ some k
  up : Up w wr

theorem rds_len : ∀ (l pre : List Hop) (t : Int), (rds pre l t).length ≤ l.length
  | [], _, _ => Nat.le_refl _
  | x :: l, pre, t => by
    have := rds_len l (pre ++ [x]) t
    rw [rds, List.length_append]
    split <;> simp <;> omega
theorem Rows5.step {w1 wr wa w2 : World} {base g : Nat} {vs : List Value} {rd rd' : Nat → List Int} (R : Rows5 w1 wr base g vs rd) {tx : Nat} (h5 : tx < 5) (ha : Up wr wa) {ax : Option Addr} {n cx g2 m c2 : Nat}
    (hv : vs.getD tx (.int .i64 0) = .slice ax n cx) (hg : wa.grownBy w2 (Value.slice ax n cx).ownBlock) (hown : w2.ownsRow base 3 1 (.slice (some ⟨g2, 0, none⟩) m c2) (rd' tx).length (ic (rd' tx)))
    (hat : (Value.slice ax n cx).ownBlock = some g2 ∨ g2 = wa.heap.size) (hrd : ∀ t, t ≠ tx → rd' t = rd t) (hb : w1.heap.size ≤ base) (hgg : w1.heap.size ≤ g) :
    Rows5 w1 (w2.setCell ⟨g, tx, none⟩ (.slice (some ⟨g2, 0, none⟩) m c2)) base g (vs.set tx (.slice (some ⟨g2, 0, none⟩) m c2)) rd' := by
  have hox := own_up (R.own tx h5) ha
  rw [hv] at hox
  have hty := fun j hj => own_ty hox j hj
  have hE := (ha.toE 3).trans (UpE.of_grown hg (fun j hj => (hty j hj).1))
  have hblk := blk_upE R.blk (by decide) hE
  have hE2 := upE_setCell w2 g tx none (.slice (some ⟨g2, 0, none⟩) m c2) (blk_ty hblk)
  have hu2 : Up w1 w2 := Below.grown (R.up.trans ha) hg (R.up.trans ha).size (fun j hj => Nat.le_trans hb (hty j hj).2)
  have hget : ∀ t, t ≠ tx → (vs.set tx (.slice (some ⟨g2, 0, none⟩) m c2)).getD t (.int .i64 0) = vs.getD t (.int .i64 0) := fun t ht => by
    simp only [List.getD]; rw [List.getElem?_set_ne (by omega)]
  have hgx : (vs.set tx (.slice (some ⟨g2, 0, none⟩) m c2)).getD tx (.int .i64 0) = .slice (some ⟨g2, 0, none⟩) m c2 := by
    simp [List.getD, R.len, h5]
  refine ⟨by simp [R.len], hblk.set _ _, fun t ht => ?_, fun s t hs ht hst k hk => ?_, hu2.set hgg _ _ _⟩
  · refine own_upE ?_ (by decide) hE2
    by_cases e : t = tx
    · subst e; rw [hgx]; exact hown
    · rw [hget t e, hrd t e]
      exact own_grown (own_up (R.own t ht) ha) hg (fun j hj => by
        have := R.apart tx t h5 ht (fun h => e h.symm) j (by rw [hv]; exact hj)
        exact this)
  · by_cases e : s = tx
    · subst e
      rw [hgx] at hk
      rw [hget t (fun h => hst h.symm)]
      simp only [Value.ownBlock, Option.some.injEq] at hk
      subst hk
      rcases hat with h | h
      · exact R.apart s t hs ht hst _ (by rw [hv]; exact h)
      · intro hc
        have := (own_ty (R.own t ht) _ hc).1.lt
        have := ha.size
        omega
    · rw [hget s e] at hk
      by_cases e2 : t = tx
      · subst e2
        rw [hgx]
        simp only [Value.ownBlock, ne_eq, Option.some.injEq]
        rintro rfl
        rcases hat with h | h
        · exact R.apart s t hs ht hst _ hk (by rw [hv]; exact h)
        · have := (own_ty (R.own s hs) _ hk).1.lt
          have := ha.size
          omega
      · rw [hget t e2]; exact R.apart s t hs ht hst k hk

set_option maxRecDepth 100000 in
set_option maxHeartbeats 4000000 in
theorem readsof_any (vt : Value) (l : List Hop) (w : World) (ht : Hops w vt l) (hok : ∀ x ∈ l, HOk x) (hl60 : l.length ≤ 60) :
    Calls Try.prog 28 #[vt] w fun e w' => ∃ v, e = .returned (.tuple #[v, .bool true]) ∧ Arr SlR 1 w' v ((List.range 5).map fun (t : Nat) => rds [] l (t : Int)) ∧ Up w w' := by
  obtain ⟨i1, hj, hj0, hj1, hj2⟩ := info_parts Try.info22
  have hmk : ∀ w : World, (Instr.makeSlice 57 (.int .i64 5) (.int .i64 5)).run Try.prog w = .ok (.slice (some ⟨w.heap.size, 0, none⟩) 5 5) (w.alloc (.cells (madeCells #[.slice none 0 0] 5) 22)) := fun w => by
    have h := run_make (P := Try.prog) w 57 22 i1 (.slice none 0 0) Try.underlying57 hj hj0 .i64 .i64 5 5 (by omega) (Int.le_refl _) (by rw [hj2]; omega) (by omega)
    rw [hj1] at h
    exact h
  obtain ⟨i0, hi, hz0, hz1, hz2⟩ := info_parts Try.info3
  clear hj hj0 hj1 hj2
  have HT := Lib.hid ht
  have OK := Lib.hid hok
  have HV := Lib.hid (hok_valid hok hl60)
  have SLN := Lib.hid (srcs_len l l.length)
  obtain ⟨a, cap, rfl, h1, h2, _, h3⟩ := ht
  have H3 := Lib.hid h3
  clear h3 hok
  go_enter Try.func28, Try.ntmps28
  go_wp2_with fail
  refine (readsfrom_any _ l _ HT.out HV.out).mono ?_
  rintro e w1 ⟨v1, rfl, hown1, hu1⟩
  obtain ⟨a1, c1, rfl⟩ := own_len hown1
  have HI := Lib.hid (ints_own hown1)
  rw [SLN.out]
  have hne : ((l.length : Int) != (l.length : Int)) = false := by simp
  have hne2 : (l.length != l.length) = false := by simp
  clear hown1
  go_wp2
  have hb0 := Blk.new w1 (madeCells #[.slice none 0 0] 5) 22
  rw [made5] at hb0 ⊢
  have hgd : ∀ t, t < 5 → [Value.slice none 0 0, .slice none 0 0, .slice none 0 0, .slice none 0 0, .slice none 0 0].getD t (.int .i64 0) = .slice none 0 0 := fun t ht => by
    rcases (show t = 0 ∨ t = 1 ∨ t = 2 ∨ t = 3 ∨ t = 4 by omega) with rfl | rfl | rfl | rfl | rfl <;> rfl
  go_loopw [28] (fun iv wr => ∃ (k : Nat) (vs : List Value), k ≤ l.length ∧ iv = .int .i64 k ∧ Rows5 w1 wr w1.heap.size w1.heap.size vs (fun t => rds [] (l.take k) (t : Int))) (fun iv _ => l.length - (intOf iv).toNat)
  case atStart =>
    refine ⟨0, _, by omega, rfl, ⟨rfl, hb0, fun t ht => ?_, fun s t hs ht _ j hj => ?_, (Up.refl _).alloc _⟩⟩
    · rw [hgd t ht]; exact World.ownsRow_nil _ _ _ _
    · rw [hgd s hs] at hj; cases hj
  case round =>
    clear hb0 hgd
    obtain ⟨k, vs, hk, rfl, hR⟩ := hrel
    have RR := Lib.hid hR
    have hu := hu1.trans hR.up
    have hlb := hR.blk.lt
    clear hR
    by_cases hlt : k < l.length
    · obtain ⟨b, off, rfl, h4⟩ := arr_at (n := 0) (cap := 0) h0 H3.out (by omega)
      have H4 := Lib.hid h4
      clear h4
      obtain ⟨_, ⟨hbs, c0⟩, ⟨_, c1'⟩, ⟨_, c2⟩⟩ := hopR_grows _ _ _ _ _ (H4.out k (by omega)) hu
      have TK : Hid (l.take (k + 1) = l.take k ++ [l.getD k h0]) := by unfold Hid; rw [List.take_succ_eq_append_getElem hlt, ← hgetD l hlt]
      have HK := OK.out (l.getD k h0) (by rw [hgetD l hlt]; exact List.getElem_mem _)
      have SRC : Hid (src l k = if (l.getD k h0).kind = 1 then lwi l (l.getD k h0).key k else -1) := rfl
      have LW := Lib.hid (lwi_lastw l (l.getD k h0).key k (by omega))
      have RV : Hid (rval (l.take k) (l.getD k h0) = if (l.getD k h0).kind = 1 then lastw (l.take k) (l.getD k h0).key else -1) := rfl
      have hbd := lwi_bd l (l.getD k h0).key k
      obtain ⟨aI, cI, he, hI1, hI2, _, hI3⟩ := HI.out
      simp only [Value.slice.injEq] at he
      obtain ⟨rfl, hI0, rfl⟩ := he
      obtain ⟨bI, offI, rfl, hI4⟩ := arr_at (n := 0) (cap := 0) (0 : Int) hI3 (by rw [SLN.out]; omega)
      obtain ⟨hbI, cI'⟩ := intR_grows _ _ _ _ _ (hI4 k (by rw [SLN.out]; omega)) RR.out.up
      rw [Nat.mul_one, show (srcs l l.length).getD k 0 = src l k by simp [srcs, List.getD, hlt]] at cI'
      clear hI0 hI3 hI4 hI1 hI2
      obtain ⟨s, hs⟩ : ∃ s, s = src l k := ⟨_, rfl⟩
      rw [← hs] at cI' SRC
      clear hs
      have FV : Hid ((s = -1 ∧ rval (l.take k) (l.getD k h0) = -1) ∨ ∃ sn : Nat, s = (sn : Int) ∧ sn < k ∧ rval (l.take k) (l.getD k h0) = ((l.getD sn h0).tx : Int)) := by
        unfold Hid
        rw [RV.out, SRC.out]
        by_cases hkd : (l.getD k h0).kind = 1
        · rw [if_pos hkd, if_pos hkd, ← LW.out]
          by_cases hp : 0 ≤ lwi l (l.getD k h0).key k
          · rw [if_pos hp]
            exact .inr ⟨(lwi l (l.getD k h0).key k).toNat, by omega, by omega, rfl⟩
          · rw [if_neg hp]; exact .inl ⟨by omega, rfl⟩
        · rw [if_neg hkd, if_neg hkd]; exact .inl ⟨rfl, rfl⟩
      have RS : Hid (∀ t : Int, rds [] (l.take (k + 1)) t = rds [] (l.take k) t ++ if ((l.getD k h0).tx : Int) = t then [rval (l.take k) (l.getD k h0)] else []) := fun t => by
        rw [TK.out, rds_append]; simp [rds]
      clear hbd LW RV SRC TK
      obtain ⟨f, hf⟩ : ∃ f, f = rval (l.take k) (l.getD k h0) := ⟨_, rfl⟩
      rw [← hf] at FV RS
      clear hf
      generalize l.getD k h0 = x at *
      obtain ⟨tx, kd, ky⟩ := x
      obtain ⟨h5, _, _⟩ := HK
      dsimp only at *
      obtain ⟨vx, hvx⟩ : ∃ vx, vx = vs.getD tx (.int .i64 0) := ⟨_, rfl⟩
      have hownx := RR.out.own tx h5
      rw [← hvx] at hownx
      have VX := Lib.hid hvx
      clear hvx
      obtain ⟨ax, cx, rfl⟩ := own_len hownx
      have gx : wr.cell? ⟨w1.heap.size, tx, none⟩ = some (.slice ax (rds [] (l.take k) (tx : Int)).length cx) := by
        rw [RR.out.blk.cell, VX.out]; simp [List.getD, RR.out.len, h5]
      have fx := RR.out.blk.free tx
      rcases FV.out with ⟨hs, hf⟩ | ⟨sn, hs, hsk, hf⟩
      · subst hs; subst hf
        have UA : Hid (Up wr ((wr.alloc (.cells #[.int .i64 (tx : Int), .int .i64 kd, .string ky] 42)).alloc (.cells #[.int .i64 (-1)] 3)).drew) := (((Up.refl _).alloc _).alloc _).drew
        have OWN := Lib.hid (own_up hownx UA.out)
        have NEWS : Hid (∀ j u, [Value.int .i64 (-1)][j]? = some u → ((wr.alloc (.cells #[.int .i64 (tx : Int), .int .i64 kd, .string ky] 42)).alloc (.cells #[.int .i64 (-1)] 3)).drew.cell? ((⟨wr.heap.size + 1, 0, none⟩ : Addr).add j) = some u) := cell_one_new' _ _ _ _
        have ONE : Hid (∀ u ∈ [Value.int .i64 (-1)], u.oneCell' = true) := fun u hu => by rw [List.mem_singleton.1 hu]; rfl
        have hrl := rds_len (l.take k) [] (tx : Int)
        rw [List.length_take_of_le (by omega)] at hrl
        have hsz := hu.size
        have BB : Hid (w1.heap.size ≤ ((wr.alloc (.cells #[.int .i64 (tx : Int), .int .i64 kd, .string ky] 42)).alloc (.cells #[.int .i64 (-1)] 3)).drew.heap.size) := Nat.le_trans RR.out.up.size UA.out.size
        have TYX := Lib.hid (fun j hj => own_ty OWN.out j hj)
        have BLK2 : Hid (∀ w2, ((wr.alloc (.cells #[.int .i64 (tx : Int), .int .i64 kd, .string ky] 42)).alloc (.cells #[.int .i64 (-1)] 3)).drew.grownBy w2 (Value.slice ax (rds [] (l.take k) (tx : Int)).length cx).ownBlock → Blk w2 w1.heap.size vs 22) := fun w2 hg => blk_upE RR.out.blk (by decide) ((UA.out.toE 3).trans (UpE.of_grown hg (fun j hj => (TYX.out j hj).1)))
        have C8 : Hid (∀ w2, ((wr.alloc (.cells #[.int .i64 (tx : Int), .int .i64 kd, .string ky] 42)).alloc (.cells #[.int .i64 (-1)] 3)).drew.grownBy w2 (Value.slice ax (rds [] (l.take k) (tx : Int)).length cx).ownBlock → w2.cell? ⟨wr.heap.size, 0, none⟩ = some (.int .i64 (tx : Int))) := fun w2 hg => (hg.cell_far ⟨wr.heap.size, 0, none⟩ (by simp; omega) (fun e => by have := (own_ty hownx _ e.symm).1.lt; exact Nat.lt_irrefl _ this)).trans (((Blk.new wr #[.int .i64 (tx : Int), .int .i64 kd, .string ky] 42).up (((Up.refl _).alloc _).drew)).cell 0)
        have CELL : Hid (vs[tx]? = some (.slice ax (rds [] (l.take k) (tx : Int)).length cx)) := by unfold Hid; rw [VX.out]; simp [List.getD, RR.out.len, h5]
        go_wp2
        go_region_law (refine step_append_lies _ rfl (.tmp 65) (.tmp 67) 22 rfl w1.heap.size 3 i0 (.int .i64 0) 1 8 Try.underlying22 hi hz0 hz1 hz2 rfl (by decide) (.slice ax (rds [] (l.take k) (tx : Int)).length cx) _ _ (by simp [Act.eval]) OWN.out ⟨wr.heap.size + 1, 0, none⟩ 1 1 [.int .i64 (-1)] (by simp [Act.eval]) rfl NEWS.out ONE.out (by decide) (by unfold maxLen; omega) (by omega) BB.out _ rfl ?_; intro g2 c2 w2 hown2 hgrow2 hat2 hlt2; have q1 := ((BLK2.out w2 hgrow2).cell tx).trans CELL.out; have q2 := (BLK2.out w2 hgrow2).free tx; have q3 := C8.out w2 hgrow2; have hown2 := Lib.hid hown2; have hgrow2 := Lib.hid hgrow2; have hat2 := Lib.hid hat2)
        all_goals
          go_wp2
          go_roundw
          case rel =>
            refine ⟨k + 1, _, by omega, by go_num, RR.out.step h5 UA.out VX.out.symm hgrow2.out ?_ hat2.out (fun t ht => ?_) (Nat.le_refl _) (Nat.le_refl _)⟩
            · rw [RS.out, if_pos rfl]; simpa using hown2.out
            · rw [RS.out, if_neg (by omega)]; simp
          case measure => simp [intOf]; omega
      · subst hs; subst hf
        obtain ⟨_, ⟨hbs2, e0⟩, _⟩ := hopR_grows _ _ _ _ _ (H4.out sn (by omega)) hu
        have hsl : sn < l.length := by omega
        obtain ⟨f, hf⟩ : ∃ f, f = (l.getD sn h0).tx := ⟨_, rfl⟩
        rw [← hf] at e0 RS
        clear hf
        have UA : Hid (Up wr ((wr.alloc (.cells #[.int .i64 (tx : Int), .int .i64 kd, .string ky] 42)).alloc (.cells #[.int .i64 (f : Int)] 3)).drew) := (((Up.refl _).alloc _).alloc _).drew
        have OWN := Lib.hid (own_up hownx UA.out)
        have NEWS : Hid (∀ j u, [Value.int .i64 (f : Int)][j]? = some u → ((wr.alloc (.cells #[.int .i64 (tx : Int), .int .i64 kd, .string ky] 42)).alloc (.cells #[.int .i64 (f : Int)] 3)).drew.cell? ((⟨wr.heap.size + 1, 0, none⟩ : Addr).add j) = some u) := cell_one_new' _ _ _ _
        have ONE : Hid (∀ u ∈ [Value.int .i64 (f : Int)], u.oneCell' = true) := fun u hu => by rw [List.mem_singleton.1 hu]; rfl
        have hrl := rds_len (l.take k) [] (tx : Int)
        rw [List.length_take_of_le (by omega)] at hrl
        have hsz := hu.size
        have BB : Hid (w1.heap.size ≤ ((wr.alloc (.cells #[.int .i64 (tx : Int), .int .i64 kd, .string ky] 42)).alloc (.cells #[.int .i64 (f : Int)] 3)).drew.heap.size) := Nat.le_trans RR.out.up.size UA.out.size
        have TYX := Lib.hid (fun j hj => own_ty OWN.out j hj)
        have BLK2 : Hid (∀ w2, ((wr.alloc (.cells #[.int .i64 (tx : Int), .int .i64 kd, .string ky] 42)).alloc (.cells #[.int .i64 (f : Int)] 3)).drew.grownBy w2 (Value.slice ax (rds [] (l.take k) (tx : Int)).length cx).ownBlock → Blk w2 w1.heap.size vs 22) := fun w2 hg => blk_upE RR.out.blk (by decide) ((UA.out.toE 3).trans (UpE.of_grown hg (fun j hj => (TYX.out j hj).1)))
        have C8 : Hid (∀ w2, ((wr.alloc (.cells #[.int .i64 (tx : Int), .int .i64 kd, .string ky] 42)).alloc (.cells #[.int .i64 (f : Int)] 3)).drew.grownBy w2 (Value.slice ax (rds [] (l.take k) (tx : Int)).length cx).ownBlock → w2.cell? ⟨wr.heap.size, 0, none⟩ = some (.int .i64 (tx : Int))) := fun w2 hg => (hg.cell_far ⟨wr.heap.size, 0, none⟩ (by simp; omega) (fun e => by have := (own_ty hownx _ e.symm).1.lt; exact Nat.lt_irrefl _ this)).trans (((Blk.new wr #[.int .i64 (tx : Int), .int .i64 kd, .string ky] 42).up (((Up.refl _).alloc _).drew)).cell 0)
        have CELL : Hid (vs[tx]? = some (.slice ax (rds [] (l.take k) (tx : Int)).length cx)) := by unfold Hid; rw [VX.out]; simp [List.getD, RR.out.len, h5]
        go_wp2
        go_region_law (refine step_append_lies _ rfl (.tmp 65) (.tmp 67) 22 rfl w1.heap.size 3 i0 (.int .i64 0) 1 8 Try.underlying22 hi hz0 hz1 hz2 rfl (by decide) (.slice ax (rds [] (l.take k) (tx : Int)).length cx) _ _ (by simp [Act.eval]) OWN.out ⟨wr.heap.size + 1, 0, none⟩ 1 1 [.int .i64 (f : Int)] (by simp [Act.eval]) rfl NEWS.out ONE.out (by decide) (by unfold maxLen; omega) (by omega) BB.out _ rfl ?_; intro g2 c2 w2 hown2 hgrow2 hat2 hlt2; have q1 := ((BLK2.out w2 hgrow2).cell tx).trans CELL.out; have q2 := (BLK2.out w2 hgrow2).free tx; have q3 := C8.out w2 hgrow2; have hown2 := Lib.hid hown2; have hgrow2 := Lib.hid hgrow2; have hat2 := Lib.hid hat2)
        all_goals
          go_wp2
          go_roundw
          case rel =>
            refine ⟨k + 1, _, by omega, by go_num, RR.out.step h5 UA.out VX.out.symm hgrow2.out ?_ hat2.out (fun t ht => ?_) (Nat.le_refl _) (Nat.le_refl _)⟩
            · rw [RS.out, if_pos rfl]; simpa using hown2.out
            · rw [RS.out, if_neg (by omega)]; simp
          case measure => simp [intOf]; omega
    · obtain rfl : k = l.length := by omega
      have TK : Hid (l.take l.length = l) := by simp [Hid]
      go_wp2
      go_ret2
      refine ⟨_, rfl, ⟨_, 5, rfl, by simp, by omega, (fun h => by cases h), fun i hi => ⟨w1.heap.size, 0, rfl, ?_⟩⟩, hu⟩
      have hi5 : i < 5 := by simpa using hi
      refine ⟨vs.getD i (.int .i64 0), RR.out.blk.at (by simp [List.getD, RR.out.len, hi5]), ?_⟩
      have := ints_own (RR.out.own i hi5)
      rw [TK.out] at this
      simpa using this
end Go.Proofs.Ytfpegnlmpicekaa.C
