/- The transactions that the laws draw. -/
import Derived.Test.YtfpegnlmpicekaaC5
namespace Go.Proofs.Ytfpegnlmpicekaa.C
open Go Go.RowKit Hp
set_option linter.unusedVariables false

theorem Try.info9 : (Try.prog.info? 9).map (fun i => (i.zero, i.size, i.bytes)) = some (some (.string ByteArray.empty), 1, 16) := by kernel_rfl

theorem cell_one_new' (w : World) (o : Obj) (v : Value) (E : TypeId) : ∀ (j : Nat) u, [v][j]? = some u → ((w.alloc o).alloc (.cells #[v] E)).cell? ((⟨w.heap.size + 1, 0, none⟩ : Addr).add j) = some u := by
  intro j u hj
  match j, hj with
  | 0, hj =>
    simp at hj; subst hj
    rw [show (⟨w.heap.size + 1, 0, none⟩ : Addr).add 0 = ⟨(w.alloc o).heap.size, 0, none⟩ by simp [Addr.add], World.cell?_alloc_new]; rfl

set_option maxRecDepth 100000 in
set_option maxHeartbeats 2000000 in
theorem keys_any (n : Int) (w : World) :
    Calls Try.prog 35 #[.int .i64 n] w fun e w' => ∃ v l, e = .returned v ∧ Strs w' v l ∧ l.length ≤ 4 ∧ Up w w' := by
  obtain ⟨i0, hi, hz0, hz1, hz2⟩ := info_parts Try.info9
  go_enter Try.func35, Try.ntmps35
  go_wp2
  go_loopw [3, 5] (fun v iv wr => ∃ (k : Nat) (l : List ByteArray), k ≤ 4 ∧ iv = .int .i64 k ∧ l.length ≤ k ∧ wr.ownsRow w.heap.size 9 1 v l.length (l.map Value.string) ∧ Up w wr) (fun _ iv _ => 4 - (intOf iv).toNat)
  case atStart => exact ⟨0, [], by omega, rfl, by simp, World.ownsRow_nil _ _ _ _, Up.refl _⟩
  case round =>
    obtain ⟨k, l, hk, rfl, hl, hown, hu⟩ := hrel
    by_cases hlt : k < 4
    · have hcv := conv1 (P := Try.prog) 35 9 5 Try.underlying35 Try.underlying5 Try.underlying9
      rcases (show k = 0 ∨ k = 1 ∨ k = 2 ∨ k = 3 by omega) with rfl | rfl | rfl | rfl
      · rw [show ((0 : Nat) : Int) = 0 from rfl]
        go_wp2_with (at_builtin; refine wpList_append_own _ rfl _ _ 26 rfl w.heap.size 9 i0 (.string ByteArray.empty) 1 16 Try.underlying26 hi hz0 hz1 hz2 rfl (by decide) _ _ _ rfl ((hown.alloc _).alloc _) ⟨wr.heap.size + 1, 0, none⟩ 1 1 [.string (one 119)] rfl rfl ?c1 ?c2 ?c3 ?c4 ?c5 ?_)
        case c1 => exact cell_one_new' _ _ _ _
        case c2 => intro u hu; simp at hu; subst hu; rfl
        case c3 => unfold maxLen; omega
        case c4 => omega
        case c5 => have := hu.size; simp; omega
        · intro v' w1 hown' hgrow _
          go_wp2
          go_roundw
          case rel => exact ⟨1, l ++ [one 119], by omega, rfl, by rw [List.length_append]; simp only [List.length_cons, List.length_nil]; omega, by simpa using hown', Below.grown ((hu.alloc _).alloc _) hgrow (by have := hu.size; simp; omega) (fun j hj => (own_ty hown j hj).2)⟩
          case measure => simp [intOf]
        · go_roundw
          case rel => exact ⟨1, l, by omega, rfl, by omega, hown, hu⟩
          case measure => simp [intOf]
      · rw [show ((1 : Nat) : Int) = 1 from rfl]
        go_wp2_with (at_builtin; refine wpList_append_own _ rfl _ _ 26 rfl w.heap.size 9 i0 (.string ByteArray.empty) 1 16 Try.underlying26 hi hz0 hz1 hz2 rfl (by decide) _ _ _ rfl ((hown.alloc _).alloc _) ⟨wr.heap.size + 1, 0, none⟩ 1 1 [.string (one 120)] rfl rfl ?c1 ?c2 ?c3 ?c4 ?c5 ?_)
        case c1 => exact cell_one_new' _ _ _ _
        case c2 => intro u hu; simp at hu; subst hu; rfl
        case c3 => unfold maxLen; omega
        case c4 => omega
        case c5 => have := hu.size; simp; omega
        · intro v' w1 hown' hgrow _
          go_wp2
          go_roundw
          case rel => exact ⟨2, l ++ [one 120], by omega, rfl, by rw [List.length_append]; simp only [List.length_cons, List.length_nil]; omega, by simpa using hown', Below.grown ((hu.alloc _).alloc _) hgrow (by have := hu.size; simp; omega) (fun j hj => (own_ty hown j hj).2)⟩
          case measure => simp [intOf]
        · go_roundw
          case rel => exact ⟨2, l, by omega, rfl, by omega, hown, hu⟩
          case measure => simp [intOf]
      · rw [show ((2 : Nat) : Int) = 2 from rfl]
        go_wp2_with (at_builtin; refine wpList_append_own _ rfl _ _ 26 rfl w.heap.size 9 i0 (.string ByteArray.empty) 1 16 Try.underlying26 hi hz0 hz1 hz2 rfl (by decide) _ _ _ rfl ((hown.alloc _).alloc _) ⟨wr.heap.size + 1, 0, none⟩ 1 1 [.string (one 121)] rfl rfl ?c1 ?c2 ?c3 ?c4 ?c5 ?_)
        case c1 => exact cell_one_new' _ _ _ _
        case c2 => intro u hu; simp at hu; subst hu; rfl
        case c3 => unfold maxLen; omega
        case c4 => omega
        case c5 => have := hu.size; simp; omega
        · intro v' w1 hown' hgrow _
          go_wp2
          go_roundw
          case rel => exact ⟨3, l ++ [one 121], by omega, rfl, by rw [List.length_append]; simp only [List.length_cons, List.length_nil]; omega, by simpa using hown', Below.grown ((hu.alloc _).alloc _) hgrow (by have := hu.size; simp; omega) (fun j hj => (own_ty hown j hj).2)⟩
          case measure => simp [intOf]
        · go_roundw
          case rel => exact ⟨3, l, by omega, rfl, by omega, hown, hu⟩
          case measure => simp [intOf]
      · rw [show ((3 : Nat) : Int) = 3 from rfl]
        go_wp2_with (at_builtin; refine wpList_append_own _ rfl _ _ 26 rfl w.heap.size 9 i0 (.string ByteArray.empty) 1 16 Try.underlying26 hi hz0 hz1 hz2 rfl (by decide) _ _ _ rfl ((hown.alloc _).alloc _) ⟨wr.heap.size + 1, 0, none⟩ 1 1 [.string (one 122)] rfl rfl ?c1 ?c2 ?c3 ?c4 ?c5 ?_)
        case c1 => exact cell_one_new' _ _ _ _
        case c2 => intro u hu; simp at hu; subst hu; rfl
        case c3 => unfold maxLen; omega
        case c4 => omega
        case c5 => have := hu.size; simp; omega
        · intro v' w1 hown' hgrow _
          go_wp2
          go_roundw
          case rel => exact ⟨4, l ++ [one 122], by omega, rfl, by rw [List.length_append]; simp only [List.length_cons, List.length_nil]; omega, by simpa using hown', Below.grown ((hu.alloc _).alloc _) hgrow (by have := hu.size; simp; omega) (fun j hj => (own_ty hown j hj).2)⟩
          case measure => simp [intOf]
        · go_roundw
          case rel => exact ⟨4, l, by omega, rfl, by omega, hown, hu⟩
          case measure => simp [intOf]
    · obtain rfl : k = 4 := by omega
      rw [show ((4 : Nat) : Int) = 4 from rfl]
      go_wp2
      go_ret
      refine ⟨_, l, rfl, own_arr hown (fun g hg hc i hi => ⟨hg, ?_⟩), hl, hu⟩
      rw [Nat.mul_one]
      exact hc i _ (by simp [hi])

theorem Try.info28 : (Try.prog.info? 28).map (fun i => (i.zero, i.size, i.bytes)) = some (some (.agg #[.int .i64 0, .int .i64 0, .slice none 0 0, .slice none 0 0]), 4, 64) := by kernel_rfl

def EncT (W : World) (xs : List Value) (l : List Tx) : Prop := xs.length = l.length * 4 ∧ ∀ i (h : i < l.length), ∃ rv wv, xs[i * 4]? = some (.int .i64 l[i].start) ∧ xs[i * 4 + 1]? = some (.int .i64 l[i].commit) ∧ xs[i * 4 + 2]? = some rv ∧ xs[i * 4 + 3]? = some wv ∧ Strs W rv l[i].reads ∧ Strs W wv l[i].writes
theorem EncT.upE {W W' : World} {xs : List Value} {l : List Tx} (h : EncT W xs l) (hu : UpE 28 W W') : EncT W' xs l := ⟨h.1, fun i hi => by
  obtain ⟨rv, wv, a, b, c, d, e, f⟩ := h.2 i hi
  exact ⟨rv, wv, a, b, c, d, e.upE (by decide) hu, f.upE (by decide) hu⟩⟩
theorem EncT.snoc {W : World} {xs : List Value} {l : List Tx} (h : EncT W xs l) (t : Tx) {rv wv : Value} (hr : Strs W rv t.reads) (hw : Strs W wv t.writes) : EncT W (xs ++ [.int .i64 t.start, .int .i64 t.commit, rv, wv]) (l ++ [t]) := by
  obtain ⟨h1, h2⟩ := h
  refine ⟨by simp [h1]; omega, fun i hi => ?_⟩
  by_cases hl : i < l.length
  · obtain ⟨rv', wv', a, b, c, d, e, f⟩ := h2 i hl
    refine ⟨rv', wv', ?_, ?_, ?_, ?_, by simpa [List.getElem_append, hl] using e, by simpa [List.getElem_append, hl] using f⟩ <;> rw [List.getElem?_append_left (by omega)] <;> simpa [List.getElem_append, hl] using by assumption
  · simp at hi
    obtain rfl : i = l.length := by omega
    refine ⟨rv, wv, ?_, ?_, ?_, ?_, by simpa using hr, by simpa using hw⟩ <;> rw [List.getElem?_append_right (by omega)] <;> simp [h1]
theorem EncT.txs {W : World} {xs : List Value} {l : List Tx} {base : Nat} {v : Value} (h : EncT W xs l) (ho : W.ownsRow base 28 4 v l.length xs) : Txs W v l :=
  own_arr ho fun g hg hc i hi => by
    obtain ⟨rv, wv, a, b, c, d, e, f⟩ := h.2 i hi
    exact ⟨rv, wv, hc _ _ a, hc _ _ b, hc _ _ c, hc _ _ d, e, f⟩

/-- What the drawn transactions are like. -/
def Drawn (l : List Tx) : Prop := ∀ i (h : i < l.length), l[i].commit = 3 * ((i : Int) + 1) ∧ 0 ≤ l[i].start ∧ l[i].start < l[i].commit ∧ l[i].reads.length ≤ 4 ∧ l[i].writes.length ≤ 4
theorem Drawn.snoc {l : List Tx} (h : Drawn l) {t : Tx} (h1 : t.commit = 3 * ((l.length : Int) + 1)) (h2 : 0 ≤ t.start) (h3 : t.start < t.commit) (h4 : t.reads.length ≤ 4) (h5 : t.writes.length ≤ 4) : Drawn (l ++ [t]) := fun i hi => by
  by_cases hl : i < l.length
  · simpa [List.getElem_append, hl] using h i hl
  · simp at hi
    obtain rfl : i = l.length := by omega
    simp [h1, h2, h4, h5]; omega

theorem cell_four_new (w : World) (a b c d : Value) (E : TypeId) : ∀ (j : Nat) u, [a, b, c, d][j]? = some u → (w.alloc (.cells #[a, b, c, d] E)).cell? ((⟨w.heap.size, 0, none⟩ : Addr).add j) = some u := by
  intro j u hj
  rw [show (⟨w.heap.size, 0, none⟩ : Addr).add j = ⟨w.heap.size, j, none⟩ by unfold Addr.add; split <;> simp_all, World.cell?_alloc_new]
  simpa using hj

def Elems (w : World) (a : Option Addr) (len : Nat) (zs : List Int) : Prop :=
  ∀ i, i < len → ∃ b off, a = some ⟨b, off, none⟩ ∧ b < w.heap.size ∧ w.cell? ⟨b, off + i, none⟩ = some (.int .i64 (zs.getD i 0))

set_option maxRecDepth 100000 in
set_option maxHeartbeats 2000000 in
theorem txs_any (a2 : Option Addr) (len2 cap2 : Nat) (z2 : List Int) (w : World) (hE : Elems w a2 len2 z2) (hl : len2 ≤ cap2) (hm : cap2 ≤ 9223372036854775807) :
    Calls Try.prog 12 #[.slice a2 len2 cap2] w fun e w' => ∃ v l xs, e = .returned v ∧ w'.ownsRow w.heap.size 28 4 v l.length xs ∧ EncT w' xs l ∧ Drawn l ∧ l.length ≤ 20 ∧ Up w w' := by
  obtain ⟨i0, hi, hz0, hz1, hz2⟩ := info_parts Try.info28
  have HE := Lib.hid hE
  clear hE
  obtain ⟨m, hmin, hm1, hm2⟩ := min_len 20 len2
  have hmin' : (if (20 : Int) < (len2 : Int) then (20 : Int) else (len2 : Int)) = (m : Int) := hmin
  clear hmin
  go_enter Try.func12, Try.ntmps12
  go_wp2
  clear hmin'
  go_loopw [3, 14] (fun v iv wr => ∃ (k : Nat) (l : List Tx) (xs : List Value), k ≤ m ∧ iv = .int .i64 k ∧ l.length = k ∧ wr.ownsRow w.heap.size 28 4 v l.length xs ∧ EncT wr xs l ∧ Drawn l ∧ Up w wr) (fun _ iv _ => m - (intOf iv).toNat)
  case atStart => exact ⟨0, [], [], by omega, rfl, rfl, World.ownsRow_nil _ _ _ _, ⟨rfl, fun i hi => by simp at hi⟩, fun i hi => by simp at hi, Up.refl _⟩
  case round =>
    obtain ⟨k, l, xs, hk, rfl, hlk, hown, henc, hdr, hu⟩ := hrel
    by_cases hlt : k < m
    · obtain ⟨b, off, rfl, hbl, hc⟩ := HE.out k (by omega)
      have hc' := (hu.cell (p := ⟨b, off + k, none⟩) hbl).trans hc
      clear hc
      generalize z2.getD k 0 = x at *
      have y0 := modV_nonneg x 16 (by omega)
      have y1 := modV_lt x 16 (by omega)
      have HLK := Lib.hid hlk
      clear hlk
      by_cases hmx : 0 < 3 * ((k : Int) + 1) - 1 - modV x 16
      · go_wp2_with (go_at_call 15; refine (mod_any _ _ _ (by omega) (by omega)).mono ?_; rintro e w' ⟨rfl, rfl⟩)
        refine (keys_any _ _).mono ?_
        rintro e w2 ⟨v1, l1, rfl, s1, n1, u1⟩
        obtain ⟨o1, c1, rfl, _, _⟩ := id s1
        go_wp2_with (go_at_call 15; refine (mod_any _ _ _ (by omega) (by omega)).mono ?_; rintro e w' ⟨rfl, rfl⟩)
        refine (keys_any _ _).mono ?_
        rintro e w3 ⟨v2, l2, rfl, s2, n2, u2⟩
        obtain ⟨o2, c2, rfl, _, _⟩ := id s2
        have hown3 := own_up (own_up hown u1) u2
        have henc3 := (henc.upE (u1.toE 28)).upE (u2.toE 28)
        have s13 := s1.grow strR_grows u2
        have hu3 := Up.trans (Up.trans hu u1) u2
        go_wp2_with (at_builtin; refine wpList_append_own _ rfl _ _ 24 rfl w.heap.size 28 i0 (.agg #[.int .i64 0, .int .i64 0, .slice none 0 0, .slice none 0 0]) 4 64 Try.underlying24 hi hz0 hz1 hz2 rfl (by decide) _ _ _ rfl (hown3.alloc _) ⟨w3.heap.size, 0, none⟩ 1 1 [.int .i64 (3 * ((k : Int) + 1) - 1 - modV x 16), .int .i64 (3 * ((k : Int) + 1)), .slice o1 l1.length c1, .slice o2 l2.length c2] rfl rfl ?c1 ?c2 ?c3 ?c4 ?c5 ?_)
        case c1 => exact cell_four_new _ _ _ _ _ _
        case c2 => intro u hu; simp at hu; rcases hu with rfl | rfl | rfl | rfl <;> rfl
        case c3 => have := HLK.out; unfold maxLen; omega
        case c4 => have := HLK.out; omega
        case c5 => have := hu3.size; simp; omega
        intro v' wl hown' hgrow _
        have hty := fun j hj => own_ty hown3 j hj
        have hul := Below.grown (hu3.alloc (.cells #[.int .i64 (3 * ((k : Int) + 1) - 1 - modV x 16), .int .i64 (3 * ((k : Int) + 1)), .slice o1 l1.length c1, .slice o2 l2.length c2] 28)) hgrow (by have := hu3.size; simp; omega) (fun j hj => (hty j hj).2)
        have hE1 := (Up.alloc (Up.refl w3) (.cells #[.int .i64 (3 * ((k : Int) + 1) - 1 - modV x 16), .int .i64 (3 * ((k : Int) + 1)), .slice o1 l1.length c1, .slice o2 l2.length c2] 28))
        have hE2 := UpE.of_grown hgrow (fun j hj => (hty j hj).1.up hE1)
        have henc4 := ((henc3.upE (hE1.toE 28)).upE hE2).snoc ⟨(3 * ((k : Int) + 1) - 1 - modV x 16), 3 * ((k : Int) + 1), l1, l2⟩ (Strs.upE (s13.grow strR_grows hE1) (by decide) hE2) (Strs.upE (s2.grow strR_grows hE1) (by decide) hE2)
        have hdr4 := hdr.snoc (t := ⟨(3 * ((k : Int) + 1) - 1 - modV x 16), 3 * ((k : Int) + 1), l1, l2⟩) (by have := HLK.out; simp <;> omega) (by simp <;> omega) (by simp <;> omega) n1 n2
        clear hty hE1 hE2 hgrow hown hown3 henc henc3 hdr s1 s2 s13
        go_wp2
        go_roundw
        case rel => exact ⟨k + 1, _, _, by omega, by go_num, by have := HLK.out; simp; omega, by simpa using hown', henc4, hdr4, hul⟩
        case measure => simp [intOf]; omega
      · go_wp2_with (go_at_call 15; refine (mod_any _ _ _ (by omega) (by omega)).mono ?_; rintro e w' ⟨rfl, rfl⟩)
        refine (keys_any _ _).mono ?_
        rintro e w2 ⟨v1, l1, rfl, s1, n1, u1⟩
        obtain ⟨o1, c1, rfl, _, _⟩ := id s1
        go_wp2_with (go_at_call 15; refine (mod_any _ _ _ (by omega) (by omega)).mono ?_; rintro e w' ⟨rfl, rfl⟩)
        refine (keys_any _ _).mono ?_
        rintro e w3 ⟨v2, l2, rfl, s2, n2, u2⟩
        obtain ⟨o2, c2, rfl, _, _⟩ := id s2
        have hown3 := own_up (own_up hown u1) u2
        have henc3 := (henc.upE (u1.toE 28)).upE (u2.toE 28)
        have s13 := s1.grow strR_grows u2
        have hu3 := Up.trans (Up.trans hu u1) u2
        go_wp2_with (at_builtin; refine wpList_append_own _ rfl _ _ 24 rfl w.heap.size 28 i0 (.agg #[.int .i64 0, .int .i64 0, .slice none 0 0, .slice none 0 0]) 4 64 Try.underlying24 hi hz0 hz1 hz2 rfl (by decide) _ _ _ rfl (hown3.alloc _) ⟨w3.heap.size, 0, none⟩ 1 1 [.int .i64 0, .int .i64 (3 * ((k : Int) + 1)), .slice o1 l1.length c1, .slice o2 l2.length c2] rfl rfl ?c1 ?c2 ?c3 ?c4 ?c5 ?_)
        case c1 => exact cell_four_new _ _ _ _ _ _
        case c2 => intro u hu; simp at hu; rcases hu with rfl | rfl | rfl | rfl <;> rfl
        case c3 => have := HLK.out; unfold maxLen; omega
        case c4 => have := HLK.out; omega
        case c5 => have := hu3.size; simp; omega
        intro v' wl hown' hgrow _
        have hty := fun j hj => own_ty hown3 j hj
        have hul := Below.grown (hu3.alloc (.cells #[.int .i64 0, .int .i64 (3 * ((k : Int) + 1)), .slice o1 l1.length c1, .slice o2 l2.length c2] 28)) hgrow (by have := hu3.size; simp; omega) (fun j hj => (hty j hj).2)
        have hE1 := (Up.alloc (Up.refl w3) (.cells #[.int .i64 0, .int .i64 (3 * ((k : Int) + 1)), .slice o1 l1.length c1, .slice o2 l2.length c2] 28))
        have hE2 := UpE.of_grown hgrow (fun j hj => (hty j hj).1.up hE1)
        have henc4 := ((henc3.upE (hE1.toE 28)).upE hE2).snoc ⟨0, 3 * ((k : Int) + 1), l1, l2⟩ (Strs.upE (s13.grow strR_grows hE1) (by decide) hE2) (Strs.upE (s2.grow strR_grows hE1) (by decide) hE2)
        have hdr4 := hdr.snoc (t := ⟨0, 3 * ((k : Int) + 1), l1, l2⟩) (by have := HLK.out; simp <;> omega) (by simp <;> omega) (by simp <;> omega) n1 n2
        clear hty hE1 hE2 hgrow hown hown3 henc henc3 hdr s1 s2 s13
        go_wp2
        go_roundw
        case rel => exact ⟨k + 1, _, _, by omega, by go_num, by have := HLK.out; simp; omega, by simpa using hown', henc4, hdr4, hul⟩
        case measure => simp [intOf]; omega
    · obtain rfl : k = m := by omega
      go_wp2
      go_ret
      exact ⟨_, l, xs, rfl, hown, henc, hdr, by omega, hu⟩
end Go.Proofs.Ytfpegnlmpicekaa.C
