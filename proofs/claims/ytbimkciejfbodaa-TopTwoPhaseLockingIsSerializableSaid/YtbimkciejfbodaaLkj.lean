/- Locks: slices.DeleteFunc at locks. -/
import Derived.Test.YtbimkciejfbodaaLkh
namespace Go.Proofs.Ytbimkciejfbodaa.Lk
open Go Go.RowKit Hp
set_option linter.unusedVariables false

def oldC (t : Int) (x : Lk) : Bool := decide (x.tx = t)
theorem Try.zeroL : ∀ W, (zeroValue 33).run Try.prog W = .ok (.agg #[.int .i64 0, .string ByteArray.empty, .string ByteArray.empty, .int .i64 0]) W := fun W => by
  obtain ⟨i0, hi0, hz0, hz1, hz2⟩ := info_parts Try.infoL
  simp [zeroValue, typeInfo, hi0, hz0, Sem.run_bind, Result.andThen]
theorem lkC_set (cs : List Lk) (i : Nat) (hi : i < cs.length) (x : Lk) : ((((lkC cs).set (i * 4) (.int .i64 x.tx)).set (i * 4 + 1) (.string x.tab)).set (i * 4 + 2) (.string x.key)).set (i * 4 + 3) (.int .i64 x.mode) = lkC (cs.set i x) := by
  have e0 : (lkC cs).set (i * 4) (.int .i64 x.tx) = lkC (cs.set i ⟨x.tx, cs[i].tab, cs[i].key, cs[i].mode⟩) := fm_set (f := lkC1) (k := 4) (fun _ => rfl) cs i 0 hi (by omega) _ _ rfl
  have e1 : (lkC (cs.set i ⟨x.tx, cs[i].tab, cs[i].key, cs[i].mode⟩)).set (i * 4 + 1) (.string x.tab) = lkC ((cs.set i ⟨x.tx, cs[i].tab, cs[i].key, cs[i].mode⟩).set i ⟨x.tx, x.tab, cs[i].key, cs[i].mode⟩) := fm_set (f := lkC1) (k := 4) (fun _ => rfl) _ i 1 (by simpa using hi) (by omega) _ _ (by simp [lkC1])
  rw [List.set_set] at e1
  have e2 : (lkC (cs.set i ⟨x.tx, x.tab, cs[i].key, cs[i].mode⟩)).set (i * 4 + 2) (.string x.key) = lkC ((cs.set i ⟨x.tx, x.tab, cs[i].key, cs[i].mode⟩).set i ⟨x.tx, x.tab, x.key, cs[i].mode⟩) := fm_set (f := lkC1) (k := 4) (fun _ => rfl) _ i 2 (by simpa using hi) (by omega) _ _ (by simp [lkC1])
  rw [List.set_set] at e2
  have e3 : (lkC (cs.set i ⟨x.tx, x.tab, x.key, cs[i].mode⟩)).set (i * 4 + 3) (.int .i64 x.mode) = lkC ((cs.set i ⟨x.tx, x.tab, x.key, cs[i].mode⟩).set i x) := fm_set (f := lkC1) (k := 4) (fun _ => rfl) _ i 3 (by simpa using hi) (by omega) _ _ (by simp [lkC1])
  rw [List.set_set] at e3
  rw [e0, e1, e2, e3]
theorem lkC_take (cs : List Lk) (i : Nat) : (lkC cs).take (i * 4) = lkC (cs.take i) := fm_take (f := lkC1) (k := 4) (fun _ => rfl) cs i
theorem clr_own {W : World} {B g n cap i : Nat} {X : List Lk} (h : W.ownsRow B 33 4 (.slice (some ⟨g, 0, none⟩) n cap) n (lkC X)) (hX : X.length = n) (hi : i < n) :
    ∃ W', (∀ ty cc, (Builtin.clear_ #[52] ty #[.slice (some ⟨g, i * 4, none⟩) (n - i) cc]).run Try.prog W = .ok (.tuple #[]) W') ∧ W'.ownsRow B 33 4 (.slice (some ⟨g, 0, none⟩) i cap) i (lkC (X.take i)) ∧ W.grownBy W' (some g) := by
  obtain ⟨hx, h⟩ := h
  rcases h with ⟨h0, _⟩ | ⟨g', cap', cur, hv, hb, hg, hn, hc, hs, ht⟩
  · cases h0
  · simp only [Value.slice.injEq, Option.some.injEq, Addr.mk.injEq, and_true, true_and] at hv
    obtain ⟨rfl, rfl⟩ := hv
    have hlen : (lkC X).length = n * 4 := by rw [lkC_len, hX]
    refine ⟨_, fun ty cc => run_clear_k (P := Try.prog) W 52 33 ty (.agg #[.int .i64 0, .string ByteArray.empty, .string ByteArray.empty, .int .i64 0]) 4 g (i * 4) (n - i) cc cur 33 Try.underlying52 Try.zeroL rfl (by omega) hg (by rw [hs]; omega) (zeroCells_one _ _ (by intro u hu; simp [Value.cells] at hu; rcases hu with rfl | rfl | rfl | rfl <;> rfl)), ?_, ?_⟩
    · have B2 := setRow_at W g cur (cur.toList.take (i * 4) ++ (Builtin.zeroCells (.agg #[.int .i64 0, .string ByteArray.empty, .string ByteArray.empty, .int .i64 0] : Value).cells (n - i)).toList ++ cur.toList.drop (i * 4 + (n - i) * 4)).toArray 33 hg
      have hl2 : (cur.toList.take (i * 4)).length = i * 4 := by rw [List.length_take, Array.length_toList, hs]; show min _ _ = _; omega
      refine ⟨by rw [lkC_len, List.length_take, hX]; show min _ _ * 4 = _; rw [show min i n = i by omega], .inr ⟨g, cap, _, rfl, hb, B2, by omega, hc, ?_, ?_⟩⟩
      · simp only [List.size_toArray, List.length_append, hl2, List.length_drop, Array.length_toList, hs, zeroCells_size]
        rw [show (.agg #[.int .i64 0, .string ByteArray.empty, .string ByteArray.empty, .int .i64 0] : Value).cells.size = 4 from rfl]
        omega
      · simp only [List.append_assoc]
        rw [List.take_append_of_le_length (by omega), List.take_take, Nat.min_self, ← lkC_take, ← ht, List.take_take]
        congr 1
        show i * 4 = min _ _
        omega
    · exact setRow_grown _ _ _ _ ⟨rfl, rfl, rfl, Nat.le_refl _, fun _ _ _ => rfl⟩ (.inl rfl)
/-- What DeleteFunc keeps. -/
def keepC (e : Int) (cs : List Lk) : List Lk := cs.filter fun c => !oldC e c
theorem keep_take (e : Int) (cs : List Lk) (j : Nat) (h : j < cs.length) : keepC e (cs.take (j + 1)) = keepC e (cs.take j) ++ if oldC e cs[j] then [] else [cs[j]] := by
  unfold keepC
  rw [List.take_succ_eq_append_getElem h, List.filter_append]
  congr 1
  cases hpk : oldC e cs[j] <;> simp [hpk]
theorem keep_all {e : Int} {cs : List Lk} (h : ∀ j (h : j < cs.length), oldC e cs[j] = false) : keepC e cs = cs := by
  unfold keepC
  rw [List.filter_eq_self]
  intro r hr
  obtain ⟨j, hj, rfl⟩ := List.getElem_of_mem hr
  simp [h j hj]
def DelPost (B : Nat) (e : Int) (v : Value) (cs : List Lk) (w : World) (x : Ending) (w' : World) : Prop := ∃ v', x = .returned v' ∧ w'.ownsRow B 33 4 v' (keepC e cs).length (lkC (keepC e cs)) ∧ Chg (fun j => v.ownBlock = some j) w w' ∧ ∀ k, v'.ownBlock = some k → v.ownBlock = some k
/-- The loop's state: the first i are kept, from j on the row is as it was. -/
structure DelS (w wr : World) (tb : Nat) (B : Nat) (e : Int) (v : Value) (cs X : List Lk) (i j : Nat) : Prop where
  ij : i < j
  jn : j ≤ cs.length
  xn : X.length = cs.length
  tk : X.take i = keepC e (cs.take j)
  dr : X.drop j = cs.drop j
  ow : wr.ownsRow B 33 4 v cs.length (lkC X)
  ch : Chg (fun k => v.ownBlock = some k) w wr
  tt : At wr tb 0 (.int .i64 e)
set_option maxRecDepth 100000 in
set_option maxHeartbeats 4000000 in
theorem delf_any (tb : Nat) (e0 : Int) (B : Nat) (v : Value) (cs : List Lk) (w : World) (ht : At w tb 0 (.int .i64 e0)) (hfar : v.ownBlock ≠ some tb) (hown : w.ownsRow B 33 4 v cs.length (lkC cs)) (hl : cs.length ≤ 100000) :
    Calls Try.prog 30 #[v, .func (.func 29) #[] #[.pointer (some ⟨tb, 0, none⟩)]] w (DelPost B e0 v cs w) := by
  have HIX := Lib.hid (ix_R tb (oldC e0) v cs w (cl_R w tb e0 ht) (own_src hown) hl)
  have HO := Lib.hid hown
  have HP := Lib.hid ht
  have HFAR := Lib.hid hfar
  rcases Decidable.em (∀ j (h : j < cs.length), oldC e0 cs[j] = false) with hn | hn
  · rw [idx_miss (p := oldC e0) hn] at HIX
    have HK := Lib.hid (keep_all hn)
    obtain ⟨a, cap, rfl, _, _, _⟩ := own_form hown
    clear hown ht hn hfar
    go_enter Try.func30, Try.ntmps30
    go_wp2_with (first
      | (go_at_call 26; refine HIX.out.mono ?_; rintro e w2 ⟨rfl, h2⟩; have H2 := Lib.hid h2; clear h2)
      | fail)
    go_ret
    exact ⟨_, rfl, by rw [HK.out]; exact own_up HO.out H2.out, Below.chg _ H2.out, fun k hk => hk⟩
  · have hany : ∃ i0 : Nat, idx (oldC e0) cs = (i0 : Int) ∧ ∃ h : i0 < cs.length, oldC e0 cs[i0] = true ∧ ∀ j (hj : j < cs.length), j < i0 → oldC e0 cs[j] = false := by
      cases hf : cs.findIdx? (oldC e0) with
      | none =>
        rw [List.findIdx?_eq_none_iff] at hf
        exact absurd (fun j hj => by simpa using hf _ (List.getElem_mem hj)) hn
      | some i =>
        have hf2 := hf
        rw [List.findIdx?_eq_some_iff_getElem] at hf
        obtain ⟨h1, h2, h3⟩ := hf
        exact ⟨i, by unfold idx; rw [hf2], h1, h2, fun j hj hji => by simpa using h3 j hji⟩
    obtain ⟨i0, hi0, hil, hpi, hbf⟩ := hany
    rw [hi0] at HIX
    obtain ⟨g, cap, rfl, hc1, hc2, hgl, _, _⟩ := own_some hown (by omega)
    have S0 : Hid (∀ w2, Up w w2 → DelS w w2 tb B e0 (.slice (some ⟨g, 0, none⟩) cs.length cap) cs cs i0 (i0 + 1)) := fun w2 h2 => ⟨Nat.lt_succ_self _, hil, rfl, by
        rw [keep_take e0 cs i0 hil, hpi, if_pos rfl, List.append_nil, keep_all (fun j hj => ?_)]
        rw [List.getElem_take]
        exact hbf j _ (by rw [List.length_take] at hj; omega), rfl, own_up HO.out h2, Below.chg _ h2, HP.out.grow h2⟩
    have hw1 : IntKind.i64.wrap ((i0 : Int) + 1) = (i0 : Int) + 1 := IntWalk.i64_in _ (by omega)
    have hm1 : ¬ (i0 : Int) = -1 := by omega
    have hm2 : ((i0 : Int) == -1) = false := beq_eq_false_iff_ne.2 hm1
    clear hown ht hn hbf hi0 hpi hfar
    go_enter Try.func30, Try.ntmps30
    go_wp2_with (first
      | (go_at_call 26; refine HIX.out.mono ?_; rintro e w2 ⟨rfl, h2⟩; have S1 := Lib.hid (S0.out w2 h2); clear h2)
      | fail)
    clear hw1 hm1 hm2
    go_loopw [5, 6] (fun iv jv wr => ∃ i j : Nat, ∃ X, iv = .int .i64 i ∧ jv = .int .i64 j ∧ Hid (DelS w wr tb B e0 (.slice (some ⟨g, 0, none⟩) cs.length cap) cs X i j)) (fun _ jv _ => cs.length - (intOf jv).toNat)
    case atStart => exact ⟨i0, i0 + 1, cs, rfl, by go_num, S1.out⟩
    case round =>
      obtain ⟨i, j, X, rfl, rfl, HS⟩ := hrel
      have hij := HS.out.ij
      have hjn := HS.out.jn
      have hxn := HS.out.xn
      by_cases hlt : j < cs.length
      · have hjX : j < X.length := by omega
        have hel : X[j] = cs[j] := by
          have := HS.out.dr
          rw [List.drop_eq_getElem_cons hjX, List.drop_eq_getElem_cons hlt] at this
          exact (List.cons.inj this).1
        have OC : Hid (∀ W, Up wr W → ∀ q, q < cs.length → (∃ a b c d, W.cell? ⟨g, q * 4, none⟩ = some a ∧ W.cell? ⟨g, q * 4 + 1, none⟩ = some b ∧ W.cell? ⟨g, q * 4 + 2, none⟩ = some c ∧ W.cell? ⟨g, q * 4 + 3, none⟩ = some d) ∧ W.frozen? ⟨g, q * 4, none⟩ = false ∧ W.frozen? ⟨g, q * 4 + 1, none⟩ = false ∧ W.frozen? ⟨g, q * 4 + 2, none⟩ = false ∧ W.frozen? ⟨g, q * 4 + 3, none⟩ = false) := fun W hu q hq => by
          obtain ⟨g', c', e, _, _, _, hcl, hz⟩ := own_some (own_up HS.out.ow hu) (by omega)
          simp only [Value.slice.injEq, Option.some.injEq, Addr.mk.injEq, and_true, true_and] at e
          obtain ⟨rfl, _⟩ := e
          obtain ⟨g0, g1, g2, g3⟩ := lkC_get X q (by omega)
          exact ⟨⟨_, _, _, _, hcl _ _ g0, hcl _ _ g1, hcl _ _ g2, hcl _ _ g3⟩, hz _, hz _, hz _, hz _⟩
        obtain ⟨g', c', e, _, _, hgl', hcl, _⟩ := own_some HS.out.ow (by omega)
        simp only [Value.slice.injEq, Option.some.injEq, Addr.mk.injEq, and_true, true_and] at e
        obtain ⟨rfl, rfl⟩ := e
        obtain ⟨g0, g1, g2, g3⟩ := lkC_get X j hjX
        rw [hel] at g0 g1 g2 g3
        have e0' := hcl _ _ g0
        have e1 := hcl _ _ g1
        have e2 := hcl _ _ g2
        have e3 := hcl _ _ g3
        have HONE := Lib.hid (fun W h => cl_R wr tb e0 HS.out.tt W h cs[j])
        have bj : (j : Int) < (cs.length : Int) := by omega
        have bi : (i : Int) < (cs.length : Int) := by omega
        have KT := keep_take e0 cs j hlt
        have HXS := Lib.hid (lkC_set X i (by omega) cs[j])
        change Hid (∀ W, Up wr W → Calls Try.prog 29 #[.agg #[.int .i64 cs[j].tx, .string cs[j].tab, .string cs[j].key, .int .i64 cs[j].mode], .pointer (some ⟨tb, 0, none⟩)] W fun e w' => e = .returned (.bool (oldC e0 cs[j])) ∧ Up W w') at HONE
        cases hd : oldC e0 cs[j] with
        | true =>
          rw [hd] at HONE KT
          rw [if_pos rfl, List.append_nil] at KT
          have KT := Lib.hid KT
          generalize cs[j].tx = ct at *
          generalize cs[j].tab = x at *
          generalize cs[j].key = y at *
          generalize cs[j].mode = z at *
          clear hcl g0 g1 g2 g3 hd hel HXS
          go_wp2_with (first
            | (go_at_call 29; refine (HONE.out _ ((Up.refl _).alloc _)).mono ?_; rintro e w2 ⟨rfl, h2⟩; have U2 := Lib.hid (((Up.refl wr).alloc _).trans h2); clear h2)
            | fail)
          go_roundw
          case rel => exact ⟨i, j + 1, X, rfl, by go_num, ⟨by omega, by omega, hxn, by rw [KT.out]; exact HS.out.tk, by have := HS.out.dr; rw [← List.drop_drop, ← List.drop_drop, this], own_up HS.out.ow U2.out, (HS.out.ch.trans (Below.chg (fun _ => False) U2.out) fun _ _ e => e.elim), HS.out.tt.grow U2.out⟩⟩
          case measure => simp [intOf]; omega
        | false =>
          rw [hd] at HONE KT
          rw [if_neg (by decide)] at KT
          have KT := Lib.hid KT
          generalize hct : cs[j].tx = ct at *
          generalize htb : cs[j].tab = x at *
          generalize hky : cs[j].key = y at *
          generalize hmo : cs[j].mode = z at *
          clear hcl g0 g1 g2 g3 hd hel
          have N0 := Lib.hid (At.new wr #[.int .i64 ct, .string x, .string y, .int .i64 z] 33 0 (.int .i64 ct) rfl)
          have N1 := Lib.hid (At.new wr #[.int .i64 ct, .string x, .string y, .int .i64 z] 33 1 (.string x) rfl)
          have N2 := Lib.hid (At.new wr #[.int .i64 ct, .string x, .string y, .int .i64 z] 33 2 (.string y) rfl)
          have N3 := Lib.hid (At.new wr #[.int .i64 ct, .string x, .string y, .int .i64 z] 33 3 (.int .i64 z) rfl)
          go_wp2_with (first
            | (go_at_call 29; refine (HONE.out _ ((Up.refl _).alloc _)).mono ?_; rintro e w2 ⟨rfl, h2⟩; have U2 := Lib.hid (((Up.refl wr).alloc _).trans h2); have n0 := (N0.out.grow h2).2; have n1 := (N1.out.grow h2).2; have n2 := (N2.out.grow h2).2; have n3 := (N3.out.grow h2).2; obtain ⟨⟨ya, yb, yc, yd, y0, y1, y2, y3⟩, f0, f1, f2, f3⟩ := OC.out w2 U2.out i (by omega); have gl2 : g < w2.heap.size := Nat.lt_of_lt_of_le hgl' U2.out.size; clear h2)
            | fail)
          go_roundw
          case rel =>
            refine ⟨i + 1, j + 1, X.set i cs[j], by go_num, by go_num, ⟨by omega, by omega, by rw [List.length_set]; exact hxn, ?_, ?_, ?_, ?_, ?_⟩⟩
            · rw [KT.out, ← HS.out.tk, List.take_succ_eq_append_getElem (by rw [List.length_set]; omega), List.take_set_of_le (Nat.le_refl _), List.getElem_set_self]
            · rw [List.drop_set_of_lt (by omega), ← List.drop_drop, HS.out.dr, List.drop_drop]
            · have O2 := own_up HS.out.ow U2.out
              have hlx := lkC_len X
              have O3 := own_set (own_set (own_set (own_set O2 (i * 4) (by omega) (.int .i64 ct)) (i * 4 + 1) (by rw [List.length_set]; omega) (.string x)) (i * 4 + 2) (by rw [List.length_set, List.length_set]; omega) (.string y)) (i * 4 + 3) (by rw [List.length_set, List.length_set, List.length_set]; omega) (.int .i64 z)
              rw [HXS.out] at O3
              exact O3
            · exact (((((HS.out.ch.trans (S' := fun _ => False) (Below.chg _ U2.out) fun _ _ e => e.elim).set (b := g) (.inl rfl) _ _ _).set (b := g) (.inl rfl) _ _ _).set (b := g) (.inl rfl) _ _ _).set (b := g) (.inl rfl) _ _ _)
            · have C : Chg (fun k => k = g) w2 ((((w2.setCell ⟨g, i * 4, none⟩ (.int .i64 ct)).setCell ⟨g, i * 4 + 1, none⟩ (.string x)).setCell ⟨g, i * 4 + 2, none⟩ (.string y)).setCell ⟨g, i * 4 + 3, none⟩ (.int .i64 z)) := (((chg_set w2 g (i * 4) none _).set (.inl rfl) _ _ _).set (.inl rfl) _ _ _).set (.inl rfl) _ _ _
              exact (HS.out.tt.grow U2.out).chg C (fun e => HFAR.out (by rw [e]; rfl))
          case measure => simp [intOf]; omega
      · obtain rfl : j = cs.length := by omega
        obtain ⟨W', hcl, hown', hgr⟩ := clr_own HS.out.ow hxn hij
        have htk := HS.out.tk
        rw [List.take_of_length_le (Nat.le_refl _)] at htk
        rw [htk] at hown'
        have hkl : (keepC e0 cs).length = i := by rw [← htk, List.length_take]; show min _ _ = _; omega
        have HKL := Lib.hid hkl
        have HOW := Lib.hid hown'
        have HGR := Lib.hid hgr
        have b1 : (i : Int) ≤ (cs.length : Int) := by omega
        have b2 : (i : Int) ≤ (cap : Int) := by omega
        clear hown' hgr htk hkl
        go_wp2_with (first
          | (with_reducible refine wl_clear_run _ rfl (.tmp 38) 52 rfl _ rfl (hcl _ _) ?_)
          | fail)
        go_ret
        refine ⟨_, rfl, by rw [HKL.out]; exact HOW.out, (HS.out.ch.trans (S' := fun k => k = g) ((Chg.refl _ wr).grown HGR.out fun k hk => .inl (by cases hk; rfl)) fun _ _ e => by rw [e]; rfl), fun k hk => hk⟩
end Go.Proofs.Ytbimkciejfbodaa.Lk
