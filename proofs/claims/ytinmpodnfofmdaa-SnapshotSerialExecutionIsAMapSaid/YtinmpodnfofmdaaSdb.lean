/- slices.DeleteFunc at records. -/
import Derived.Test.YtinmpodnfofmdaaSda
namespace Go.Proofs.Ytinmpodnfofmdaa.Sn
open Go Go.RowKit Hp
open Mv (Val PC PV rowC rowC_one fm_len fm_take fm_drop fm_get fm_set fm_one RowIn StR Srt SOk pos has fx_lt fx_up ty_chg has_pos pos_le RM rmC rmC1 rmC_len rmC_get erR RecsR)
set_option linter.unusedVariables false

theorem rmC_set (rs : List RM) (i : Nat) (hi : i < rs.length) (x : RM) : ((rmC rs).set (i * 2) (.string x.key)).set (i * 2 + 1) x.rv = rmC (rs.set i x) := by
  have e0 : (rmC rs).set (i * 2) (.string x.key) = rmC (rs.set i ⟨x.key, rs[i].rv, x.row⟩) := fm_set (f := rmC1) (k := 2) (fun _ => rfl) rs i 0 hi (by omega) _ _ rfl
  have hi1 : i < (rs.set i ⟨x.key, rs[i].rv, x.row⟩).length := by simpa using hi
  have e1 : (rmC (rs.set i ⟨x.key, rs[i].rv, x.row⟩)).set (i * 2 + 1) x.rv = rmC ((rs.set i ⟨x.key, rs[i].rv, x.row⟩).set i x) := fm_set (f := rmC1) (k := 2) (fun _ => rfl) _ i 1 hi1 (by omega) _ _ (by simp [rmC1])
  rw [e0, e1]
  simp
theorem rmC_take (rs : List RM) (i : Nat) : (rmC rs).take (i * 2) = rmC (rs.take i) := fm_take (f := rmC1) (k := 2) (fun _ => rfl) rs i
theorem clr_own {W : World} {B g n cap i : Nat} {X : List RM} (h : W.ownsRow B 45 2 (.slice (some ⟨g, 0, none⟩) n cap) n (rmC X)) (hX : X.length = n) (hi : i < n) :
    ∃ W', (∀ ty cc, (Builtin.clear_ #[41] ty #[.slice (some ⟨g, i * 2, none⟩) (n - i) cc]).run Try.prog W = .ok (.tuple #[]) W') ∧ W'.ownsRow B 45 2 (.slice (some ⟨g, 0, none⟩) i cap) i (rmC (X.take i)) ∧ W.grownBy W' (some g) := by
  obtain ⟨hx, h⟩ := h
  rcases h with ⟨h0, _⟩ | ⟨g', cap', cur, hv, hb, hg, hn, hc, hs, ht⟩
  · cases h0
  · simp only [Value.slice.injEq, Option.some.injEq, Addr.mk.injEq, and_true, true_and] at hv
    obtain ⟨rfl, rfl⟩ := hv
    have hlen : (rmC X).length = n * 2 := by rw [rmC_len, hX]
    refine ⟨_, fun ty cc => run_clear_k (P := Try.prog) W 41 45 ty (.agg #[.string ByteArray.empty, .slice none 0 0]) 2 g (i * 2) (n - i) cc cur 45 Try.underlying41 Try.zeroValue45 rfl (by omega) hg (by rw [hs]; omega) (zeroCells_one _ _ (by intro u hu; simp [Value.cells] at hu; rcases hu with rfl | rfl <;> rfl)), ?_, ?_⟩
    · have B2 := setRow_at W g cur (cur.toList.take (i * 2) ++ (Builtin.zeroCells (.agg #[.string ByteArray.empty, .slice none 0 0] : Value).cells (n - i)).toList ++ cur.toList.drop (i * 2 + (n - i) * 2)).toArray 45 hg
      have hl2 : (cur.toList.take (i * 2)).length = i * 2 := by rw [List.length_take, Array.length_toList, hs]; show min _ _ = _; omega
      refine ⟨by rw [rmC_len, List.length_take, hX]; show min _ _ * 2 = _; rw [show min i n = i by omega], .inr ⟨g, cap, _, rfl, hb, B2, by omega, hc, ?_, ?_⟩⟩
      · simp only [List.size_toArray, List.length_append, hl2, List.length_drop, Array.length_toList, hs, zeroCells_size]
        rw [show (.agg #[.string ByteArray.empty, .slice none 0 0] : Value).cells.size = 2 from rfl]
        omega
      · simp only [List.append_assoc]
        rw [List.take_append_of_le_length (by omega), List.take_take, Nat.min_self, ← rmC_take, ← ht, List.take_take]
        congr 1
        show i * 2 = min _ _
        omega
    · exact setRow_grown _ _ _ _ ⟨rfl, rfl, rfl, Nat.le_refl _, fun _ _ _ => rfl⟩ (.inl rfl)
/-- What DeleteFunc keeps. -/
def keepR (p : ByteArray → Bool) (rs : List RM) : List RM := rs.filter fun r => !p r.key
theorem keep_take (p : ByteArray → Bool) (rs : List RM) (j : Nat) (h : j < rs.length) : keepR p (rs.take (j + 1)) = keepR p (rs.take j) ++ if p rs[j].key then [] else [rs[j]] := by
  unfold keepR
  rw [List.take_succ_eq_append_getElem h, List.filter_append]
  congr 1
  cases hpk : p rs[j].key <;> simp [hpk]
theorem keep_all {p : ByteArray → Bool} {rs : List RM} (h : ∀ j (h : j < rs.length), p rs[j].key = false) : keepR p rs = rs := by
  unfold keepR
  rw [List.filter_eq_self]
  intro r hr
  obtain ⟨j, hj, rfl⟩ := List.getElem_of_mem hr
  simp [h j hj]
def DelPost (B : Nat) (p : ByteArray → Bool) (v : Value) (rs : List RM) (w : World) (e : Ending) (w' : World) : Prop := ∃ v', e = .returned v' ∧ w'.ownsRow B 45 2 v' (keepR p rs).length (rmC (keepR p rs)) ∧ Chg (fun j => v.ownBlock = some j) w w' ∧ ∀ k, v'.ownBlock = some k → v.ownBlock = some k
/-- The loop's state: the first i are kept, from j on the row is as it was. -/
structure DelS (w0 w wr : World) (B : Nat) (p : ByteArray → Bool) (v : Value) (rs X : List RM) (i j : Nat) : Prop where
  ij : i < j
  jn : j ≤ rs.length
  xn : X.length = rs.length
  tk : X.take i = keepR p (rs.take j)
  dr : X.drop j = rs.drop j
  ow : wr.ownsRow B 45 2 v rs.length (rmC X)
  ch : Chg (fun k => v.ownBlock = some k) w wr
  up : Up w0 wr
set_option maxRecDepth 100000 in
set_option maxHeartbeats 4000000 in
theorem delf_any (w0 : World) (tb : Nat) (p : ByteArray → Bool) (hp : TellsBy w0 tb p) (B : Nat) (v : Value) (rs : List RM) (w : World) (hu0 : Up w0 w) (hB : w0.heap.size ≤ B) (hown : w.ownsRow B 45 2 v rs.length (rmC rs)) (hw : RvS rs) (hl : rs.length ≤ 1000) :
    Calls Try.prog 60 #[v, .func (.func 61) #[] #[.pointer (some ⟨tb, 0, none⟩)]] w (DelPost B p v rs w) := by
  have HIX := Lib.hid (ixr_any w0 tb p hp B v rs w hu0 hown hw hl)
  have HO := Lib.hid hown
  have HWV := Lib.hid hw
  have HP := Lib.hid hp
  rcases Decidable.em (∀ j (h : j < rs.length), p rs[j].key = false) with hn | hn
  · rw [idx_miss (p := fun r : RM => p r.key) hn] at HIX
    have HK := Lib.hid (keep_all hn)
    obtain ⟨a, cap, rfl, _, _, _⟩ := own_form hown
    clear hown hw hp hn
    go_enter Try.func60, Try.ntmps60
    go_wp2_with (first
      | (go_at_call 79; refine HIX.out.mono ?_; rintro e w2 ⟨rfl, h2⟩; have H2 := Lib.hid h2; clear h2)
      | fail)
    go_ret
    exact ⟨_, rfl, by rw [HK.out]; exact own_up HO.out H2.out, Below.chg _ H2.out, fun k hk => hk⟩
  · have hany : ∃ i0 : Nat, idx (fun r : RM => p r.key) rs = (i0 : Int) ∧ ∃ h : i0 < rs.length, p rs[i0].key = true ∧ ∀ j (hj : j < rs.length), j < i0 → p rs[j].key = false := by
      cases hf : rs.findIdx? (fun r : RM => p r.key) with
      | none =>
        rw [List.findIdx?_eq_none_iff] at hf
        exact absurd (fun j hj => by simpa using hf _ (List.getElem_mem hj)) hn
      | some i =>
        have hf2 := hf
        rw [List.findIdx?_eq_some_iff_getElem] at hf
        obtain ⟨h1, h2, h3⟩ := hf
        exact ⟨i, by unfold idx; rw [hf2], h1, h2, fun j hj hji => by simpa using h3 j hji⟩
    obtain ⟨i0, hi0, hil, hpi, hbf⟩ := hany
    rw [hi0] at HIX
    obtain ⟨g, cap, rfl, hc1, hc2, hgl, _, _⟩ := own_some hown (by omega)
    have S0 : Hid (∀ w2, Up w w2 → DelS w0 w w2 B p (.slice (some ⟨g, 0, none⟩) rs.length cap) rs rs i0 (i0 + 1)) := fun w2 h2 => ⟨Nat.lt_succ_self _, hil, rfl, by
        rw [keep_take p rs i0 hil, hpi, if_pos rfl, List.append_nil, keep_all (fun j hj => ?_)]
        rw [List.getElem_take]
        exact hbf j _ (by rw [List.length_take] at hj; omega), rfl, own_up HO.out h2, Below.chg _ h2, hu0.trans h2⟩
    have hw1 : IntKind.i64.wrap ((i0 : Int) + 1) = (i0 : Int) + 1 := IntWalk.i64_in _ (by omega)
    have hm1 : ¬ (i0 : Int) = -1 := by omega
    have hm2 : ((i0 : Int) == -1) = false := beq_eq_false_iff_ne.2 hm1
    clear hown hw hp hn hbf hi0 hpi
    go_enter Try.func60, Try.ntmps60
    go_wp2_with (first
      | (go_at_call 79; refine HIX.out.mono ?_; rintro e w2 ⟨rfl, h2⟩; have S1 := Lib.hid (S0.out w2 h2); clear h2)
      | fail)
    clear hw1 hm1 hm2
    go_loopw [5, 6] (fun iv jv wr => ∃ i j : Nat, ∃ X, iv = .int .i64 i ∧ jv = .int .i64 j ∧ Hid (DelS w0 w wr B p (.slice (some ⟨g, 0, none⟩) rs.length cap) rs X i j)) (fun _ jv _ => rs.length - (intOf jv).toNat)
    case atStart => exact ⟨i0, i0 + 1, rs, rfl, by go_num, S1.out⟩
    case round =>
      obtain ⟨i, j, X, rfl, rfl, HS⟩ := hrel
      have hij := HS.out.ij
      have hjn := HS.out.jn
      have hxn := HS.out.xn
      by_cases hlt : j < rs.length
      · have hjX : j < X.length := by omega
        have hel : X[j] = rs[j] := by
          have := HS.out.dr
          rw [List.drop_eq_getElem_cons hjX, List.drop_eq_getElem_cons hlt] at this
          exact (List.cons.inj this).1
        have OC : Hid (∀ W, Up wr W → ∀ q, q < rs.length → (∃ a b, W.cell? ⟨g, q * 2, none⟩ = some a ∧ W.cell? ⟨g, q * 2 + 1, none⟩ = some b) ∧ W.frozen? ⟨g, q * 2, none⟩ = false ∧ W.frozen? ⟨g, q * 2 + 1, none⟩ = false) := fun W hu q hq => by
          obtain ⟨g', c', e, _, _, _, hcl, hz⟩ := own_some (own_up HS.out.ow hu) (by omega)
          simp only [Value.slice.injEq, Option.some.injEq, Addr.mk.injEq, and_true, true_and] at e
          obtain ⟨rfl, _⟩ := e
          obtain ⟨g0, g1⟩ := rmC_get X q (by omega)
          exact ⟨⟨_, _, hcl _ _ g0, hcl _ _ g1⟩, hz _, hz _⟩
        obtain ⟨g', c', e, _, _, hgl', hcl, _⟩ := own_some HS.out.ow (by omega)
        simp only [Value.slice.injEq, Option.some.injEq, Addr.mk.injEq, and_true, true_and] at e
        obtain ⟨rfl, rfl⟩ := e
        obtain ⟨g0, g1⟩ := rmC_get X j hjX
        rw [hel] at g0 g1
        obtain ⟨wa, wn, wc, hwv⟩ := HWV.out _ (List.getElem_mem hlt)
        rw [hwv] at g1
        have e0 := hcl _ _ g0
        have e1 := hcl _ _ g1
        have HONE : Hid (∀ W, Up wr W → Calls Try.prog 61 #[.agg #[.string rs[j].key, .slice wa wn wc], .pointer (some ⟨tb, 0, none⟩)] W fun e w' => e = .returned (.bool (p rs[j].key)) ∧ Up W w') := fun W h => HP.out W (HS.out.up.trans h) _ _ _ _
        have bj : (j : Int) < (rs.length : Int) := by omega
        have bi : (i : Int) < (rs.length : Int) := by omega
        have KT := keep_take p rs j hlt
        have HXS := Lib.hid (rmC_set X i (by omega) rs[j])
        rw [hwv] at HXS
        cases hd : p rs[j].key with
        | true =>
          rw [hd] at HONE KT
          rw [if_pos rfl, List.append_nil] at KT
          have KT := Lib.hid KT
          generalize rs[j].key = x at *
          clear hcl g0 g1 hwv hd hel HXS
          go_wp2_with (first
            | (go_at_call 61; refine (HONE.out _ ((Up.refl _).alloc _)).mono ?_; rintro e w2 ⟨rfl, h2⟩; have U2 := Lib.hid (((Up.refl wr).alloc _).trans h2); clear h2)
            | fail)
          go_roundw
          case rel => exact ⟨i, j + 1, X, rfl, by go_num, ⟨by omega, by omega, hxn, by rw [KT.out]; exact HS.out.tk, by have := HS.out.dr; rw [← List.drop_drop, ← List.drop_drop, this], own_up HS.out.ow U2.out, (HS.out.ch.trans (Below.chg (fun _ => False) U2.out) fun _ _ e => e.elim), HS.out.up.trans U2.out⟩⟩
          case measure => simp [intOf]; omega
        | false =>
          rw [hd] at HONE KT
          rw [if_neg (by decide)] at KT
          have KT := Lib.hid KT
          generalize hky : rs[j].key = x at *
          clear hcl g0 g1 hd hel
          have N0 := At.new wr #[.string x, .slice wa wn wc] 45 0 (.string x) rfl
          have N1 := At.new wr #[.string x, .slice wa wn wc] 45 1 (.slice wa wn wc) rfl
          have N0 := Lib.hid N0
          have N1 := Lib.hid N1
          go_wp2_with (first
            | (go_at_call 61; refine (HONE.out _ ((Up.refl _).alloc _)).mono ?_; rintro e w2 ⟨rfl, h2⟩; have U2 := Lib.hid (((Up.refl wr).alloc _).trans h2); have n0 := (N0.out.grow h2).2; have n1 := (N1.out.grow h2).2; obtain ⟨⟨ya, yb, y0, y1⟩, f0, f1⟩ := OC.out w2 U2.out i (by omega); have gl2 : g < w2.heap.size := Nat.lt_of_lt_of_le hgl' U2.out.size; clear h2)
            | fail)
          go_roundw
          case rel =>
            refine ⟨i + 1, j + 1, X.set i rs[j], by go_num, by go_num, ⟨by omega, by omega, by rw [List.length_set]; exact hxn, ?_, ?_, ?_, ?_, ?_⟩⟩
            · rw [KT.out, ← HS.out.tk, List.take_succ_eq_append_getElem (by rw [List.length_set]; omega), List.take_set_of_le (Nat.le_refl _), List.getElem_set_self]
            · rw [List.drop_set_of_lt (by omega), ← List.drop_drop, HS.out.dr, List.drop_drop]
            · have O2 := own_up HS.out.ow U2.out
              have hlx := rmC_len X
              have O3 := own_set (own_set O2 (i * 2) (by omega) (.string x)) (i * 2 + 1) (by rw [List.length_set]; omega) (.slice wa wn wc)
              rw [HXS.out] at O3
              exact O3
            · exact (((HS.out.ch.trans (S' := fun _ => False) (Below.chg _ U2.out) fun _ _ e => e.elim).set (b := g) (.inl rfl) _ _ _).set (b := g) (.inl rfl) _ _ _)
            · have hgB := ((own_ty HO.out) g rfl).2
              exact ((HS.out.up.trans U2.out).set (b := g) (by omega) _ _ _).set (b := g) (by omega) _ _ _
          case measure => simp [intOf]; omega
      · obtain rfl : j = rs.length := by omega
        obtain ⟨W', hcl, hown', hgr⟩ := clr_own HS.out.ow hxn hij
        have htk := HS.out.tk
        rw [List.take_of_length_le (Nat.le_refl _)] at htk
        rw [htk] at hown'
        have hkl : (keepR p rs).length = i := by rw [← htk, List.length_take]; show min _ _ = _; omega
        have HKL := Lib.hid hkl
        have HOW := Lib.hid hown'
        have HGR := Lib.hid hgr
        have b1 : (i : Int) ≤ (rs.length : Int) := by omega
        have b2 : (i : Int) ≤ (cap : Int) := by omega
        clear hown' hgr htk hkl
        go_wp2_with (first
          | (with_reducible refine wl_clear_run _ rfl (.tmp 38) 41 rfl _ rfl (hcl _ _) ?_)
          | fail)
        go_ret
        refine ⟨_, rfl, by rw [HKL.out]; exact HOW.out, (HS.out.ch.trans (S' := fun k => k = g) ((Chg.refl _ wr).grown HGR.out fun k hk => .inl (by cases hk; rfl)) fun _ _ e => by rw [e]; rfl), fun k hk => hk⟩
end Go.Proofs.Ytinmpodnfofmdaa.Sn
