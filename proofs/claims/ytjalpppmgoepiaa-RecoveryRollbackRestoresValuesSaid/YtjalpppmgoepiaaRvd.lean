/- Recovery: slices.Index, Contains, IndexFunc, DeleteFunc at ints; slices.Clone. Printed by gen2/rvd.py. -/
import Derived.Test.YtjalpppmgoepiaaRvc
namespace Go.Proofs.Ytjalpppmgoepiaa.Rv
open Go Go.RowKit Hp
set_option linter.unusedVariables false

theorem src_rn {w : World} {v : Value} {n : Nat} {xs : List Value} {size : Nat} (h : Src w size v n xs) : ∃ a c, v = .slice a n c := by
  rcases h.2 with ⟨rfl, rfl⟩ | ⟨b, off, cap, rfl, _⟩
  · exact ⟨_, _, rfl⟩
  · exact ⟨_, _, rfl⟩
theorem src_at {w : World} {a : Option Addr} {n cap size : Nat} {xs : List Value} (h : Src w size (.slice a n cap) n xs) (hn : 0 < n) : ∃ b off, a = some ⟨b, off, none⟩ ∧ ∀ j u, xs[j]? = some u → At w b (off + j) u := by
  obtain ⟨hx, ⟨h1, rfl⟩ | ⟨b, off, cap', hv, h1, h2, h3⟩⟩ := h
  · omega
  · simp only [Value.slice.injEq, true_and] at hv
    exact ⟨b, off, hv.1, h3⟩
theorem Try.infoI : (Try.prog.info? 3).map (fun i => (i.zero, i.size, i.bytes)) = some (some (.int .i64 0), 1, 8) := by kernel_rfl
theorem Try.infoP : (Try.prog.info? 53).map (fun i => (i.zero, i.size, i.bytes)) = some (some (.agg #[.int .i64 0, .int .i64 0]), 2, 16) := by kernel_rfl
set_option maxRecDepth 100000 in
set_option maxHeartbeats 2000000 in
theorem index_any (v : Value) (l : List Nat) (x : Nat) (w : World) (h : Src w 1 v l.length (naC l)) (hbig : l.length ≤ 1000000) :
    Calls Try.prog 27 #[v, .int .i64 (x : Int)] w fun e w' => e = .returned (.int .i64 (idx (fun y => decide (y = x)) l)) ∧ Up w w' := by
  have HS := Lib.hid h
  obtain ⟨a, cap, rfl⟩ := src_rn h
  clear h
  go_enter Try.func27, Try.ntmps27
  go_wp2
  go_loopw [8] (fun iv wr => ∃ k : Nat, k ≤ l.length ∧ iv = .int .i64 k ∧ Up w wr ∧ Hid (∀ j (h : j < l.length), j < k → decide (l[j] = x) = false)) (fun iv _ => l.length - (intOf iv).toNat)
  case atStart => exact ⟨0, by omega, rfl, Up.refl _, fun j h hj => by omega⟩
  case round =>
    obtain ⟨k, hk, rfl, hu, HN⟩ := hrel
    have HU := Lib.hid hu
    clear hu
    by_cases hlt : k < l.length
    · obtain ⟨b, off, rfl, hc⟩ := src_at HS.out (by omega)
      have d1 := ((hc _ _ (naC_get l k hlt)).grow HU.out).2
      have hlk : (k : Int) < (l.length : Int) := by omega
      have HT : Hid (decide (l[k] = x) = true → idx (fun y => decide (y = x)) l = (k : Int)) := fun he => idx_hit (p := fun y => decide (y = x)) hlt he HN.out
      have HF : Hid (decide (l[k] = x) = false → ∀ j (h : j < l.length), j < k + 1 → decide (l[j] = x) = false) := fun he j h hj => by
        rcases Nat.lt_or_ge j k with h1 | h1
        · exact HN.out j h h1
        · obtain rfl : j = k := by omega
          exact he
      generalize l[k] = n at *
      clear hc
      by_cases h0 : n = x
      · have HE := Lib.hid (HT.out (decide_eq_true h0))
        subst h0
        go_wp2
        go_ret
        exact ⟨by rw [HE.out]; rfl, HU.out⟩
      · have HE := Lib.hid (HF.out (decide_eq_false h0))
        have h1b : ((n : Int) == (x : Int)) = false := beq_eq_false_iff_ne.2 (by omega)
        have h1c : ((x : Int) == (n : Int)) = false := beq_eq_false_iff_ne.2 (by omega)
        go_wp2
        go_roundw
        case rel => exact ⟨k + 1, by omega, by go_num, HU.out, HE.out⟩
        case measure => simp [intOf]; omega
    · obtain rfl : k = l.length := by omega
      have HE : Hid (idx (fun y => decide (y = x)) l = -1) := idx_miss fun j h => HN.out j h h
      go_wp2
      go_ret
      exact ⟨by rw [HE.out]; rfl, HU.out⟩
set_option maxRecDepth 100000 in
set_option maxHeartbeats 1000000 in
theorem contains_any (v : Value) (l : List Nat) (x : Nat) (w : World) (h : Src w 1 v l.length (naC l)) (hbig : l.length ≤ 1000000) :
    Calls Try.prog 24 #[v, .int .i64 (x : Int)] w fun e w' => e = .returned (.bool (decide (x ∈ l))) ∧ Up w w' := by
  have HIX := Lib.hid (index_any v l x w h hbig)
  have HA : Hid (decide (0 ≤ idx (fun y => decide (y = x)) l) = decide (x ∈ l)) := by
    unfold Hid
    rw [idx_any]
    have : (l.any fun y => decide (y = x)) = true ↔ x ∈ l := by simp
    by_cases e : x ∈ l
    · rw [decide_eq_true e]; exact this.2 e
    · rw [decide_eq_false e]
      cases e2 : l.any fun y => decide (y = x) with
      | false => rfl
      | true => exact absurd (this.1 e2) e
  obtain ⟨a, cap, rfl⟩ := src_rn h
  clear h
  go_enter Try.func24, Try.ntmps24
  go_wp2_with (first
    | (go_at_call 27; refine HIX.out.mono ?_; rintro e w2 ⟨rfl, h2⟩; have H2 := Lib.hid h2; clear h2)
    | fail)
  go_ret
  exact ⟨ret_bool (by rw [← HA.out]), H2.out⟩
/-! ### DeleteFunc -/
def oldC (t : Nat) (x : Nat) : Bool := decide (x = t)
theorem cl_any (w : World) (tb : Nat) (t : Nat) (h : At w tb 0 (.int .i64 (t : Int))) (x : Nat) : Calls Try.prog 29 #[.int .i64 (x : Int), .pointer (some ⟨tb, 0, none⟩)] w fun e w' => e = .returned (.bool (oldC t x)) ∧ Up w w' := by
  have c0 := h.2
  have hl := h.1
  clear h
  unfold oldC
  go_enter Try.func29, Try.ntmps29
  go_wp2
  go_ret
  refine ⟨ret_bool ?_, Up.refl _⟩
  by_cases e : x = t
  · subst e; simp
  · rw [decide_eq_false e]; exact beq_eq_false_iff_ne.2 (by omega)
set_option maxRecDepth 100000 in
set_option maxHeartbeats 2000000 in
theorem ix_any (tb t : Nat) (v : Value) (l : List Nat) (w : World) (hp : At w tb 0 (.int .i64 (t : Int))) (hs : Src w 1 v l.length (naC l)) (hl : l.length ≤ 100000) :
    Calls Try.prog 31 #[v, .func (.func 29) #[] #[.pointer (some ⟨tb, 0, none⟩)]] w fun e w' => e = .returned (.int .i64 (idx (oldC t) l)) ∧ Up w w' := by
  have HO := Lib.hid hs
  have HP := Lib.hid hp
  obtain ⟨a, cap, rfl⟩ := src_rn hs
  clear hs hp
  go_enter Try.func31, Try.ntmps31
  go_wp2
  go_loopw [8] (fun iv wr => ∃ k : Nat, k ≤ l.length ∧ iv = .int .i64 k ∧ Hid (Up w wr) ∧ Hid (∀ j (h : j < l.length), j < k → oldC t l[j] = false)) (fun iv _ => l.length - (intOf iv).toNat)
  case atStart => exact ⟨0, by omega, rfl, Up.refl _, fun j h hj => by omega⟩
  case round =>
    obtain ⟨k, hk, rfl, HU, HN⟩ := hrel
    by_cases hlt : k < l.length
    · obtain ⟨g, off, rfl, hc⟩ := src_at (HO.out.up HU.out) (by omega)
      have e0 := (hc _ _ (naC_get l k hlt)).2
      have HONE : Hid (∀ W, Up wr W → Calls Try.prog 29 #[.int .i64 (l[k] : Int), .pointer (some ⟨tb, 0, none⟩)] W fun e w' => e = .returned (.bool (oldC t l[k])) ∧ Up W w') := fun W h => cl_any W tb t (HP.out.grow (HU.out.trans h)) _
      have bk : (k : Int) < (l.length : Int) := by omega
      have HT : Hid (∀ (h : k < l.length), oldC t l[k] = true → idx (oldC t) l = (k : Int)) := fun h he => idx_hit h he HN.out
      have HF : Hid (oldC t l[k] = false → ∀ j (h : j < l.length), j < k + 1 → oldC t l[j] = false) := fun he j h hj => by
        rcases Nat.lt_or_ge j k with h1 | h1
        · exact HN.out j h h1
        · obtain rfl : j = k := by omega
          exact he
      cases hd : oldC t l[k] with
      | true =>
        rw [hd] at HONE
        have HE := Lib.hid (HT.out hlt hd)
        generalize l[k] = xt at *
        clear hc hd HT HF
        go_wp2_with (first
          | (go_at_call 29; refine (HONE.out _ (Up.refl _)).mono ?_; rintro e w2 ⟨rfl, h2⟩; have U2 := Lib.hid (HU.out.trans h2); clear h2)
          | fail)
        go_ret
        exact ⟨by rw [HE.out]; rfl, U2.out⟩
      | false =>
        rw [hd] at HONE
        have HE := Lib.hid (HF.out hd)
        generalize l[k] = xt at *
        clear hc hd HT HF
        go_wp2_with (first
          | (go_at_call 29; refine (HONE.out _ (Up.refl _)).mono ?_; rintro e w2 ⟨rfl, h2⟩; have U2 := Lib.hid (HU.out.trans h2); clear h2)
          | fail)
        go_roundw
        case rel => exact ⟨k + 1, by omega, by go_num, U2.out, HE.out⟩
        case measure => simp [intOf]; omega
    · obtain rfl : k = l.length := by omega
      have HE : Hid (idx (oldC t) l = -1) := idx_miss fun j h => HN.out j h h
      go_wp2
      go_ret
      exact ⟨by rw [HE.out]; rfl, HU.out⟩
theorem Try.zeroI : ∀ W, (zeroValue 3).run Try.prog W = .ok (.int .i64 0) W := fun W => by
  obtain ⟨i0, hi0, hz0, hz1, hz2⟩ := info_parts Try.infoI
  simp [zeroValue, typeInfo, hi0, hz0, Sem.run_bind, Result.andThen]
theorem naC_set (cs : List Nat) (i : Nat) (hi : i < cs.length) (x : Nat) : (naC cs).set i (.int .i64 (x : Int)) = naC (cs.set i x) := by
  have := fm_set (f := naC1) (k := 1) (fun _ => rfl) cs i 0 hi (by omega) (.int .i64 (x : Int)) x rfl
  simpa [naC] using this
theorem naC_take (cs : List Nat) (i : Nat) : (naC cs).take i = naC (cs.take i) := by
  have := fm_take (f := naC1) (k := 1) (fun _ => rfl) cs i
  simpa [naC] using this
theorem clr_own {W : World} {B g n cap i : Nat} {X : List Nat} (h : W.ownsRow B 3 1 (.slice (some ⟨g, 0, none⟩) n cap) n (naC X)) (hX : X.length = n) (hi : i < n) :
    ∃ W', (∀ ty cc, (Builtin.clear_ #[22] ty #[.slice (some ⟨g, i, none⟩) (n - i) cc]).run Try.prog W = .ok (.tuple #[]) W') ∧ W'.ownsRow B 3 1 (.slice (some ⟨g, 0, none⟩) i cap) i (naC (X.take i)) ∧ W.grownBy W' (some g) := by
  obtain ⟨hx, h⟩ := h
  rcases h with ⟨h0, _⟩ | ⟨g', cap', cur, hv, hb, hg, hn, hc, hs, ht⟩
  · cases h0
  · simp only [Value.slice.injEq, Option.some.injEq, Addr.mk.injEq, and_true, true_and] at hv
    obtain ⟨rfl, rfl⟩ := hv
    have hlen : (naC X).length = n := by rw [naC_len, hX, Nat.mul_one]
    refine ⟨_, fun ty cc => run_clear_k (P := Try.prog) W 22 3 ty (.int .i64 0) 1 g i (n - i) cc cur 3 Try.underlying22 Try.zeroI rfl (by omega) hg (by rw [hs]; omega) (zeroCells_one _ _ (by intro u hu; simp [Value.cells] at hu; rcases hu with rfl; rfl)), ?_, ?_⟩
    · have B2 := setRow_at W g cur (cur.toList.take i ++ (Builtin.zeroCells (.int .i64 0 : Value).cells (n - i)).toList ++ cur.toList.drop (i + (n - i) * 1)).toArray 3 hg
      have hl2 : (cur.toList.take i).length = i := by rw [List.length_take, Array.length_toList, hs]; show min _ _ = _; omega
      refine ⟨by rw [naC_len, List.length_take, hX]; show min _ _ * 1 = _; rw [show min i n = i by omega], .inr ⟨g, cap, _, rfl, hb, B2, by omega, hc, ?_, ?_⟩⟩
      · simp only [List.size_toArray, List.length_append, hl2, List.length_drop, Array.length_toList, hs, zeroCells_size]
        rw [show (.int .i64 0 : Value).cells.size = 1 from rfl]
        omega
      · simp only [List.append_assoc, Nat.mul_one]
        rw [List.take_append_of_le_length (by omega), List.take_take, Nat.min_self, ← naC_take, ← ht, List.take_take]
        congr 1
        show i = min _ _
        omega
    · exact setRow_grown _ _ _ _ ⟨rfl, rfl, rfl, Nat.le_refl _, fun _ _ _ => rfl⟩ (.inl rfl)
/-- What DeleteFunc keeps. -/
def keepC (e : Nat) (cs : List Nat) : List Nat := cs.filter fun c => !oldC e c
theorem keep_take (e : Nat) (cs : List Nat) (j : Nat) (h : j < cs.length) : keepC e (cs.take (j + 1)) = keepC e (cs.take j) ++ if oldC e cs[j] then [] else [cs[j]] := by
  unfold keepC
  rw [List.take_succ_eq_append_getElem h, List.filter_append]
  congr 1
  cases hpk : oldC e cs[j] <;> simp [hpk]
theorem keep_all {e : Nat} {cs : List Nat} (h : ∀ j (h : j < cs.length), oldC e cs[j] = false) : keepC e cs = cs := by
  unfold keepC
  rw [List.filter_eq_self]
  intro r hr
  obtain ⟨j, hj, rfl⟩ := List.getElem_of_mem hr
  simp [h j hj]
def DelPost (B : Nat) (e : Nat) (v : Value) (cs : List Nat) (w : World) (x : Ending) (w' : World) : Prop := ∃ v', x = .returned v' ∧ w'.ownsRow B 3 1 v' (keepC e cs).length (naC (keepC e cs)) ∧ Chg (fun j => v.ownBlock = some j) w w' ∧ ∀ k, v'.ownBlock = some k → v.ownBlock = some k
structure DelS (w wr : World) (tb : Nat) (B : Nat) (e : Nat) (v : Value) (cs X : List Nat) (i j : Nat) : Prop where
  ij : i < j
  jn : j ≤ cs.length
  xn : X.length = cs.length
  tk : X.take i = keepC e (cs.take j)
  dr : X.drop j = cs.drop j
  ow : wr.ownsRow B 3 1 v cs.length (naC X)
  ch : Chg (fun k => v.ownBlock = some k) w wr
  tt : At wr tb 0 (.int .i64 (e : Int))
set_option maxRecDepth 100000 in
set_option maxHeartbeats 4000000 in
theorem delf_any (tb : Nat) (e0 : Nat) (B : Nat) (v : Value) (cs : List Nat) (w : World) (ht : At w tb 0 (.int .i64 (e0 : Int))) (hfar : v.ownBlock ≠ some tb) (hown : w.ownsRow B 3 1 v cs.length (naC cs)) (hl : cs.length ≤ 100000) :
    Calls Try.prog 28 #[v, .func (.func 29) #[] #[.pointer (some ⟨tb, 0, none⟩)]] w (DelPost B e0 v cs w) := by
  have HIX := Lib.hid (ix_any tb e0 v cs w ht (own_src hown) hl)
  have HO := Lib.hid hown
  have HP := Lib.hid ht
  have HFAR := Lib.hid hfar
  rcases Decidable.em (∀ j (h : j < cs.length), oldC e0 cs[j] = false) with hn | hn
  · rw [idx_miss (p := oldC e0) hn] at HIX
    have HK := Lib.hid (keep_all hn)
    obtain ⟨a, cap, rfl, _, _, _⟩ := own_form hown
    clear hown ht hn hfar
    go_enter Try.func28, Try.ntmps28
    go_wp2_with (first
      | (go_at_call 31; refine HIX.out.mono ?_; rintro e w2 ⟨rfl, h2⟩; have H2 := Lib.hid h2; clear h2)
      | fail)
    go_ret
    exact ⟨_, rfl, by rw [HK.out]; exact own_up HO.out H2.out, Below.chg _ H2.out, fun k hk => hk⟩
  · have hany : ∃ i0 : Nat, idx (oldC e0) cs = (i0 : Int) ∧ ∃ h : i0 < cs.length, oldC e0 cs[i0] = true ∧ ∀ j (hj : j < cs.length), j < i0 → oldC e0 cs[j] = false := by
      rcases idx_cases (oldC e0) cs with ⟨_, h2⟩ | ⟨i, h1, h2, h3, h4⟩
      · exact absurd h2 hn
      · exact ⟨i, h2, h1, h3, h4⟩
    obtain ⟨i0, hi0, hil, hpi, hbf⟩ := hany
    rw [hi0] at HIX
    obtain ⟨g, cap, rfl, hc1, hc2, hgl, _, _⟩ := own_some hown (by omega)
    have S0 : Hid (∀ w2, Up w w2 → DelS w w2 tb B e0 (.slice (some ⟨g, 0, none⟩) cs.length cap) cs cs i0 (i0 + 1)) := fun w2 h2 => ⟨Nat.lt_succ_self _, hil, rfl, by
        rw [keep_take e0 cs i0 hil, hpi, if_pos rfl, List.append_nil, keep_all (fun j hj => ?_)]
        rw [List.getElem_take]
        exact hbf j _ (by rw [List.length_take] at hj; omega), rfl, own_up HO.out h2, Below.chg _ h2, HP.out.grow h2⟩
    have hw1 : IntKind.i64.wrap ((i0 : Int) + 1) = (i0 : Int) + 1 := IntWalk.i64_in _ (by omega)
    have hm1 : ¬ (i0 : Int) = -1 := by omega
    have hm2 : ((i0 : Int) == -1) = false := beq_eq_false_iff_ne.2 hm1
    clear hown ht hn hbf hi0 hpi hfar
    go_enter Try.func28, Try.ntmps28
    go_wp2_with (first
      | (go_at_call 31; refine HIX.out.mono ?_; rintro e w2 ⟨rfl, h2⟩; have S1 := Lib.hid (S0.out w2 h2); clear h2)
      | fail)
    clear hw1 hm1 hm2
    go_loopw [5, 6] (fun iv jv wr => ∃ i j : Nat, ∃ X, iv = .int .i64 i ∧ jv = .int .i64 j ∧ Hid (DelS w wr tb B e0 (.slice (some ⟨g, 0, none⟩) cs.length cap) cs X i j)) (fun _ jv _ => cs.length - (intOf jv).toNat)
    case atStart => exact ⟨i0, i0 + 1, cs, rfl, by go_num, S1.out⟩
    case round =>
      obtain ⟨i, j, X, rfl, rfl, HS⟩ := hrel
      have hij := HS.out.ij
      have hjn := HS.out.jn
      have hxn := HS.out.xn
      by_cases hlt : j < cs.length
      · have hjX : j < X.length := by omega
        have hel : X[j] = cs[j] := by
          have := HS.out.dr
          rw [List.drop_eq_getElem_cons hjX, List.drop_eq_getElem_cons hlt] at this
          exact (List.cons.inj this).1
        have OC : Hid (∀ W, Up wr W → ∀ q, q < cs.length → (∃ a, W.cell? ⟨g, q, none⟩ = some a) ∧ W.frozen? ⟨g, q, none⟩ = false ∧ g < W.heap.size) := fun W hu q hq => by
          obtain ⟨g', c', e, _, _, hgl5, hcl, hz⟩ := own_some (own_up HS.out.ow hu) (by omega)
          simp only [Value.slice.injEq, Option.some.injEq, Addr.mk.injEq, and_true, true_and] at e
          obtain ⟨rfl, _⟩ := e
          exact ⟨⟨_, hcl _ _ (naC_get X q (by omega))⟩, hz _, hgl5⟩
        obtain ⟨g', c', e, _, _, hgl', hcl, _⟩ := own_some HS.out.ow (by omega)
        simp only [Value.slice.injEq, Option.some.injEq, Addr.mk.injEq, and_true, true_and] at e
        obtain ⟨rfl, rfl⟩ := e
        have g0 := naC_get X j hjX
        rw [hel] at g0
        have e0' := hcl _ _ g0
        have HONE := Lib.hid (fun W (h : Up wr W) => cl_any W tb e0 (HS.out.tt.grow h) cs[j])
        have bj : (j : Int) < (cs.length : Int) := by omega
        have bi : (i : Int) < (cs.length : Int) := by omega
        have KT := keep_take e0 cs j hlt
        have HXS := Lib.hid (naC_set X i (by omega) cs[j])
        cases hd : oldC e0 cs[j] with
        | true =>
          rw [hd] at HONE KT
          rw [if_pos rfl, List.append_nil] at KT
          have KT := Lib.hid KT
          generalize cs[j] = ct at *
          clear hcl g0 hd hel HXS
          go_wp2_with (first
            | (go_at_call 29; refine (HONE.out _ (Up.refl _)).mono ?_; rintro e w2 ⟨rfl, h2⟩; have U2 := Lib.hid h2; clear h2)
            | fail)
          go_roundw
          case rel => exact ⟨i, j + 1, X, rfl, by go_num, ⟨by omega, by omega, hxn, by rw [KT.out]; exact HS.out.tk, by have := HS.out.dr; rw [← List.drop_drop, ← List.drop_drop, this], own_up HS.out.ow U2.out, (HS.out.ch.trans (Below.chg (fun _ => False) U2.out) fun _ _ e => e.elim), HS.out.tt.grow U2.out⟩⟩
          case measure => simp [intOf]; omega
        | false =>
          rw [hd] at HONE KT
          rw [if_neg (by decide)] at KT
          have KT := Lib.hid KT
          generalize hct : cs[j] = ct at *
          clear hcl g0 hd hel
          go_wp2_with (first
            | (go_at_call 29; refine (HONE.out _ (Up.refl _)).mono ?_; rintro e w2 ⟨rfl, h2⟩; have U2 := Lib.hid h2; obtain ⟨⟨ya, y0⟩, f0, gl2⟩ := OC.out w2 U2.out i (by omega); clear h2)
            | fail)
          go_roundw
          case rel =>
            refine ⟨i + 1, j + 1, X.set i ct, by go_num, by go_num, ⟨by omega, by omega, by rw [List.length_set]; exact hxn, ?_, ?_, ?_, ?_, ?_⟩⟩
            · rw [KT.out, ← HS.out.tk, List.take_succ_eq_append_getElem (by rw [List.length_set]; omega), List.take_set_of_le (Nat.le_refl _), List.getElem_set_self]
            · rw [List.drop_set_of_lt (by omega), ← List.drop_drop, HS.out.dr, List.drop_drop]
            · have O2 := own_up HS.out.ow U2.out
              have hlx := naC_len X
              have O3 := own_set O2 i (by omega) (.int .i64 (ct : Int))
              rw [HXS.out] at O3
              exact O3
            · exact ((HS.out.ch.trans (S' := fun _ => False) (Below.chg _ U2.out) fun _ _ e => e.elim).set (b := g) (.inl rfl) _ _ _)
            · exact (HS.out.tt.grow U2.out).chg (chg_set w2 g i none _) (fun e => HFAR.out (by rw [e]; rfl))
          case measure => simp [intOf]; omega
      · obtain rfl : j = cs.length := by omega
        obtain ⟨W', hcl, hown', hgr⟩ := clr_own HS.out.ow hxn hij
        have htk := HS.out.tk
        rw [List.take_of_length_le (Nat.le_refl _)] at htk
        rw [htk] at hown'
        have hkl : (keepC e0 cs).length = i := by rw [← htk, List.length_take]; show min _ _ = _; omega
        have HKL := Lib.hid hkl
        have HOW := Lib.hid hown'
        have HGR := Lib.hid hgr
        have b1 : (i : Int) ≤ (cs.length : Int) := by omega
        have b2 : (i : Int) ≤ (cap : Int) := by omega
        clear hown' hgr htk hkl
        go_wp2_with (first
          | (with_reducible refine wl_clear_run _ rfl (.tmp 38) 22 rfl _ rfl (hcl _ _) ?_)
          | fail)
        go_ret
        refine ⟨_, rfl, by rw [HKL.out]; exact HOW.out, (HS.out.ch.trans (S' := fun k => k = g) ((Chg.refl _ wr).grown HGR.out fun k hk => .inl (by cases hk; rfl)) fun _ _ e => by rw [e]; rfl), fun k hk => hk⟩

theorem Try.info_cloneR : (Try.prog.info? 50).map (fun i => (i.zero, i.size, i.bytes)) = some (some (.agg #[.int .i64 0, .int .i64 0, .int .i64 0, .int .i64 0, .int .i64 0]), 5, 40) := by kernel_rfl
set_option maxRecDepth 100000 in
set_option maxHeartbeats 1000000 in
theorem cloneR (v : Value) (n : Nat) (xs : List Value) (w : World) (h : Src w 5 v n xs) (h1 : ∀ u ∈ xs, u.oneCell' = true) (hn : n * 40 ≤ 140737488355328) :
    Calls Try.prog 20 #[v] w fun e w' => ∃ v', e = .returned v' ∧ w'.ownsRow w.heap.size 50 5 v' n xs ∧ Up w w' := by
  obtain ⟨i0, hi, hz0, hz1, hz2⟩ := info_parts Try.info_cloneR
  obtain ⟨hx, h⟩ := h
  have hq := fun (a : Option Addr) (n c n' c' : Nat) (w : World) => Lib.run_eql_slice_nil (P := Try.prog) w 42 50 a n c n' c' Try.underlying42
  rcases h with ⟨rfl, rfl⟩ | ⟨b, off, cap, rfl, hc1, hc2, hc3⟩
  · obtain rfl : xs = [] := List.eq_nil_of_length_eq_zero (by simpa using hx)
    go_enter Try.func20, Try.ntmps20
    go_wp2
    go_ret
    exact ⟨_, rfl, World.ownsRow_nil _ _ _ _, Up.refl _⟩
  · have HX := Lib.hid hx
    have H1 := Lib.hid h1
    have H3 : Hid (∀ j u, xs[j]? = some u → (w.alloc (.cells #[] 50)).cell? ((⟨b, off, none⟩ : Addr).add j) = some u) := fun j u hj => by
      rw [Addr.add_lit]; exact ((hc3 j u hj).grow ((Up.refl w).alloc _)).2
    clear hx hc3 h1
    go_enter Try.func20, Try.ntmps20
    go_wp2_with (at_builtin; refine wpList_append_own _ rfl (.tmp 5) (.tmp 6) 42 rfl w.heap.size 50 i0 (.agg #[.int .i64 0, .int .i64 0, .int .i64 0, .int .i64 0, .int .i64 0]) 5 40 Try.underlying42 hi hz0 hz1 hz2 rfl (by decide) _ _ _ rfl (own_empty w 50 5) ⟨b, off, none⟩ n cap xs rfl HX.out H3.out H1.out (by unfold maxLen; omega) (by omega) (by simp) ?_)
    intro v' w2 hown hg hnil
    have hnil := Lib.hid hnil
    have hu : Up w w2 := Below.grown ((Up.refl w).alloc (.cells #[] 50)) hg (by simp) fun j hj => by simp [Value.ownBlock] at hj; omega
    clear hg
    go_wp2
    go_ret
    exact ⟨_, rfl, by simpa using hown, hu⟩

theorem Try.info_cloneP : (Try.prog.info? 53).map (fun i => (i.zero, i.size, i.bytes)) = some (some (.agg #[.int .i64 0, .int .i64 0]), 2, 16) := by kernel_rfl
set_option maxRecDepth 100000 in
set_option maxHeartbeats 1000000 in
theorem cloneP (v : Value) (n : Nat) (xs : List Value) (w : World) (h : Src w 2 v n xs) (h1 : ∀ u ∈ xs, u.oneCell' = true) (hn : n * 16 ≤ 140737488355328) :
    Calls Try.prog 21 #[v] w fun e w' => ∃ v', e = .returned v' ∧ w'.ownsRow w.heap.size 53 2 v' n xs ∧ Up w w' := by
  obtain ⟨i0, hi, hz0, hz1, hz2⟩ := info_parts Try.info_cloneP
  obtain ⟨hx, h⟩ := h
  have hq := fun (a : Option Addr) (n c n' c' : Nat) (w : World) => Lib.run_eql_slice_nil (P := Try.prog) w 41 53 a n c n' c' Try.underlying41
  rcases h with ⟨rfl, rfl⟩ | ⟨b, off, cap, rfl, hc1, hc2, hc3⟩
  · obtain rfl : xs = [] := List.eq_nil_of_length_eq_zero (by simpa using hx)
    go_enter Try.func21, Try.ntmps21
    go_wp2
    go_ret
    exact ⟨_, rfl, World.ownsRow_nil _ _ _ _, Up.refl _⟩
  · have HX := Lib.hid hx
    have H1 := Lib.hid h1
    have H3 : Hid (∀ j u, xs[j]? = some u → (w.alloc (.cells #[] 53)).cell? ((⟨b, off, none⟩ : Addr).add j) = some u) := fun j u hj => by
      rw [Addr.add_lit]; exact ((hc3 j u hj).grow ((Up.refl w).alloc _)).2
    clear hx hc3 h1
    go_enter Try.func21, Try.ntmps21
    go_wp2_with (at_builtin; refine wpList_append_own _ rfl (.tmp 5) (.tmp 6) 41 rfl w.heap.size 53 i0 (.agg #[.int .i64 0, .int .i64 0]) 2 16 Try.underlying41 hi hz0 hz1 hz2 rfl (by decide) _ _ _ rfl (own_empty w 53 2) ⟨b, off, none⟩ n cap xs rfl HX.out H3.out H1.out (by unfold maxLen; omega) (by omega) (by simp) ?_)
    intro v' w2 hown hg hnil
    have hnil := Lib.hid hnil
    have hu : Up w w2 := Below.grown ((Up.refl w).alloc (.cells #[] 53)) hg (by simp) fun j hj => by simp [Value.ownBlock] at hj; omega
    clear hg
    go_wp2
    go_ret
    exact ⟨_, rfl, by simpa using hown, hu⟩
end Go.Proofs.Ytjalpppmgoepiaa.Rv
