/- joined: Ckn, Cko, Cpa, Ckp -/
import Derived.Test.YtmaeeidaegigcaaCkm
import Derived.Lib.ConvBytes
import Derived.Lib.BytesEntry
import Derived.Test.YtmaeeidaegigcaaCkh
/- The law's replay: bytes.Compare, the search by it. -/
namespace Go.Proofs.Ytmaeeidaegigcaa.Ck
open Go Go.RowKit Hp So
open Dk (Bytes bc)
set_option linter.unusedVariables false

theorem bytes_ad {w : World} {b off n c : Nat} {l : List Int} (h : Bytes w (.slice (some ⟨b, off, none⟩) n c) l) : n = l.length ∧ ∀ j x, l[j]? = some x → w.cell? ((⟨b, off, none⟩ : Addr).add j) = some (.int .u8 x) := by
  obtain ⟨a, cp, e, h1, h2, h3, h4⟩ := h
  simp only [Value.slice.injEq] at e
  obtain ⟨rfl, rfl, rfl⟩ := e
  refine ⟨rfl, fun j x hj => ?_⟩
  have hjl : j < l.length := (List.getElem?_eq_some_iff.1 hj).1
  obtain ⟨b', off', e, hr⟩ := h4 j hjl
  cases e
  rw [Addr.add_lit]
  rw [Nat.mul_one] at hr
  rw [hr.2]
  rw [List.getElem?_eq_getElem hjl] at hj
  rw [Option.some.inj hj]
theorem bytesOf_byL (s : ByteArray) : Lib.bytesOf (byL s) = s.data.toList := by
  unfold Lib.bytesOf byL
  rw [List.map_map]
  conv => rhs; rw [← List.map_id s.data.toList]
  refine List.map_congr_left fun x _ => ?_
  show (((x.toNat : Nat) : Int).toNat).toUInt8 = x
  simp
theorem load_byL {P : Program} {w : World} {b off n c : Nat} {s : ByteArray} (h : Bytes w (.slice (some ⟨b, off, none⟩) n c) (byL s)) : (Extern.Bytes.bytesOf (.slice (some ⟨b, off, none⟩) n c)).run P w = .ok s w := by
  obtain ⟨rfl, hc⟩ := bytes_ad h
  show (Extern.Bytes.loadBytes ⟨b, off, none⟩ (byL s).length .empty).run P w = _
  rw [Lib.run_loadBytesX w (byL s) _ _ hc, bytesOf_byL]
  congr 1
  refine ba_inj ?_
  simp
theorem run_cmpB {P : Program} {w : World} {b off n c b' off' n' c' : Nat} {s t : ByteArray} (h : Bytes w (.slice (some ⟨b, off, none⟩) n c) (byL s)) (h' : Bytes w (.slice (some ⟨b', off', none⟩) n' c') (byL t)) :
    (Extern.BytealgCompare.compare #[.slice (some ⟨b, off, none⟩) n c, .slice (some ⟨b', off', none⟩) n' c']).run P w = .ok (.int .i64 (scmp s t)) w := by
  change Sem.run P (do pure (goInt (Extern.BytealgCompare.cmp (← Extern.Bytes.bytesOf (.slice (some ⟨b, off, none⟩) n c)) (← Extern.Bytes.bytesOf (.slice (some ⟨b', off', none⟩) n' c'))))) w = _
  simp only [Sem.run_bind, load_byL h, load_byL h', Sem.run_pure, Result.andThen]
  rw [Lib.cmp_eq]
  rfl
set_option maxRecDepth 100000 in
set_option maxHeartbeats 1000000 in
theorem bcmp_any {w : World} {b off n c b' off' n' c' : Nat} {s t : ByteArray} (h : Bytes w (.slice (some ⟨b, off, none⟩) n c) (byL s)) (h' : Bytes w (.slice (some ⟨b', off', none⟩) n' c') (byL t)) :
    Calls Try.prog 58 #[.slice (some ⟨b, off, none⟩) n c, .slice (some ⟨b', off', none⟩) n' c'] w fun e w' => e = .returned (.int .i64 (scmp s t)) ∧ w' = w := by
  have hr := run_cmpB (P := Try.prog) h h'
  clear h h'
  go_enter Try.func58, Try.ntmps58
  go_wp2
  rw [run_callFunc_extern Try.func70 (by kernel_rfl) (by kernel_rfl) (by kernel_rfl) (e := Extern.BytealgCompare.compare) (by kernel_rfl), hr]
  simp only [Result.andThen]
  rw [Oper.upon_value]
  go_wp2
  go_ret
  exact ⟨rfl, rfl⟩
/-- The bytes of a string, made new. -/
theorem bytesW (w : World) (s : ByteArray) (hs : s.size ≤ 1000) : Bytes (Lib.bytesWorld w 5 s) (.slice (some ⟨w.heap.size, 0, none⟩) s.size (grownCap w s.size 0 5)) (byL s) ∧ Up w (Lib.bytesWorld w 5 s) := by
  have hsz := Lib.bytesWorld_size w 5 s
  have h1 := grownCap_ge w s.size 0 5
  have h2 := grownCap_le_maxLen w s.size 0 5 (by unfold maxLen; omega)
  unfold maxLen at h2
  refine ⟨⟨_, _, by rw [byL_len], by rw [byL_len]; exact h1, h2, fun e => (by cases e), fun i hi => ⟨_, _, rfl, by omega, ?_⟩⟩, ⟨rfl, rfl, rfl, by omega, fun k hk => Lib.bytesWorld_at_old w _ s k hk⟩⟩
  rw [byL_len] at hi
  rw [Nat.mul_one, Nat.zero_add, Lib.bytesWorld_cell w _ s i hi]
  have hl : i < s.data.toList.length := by rw [Array.length_toList]; exact hi
  have e : (byL s)[i] = ((s.data.toList[i]).toNat : Int) := by simp [byL]
  rw [e]
  rw [show s.data.toList.getD i 0 = s.data.toList[i] by rw [List.getD_eq_getElem?_getD, List.getElem?_eq_getElem hl]; rfl]
theorem convS (w : World) (s : ByteArray) (hs : s.size ≤ 1000) : ∃ b c W, (convert 9 28 (.string s)).run Try.prog w = .ok (.slice (some ⟨b, 0, none⟩) s.size c) W ∧ Bytes W (.slice (some ⟨b, 0, none⟩) s.size c) (byL s) ∧ Up w W :=
  ⟨_, _, _, Lib.run_convert_string_bytes (P := Try.prog) w 9 28 5 s Try.underlying9 Try.underlying28 Try.underlying5, (bytesW w s hs).1, (bytesW w s hs).2⟩
set_option maxRecDepth 100000 in
set_option maxHeartbeats 1000000 in
theorem rcmp (key t : ByteArray) (v1 : Value) (w : World) (hk : key.size ≤ 1000) (ht : t.size ≤ 1000) : Calls Try.prog 57 #[.agg #[.string key, v1], .string t] w fun e w' => e = .returned (.int .i64 (scmp key t)) ∧ Up w w' := by
  obtain ⟨b1, c1, W1, hcv1, B1, U1⟩ := convS (w.alloc (.cells #[.string key, v1] 62)) key hk
  obtain ⟨b2, c2, W2, hcv2, B2, U2⟩ := convS W1 t ht
  have HC := Lib.hid (bcmp_any (Wl.bytes_up B1 U2) B2)
  have UU := Lib.hid ((((Up.refl w).alloc (.cells #[.string key, v1] 62)).trans U1).trans U2)
  clear B1 B2 U1 U2
  go_enter Try.func57, Try.ntmps57
  go_wp2_with (go_at_call 58; refine HC.out.mono ?_; rintro e w' ⟨rfl, rfl⟩)
  go_ret
  exact ⟨rfl, UU.out⟩
set_option maxRecDepth 100000 in
set_option maxHeartbeats 4000000 in
theorem bs2_any (v : Value) (n : Nat) (xs : List Value) (key : Nat → ByteArray) (c1 : Nat → Value) (t : ByteArray) (w : World) (hown : w.ownsRow 0 62 2 v n xs) (hn : n ≤ 1000000)
    (hx : ∀ i, i < n → xs[i * 2]? = some (.string (key i)) ∧ xs[i * 2 + 1]? = some (c1 i)) (hmono : ∀ a b, a ≤ b → b < n → So.scmp (key b) t < 0 → So.scmp (key a) t < 0) (hks : ∀ i, i < n → (key i).size ≤ 1000) (hts : t.size ≤ 1000) :
    Calls Try.prog 56 #[v, .string t, .func (.func 57) #[] #[]] w fun e w' => ∃ i : Nat, i ≤ n ∧ (∀ j, j < i → So.scmp (key j) t < 0) ∧ (∀ j, i ≤ j → j < n → 0 ≤ So.scmp (key j) t) ∧
      e = .returned (.tuple #[.int .i64 i, .bool (decide (i < n) && decide (So.scmp (key i) t = 0))]) ∧ Up w w' := by
  have HX := Lib.hid hx
  have HKS := Lib.hid hks
  have HM := Lib.hid hmono
  have HO := Lib.hid hown
  obtain ⟨a, c, rfl, hc1, hc2, hc3⟩ := own_form hown
  clear hx hmono hown hc3 hks
  go_enter Try.func56, Try.ntmps56
  go_wp2
  go_loopw [9, 10] (fun s9 s10 wr => ∃ lo hi : Nat, s9 = .int .i64 lo ∧ s10 = .int .i64 hi ∧ lo ≤ hi ∧ hi ≤ n ∧ Hid (Up w wr) ∧ Hid ((∀ j, j < lo → So.scmp (key j) t < 0) ∧ (∀ j, hi ≤ j → j < n → 0 ≤ So.scmp (key j) t))) (fun s9 s10 _ => (intOf s10).toNat - (intOf s9).toNat)
  case atStart => exact ⟨0, n, rfl, rfl, Nat.zero_le _, Nat.le_refl _, Up.refl w, fun j hj => absurd hj (Nat.not_lt_zero _), fun j h1 h2 => by omega⟩
  case round =>
    obtain ⟨lo, hi, rfl, rfl, hlh, hin, HU, HI⟩ := hrel
    by_cases hlt : lo < hi
    · obtain ⟨x0, x1⟩ := HX.out ((lo + hi) / 2) (by omega)
      obtain ⟨g, cap, hv, _, _, hgl, hcell, _⟩ := own_some (own_up HO.out HU.out) (by omega)
      simp only [Value.slice.injEq] at hv
      obtain ⟨rfl, _, rfl⟩ := hv
      have e0 := hcell _ _ x0
      have e1 := hcell _ _ x1
      obtain ⟨s, hs⟩ : ∃ s, s = key ((lo + hi) / 2) := ⟨_, rfl⟩
      rw [← hs] at e0
      have HS := Lib.hid hs
      generalize c1 _ = u1 at e1
      have b1 : (0 : Int) ≤ ((lo : Int) + hi) / 2 := by omega
      have b2 : ((lo : Int) + hi) / 2 < (n : Int) := by omega
      have b3 : (((lo : Int) + hi) / 2).toNat = (lo + hi) / 2 := by omega
      have hs9 : s.size ≤ 1000 := by rw [HS.out]; exact HKS.out _ (by omega)
      have hc := fun v w => rcmp s t v w hs9 hts
      clear hcell hs x0 x1 hgl
      by_cases hyx : So.scmp s t < 0
      · go_wp2_with (go_at_call 57; refine (hc _ _).mono ?_; rintro e w' ⟨rfl, hu9⟩; have HU9 := Lib.hid hu9; clear hu9)
        go_roundw
        case rel => exact ⟨(lo + hi) / 2 + 1, hi, by rw [show ((lo : Int) + (hi : Int)) / 2 + 1 = (((lo + hi) / 2 + 1 : Nat) : Int) by omega], rfl, by omega, hin, by first | exact HU.out.trans HU9.out | exact HU.out.drew.trans HU9.out, fun j hj => HM.out j ((lo + hi) / 2) (by omega) (by omega) (by rw [← HS.out]; exact hyx), HI.out.2⟩
        case measure => simp [intOf]; omega
      · go_wp2_with (go_at_call 57; refine (hc _ _).mono ?_; rintro e w' ⟨rfl, hu9⟩; have HU9 := Lib.hid hu9; clear hu9)
        go_roundw
        case rel => exact ⟨lo, (lo + hi) / 2, rfl, by rw [show ((lo : Int) + (hi : Int)) / 2 = (((lo + hi) / 2 : Nat) : Int) by omega], by omega, by omega, by first | exact HU.out.trans HU9.out | exact HU.out.drew.trans HU9.out, HI.out.1, fun j h1 h2 => Int.not_lt.1 fun h3 => by have := HM.out ((lo + hi) / 2) j h1 h2 h3; rw [← HS.out] at this; omega⟩
        case measure => simp [intOf]; omega
    · obtain rfl : hi = lo := by omega
      by_cases hlt2 : hi < n
      · obtain ⟨x0, x1⟩ := HX.out hi hlt2
        obtain ⟨g, cap, hv, _, _, hgl, hcell, _⟩ := own_some (own_up HO.out HU.out) (by omega)
        simp only [Value.slice.injEq] at hv
        obtain ⟨rfl, _, rfl⟩ := hv
        have e0 := hcell _ _ x0
        have e1 := hcell _ _ x1
        obtain ⟨s, hs⟩ : ∃ s, s = key hi := ⟨_, rfl⟩
        rw [← hs] at e0
        have HS := Lib.hid hs
        generalize c1 _ = u1 at e1
        have b2 : (hi : Int) < (n : Int) := by omega
        have hs9 : s.size ≤ 1000 := by rw [HS.out]; exact HKS.out _ (by omega)
        have hc := fun v w => rcmp s t v w hs9 hts
        clear hcell hs x0 x1 hgl
        by_cases hyx : So.scmp s t = 0
        all_goals
          go_wp2_with (go_at_call 57; refine (hc _ _).mono ?_; rintro e w' ⟨rfl, hu9⟩; have HU9 := Lib.hid hu9; clear hu9)
          go_ret2
          exact ⟨hi, hin, HI.out.1, HI.out.2, by rw [← HS.out]; simp [hlt2, hyx], by first | exact HU.out.trans HU9.out | exact HU.out.drew.trans HU9.out⟩
      · go_wp2
        go_ret2
        exact ⟨hi, hin, HI.out.1, HI.out.2, by simp [hlt2], by first | exact HU.out | exact HU.out.drew⟩

end Go.Proofs.Ytmaeeidaegigcaa.Ck

/- slices.Equal at the checkpoint's entries. -/
namespace Go.Proofs.Ytmaeeidaegigcaa.Ck
open Go Go.RowKit Hp So
set_option linter.unusedVariables false

theorem ent_eq (W : World) (s x s' x' : ByteArray) : (Op.equalIn 10000 62 (.agg #[.string s, .string x]) (.agg #[.string s', .string x'])).run Try.prog W = .ok (decide (s = s') && decide (x = x')) W := by
  rw [show (10000 : Nat) = 9999 + 1 from rfl, Op.equalIn]
  simp only [Sem.run_bind, run_underlying Try.underlying62, Result.andThen_ok]
  simp only [part]
  have ha2 : ∀ W : World, (isAgg 9).run Try.prog W = .ok false W := Try.isAgg9
  have hi : ∀ a b : ByteArray, ¬ a = b → ¬ a.toList = b.toList := fun a b h e => h (ba_inj (by rw [tl, tl] at e; exact e))
  by_cases h1 : s = s' <;> by_cases h2 : x = x' <;> simp [ha2, go_sem, h1, h2]
  · exact hi _ _ h2
  · exact hi _ _ h1
  · exact fun e => absurd e (hi _ _ h1)
theorem guardE : Try.prog.eqGuardType Try.prog.depth 62 = false := by kernel_rfl

set_option maxRecDepth 100000 in
set_option maxHeartbeats 1000000 in
theorem equalE_any (v v' : Value) (l l' : Ws) (w : World) (h : Src w 2 v l.length (ec l)) (h' : Src w 2 v' l'.length (ec l')) (hl : l.length ≤ 1000) (hl' : l'.length ≤ 1000) :
    Calls Try.prog 38 #[v, v'] w fun e w' => e = .returned (.bool (decide (l = l'))) ∧ Up w w' := by
  have HS := Lib.hid h
  have HS' := Lib.hid h'
  obtain ⟨a, cap, rfl⟩ : ∃ a cap, v = .slice a l.length cap := by
    rcases h.2 with ⟨e, h0⟩ | ⟨b, off, c, e, _⟩
    · exact ⟨none, 0, by rw [h0]; exact e⟩
    · exact ⟨_, _, e⟩
  obtain ⟨a', cap', rfl⟩ : ∃ a cap, v' = .slice a l'.length cap := by
    rcases h'.2 with ⟨e, h0⟩ | ⟨b, off, c, e, _⟩
    · exact ⟨none, 0, by rw [h0]; exact e⟩
    · exact ⟨_, _, e⟩
  clear h h'
  by_cases hll : l.length = l'.length
  · have hne : ((l.length : Int) != (l'.length : Int)) = false := by rw [hll]; simp
    have HLL := Lib.hid hll
    rw [← hll]
    rw [← hll] at hne
    clear hll
    go_enter Try.func38, Try.ntmps38
    go_wp2
    go_loopw [13] (fun iv wr => ∃ k : Nat, k ≤ l.length ∧ iv = .int .i64 k ∧ Hid (Up w wr) ∧ Hid (l.take k = l'.take k)) (fun iv _ => l.length - (intOf iv).toNat)
    case atStart => exact ⟨0, by omega, rfl, Up.refl _, rfl⟩
    case round =>
      obtain ⟨k, hk, rfl, HU, HT⟩ := hrel
      by_cases hlt : k < l.length
      · have hlt' : k < l'.length := by have := HLL.out; omega
        obtain ⟨b, off, hv, c1, c2⟩ : ∃ b off, a = some ⟨b, off, none⟩ ∧ At w b (off + k * 2) (.string l[k].1) ∧ At w b (off + (k * 2 + 1)) (.string l[k].2) := by
          rcases HS.out.2 with ⟨e, h0⟩ | ⟨b, off, c, e, _, _, hc⟩
          · omega
          · simp only [Value.slice.injEq] at e
            exact ⟨b, off, e.1, hc _ _ (ec_get l k hlt).1, hc _ _ (ec_get l k hlt).2⟩
        obtain ⟨b', off', hv', c1', c2'⟩ : ∃ b off, a' = some ⟨b, off, none⟩ ∧ At w b (off + k * 2) (.string l'[k].1) ∧ At w b (off + (k * 2 + 1)) (.string l'[k].2) := by
          rcases HS'.out.2 with ⟨e, h0⟩ | ⟨b, off, c, e, _, _, hc⟩
          · omega
          · simp only [Value.slice.injEq] at e
            exact ⟨b, off, e.1, hc _ _ (ec_get l' k hlt').1, hc _ _ (ec_get l' k hlt').2⟩
        subst hv
        subst hv'
        obtain ⟨s, hs⟩ : ∃ s, s = l[k].1 := ⟨_, rfl⟩
        obtain ⟨x, hx⟩ : ∃ x, x = l[k].2 := ⟨_, rfl⟩
        obtain ⟨s', hs'⟩ : ∃ s, s = l'[k].1 := ⟨_, rfl⟩
        obtain ⟨x', hx'⟩ : ∃ x, x = l'[k].2 := ⟨_, rfl⟩
        rw [← hs] at c1
        rw [← hx] at c2
        rw [← hs'] at c1'
        rw [← hx'] at c2'
        have HE : Hid ((decide (s = s') && decide (x = x')) = true ↔ l[k] = l'[k]) := by
          unfold Hid
          rw [Bool.and_eq_true, decide_eq_true_eq, decide_eq_true_eq, hs, hx, hs', hx']
          exact ⟨fun h => Prod.ext h.1 h.2, fun h => by rw [h]; exact ⟨rfl, rfl⟩⟩
        clear hs hx hs' hx'
        have d1 := (c1.grow HU.out).2
        have d2 := (c2.grow HU.out).2
        have d3 := (c1'.grow HU.out).2
        have d4 := (c2'.grow HU.out).2
        rw [← Nat.add_assoc] at d2 d4
        have hlk : (k : Int) < (l.length : Int) := by omega
        clear c1 c2 c1' c2'
        have hpn := fun W => ent_eq W s x s' x'
        have hgd := guardE
        generalize (decide (s = s') && decide (x = x')) = bb at *
        cases bb with
        | true =>
          have HEQ : Hid (l[k] = l'[k]) := HE.out.1 rfl
          go_wp2
          go_quiet (fail)
          go_wp2
          go_roundw
          case rel => exact ⟨k + 1, by omega, by go_num, HU.out.drewN _, by unfold Hid; rw [List.take_add_one, List.take_add_one, HT.out, List.getElem?_eq_getElem hlt, List.getElem?_eq_getElem hlt', HEQ.out]⟩
          case measure => simp [intOf]; omega
        | false =>
          have HNE : Hid (¬ l = l') := fun e => by
            subst e
            have := HE.out.2 rfl
            cases this
          go_wp2
          go_quiet (fail)
          go_wp2
          go_ret
          exact ⟨by rw [decide_eq_false HNE.out]; rfl, HU.out.drewN _⟩
      · obtain rfl : k = l.length := by omega
        have HEQ : Hid (l = l') := by
          have h1 := HT.out
          have h2 := HLL.out
          rw [List.take_length, h2, List.take_length] at h1
          exact h1
        go_wp2
        go_ret
        exact ⟨by rw [decide_eq_true HEQ.out]; rfl, HU.out⟩
  · have hne : ((l.length : Int) != (l'.length : Int)) = true := by simp; omega
    have HNE : Hid (¬ l = l') := fun e => hll (by rw [e])
    have hne2 : ¬ (l.length : Int) = (l'.length : Int) := by omega
    clear hll
    go_enter Try.func38, Try.ntmps38
    go_wp2
    go_ret
    exact ⟨by rw [decide_eq_false HNE.out]; rfl, Up.refl _⟩
end Go.Proofs.Ytmaeeidaegigcaa.Ck

/- The checkpoint store in plain words: what its disk holds. -/
namespace Go.Proofs.Ytmaeeidaegigcaa.Ck
open Go Go.RowKit Hp So
open Dk (Dsk DiskR bc Bytes pad applyW applyW_miss applyW_len read_write)
open Wl (Log St IsB BytD)
set_option linter.unusedVariables false

/-- The store is the base that its last checkpoint holds, and the updates us behind it. -/
structure CI (C : Ck) (base us : Ws) : Prop where
  ents : C.ents = us.foldl apL base
  wok : ∀ j, j ≤ us.length → WOk ((us.take j).foldl apL base)
  key : ∀ u ∈ us, 1 ≤ u.1.size ∧ u.1.size ≤ 12 ∧ u.2.size ≤ 12
  dl : C.dsk.dur.length = 42
  byt : BytD C.dsk
  hd1 : hdN (C.dsk.dur.getD (C.cks % 2) []) = (C.cks : Int)
  hdc : (C.dsk.dur.getD (C.cks % 2) []).getD 3 0 = (base.length : Int)
  hd2 : hdN (C.dsk.dur.getD ((C.cks + 1) % 2) []) ≤ ((C.cks - 1 : Nat) : Int)
  hd0 : C.cks = 0 → base = []
  ar : ∀ i (h : i < base.length), C.dsk.dur.getD (area C.cks + i) [] = pad (recE base[i])
  pn : ∀ x ∈ C.dsk.pend, area (C.cks + 1) ≤ x.1 ∧ x.1 < area (C.cks + 1) + 20
  nx : (C.next = -1 ∧ C.dsk.pend = []) ∨ ∃ m : Nat, C.next = (m : Int) ∧ C.cov ≤ us.length ∧ C.pend = (us.take C.cov).foldl apL base ∧ m ≤ C.pend.length ∧ C.dsk.pend.length = m ∧ ∀ i (h : i < C.pend.length), i < m → C.dsk.read (area (C.cks + 1) + i) = pad (recE C.pend[i])
theorem area_bd (n : Nat) : 2 ≤ area n ∧ area n + 20 ≤ 42 := by have : n % 2 < 2 := Nat.mod_lt _ (by decide); unfold area; omega
theorem area_ne (n : Nat) : area n + 20 ≤ area (n + 1) ∨ area (n + 1) + 20 ≤ area n := by unfold area; omega
section
variable {C : Ck} {base us : Ws}
theorem CI.bwok (h : CI C base us) : WOk base := by have := h.wok 0 (Nat.zero_le _); rw [List.take_zero] at this; exact this
theorem CI.ewok (h : CI C base us) : WOk C.ents := by have := h.wok us.length (Nat.le_refl _); rw [List.take_length] at this; rw [h.ents]; exact this
theorem CI.pnd0 (h : CI C base us) : C.dsk.pend.length ≤ 20 := by
  rcases h.nx with ⟨_, h1⟩ | ⟨m, h0, h1, h2, h3, h4, h5⟩
  · rw [h1]; exact Nat.zero_le _
  · have := (h.wok C.cov h1).len
    rw [← h2] at this
    omega
/-- A sector outside the area that is being written reads as it lies. -/
theorem CI.same (h : CI C base us) (l : List (Nat × List Int)) (hl : ∀ x ∈ l, x ∈ C.dsk.pend) (s : Nat) (hs : s < area (C.cks + 1) ∨ area (C.cks + 1) + 20 ≤ s) : (applyW C.dsk.dur l).getD s [] = C.dsk.dur.getD s [] :=
  applyW_miss _ _ _ fun y hy e => by have := h.pn y (hl y hy); omega
theorem zer_hd : hdN (List.replicate 32 (0 : Int)) = 0 ∧ (List.replicate 32 (0 : Int)).getD 3 0 = 0 := ⟨rfl, rfl⟩
theorem newC_rep (n s : Nat) (h : s < 42) : (newC n).dsk.dur.getD s [] = List.replicate 32 0 := by
  show (List.replicate 42 (List.replicate 32 (0 : Int))).getD s [] = _
  simp only [List.getD]
  rw [List.getElem?_replicate, if_pos h]; rfl
theorem CI.new (n : Nat) : CI (newC n) [] [] where
  ents := rfl
  wok := fun j _ => by rw [List.take_nil]; exact WOk.nil
  key := fun u hu => by cases hu
  dl := List.length_replicate ..
  byt := BytD.new 42
  hd1 := by rw [newC_rep _ _ (by show 0 % 2 < 42; decide)]; exact zer_hd.1
  hdc := by rw [newC_rep _ _ (by show 0 % 2 < 42; decide)]; exact zer_hd.2
  hd2 := by rw [newC_rep _ _ (by show (0 + 1) % 2 < 42; decide)]; exact Int.le_of_eq zer_hd.1
  hd0 := fun _ => rfl
  ar := fun i hi => by cases hi
  pn := fun x hx => by cases hx
  nx := .inl ⟨rfl, rfl⟩
/-- The log alone has changed. -/
theorem CI.log (h : CI C base us) (L : Log) : CI { C with log := L } base us := ⟨h.ents, h.wok, h.key, h.dl, h.byt, h.hd1, h.hdc, h.hd2, h.hd0, h.ar, h.pn, h.nx⟩
theorem CI.put (h : CI C base us) (L : Log) (u : ByteArray × ByteArray) (h0 : 1 ≤ u.1.size) (h1 : u.1.size ≤ 12) (h2 : u.2.size ≤ 12) (hf : fullL C.ents u = false) : CI { C with log := L, ents := apL C.ents u } base (us ++ [u]) where
  ents := by show apL C.ents u = _; rw [List.foldl_append, ← h.ents]; rfl
  wok := fun j hj => by
    rw [List.length_append, List.length_singleton] at hj
    by_cases e : j ≤ us.length
    · rw [List.take_append_of_le_length e]; exact h.wok j e
    · rw [List.take_of_length_le (by rw [List.length_append, List.length_singleton]; omega), List.foldl_append, ← h.ents]
      exact h.ewok.ap u h1 h2 hf
  key := fun v hv => by
    rcases List.mem_append.1 hv with e | e
    · exact h.key v e
    · rw [List.mem_singleton.1 e]; exact ⟨h0, h1, h2⟩
  dl := h.dl
  byt := h.byt
  hd1 := h.hd1
  hdc := h.hdc
  hd2 := h.hd2
  hd0 := h.hd0
  ar := h.ar
  pn := h.pn
  nx := by
    rcases h.nx with e | ⟨m, h0, h1, h2, h3, h4, h5⟩
    · exact .inl e
    · exact .inr ⟨m, h0, by rw [List.length_append]; exact Nat.le_trans h1 (Nat.le_add_right _ _), by rw [List.take_append_of_le_length h1]; exact h2, h3, h4, h5⟩
theorem CI.begin (h : CI C base us) (hn : C.next < 0) : CI { C with pend := C.ents, next := 0, cov := us.length } base us := by
  have hp : C.dsk.pend = [] := by
    rcases h.nx with e | ⟨m, h0, _⟩
    · exact e.2
    · omega
  exact ⟨h.ents, h.wok, h.key, h.dl, h.byt, h.hd1, h.hdc, h.hd2, h.hd0, h.ar, h.pn, .inr ⟨0, rfl, Nat.le_refl _, by rw [List.take_length]; exact h.ents, Nat.zero_le _, by show C.dsk.pend.length = 0; rw [hp]; rfl, fun i _ hi => absurd hi (Nat.not_lt_zero _)⟩⟩
theorem wk_key {l : Ws} (h : WOk l) {i : Nat} (hi : i < l.length) : l[i].1.size ≤ 12 ∧ l[i].2.size ≤ 12 := h.key _ (List.getElem_mem hi)
theorem CI.pwok (h : CI C base us) (hn : ¬ C.next < 0) : WOk C.pend := by
  rcases h.nx with e | ⟨m, h0, h1, h2, _⟩
  · omega
  · rw [h2]; exact h.wok _ h1
theorem CI.step1 (h : CI C base us) (m : Nat) (hm : C.next = (m : Int)) (hm2 : m < C.pend.length) : CI (C.step1 (C.pend[m]'hm2)) base us := by
  obtain ⟨m', h0, h1, h2, h3, h4, h5⟩ := h.nx.resolve_left fun e => by omega
  obtain rfl : m' = m := by omega
  have hw := h.pwok (by omega)
  have hk := wk_key hw hm2
  have hl := hw.len
  have hb := area_bd (C.cks + 1)
  have hrl : (recE (C.pend[m']'hm2)).length ≤ 32 := by rw [recE_len]; omega
  have en : C.next.toNat = m' := by omega
  have ed : (C.step1 (C.pend[m']'hm2)).dsk = C.dsk.write (area (C.cks + 1) + m') (recE (C.pend[m']'hm2)) := by unfold Ck.step1; rw [en]
  have hlt : area (C.cks + 1) + m' < C.dsk.dur.length := by rw [h.dl]; omega
  refine ⟨h.ents, h.wok, h.key, by rw [ed]; exact h.dl, by rw [ed]; exact h.byt.write hlt hrl (recE_isB _ hk.1 hk.2), by rw [ed]; exact h.hd1, by rw [ed]; exact h.hdc, by rw [ed]; exact h.hd2, h.hd0, by rw [ed]; exact h.ar, ?_, ?_⟩
  · rw [ed]
    intro x hx
    rcases List.mem_append.1 hx with e | e
    · exact h.pn x e
    · rw [List.mem_singleton.1 e]
      show area (C.cks + 1) ≤ area (C.cks + 1) + m' ∧ area (C.cks + 1) + m' < area (C.cks + 1) + 20
      omega
  · refine .inr ⟨m' + 1, ?_, h1, h2, hm2, ?_, fun i hi him => ?_⟩
    · show C.next + 1 = _; omega
    · rw [ed]
      show (C.dsk.pend ++ [_]).length = _
      rw [List.length_append, List.length_singleton, h4]
    · rw [ed]
      show (C.dsk.write _ _).read (area (C.cks + 1) + i) = _
      rw [read_write _ _ _ _ hlt]
      by_cases e : area (C.cks + 1) + m' = area (C.cks + 1) + i
      · obtain rfl : m' = i := by omega
        rw [if_pos rfl]; rfl
      · rw [if_neg e]; exact h5 i hi (by omega)
theorem hdr_pad (n c : Nat) : hdN (pad (hdrB n c)) = (n : Int) ∧ (pad (hdrB n c)).getD 3 0 = (c : Int) := ⟨hdrB_N n c _, rfl⟩
theorem CI.done (h : CI C base us) (L : Log) (hm : C.next = (C.pend.length : Int)) (hck : C.cks < 1000000) : CI (C.done L) C.pend (us.drop C.cov) := by
  obtain ⟨m, h0, h1, h2, h3, h4, h5⟩ := h.nx.resolve_left fun e => by omega
  obtain rfl : m = C.pend.length := by omega
  have hw := h.pwok (by omega)
  have hl := hw.len
  have hb := area_bd (C.cks + 1)
  have hb2 := area_bd C.cks
  have hfl : C.dsk.flush.dur.length = 42 := (applyW_len _ _).trans h.dl
  have hm2 : (C.cks + 1) % 2 < 2 := Nat.mod_lt _ (by decide)
  have rd : ∀ s, (C.done L).dsk.dur.getD s [] = if (C.cks + 1) % 2 = s then pad (hdrB (C.cks + 1) C.pend.length) else C.dsk.read s := fun s => by
    show (C.dsk.flush.write ((C.cks + 1) % 2) (hdrB (C.cks + 1) C.pend.length)).read s = _
    rw [read_write _ _ _ _ (by rw [hfl]; omega)]
    rfl
  have e2 : ((C.cks + 1) + 1) % 2 = C.cks % 2 := by omega
  have hbw : BytD (C.dsk.flush.write ((C.cks + 1) % 2) (hdrB (C.cks + 1) C.pend.length)) := h.byt.flush.write (by rw [hfl]; omega) (by rw [hdrB_len]; decide) (hdrB_isB _ _ (by omega) hl)
  refine ⟨?_, fun j hj => ?_, fun u hu => h.key u (List.mem_of_mem_drop hu), ?_, hbw.flush, ?_, ?_, ?_, ?_, fun i hi => ?_, (fun x hx => (by cases hx)), .inl ⟨rfl, rfl⟩⟩
  · show C.ents = _
    rw [h.ents, h2, ← List.foldl_append, List.take_append_drop]
  · rw [List.length_drop] at hj
    have := h.wok (C.cov + j) (by omega)
    rw [List.take_add, List.foldl_append, ← h2] at this
    exact this
  · show (C.dsk.flush.write _ _).flush.dur.length = 42
    exact (applyW_len _ _).trans hfl
  · rw [rd]
    show hdN (if (C.cks + 1) % 2 = (C.cks + 1) % 2 then _ else _) = _
    rw [if_pos rfl]; exact (hdr_pad _ _).1
  · rw [rd]
    show (if (C.cks + 1) % 2 = (C.cks + 1) % 2 then pad (hdrB (C.cks + 1) C.pend.length) else C.dsk.read ((C.cks + 1) % 2)).getD 3 0 = _
    rw [if_pos rfl]; exact (hdr_pad _ _).2
  · rw [rd]
    show hdN (if (C.cks + 1) % 2 = (C.cks + 1 + 1) % 2 then _ else _) ≤ ((C.cks + 1 - 1 : Nat) : Int)
    rw [if_neg (by omega), show ((C.done L).cks + 1) % 2 = C.cks % 2 from e2]
    show hdN ((applyW C.dsk.dur C.dsk.pend).getD (C.cks % 2) []) ≤ _
    rw [h.same _ (fun x hx => hx) _ (.inl (by omega)), h.hd1]
    omega
  · intro e; exact absurd e (Nat.succ_ne_zero _)
  · rw [rd]
    show (if (C.cks + 1) % 2 = area (C.cks + 1) + i then _ else C.dsk.read (area (C.cks + 1) + i)) = _
    rw [if_neg (by omega)]
    exact h5 i hi hi
/-- What a crash finds. -/
theorem CI.found (h : CI C base us) (sv : List Bool) : hdr2 (C.dsk.crash sv) = ((C.cks : Int), (base.length : Int)) ∧ ∀ i (hi : i < base.length), (C.dsk.crash sv).read (area C.cks + i) = pad (recE base[i]) := by
  have hb := area_bd (C.cks + 1)
  have hb2 := area_bd C.cks
  have hl := h.bwok.len
  have rd : ∀ s, s < area (C.cks + 1) ∨ area (C.cks + 1) + 20 ≤ s → (C.dsk.crash sv).read s = C.dsk.dur.getD s [] := fun s hs => h.same _ (fun x hx => Dk.mem_surv (Nat.le_refl _) hx) s hs
  refine ⟨?_, fun i hi => ?_⟩
  · unfold hdr2
    rw [rd 0 (.inl (by omega)), rd 1 (.inl (by omega))]
    have a1 := h.hd1
    have a2 := h.hdc
    have a3 := h.hd2
    by_cases he : C.cks % 2 = 0
    · rw [he] at a1 a2
      rw [show (C.cks + 1) % 2 = 1 by omega] at a3
      rw [if_neg (by omega), a1, a2]
    · rw [show C.cks % 2 = 1 by omega] at a1 a2
      rw [show (C.cks + 1) % 2 = 0 by omega] at a3
      rw [if_pos (by omega), a1, a2]
  · have := area_ne C.cks
    rw [rd _ (by omega)]
    exact h.ar i hi
/-- .. and leaves. -/
theorem CI.crash (h : CI C base us) (sv : List Bool) (L : Log) (j : Nat) (hj : j ≤ us.length) : CI ⟨(us.take j).foldl apL base, L, C.dsk.crash sv, C.cks, [], -1, C.cov⟩ base (us.take j) := by
  have hb := area_bd (C.cks + 1)
  have hb2 := area_bd C.cks
  have hl := h.bwok.len
  have hm : ∀ n : Nat, n % 2 < 2 := fun n => Nat.mod_lt _ (by decide)
  have rd : ∀ s, s < area (C.cks + 1) ∨ area (C.cks + 1) + 20 ≤ s → (C.dsk.crash sv).dur.getD s [] = C.dsk.dur.getD s [] := fun s hs => h.same _ (fun x hx => Dk.mem_surv (Nat.le_refl _) hx) s hs
  have hjl : (us.take j).length = j := by rw [List.length_take]; omega
  refine ⟨rfl, fun k hk => ?_, fun u hu => h.key u (List.mem_of_mem_take hu), (applyW_len _ _).trans h.dl, h.byt.crash sv, ?_, ?_, ?_, h.hd0, fun i hi => ?_, fun x hx => (by cases hx), .inl ⟨rfl, rfl⟩⟩
  · rw [hjl] at hk
    rw [List.take_take, Nat.min_eq_left hk]
    exact h.wok k (by omega)
  · have := hm C.cks
    rw [rd _ (.inl (by show C.cks % 2 < _; omega))]; exact h.hd1
  · have := hm C.cks
    rw [rd _ (.inl (by show C.cks % 2 < _; omega))]; exact h.hdc
  · have := hm (C.cks + 1)
    rw [rd _ (.inl (by show (C.cks + 1) % 2 < _; omega))]; exact h.hd2
  · have := area_ne C.cks
    rw [rd _ (by show area C.cks + i < _ ∨ _ ≤ area C.cks + i; omega)]
    exact h.ar i hi
end
/-- Fewer keys than the store holds: never full. -/
theorem notfull_log {n i d : Nat} {L : Log} {rs : List (List Int)} (h : St n i L d rs) (m : Nat) (hm : (Wl.flat rs).length + 2 + m + 40 ≤ 20 * (n - 2)) : L.full m = false := by
  obtain ⟨R, S, o, _⟩ := h.ok
  have h1 := o.en
  have h2 := h.dur
  unfold Wl.Log.full
  refine decide_eq_false fun hx => ?_
  have hx' := hx
  unfold Wl.Log.bl at hx'
  rw [h2] at hx'
  omega
end Go.Proofs.Ytmaeeidaegigcaa.Ck

/- The law's replay. -/
namespace Go.Proofs.Ytmaeeidaegigcaa.Ck
open Go Go.RowKit Hp So
set_option linter.unusedVariables false

theorem bsr_any (v : Value) (l : Ws) (t : ByteArray) (w : World) (h : w.ownsRow 0 62 2 v l.length (ec l)) (hs : WOk l) (ht : t.size ≤ 12) :
    Calls Try.prog 56 #[v, .string t, .func (.func 57) #[] #[]] w fun e w' => e = .returned (.tuple #[.int .i64 (pos l t : Nat), .bool (has l t)]) ∧ Up w w' := by
  have hl := hs.len
  refine (bs2_any v l.length (ec l) (fun i => (l.getD i (t, ByteArray.empty)).1) (fun i => .string (l.getD i (t, ByteArray.empty)).2) t w h (by omega) (fun i hi => ?_) (mono_scmp hs.srt t (t, ByteArray.empty)) (fun i hi => ?_) (by omega)).mono ?_
  · have := ec_get l i hi
    rw [show l.getD i (t, ByteArray.empty) = l[i] by simp [List.getD, hi]]; exact this
  · have := hs.key _ (List.getElem_mem hi)
    show (l.getD i (t, ByteArray.empty)).1.size ≤ 1000
    rw [show l.getD i (t, ByteArray.empty) = l[i] by simp [List.getD, hi]]; omega
  · rintro e w' ⟨i, h1, h2, h3, rfl, h4⟩
    obtain ⟨e1, e2⟩ := pos_get h1 h2 h3
    exact ⟨by rw [e1, ← e2], h4⟩
/-- What a replay holds at a round. -/
structure RepR (w : World) (v : Value) (l : Ws) (wr : World) : Prop where
  own : wr.ownsRow 0 62 2 v l.length (ec l)
  new : ∀ k, v.ownBlock = some k → w.heap.size ≤ k
  up : Up w wr
theorem RepR.mv {w wr W : World} {v : Value} {l : Ws} (h : RepR w v l wr) (hu : Up wr W) : RepR w v l W := ⟨own_up h.own hu, h.new, h.up.trans hu⟩
theorem set_key {l : Ws} {ps : Nat} {k x : ByteArray} (hp : ps < l.length) (he : l[ps].1 = k) : (ec l).set (ps * 2 + 1) (.string x) = ec (l.set ps (k, x)) := by rw [ec_set l ps hp x, he]
set_option maxRecDepth 100000 in
set_option maxHeartbeats 4000000 in
theorem replay_any (v : Value) (us : Ws) (w : World) (h : Src w 2 v us.length (ec us)) (hl : us.length ≤ 1000) (hup : ∀ u ∈ us, u.1.size ≤ 12 ∧ u.2.size ≤ 12) (hok : ∀ j, j ≤ us.length → WOk ((us.take j).foldl apL [])) :
    Calls Try.prog 40 #[v] w fun e w' => ∃ v', e = .returned v' ∧ Hid (w'.ownsRow 0 62 2 v' (us.foldl apL []).length (ec (us.foldl apL []))) ∧ Hid (Up w w') := by
  have HS := Lib.hid h
  have HUP := Lib.hid hup
  have HOK := Lib.hid hok
  obtain ⟨a, cap, rfl⟩ : ∃ a cap, v = .slice a us.length cap := by
    rcases h.2 with ⟨e, h0⟩ | ⟨b, off, c, e, _⟩
    · exact ⟨none, 0, by rw [h0]; exact e⟩
    · exact ⟨_, _, e⟩
  clear h hup hok
  go_enter Try.func40, Try.ntmps40
  go_wp2
  go_loopw [3, 10] (fun s3 s10 wr => ∃ k : Nat, k ≤ us.length ∧ s10 = .int .i64 k ∧ Hid (RepR w s3 ((us.take k).foldl apL []) wr)) (fun _ s10 _ => us.length - (intOf s10).toNat)
  case atStart => exact ⟨0, Nat.zero_le _, rfl, ⟨World.ownsRow_nil _ _ _ _, (fun k hk => (by cases hk)), Up.refl _⟩⟩
  case round =>
    obtain ⟨k, hk, rfl, HR⟩ := hrel
    obtain ⟨va, vc, rfl, _, _, _⟩ := own_form HR.out.own
    by_cases hlt : k < us.length
    · obtain ⟨b, off, hv, c1, c2⟩ : ∃ b off, a = some ⟨b, off, none⟩ ∧ At w b (off + k * 2) (.string us[k].1) ∧ At w b (off + (k * 2 + 1)) (.string us[k].2) := by
        rcases HS.out.2 with ⟨e, h0⟩ | ⟨b, off, c, e, _, _, hc⟩
        · omega
        · simp only [Value.slice.injEq] at e
          exact ⟨b, off, e.1, hc _ _ (ec_get us k hlt).1, hc _ _ (ec_get us k hlt).2⟩
      subst hv
      obtain ⟨u, hu⟩ : ∃ u, u = us[k] := ⟨_, rfl⟩
      have hku := HUP.out _ (List.getElem_mem hlt)
      rw [← hu] at c1 c2 hku
      have hap : Hid ((us.take (k + 1)).foldl apL [] = apL ((us.take k).foldl apL []) u) := by
        unfold Hid
        rw [List.take_add_one, List.getElem?_eq_getElem hlt, ← hu, List.foldl_append]
        rfl
      have HW := Lib.hid (HOK.out k hk)
      obtain ⟨l, hll⟩ : ∃ l, l = (us.take k).foldl apL [] := ⟨_, rfl⟩
      rw [← hll] at HR hap HW
      rw [← hll]
      have HLL := Lib.hid hll
      clear hll hu
      obtain ⟨key, x⟩ := u
      simp only at c1 c2 hku
      have d1 := (c1.grow HR.out.up).2
      have d2 := (c2.grow HR.out.up).2
      rw [← Nat.add_assoc] at d2
      have hlk : (k : Int) < (us.length : Int) := by omega
      clear c1 c2
      have hllen := HW.out.len
      obtain ⟨ps, hps⟩ : ∃ ps, ps = pos l key := ⟨_, rfl⟩
      obtain ⟨hb, hhb⟩ : ∃ hb, hb = has l key := ⟨_, rfl⟩
      have hple := pos_le l key
      rw [← hps] at hple
      have HBS : Hid (∀ W, Up wr W → Calls Try.prog 56 #[.slice va l.length vc, .string key, .func (.func 57) #[] #[]] W fun e w' => e = .returned (.tuple #[.int .i64 (ps : Int), .bool hb]) ∧ Up W w') := fun W hW => by
        have := bsr_any _ l key W (own_up HR.out.own hW) HW.out hku.1
        rw [hps, hhb]
        exact this
      have HPS := Lib.hid hps
      have HHB := Lib.hid hhb
      have hpi0 : (ps : Int) ≤ (l.length : Int) := by omega
      have hpi9 : (l.length : Int) ≤ 20 := by omega
      clear hps hhb hku
      go_upto_region 6 with (first
        | (go_at_call 56; refine (HBS.out _ ((Up.refl wr).alloc _)).mono ?_; rintro e w1 ⟨rfl, h1⟩; have U1 : Hid (Up wr w1) := ((Up.refl wr).alloc _).trans h1; have B1 := (Blk.new wr #[.string key, .string x] 62).up h1; have y0 := B1.cell 0; have y1 := B1.cell 1; have yl := B1.lt; have yf := B1.free 1; clear h1)
        | fail)
      rw [show (#[Value.string key, .string x].toList)[0]? = some (.string key) from rfl] at y0
      rw [show (#[Value.string key, .string x].toList)[1]? = some (.string x) from rfl] at y1
      have R1 := Lib.hid (HR.out.mv U1.out)
      clear d1 d2 B1
      have hbx : wr.heap.size < w1.heap.size := yl
      generalize wr.heap.size = bx at *
      cases hb with
      | true =>
        obtain ⟨hp, he⟩ := has_pos HHB.out.symm
        rw [← HPS.out] at hp
        have hpi : (ps : Int) < (l.length : Int) := by omega
        by_cases hx : x = ByteArray.empty
        · have HA : Hid (apL l (key, x) = l.take ps ++ l.drop (ps + 1)) := by unfold Hid apL; rw [if_pos HHB.out.symm, if_pos hx, HPS.out]
          have HDEL : Hid (Calls Try.prog 59 #[.slice va l.length vc, .int .i64 (ps : Int), .int .i64 ((ps : Int) + 1)] w1 fun e w' => ∃ v3, e = .returned v3 ∧ Hid (RepR w v3 (apL l (key, x)) w')) := by
            refine (del_any _ l.length ps (ec l) w1 R1.out.own hp (by omega) (ec_one l)).mono ?_
            rintro e w' ⟨v3, rfl, h1, h2, h3⟩
            have e0 : (apL l (key, x)).length = l.length - 1 := by rw [HA.out]; simp only [List.length_append, List.length_take, List.length_drop]; show min _ _ + _ = _; omega
            refine ⟨v3, rfl, ⟨?_, fun j hj => ?_, Below.grown R1.out.up h2 R1.out.up.size fun j hj => R1.out.new j hj⟩⟩
            · rw [e0, HA.out, ec_app]
              rw [ec_take, ec_drop] at h1
              exact h1
            · rw [h3] at hj
              exact R1.out.new j hj
          go_wp2_with (first
            | (go_at_call 59; refine HDEL.out.mono ?_; rintro e w3 ⟨v3, rfl, R3⟩)
            | fail)
          go_roundw
          case rel => exact ⟨k + 1, by omega, by go_num, by rw [hap.out]; exact R3⟩
          case measure => simp [intOf]; omega
        · have hxe := emp_no hx
          have HA : Hid (apL l (key, x) = l.set ps (key, x)) := by unfold Hid apL; rw [if_pos HHB.out.symm, if_neg hx, HPS.out]
          have he2 : l[ps].1 = key := by have h := HPS.out; subst h; exact he
          have EC := Lib.hid (set_key (x := x) hp he2)
          have EL : Hid (ps * 2 + 1 < (ec l).length) := by unfold Hid; rw [ec_len]; omega
          obtain ⟨g2, c2, hv2, hg1, hg2, hgl, hgc, hgf⟩ := own_some R1.out.own (by omega)
          simp only [Value.slice.injEq] at hv2
          obtain ⟨rfl, _, rfl⟩ := hv2
          have x1 := hgc _ _ (ec_get l ps hp).2
          have f1 := hgf (ps * 2 + 1)
          clear he he2 hgc hgf
          have hpi2 : (ps : Int) * 2 ≤ 2000 := by omega
          go_wp2
          go_roundw
          case rel =>
            refine ⟨k + 1, by omega, by go_num, ?_⟩
            have o2 := own_set R1.out.own (ps * 2 + 1) EL.out (.string x)
            rw [EC.out] at o2
            rw [hap.out, HA.out]
            exact ⟨by rw [List.length_set]; exact o2, R1.out.new, R1.out.up.set (R1.out.new g2 rfl) _ _ _⟩
          case measure => simp [intOf]; omega
      | false =>
        by_cases hx : x = ByteArray.empty
        · have HA : Hid (apL l (key, x) = l) := by unfold Hid apL; rw [if_neg (by rw [← HHB.out]; decide), if_pos hx]
          go_wp2
          go_roundw
          case rel => exact ⟨k + 1, by omega, by go_num, by rw [hap.out, HA.out]; exact R1⟩
          case measure => simp [intOf]; omega
        · have hxe := emp_no hx
          have HA : Hid (apL l (key, x) = l.take ps ++ (key, x) :: l.drop ps) := by unfold Hid apL; rw [if_neg (by rw [← HHB.out]; decide), if_neg hx, HPS.out]
          have HINS : Hid (∀ W, Up w1 W → Blk W w1.heap.size [.string key, .string x] 62 → Calls Try.prog 60 #[.slice va l.length vc, .int .i64 (ps : Int), .slice (some ⟨w1.heap.size, 0, none⟩) 1 1] W fun e w' => ∃ v3, e = .returned v3 ∧ Hid (RepR w v3 (apL l (key, x)) w')) := by
            intro W hU hB
            have R2 := R1.out.mv hU
            refine (ins_any _ l.length ps (ec l) [.string key, .string x] w1.heap.size W R2.own hple (by omega) hB rfl (fun e => by have := own_lt R1.out.own _ e; omega) (ec_one l) (ec_one [(key, x)])).mono ?_
            rintro e w' ⟨v3, rfl, h1, h2, h3⟩
            have e0 : (apL l (key, x)).length = l.length + 1 := by rw [HA.out]; simp only [List.length_append, List.length_take, List.length_cons, List.length_drop]; show min _ _ + _ = _; omega
            refine ⟨v3, rfl, ⟨?_, fun j hj => ?_, Below.grown R2.up h2 R2.up.size fun j hj => R2.new j hj⟩⟩
            · rw [e0, HA.out, ec_app, ec_cons]
              rw [ec_take, ec_drop] at h1
              simpa using h1
            · rcases h3 with h3 | ⟨g, h3, h4⟩
              · rw [h3] at hj
                exact R2.new j hj
              · rw [h3] at hj
                cases hj
                exact Nat.le_trans R2.up.size h4
          go_wp2_with (first
            | (go_at_call 60; refine (HINS.out _ ((Up.refl w1).alloc _) (Blk.new w1 #[.string key, .string x] 62)).mono ?_; rintro e w3 ⟨v3, rfl, R3⟩)
            | fail)
          go_roundw
          case rel => exact ⟨k + 1, by omega, by go_num, by rw [hap.out]; exact R3⟩
          case measure => simp [intOf]; omega
    · obtain rfl : k = us.length := by omega
      have R := HR.out
      rw [List.take_length] at R
      have RH := Lib.hid R
      go_wp2
      go_ret
      exact ⟨_, rfl, by rw [List.take_length]; exact RH.out.own, RH.out.up⟩
end Go.Proofs.Ytmaeeidaegigcaa.Ck
