/- Operations as cells; slices.DeleteFunc at operations. Printed by gen6/top2.py. -/
import Derived.Test.YtbimkciejfbodaaTsd
namespace Go.Proofs.Ytbimkciejfbodaa.In
open Go Go.RowKit Hp
set_option linter.unusedVariables false

/-! ### Rows of records of k cells -/
section
variable {α : Type} {k : Nat} {f : α → List Value}
theorem fm_len (hk : ∀ a, (f a).length = k) (l : List α) : (l.flatMap f).length = l.length * k := by
  induction l with
  | nil => simp
  | cons a l ih => rw [List.flatMap_cons, List.length_append, ih, hk, List.length_cons, Nat.add_mul, Nat.one_mul, Nat.add_comm]
theorem fm_take (hk : ∀ a, (f a).length = k) (l : List α) (i : Nat) : (l.flatMap f).take (i * k) = (l.take i).flatMap f := by
  induction l generalizing i with
  | nil => simp
  | cons a l ih => cases i with
    | zero => simp
    | succ i => rw [List.take_succ_cons, List.flatMap_cons, List.flatMap_cons, Nat.add_mul, Nat.one_mul, Nat.add_comm, ← hk a, List.take_length_add_append, hk a, ih]
theorem fm_drop (hk : ∀ a, (f a).length = k) (l : List α) (i : Nat) : (l.flatMap f).drop (i * k) = (l.drop i).flatMap f := by
  induction l generalizing i with
  | nil => simp
  | cons a l ih => cases i with
    | zero => simp
    | succ i => rw [List.drop_succ_cons, List.flatMap_cons, Nat.add_mul, Nat.one_mul, Nat.add_comm, ← hk a, List.drop_length_add_append, hk a, ih]
theorem fm_get (hk : ∀ a, (f a).length = k) (l : List α) (i j : Nat) (h : i < l.length) (hj : j < k) : (l.flatMap f)[i * k + j]? = (f l[i])[j]? := by
  induction l generalizing i with
  | nil => simp at h
  | cons a l ih => cases i with
    | zero => rw [List.flatMap_cons, Nat.zero_mul, Nat.zero_add, List.getElem?_append_left (by rw [hk]; exact hj)]; rfl
    | succ i =>
      rw [List.flatMap_cons, List.getElem?_append_right (by rw [hk, Nat.add_mul]; omega), hk, show (i + 1) * k + j - k = i * k + j by rw [Nat.add_mul]; omega, ih i (by simpa using h)]
      rfl
theorem fm_set (hk : ∀ a, (f a).length = k) (l : List α) (i j : Nat) (h : i < l.length) (hj : j < k) (u : Value) (a : α) (ha : f a = (f l[i]).set j u) : (l.flatMap f).set (i * k + j) u = (l.set i a).flatMap f := by
  induction l generalizing i with
  | nil => simp at h
  | cons b l ih => cases i with
    | zero => rw [List.flatMap_cons, Nat.zero_mul, Nat.zero_add, List.set_append_left _ _ (by rw [hk]; exact hj), List.set_cons_zero, List.flatMap_cons, ha]; rfl
    | succ i =>
      rw [List.flatMap_cons, List.set_append_right _ _ (by rw [hk, Nat.add_mul]; omega), hk, show (i + 1) * k + j - k = i * k + j by rw [Nat.add_mul]; omega, ih i (by simpa using h) (by simpa using ha), List.set_cons_succ, List.flatMap_cons]
theorem fm_same (l : List α) (i : Nat) (h : i < l.length) (a : α) (ha : f a = f l[i]) : (l.set i a).flatMap f = l.flatMap f := by
  induction l generalizing i with
  | nil => simp at h
  | cons b l ih => cases i with
    | zero => rw [List.set_cons_zero, List.flatMap_cons, List.flatMap_cons, ha]; rfl
    | succ i => rw [List.set_cons_succ, List.flatMap_cons, List.flatMap_cons, ih i (by simpa using h) (by simpa using ha)]
theorem fm_one (h1 : ∀ a, ∀ u ∈ f a, u.oneCell' = true) (l : List α) : ∀ u ∈ l.flatMap f, u.oneCell' = true := fun u hu => by
  obtain ⟨a, _, ha⟩ := List.mem_flatMap.1 hu
  exact h1 a u ha
end


def hp1 (h : Hop) : List Value := [.int .i64 (h.tx : Int), .int .i64 h.kind, .string h.key]
def hpC (l : List Hop) : List Value := l.flatMap hp1
theorem hpC_len (l : List Hop) : (hpC l).length = l.length * 3 := fm_len (k := 3) (fun _ => rfl) l
theorem hpC_one (l : List Hop) : ∀ u ∈ hpC l, u.oneCell' = true := fm_one (fun a u hu => by simp [hp1] at hu; rcases hu with rfl | rfl | rfl <;> rfl) l
theorem hpC_take (l : List Hop) (i : Nat) : (hpC l).take (i * 3) = hpC (l.take i) := fm_take (k := 3) (fun _ => rfl) l i
theorem hpC_drop (l : List Hop) (i : Nat) : (hpC l).drop (i * 3) = hpC (l.drop i) := fm_drop (k := 3) (fun _ => rfl) l i
theorem hpC_app (a b : List Hop) : hpC (a ++ b) = hpC a ++ hpC b := List.flatMap_append
theorem hpC_get (l : List Hop) (i : Nat) (h : i < l.length) : (hpC l)[i * 3]? = some (.int .i64 (l[i].tx : Int)) ∧ (hpC l)[i * 3 + 1]? = some (.int .i64 l[i].kind) ∧ (hpC l)[i * 3 + 2]? = some (.string l[i].key) :=
  ⟨(fm_get (k := 3) (f := hp1) (fun _ => rfl) l i 0 h (by decide)).trans rfl, (fm_get (k := 3) (f := hp1) (fun _ => rfl) l i 1 h (by decide)).trans rfl, (fm_get (k := 3) (f := hp1) (fun _ => rfl) l i 2 h (by decide)).trans rfl⟩
abbrev OpsO (w : World) (base : Nat) (v : Value) (l : List Hop) : Prop := w.ownsRow base 37 3 v l.length (hpC l)
theorem hops_own {w : World} {base : Nat} {v : Value} {l : List Hop} (h : OpsO w base v l) : Hops w v l :=
  own_arr h fun g hg hc i hi => ⟨hg, hc _ _ (hpC_get l i hi).1, hc _ _ (hpC_get l i hi).2.1, hc _ _ (hpC_get l i hi).2.2⟩
/-- A whole operation stored. -/
theorem hpC_put : ∀ (l : List Hop) (i : Nat) (x : Hop), (((hpC l).set (i * 3) (.int .i64 (x.tx : Int))).set (i * 3 + 1) (.int .i64 x.kind)).set (i * 3 + 2) (.string x.key) = hpC (l.set i x)
  | [], i, x => by simp [hpC]
  | a :: l, 0, x => by simp [hpC, hp1]
  | a :: l, i + 1, x => by
    have ih := hpC_put l i x
    unfold hpC at ih ⊢
    rw [List.set_cons_succ, List.flatMap_cons, List.flatMap_cons, ← ih]
    have e : ∀ (L : List Value) (k : Nat) (v : Value), (hp1 a ++ L).set ((i + 1) * 3 + k) v = hp1 a ++ L.set (i * 3 + k) v := fun L k v => by
      rw [List.set_append_right _ _ (by simp [hp1]; omega)]
      congr 2
      simp [hp1]; omega
    have e0 : ∀ (L : List Value) (v : Value), (hp1 a ++ L).set ((i + 1) * 3) v = hp1 a ++ L.set (i * 3) v := fun L v => e L 0 v
    rw [e0, e, e]
/-- What the closure reads. -/
def TB (w : World) (tb pp : Nat) (e : List Bool) : Prop := At w tb 0 (.slice (some ⟨pp, 0, none⟩) e.length e.length) ∧ ∀ i, i < e.length → At w pp i (.bool (e.getD i false))
theorem TB.up {w w' : World} {tb p : Nat} {e : List Bool} (h : TB w tb p e) (hu : Up w w') : TB w' tb p e := ⟨h.1.grow hu, fun i hi => (h.2 i hi).grow hu⟩
theorem TB.chg {S : Nat → Prop} {w w' : World} {tb p : Nat} {e : List Bool} (h : TB w tb p e) (hc : Chg S w w') (h1 : ¬ S tb) (h2 : ¬ S p) : TB w' tb p e := ⟨h.1.chg hc h1, fun i hi => (h.2 i hi).chg hc h2⟩
set_option maxRecDepth 100000 in
set_option maxHeartbeats 1000000 in
theorem pr1_any (tb p : Nat) (e : List Bool) (W : World) (h : TB W tb p e) (t : Nat) (k : Int) (s : ByteArray) (ht : t < e.length) :
    Calls Try.prog 16 #[.agg #[.int .i64 (t : Int), .int .i64 k, .string s], .pointer (some ⟨tb, 0, none⟩)] W fun x w' => x = .returned (.bool (e.getD t false)) ∧ Up W w' := by
  obtain ⟨⟨h1l, h1⟩, h2⟩ := h
  obtain ⟨h2l, h2⟩ := h2 t ht
  have hti : (t : Int) < (e.length : Int) := by omega
  generalize e.getD t false = b at *
  generalize e.length = n at *
  go_enter Try.func16, Try.ntmps16
  go_wp2
  go_ret
  exact ⟨rfl, (Up.refl W).alloc _⟩
/-- Every operation's transaction is there. -/
def CvS (e : List Bool) (cs : List Hop) : Prop := ∀ c ∈ cs, c.tx < e.length
def oldC (e : List Bool) (c : Hop) : Bool := e.getD c.tx false
theorem Try.zeroC : ∀ W, (zeroValue 37).run Try.prog W = .ok (.agg #[.int .i64 0, .int .i64 0, .string ByteArray.empty]) W := fun W => by
  obtain ⟨i0, hi0, hz0, hz1, hz2⟩ := info_parts Try.infoO
  simp [zeroValue, typeInfo, hi0, hz0, Sem.run_bind, Result.andThen]
theorem clr_own {W : World} {B g n cap i : Nat} {X : List Hop} (h : W.ownsRow B 37 3 (.slice (some ⟨g, 0, none⟩) n cap) n (hpC X)) (hX : X.length = n) (hi : i < n) :
    ∃ W', (∀ ty cc, (Builtin.clear_ #[26] ty #[.slice (some ⟨g, i * 3, none⟩) (n - i) cc]).run Try.prog W = .ok (.tuple #[]) W') ∧ W'.ownsRow B 37 3 (.slice (some ⟨g, 0, none⟩) i cap) i (hpC (X.take i)) ∧ W.grownBy W' (some g) := by
  obtain ⟨hx, h⟩ := h
  rcases h with ⟨h0, _⟩ | ⟨g', cap', cur, hv, hb, hg, hn, hc, hs, ht⟩
  · cases h0
  · simp only [Value.slice.injEq, Option.some.injEq, Addr.mk.injEq, and_true, true_and] at hv
    obtain ⟨rfl, rfl⟩ := hv
    have hlen : (hpC X).length = n * 3 := by rw [hpC_len, hX]
    refine ⟨_, fun ty cc => run_clear_k (P := Try.prog) W 26 37 ty (.agg #[.int .i64 0, .int .i64 0, .string ByteArray.empty]) 3 g (i * 3) (n - i) cc cur 37 Try.underlying26 Try.zeroC rfl (by omega) hg (by rw [hs]; omega) (zeroCells_one _ _ (by intro u hu; simp [Value.cells] at hu; rcases hu with rfl | rfl | rfl <;> rfl)), ?_, ?_⟩
    · have B2 := setRow_at W g cur (cur.toList.take (i * 3) ++ (Builtin.zeroCells (.agg #[.int .i64 0, .int .i64 0, .string ByteArray.empty] : Value).cells (n - i)).toList ++ cur.toList.drop (i * 3 + (n - i) * 3)).toArray 37 hg
      have hl2 : (cur.toList.take (i * 3)).length = i * 3 := by rw [List.length_take, Array.length_toList, hs]; show min _ _ = _; omega
      refine ⟨by rw [hpC_len, List.length_take, hX]; show min _ _ * 3 = _; rw [show min i n = i by omega], .inr ⟨g, cap, _, rfl, hb, B2, by omega, hc, ?_, ?_⟩⟩
      · simp only [List.size_toArray, List.length_append, hl2, List.length_drop, Array.length_toList, hs, zeroCells_size]
        rw [show (.agg #[.int .i64 0, .int .i64 0, .string ByteArray.empty] : Value).cells.size = 3 from rfl]
        omega
      · simp only [List.append_assoc]
        rw [List.take_append_of_le_length (by omega), List.take_take, Nat.min_self, ← hpC_take, ← ht, List.take_take]
        congr 1
        show i * 3 = min _ _
        omega
    · exact setRow_grown _ _ _ _ ⟨rfl, rfl, rfl, Nat.le_refl _, fun _ _ _ => rfl⟩ (.inl rfl)
/-- What DeleteFunc keeps. -/
def keepC (e : List Bool) (cs : List Hop) : List Hop := cs.filter fun c => !oldC e c
theorem keep_take (e : List Bool) (cs : List Hop) (j : Nat) (h : j < cs.length) : keepC e (cs.take (j + 1)) = keepC e (cs.take j) ++ if oldC e cs[j] then [] else [cs[j]] := by
  unfold keepC
  rw [List.take_succ_eq_append_getElem h, List.filter_append]
  congr 1
  cases hpk : oldC e cs[j] <;> simp [hpk]
theorem keep_all {e : List Bool} {cs : List Hop} (h : ∀ j (h : j < cs.length), oldC e cs[j] = false) : keepC e cs = cs := by
  unfold keepC
  rw [List.filter_eq_self]
  intro r hr
  obtain ⟨j, hj, rfl⟩ := List.getElem_of_mem hr
  simp [h j hj]
def DelPost (B : Nat) (e : List Bool) (v : Value) (cs : List Hop) (w : World) (x : Ending) (w' : World) : Prop := ∃ v', x = .returned v' ∧ w'.ownsRow B 37 3 v' (keepC e cs).length (hpC (keepC e cs)) ∧ Chg (fun j => v.ownBlock = some j) w w' ∧ ∀ k, v'.ownBlock = some k → v.ownBlock = some k
/-- The loop's state: the first i are kept, from j on the row is as it was. -/
structure DelS (w wr : World) (tb pp : Nat) (B : Nat) (e : List Bool) (v : Value) (cs X : List Hop) (i j : Nat) : Prop where
  ij : i < j
  jn : j ≤ cs.length
  xn : X.length = cs.length
  tk : X.take i = keepC e (cs.take j)
  dr : X.drop j = cs.drop j
  ow : wr.ownsRow B 37 3 v cs.length (hpC X)
  ch : Chg (fun k => v.ownBlock = some k) w wr
  tt : TB wr tb pp e
set_option maxRecDepth 100000 in
set_option maxHeartbeats 2000000 in
theorem ixc_any (tb pp : Nat) (e0 : List Bool) (B : Nat) (v : Value) (cs : List Hop) (w : World) (ht : TB w tb pp e0) (hown : w.ownsRow B 37 3 v cs.length (hpC cs)) (hw : CvS e0 cs) (hl : cs.length ≤ 1000) :
    Calls Try.prog 40 #[v, .func (.func 16) #[] #[.pointer (some ⟨tb, 0, none⟩)]] w fun e w' => e = .returned (.int .i64 (idx (oldC e0) cs)) ∧ Up w w' := by
  have HO := Lib.hid hown
  have HWV := Lib.hid hw
  have HP := Lib.hid ht
  obtain ⟨a, cap, rfl, _, _, _⟩ := own_form hown
  clear hown hw ht
  go_enter Try.func40, Try.ntmps40
  go_wp2
  go_loopw [8] (fun iv wr => ∃ k : Nat, k ≤ cs.length ∧ iv = .int .i64 k ∧ Hid (Up w wr) ∧ Hid (∀ j (h : j < cs.length), j < k → oldC e0 cs[j] = false)) (fun iv _ => cs.length - (intOf iv).toNat)
  case atStart => exact ⟨0, by omega, rfl, Up.refl _, fun j h hj => by omega⟩
  case round =>
    obtain ⟨k, hk, rfl, HU, HN⟩ := hrel
    by_cases hlt : k < cs.length
    · obtain ⟨g, cap', hv, _, _, hgl, hc, _⟩ := own_some (own_up HO.out HU.out) (by omega)
      simp only [Value.slice.injEq] at hv
      obtain ⟨rfl, _, rfl⟩ := hv
      obtain ⟨g0, g1, g2⟩ := hpC_get cs k hlt
      have hwv := HWV.out _ (List.getElem_mem hlt)
      have e0' := hc _ _ g0
      have e1 := hc _ _ g1
      have e2 := hc _ _ g2
      have HONE : Hid (∀ W, Up wr W → Calls Try.prog 16 #[.agg #[.int .i64 (cs[k].tx : Int), .int .i64 cs[k].kind, .string cs[k].key], .pointer (some ⟨tb, 0, none⟩)] W fun e w' => e = .returned (.bool (oldC e0 cs[k])) ∧ Up W w') := fun W h => pr1_any tb pp e0 W ((HP.out.up HU.out).up h) _ _ _ hwv
      have bk : (k : Int) < (cs.length : Int) := by omega
      have HT : Hid (∀ (h : k < cs.length), oldC e0 cs[k] = true → idx (oldC e0) cs = (k : Int)) := fun h he => idx_hit h he HN.out
      have HF : Hid (oldC e0 cs[k] = false → ∀ j (h : j < cs.length), j < k + 1 → oldC e0 cs[j] = false) := fun he j h hj => by
        rcases Nat.lt_or_ge j k with h1 | h1
        · exact HN.out j h h1
        · obtain rfl : j = k := by omega
          exact he
      cases hd : oldC e0 cs[k] with
      | true =>
        rw [hd] at HONE
        have HE := Lib.hid (HT.out hlt hd)
        generalize cs[k].tx = ct at *
        generalize cs[k].kind = kd at *
        generalize cs[k].key = x at *
        clear hc g0 g1 g2 hwv hd HT HF
        go_wp2_with (first
          | (go_at_call 16; refine (HONE.out _ ((Up.refl _).alloc _)).mono ?_; rintro e w2 ⟨rfl, h2⟩; have U2 := Lib.hid (HU.out.trans (((Up.refl _).alloc _).trans h2)); clear h2)
          | (go_at_call 16; refine (HONE.out _ (Up.refl _)).mono ?_; rintro e w2 ⟨rfl, h2⟩; have U2 := Lib.hid (HU.out.trans h2); clear h2)
          | fail)
        go_ret
        exact ⟨by rw [HE.out]; rfl, U2.out⟩
      | false =>
        rw [hd] at HONE
        have HE := Lib.hid (HF.out hd)
        generalize cs[k].tx = ct at *
        generalize cs[k].kind = kd at *
        generalize cs[k].key = x at *
        clear hc g0 g1 g2 hwv hd HT HF
        go_wp2_with (first
          | (go_at_call 16; refine (HONE.out _ ((Up.refl _).alloc _)).mono ?_; rintro e w2 ⟨rfl, h2⟩; have U2 := Lib.hid (HU.out.trans (((Up.refl _).alloc _).trans h2)); clear h2)
          | (go_at_call 16; refine (HONE.out _ (Up.refl _)).mono ?_; rintro e w2 ⟨rfl, h2⟩; have U2 := Lib.hid (HU.out.trans h2); clear h2)
          | fail)
        go_roundw
        case rel => exact ⟨k + 1, by omega, by go_num, U2.out, HE.out⟩
        case measure => simp [intOf]; omega
    · obtain rfl : k = cs.length := by omega
      have HE : Hid (idx (oldC e0) cs = -1) := idx_miss fun j h => HN.out j h h
      go_wp2
      go_ret
      exact ⟨by rw [HE.out]; rfl, HU.out⟩
set_option maxRecDepth 100000 in
set_option maxHeartbeats 4000000 in
theorem delf_any (tb pp : Nat) (e0 : List Bool) (B : Nat) (v : Value) (cs : List Hop) (w : World) (ht : TB w tb pp e0) (hfar : v.ownBlock ≠ some tb ∧ v.ownBlock ≠ some pp) (hown : w.ownsRow B 37 3 v cs.length (hpC cs)) (hw : CvS e0 cs) (hl : cs.length ≤ 1000) :
    Calls Try.prog 15 #[v, .func (.func 16) #[] #[.pointer (some ⟨tb, 0, none⟩)]] w (DelPost B e0 v cs w) := by
  have HIX := Lib.hid (ixc_any tb pp e0 B v cs w ht hown hw hl)
  have HO := Lib.hid hown
  have HWV := Lib.hid hw
  have HP := Lib.hid ht
  have HFAR := Lib.hid hfar
  rcases Decidable.em (∀ j (h : j < cs.length), oldC e0 cs[j] = false) with hn | hn
  · rw [idx_miss (p := oldC e0) hn] at HIX
    have HK := Lib.hid (keep_all hn)
    obtain ⟨a, cap, rfl, _, _, _⟩ := own_form hown
    clear hown hw ht hn hfar
    go_enter Try.func15, Try.ntmps15
    go_wp2_with (first
      | (go_at_call 40; refine HIX.out.mono ?_; rintro e w2 ⟨rfl, h2⟩; have H2 := Lib.hid h2; clear h2)
      | fail)
    go_ret
    exact ⟨_, rfl, by rw [HK.out]; exact own_up HO.out H2.out, Below.chg _ H2.out, fun k hk => hk⟩
  · have hany : ∃ i0 : Nat, idx (oldC e0) cs = (i0 : Int) ∧ ∃ h : i0 < cs.length, oldC e0 cs[i0] = true ∧ ∀ j (hj : j < cs.length), j < i0 → oldC e0 cs[j] = false := by
      cases hf : cs.findIdx? (oldC e0) with
      | none =>
        rw [List.findIdx?_eq_none_iff] at hf
        exact absurd (fun j hj => by simpa using hf _ (List.getElem_mem hj)) hn
      | some i =>
        have hf2 := hf
        rw [List.findIdx?_eq_some_iff_getElem] at hf
        obtain ⟨h1, h2, h3⟩ := hf
        exact ⟨i, by unfold idx; rw [hf2], h1, h2, fun j hj hji => by simpa using h3 j hji⟩
    obtain ⟨i0, hi0, hil, hpi, hbf⟩ := hany
    rw [hi0] at HIX
    obtain ⟨g, cap, rfl, hc1, hc2, hgl, _, _⟩ := own_some hown (by omega)
    have S0 : Hid (∀ w2, Up w w2 → DelS w w2 tb pp B e0 (.slice (some ⟨g, 0, none⟩) cs.length cap) cs cs i0 (i0 + 1)) := fun w2 h2 => ⟨Nat.lt_succ_self _, hil, rfl, by
        rw [keep_take e0 cs i0 hil, hpi, if_pos rfl, List.append_nil, keep_all (fun j hj => ?_)]
        rw [List.getElem_take]
        exact hbf j _ (by rw [List.length_take] at hj; omega), rfl, own_up HO.out h2, Below.chg _ h2, HP.out.up h2⟩
    have hw1 : IntKind.i64.wrap ((i0 : Int) + 1) = (i0 : Int) + 1 := IntWalk.i64_in _ (by omega)
    have hm1 : ¬ (i0 : Int) = -1 := by omega
    have hm2 : ((i0 : Int) == -1) = false := beq_eq_false_iff_ne.2 hm1
    clear hown hw ht hn hbf hi0 hpi hfar
    go_enter Try.func15, Try.ntmps15
    go_wp2_with (first
      | (go_at_call 40; refine HIX.out.mono ?_; rintro e w2 ⟨rfl, h2⟩; have S1 := Lib.hid (S0.out w2 h2); clear h2)
      | fail)
    clear hw1 hm1 hm2
    go_loopw [5, 6] (fun iv jv wr => ∃ i j : Nat, ∃ X, iv = .int .i64 i ∧ jv = .int .i64 j ∧ Hid (DelS w wr tb pp B e0 (.slice (some ⟨g, 0, none⟩) cs.length cap) cs X i j)) (fun _ jv _ => cs.length - (intOf jv).toNat)
    case atStart => exact ⟨i0, i0 + 1, cs, rfl, by go_num, S1.out⟩
    case round =>
      obtain ⟨i, j, X, rfl, rfl, HS⟩ := hrel
      have hij := HS.out.ij
      have hjn := HS.out.jn
      have hxn := HS.out.xn
      by_cases hlt : j < cs.length
      · have hjX : j < X.length := by omega
        have hel : X[j] = cs[j] := by
          have := HS.out.dr
          rw [List.drop_eq_getElem_cons hjX, List.drop_eq_getElem_cons hlt] at this
          exact (List.cons.inj this).1
        have OC : Hid (∀ W, Up wr W → ∀ q, q < cs.length → (∃ a b c, W.cell? ⟨g, q * 3, none⟩ = some a ∧ W.cell? ⟨g, q * 3 + 1, none⟩ = some b ∧ W.cell? ⟨g, q * 3 + 2, none⟩ = some c) ∧ W.frozen? ⟨g, q * 3, none⟩ = false ∧ W.frozen? ⟨g, q * 3 + 1, none⟩ = false ∧ W.frozen? ⟨g, q * 3 + 2, none⟩ = false) := fun W hu q hq => by
          obtain ⟨g', c', e, _, _, _, hcl, hz⟩ := own_some (own_up HS.out.ow hu) (by omega)
          simp only [Value.slice.injEq, Option.some.injEq, Addr.mk.injEq, and_true, true_and] at e
          obtain ⟨rfl, _⟩ := e
          obtain ⟨g0, g1, g2⟩ := hpC_get X q (by omega)
          exact ⟨⟨_, _, _, hcl _ _ g0, hcl _ _ g1, hcl _ _ g2⟩, hz _, hz _, hz _⟩
        obtain ⟨g', c', e, _, _, hgl', hcl, _⟩ := own_some HS.out.ow (by omega)
        simp only [Value.slice.injEq, Option.some.injEq, Addr.mk.injEq, and_true, true_and] at e
        obtain ⟨rfl, rfl⟩ := e
        obtain ⟨g0, g1, g2⟩ := hpC_get X j hjX
        rw [hel] at g0 g1 g2
        have hwv := HWV.out _ (List.getElem_mem hlt)
        have e0' := hcl _ _ g0
        have e1 := hcl _ _ g1
        have e2 := hcl _ _ g2
        have HONE : Hid (∀ W, Up wr W → Calls Try.prog 16 #[.agg #[.int .i64 (cs[j].tx : Int), .int .i64 cs[j].kind, .string cs[j].key], .pointer (some ⟨tb, 0, none⟩)] W fun e w' => e = .returned (.bool (oldC e0 cs[j])) ∧ Up W w') := fun W h => pr1_any tb pp e0 W (HS.out.tt.up h) _ _ _ hwv
        have bj : (j : Int) < (cs.length : Int) := by omega
        have bi : (i : Int) < (cs.length : Int) := by omega
        have KT := keep_take e0 cs j hlt
        have HXS := Lib.hid (hpC_put X i cs[j])
        cases hd : oldC e0 cs[j] with
        | true =>
          rw [hd] at HONE KT
          rw [if_pos rfl, List.append_nil] at KT
          have KT := Lib.hid KT
          generalize cs[j].tx = ct at *
          generalize cs[j].kind = kd at *
          generalize cs[j].key = x at *
          clear hcl g0 g1 g2 hwv hd hel HXS
          go_wp2_with (first
            | (go_at_call 16; refine (HONE.out _ ((Up.refl _).alloc _)).mono ?_; rintro e w2 ⟨rfl, h2⟩; have U2 := Lib.hid (((Up.refl wr).alloc _).trans h2); clear h2)
            | fail)
          go_roundw
          case rel => exact ⟨i, j + 1, X, rfl, by go_num, ⟨by omega, by omega, hxn, by rw [KT.out]; exact HS.out.tk, by have := HS.out.dr; rw [← List.drop_drop, ← List.drop_drop, this], own_up HS.out.ow U2.out, (HS.out.ch.trans (Below.chg (fun _ => False) U2.out) fun _ _ e => e.elim), HS.out.tt.up U2.out⟩⟩
          case measure => simp [intOf]; omega
        | false =>
          rw [hd] at HONE KT
          rw [if_neg (by decide)] at KT
          have KT := Lib.hid KT
          generalize hct : cs[j].tx = ct at *
          generalize hkd : cs[j].kind = kd at *
          generalize hky : cs[j].key = x at *
          clear hcl g0 g1 g2 hd hel
          have N0 := Lib.hid (At.new wr #[.int .i64 (ct : Int), .int .i64 kd, .string x] 37 0 (.int .i64 (ct : Int)) rfl)
          have N1 := Lib.hid (At.new wr #[.int .i64 (ct : Int), .int .i64 kd, .string x] 37 1 (.int .i64 kd) rfl)
          have N2 := Lib.hid (At.new wr #[.int .i64 (ct : Int), .int .i64 kd, .string x] 37 2 (.string x) rfl)
          go_wp2_with (first
            | (go_at_call 16; refine (HONE.out _ ((Up.refl _).alloc _)).mono ?_; rintro e w2 ⟨rfl, h2⟩; have U2 := Lib.hid (((Up.refl wr).alloc _).trans h2); have n0 := (N0.out.grow h2).2; have n1 := (N1.out.grow h2).2; have n2 := (N2.out.grow h2).2; obtain ⟨⟨ya, yb, yc, y0, y1, y2⟩, f0, f1, f2⟩ := OC.out w2 U2.out i (by omega); have gl2 : g < w2.heap.size := Nat.lt_of_lt_of_le hgl' U2.out.size; clear h2)
            | fail)
          go_roundw
          case rel =>
            refine ⟨i + 1, j + 1, X.set i cs[j], by go_num, by go_num, ⟨by omega, by omega, by rw [List.length_set]; exact hxn, ?_, ?_, ?_, ?_, ?_⟩⟩
            · rw [KT.out, ← HS.out.tk, List.take_succ_eq_append_getElem (by rw [List.length_set]; omega), List.take_set_of_le (Nat.le_refl _), List.getElem_set_self]
            · rw [List.drop_set_of_lt (by omega), ← List.drop_drop, HS.out.dr, List.drop_drop]
            · have O2 := own_up HS.out.ow U2.out
              have hlx := hpC_len X
              have O3 := own_set (own_set (own_set O2 (i * 3) (by omega) (.int .i64 (ct : Int))) (i * 3 + 1) (by rw [List.length_set]; omega) (.int .i64 kd)) (i * 3 + 2) (by rw [List.length_set, List.length_set]; omega) (.string x)
              rw [HXS.out] at O3
              exact O3
            · exact ((((HS.out.ch.trans (S' := fun _ => False) (Below.chg _ U2.out) fun _ _ e => e.elim).set (b := g) (.inl rfl) _ _ _).set (b := g) (.inl rfl) _ _ _).set (b := g) (.inl rfl) _ _ _)
            · have C : Chg (fun k => k = g) w2 (((w2.setCell ⟨g, i * 3, none⟩ (.int .i64 (ct : Int))).setCell ⟨g, i * 3 + 1, none⟩ (.int .i64 kd)).setCell ⟨g, i * 3 + 2, none⟩ (.string x)) := ((chg_set w2 g (i * 3) none _).set (.inl rfl) _ _ _).set (.inl rfl) _ _ _
              exact (HS.out.tt.up U2.out).chg C (fun e => HFAR.out.1 (by rw [e]; rfl)) (fun e => HFAR.out.2 (by rw [e]; rfl))
          case measure => simp [intOf]; omega
      · obtain rfl : j = cs.length := by omega
        obtain ⟨W', hcl, hown', hgr⟩ := clr_own HS.out.ow hxn hij
        have htk := HS.out.tk
        rw [List.take_of_length_le (Nat.le_refl _)] at htk
        rw [htk] at hown'
        have hkl : (keepC e0 cs).length = i := by rw [← htk, List.length_take]; show min _ _ = _; omega
        have HKL := Lib.hid hkl
        have HOW := Lib.hid hown'
        have HGR := Lib.hid hgr
        have b1 : (i : Int) ≤ (cs.length : Int) := by omega
        have b2 : (i : Int) ≤ (cap : Int) := by omega
        clear hown' hgr htk hkl
        go_wp2_with (first
          | (with_reducible refine wl_clear_run _ rfl (.tmp 38) 26 rfl _ rfl (hcl _ _) ?_)
          | fail)
        go_ret
        refine ⟨_, rfl, by rw [HKL.out]; exact HOW.out, (HS.out.ch.trans (S' := fun k => k = g) ((Chg.refl _ wr).grown HGR.out fun k hk => .inl (by cases hk; rfl)) fun _ _ e => by rw [e]; rfl), fun k hk => hk⟩
end Go.Proofs.Ytbimkciejfbodaa.In
