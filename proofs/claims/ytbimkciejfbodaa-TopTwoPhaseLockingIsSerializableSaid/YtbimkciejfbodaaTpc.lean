/- Strict two-phase locking in plain words: the scheduler's steps, its end. Printed by gen6/top3.py. -/
import Derived.Test.YtbimkciejfbodaaTpb
import Derived.Test.YtbimkciejfbodaaTse
namespace Go.Proofs.Ytbimkciejfbodaa.Lk
open Go Go.RowKit Hp
open In (Hop)
set_option linter.unusedVariables false

theorem set_same {α : Type} {l : List α} {t : Nat} {d : α} (h : t < l.length) : l.set t (l.getD t d) = l := by
  have e : l.getD t d = l[t] := by simp [List.getD, h]
  rw [e, List.set_getElem_self]
section
variable {n : Nat} {pr : Nat → List (Int × ByteArray)} {M : Mg} {ng : Nat} {nx : List Int} {ab : List Bool} {hi : List Hop} {co : List Int} {s : Nat}
theorem TI.abt (h : TI n pr M ng nx ab hi co s) {t : Nat} (ht : t < n) (hact : 0 ≤ nx.getD t 0) : ab.getD t false = false := by
  cases e : ab.getD t false with
  | false => rfl
  | true => have := h.al2 t ht e; omega
/-- What the release of t leaves of the others. -/
theorem rel_kp {M : Mg} (h : Inv M.gr M.qu) (t : Int) : Kp (fun u => u ≠ t) M ⟨(relM M t).1, (relM M t).2.1⟩ := ⟨(rel_keep h t).1, (rel_keep h t).2⟩
theorem phiv_end {l : Nat} {v : Int} {b b' : Bool} (hv : 0 ≤ v) (hl : b = true → v.toNat < l) : phiv l (-1) b' < phiv l v b := by
  unfold phiv
  rw [if_pos rfl, if_neg (by omega)]
  cases b with
  | false => simp
  | true => have := hl rfl; simp; omega
theorem TI.commit (h : TI n pr M ng nx ab hi co s) {t : Nat} (ht : t < n) (hact : 0 ≤ nx.getD t 0) : TI n pr ⟨(relM M (t : Int)).1, (relM M (t : Int)).2.1⟩ ng (nx.set t (-1)) ab hi (co ++ [(t : Int)]) (s + 1) := by
  have hr := rel_ok h.good.inv (t : Int)
  have key := h.gen ht hact (h.good.rel (t : Int)) (h.shp.rel h.good.inv (t : Int)) (v := -1) (.inl rfl)
    ⟨fun x hx hp => (rel_kp h.good.inv (t : Int)).g x hx (hp.resolve_right (by omega)), fun x hx hp => (rel_kp h.good.inv (t : Int)).q x hx (hp.resolve_right (by omega))⟩
    (fun x hx => .inl ⟨hr.ok.mem x hx, fun e => absurd e (hr.gone x hx)⟩) (b' := ab.getD t false) (fun _ => rfl) (.inr ⟨rfl, rfl, h.abt ht hact⟩) (.inl rfl)
    (fun tr0 h0 => ⟨false, fun e => (by cases e), phiv_end hact fun e => by obtain ⟨j, a, b, _⟩ := h0 e; omega⟩)
  rw [set_same (by rw [h.al]; exact ht), List.append_nil] at key
  exact key
/-- One request of t, behind its intention on the table. -/
theorem TI.two (h : TI n pr M ng nx ab hi co s) (hn : ng < 180) {t j : Nat} (ht : t < n) (h20 : n ≤ 5) (hj : nx.getD t 0 = (j : Int)) (hjl : j < (pr t).length) (hw : ¬ Waits M (t : Int)) (m : Int) (k : ByteArray) (hmk : (pr t)[j] = (m, k)) (hm0 : 1 ≤ m) (hm1 : m ≤ 2) (hk : k.size = 1) :
    ∃ M1, acqL M ⟨(t : Int), tT, ByteArray.empty, m + 2⟩ = (0, M1) ∧ Good M1 (ng + 1) ∧ ∃ r M2, acqL M1 ⟨(t : Int), tT, k, m⟩ = (r, M2) ∧ Good M2 (ng + 2) ∧
      ((r = 0 ∧ TI n pr M2 (ng + 2) (nx.set t ((j : Int) + 1)) ab (hi ++ [⟨t, m, k⟩]) co (s + 1)) ∨ (r = 16 ∧ TI n pr M2 (ng + 2) nx ab hi co (s + 1)) ∨
       (r = 14 ∧ M2 = M1 ∧ TI n pr ⟨(relM M1 (t : Int)).1, (relM M1 (t : Int)).2.1⟩ (ng + 2) (nx.set t (-1)) (ab.set t true) hi co (s + 1))) := by
  have hact : 0 ≤ nx.getD t 0 := by omega
  obtain ⟨M1, e1, i1, g1, s1⟩ := int_ok h.good (by omega) h.shp hw (t := (t : Int)) (m := m) (by omega) (by omega) hm0 hm1
  have hw1 : ¬ Waits M1 (t : Int) := fun ⟨q, hq, hq2⟩ => hw ⟨q, by rw [← i1.qu]; exact hq, hq2⟩
  obtain ⟨r, M2, e2, k2, g2, s2⟩ := key_ok g1 (by omega) s1 hw1 (t := (t : Int)) (m := m) (k := k) (by omega) (by omega) hm0 hm1 hk i1.has
  refine ⟨M1, e1, g1, r, M2, e2, g2, ?_⟩
  have kp2 : ∀ P : Int → Prop, Kp P M M2 := fun P => ⟨fun x hx _ => by
    obtain ⟨y, hy, a, b⟩ := i1.keep x hx
    obtain ⟨z, hz, c, d⟩ := k2.keep y hy
    exact ⟨z, hz, same_trans c a, cov_trans d b⟩, fun x hx _ => .inl (k2.qs x (by rw [i1.qu]; exact hx))⟩
  have kp1 : ∀ P : Int → Prop, Kp P M M1 := fun P => ⟨fun x hx _ => i1.keep x hx, fun x hx _ => .inl (by rw [i1.qu]; exact hx)⟩
  have mem1 : ∀ x ∈ M1.gr ++ M1.qu, x ∈ M.gr ++ M.qu ∨ x.tx = (t : Int) := fun x hx => by
    rcases List.mem_append.1 hx with e | e
    · rcases i1.new x e with e | e
      · exact .inl (List.mem_append_left _ e)
      · exact .inr e.1
    · rw [i1.qu] at e
      exact .inl (List.mem_append_right _ e)
  have mem2 : ∀ x ∈ M2.gr ++ M2.qu, x ∈ M.gr ++ M.qu ∨ x.tx = (t : Int) := fun x hx => by
    rcases k2.new x hx with e | e
    · exact mem1 x e
    · exact .inr e.1
  -- t has not asked in vain, where it holds what it asks for
  have hold : Has M (t : Int) (pr t)[j] → ∃ y ∈ M1.gr, y.tx = (t : Int) ∧ y.tab = tT ∧ y.key = k ∧ cov y.mode m = true := fun hh => by
    rw [hmk] at hh
    rcases hh with ⟨q, hq, q1, _⟩ | ⟨g, hg, a, b, c⟩
    · exact absurd ⟨q, hq, q1⟩ hw
    · obtain ⟨y, hy, sy, cy⟩ := i1.keep g hg
      obtain ⟨b1, b2, b3⟩ := same_iff.1 sy
      exact ⟨y, hy, b1.trans a, b2.trans (h.shp.tab g (List.mem_append_left _ hg)), b3.trans b, cov_trans cy c⟩
  have hphi : ∀ tr0 : Bool, phiv (pr t).length ((j : Int) + 1) false < phiv (pr t).length (nx.getD t 0) tr0 := fun tr0 => by
    rw [hj]
    unfold phiv
    rw [if_neg (show ¬ (j : Int) + 1 = -1 by omega), if_neg (show ¬ (j : Int) = -1 by omega), show ((j : Int) + 1).toNat = j + 1 by omega, Int.toNat_natCast]
    cases tr0 <;> simp <;> omega
  rcases k2.ans with ⟨rfl, a1, a2⟩ | ⟨rfl, a1⟩ | ⟨rfl, a1, a2, a3⟩
  · refine .inl ⟨rfl, ?_⟩
    have key := h.gen ht hact g2 s2 (v := (j : Int) + 1) (.inr ⟨j + 1, by omega, by omega⟩) (kp2 _) (fun x hx => by
        rcases mem2 x hx with e | e
        · exact .inl ⟨e, fun _ => by omega⟩
        · exact .inr ⟨e, by omega⟩) (b' := ab.getD t false) (fun e => by rw [h.abt ht hact] at e; cases e) (.inl ⟨rfl, fun e => by omega⟩)
        (new := [⟨t, m, k⟩]) (.inr ⟨_, rfl, rfl, by omega, by show m = 1 ∨ m = 2; omega, hk, a2⟩)
        (fun tr0 h0 => ⟨false, fun e => (by cases e), hphi tr0⟩)
    rw [set_same (by rw [h.al]; exact ht)] at key
    exact key
  · refine .inr (.inr ⟨rfl, a1, ?_⟩)
    have hr := rel_ok g1.inv (t : Int)
    have key := h.gen ht hact ((g1.rel (t : Int)).mono (m := ng + 2) (by omega)) (s1.rel g1.inv (t : Int)) (v := -1) (.inl rfl)
      ⟨fun x hx hp => by
        obtain ⟨y, hy, a, b⟩ := i1.keep x hx
        have hne : y.tx ≠ (t : Int) := by rw [(same_iff.1 a).1]; exact hp.resolve_right (by omega)
        obtain ⟨z, hz, c, d⟩ := (rel_kp g1.inv (t : Int)).g y hy hne
        exact ⟨z, hz, same_trans c a, cov_trans d b⟩, fun x hx hp => (rel_kp g1.inv (t : Int)).q x (by rw [i1.qu]; exact hx) (hp.resolve_right (by omega))⟩
      (fun x hx => by
        have hg := hr.gone x hx
        rcases mem1 x (hr.ok.mem x hx) with e | e
        · exact .inl ⟨e, fun k => absurd k hg⟩
        · exact absurd e hg) (b' := true) (fun _ => rfl) (.inl ⟨rfl, fun _ => rfl⟩) (.inl rfl)
      (fun tr0 h0 => ⟨false, fun e => (by cases e), phiv_end hact fun e => by obtain ⟨i, a, b, _⟩ := h0 e; omega⟩)
    rw [List.append_nil] at key
    exact key
  · refine .inr (.inl ⟨rfl, ?_⟩)
    have key := h.gen ht hact g2 s2 (v := nx.getD t 0) (.inr ⟨j, hj, by omega⟩) (kp2 _) (fun x hx => by
        rcases mem2 x hx with e | e
        · exact .inl ⟨e, fun _ => hact⟩
        · exact .inr ⟨e, hact⟩) (b' := ab.getD t false) (fun e => by rw [h.abt ht hact] at e; cases e) (.inl ⟨rfl, fun e => by omega⟩) (.inl rfl)
        (fun tr0 h0 => ⟨true, fun _ => ⟨j, hj, hjl, .inl (by rw [hmk]; exact a2)⟩, by
          have : tr0 = false := by
            cases tr0 with
            | false => rfl
            | true =>
              exfalso
              obtain ⟨i, b1, b2, b3⟩ := h0 rfl
              obtain rfl : i = j := by omega
              obtain ⟨y, hy, y1, y2, y3, y4⟩ := hold b3
              rw [a3 y hy y1 y2 y3] at y4; cases y4
          rw [this, hj]
          unfold phiv
          rw [if_neg (by omega), Int.toNat_natCast]
          simp <;> omega⟩)
    rw [set_same (by rw [h.nl]; exact ht), set_same (by rw [h.al]; exact ht), List.append_nil] at key
    exact key
/-- The steps are few. -/
theorem TI.few (h : TI n pr M ng nx ab hi co s) : s ≤ 65 := by
  obtain ⟨tr, h1, _⟩ := h.pot
  omega
/-! ### The end -/
def endN (nx : List Int) (n : Nat) : Nat := sumN n fun t => if nx.getD t 0 = -1 then 1 else 0
theorem endN_set {nx : List Int} {n t : Nat} (hl : nx.length = n) (ht : t < n) (ha : 0 ≤ nx.getD t 0) : endN (nx.set t (-1)) n = endN nx n + 1 := by
  have key := sumN_upd (n := n) (f := fun u => if nx.getD u 0 = -1 then 1 else 0) (g := fun u => if (nx.set t (-1)).getD u 0 = -1 then 1 else 0) ht fun u hu hne => by
    show (if (nx.set t (-1)).getD u 0 = -1 then 1 else 0) = if nx.getD u 0 = -1 then 1 else 0
    rw [getD_put (by omega), if_neg (Ne.symm hne)]
  have e1 : (if (nx.set t (-1)).getD t 0 = -1 then 1 else 0) = 1 := by rw [getD_put (by omega), if_pos rfl, if_pos rfl]
  have e2 : (if nx.getD t 0 = -1 then 1 else 0) = 0 := by rw [if_neg (by omega)]
  have key2 : endN (nx.set t (-1)) n + (if nx.getD t 0 = -1 then 1 else 0) = endN nx n + (if (nx.set t (-1)).getD t 0 = -1 then 1 else 0) := key
  rw [e1, e2] at key2
  exact key2
theorem endN_put {nx : List Int} {n t : Nat} (hl : nx.length = n) (ht : t < n) (ha : 0 ≤ nx.getD t 0) {v : Int} (hv : 0 ≤ v) : endN (nx.set t v) n = endN nx n := by
  refine sumN_congr fun u hu => ?_
  show (if (nx.set t v).getD u 0 = -1 then 1 else 0) = if nx.getD u 0 = -1 then 1 else 0
  rw [getD_put (by omega)]
  by_cases e : t = u
  · subst e
    rw [if_pos rfl, if_neg (by omega), if_neg (by omega)]
  · rw [if_neg e]
theorem endN_rep (n : Nat) : endN (List.replicate n 0) n = 0 := by
  have : ∀ m, sumN m (fun t => if (List.replicate n (0 : Int)).getD t 0 = -1 then 1 else 0) = 0 := fun m => by
    induction m with
    | zero => rfl
    | succ m ih =>
      unfold sumN
      rw [ih]
      show 0 + (if (List.replicate n (0 : Int)).getD m 0 = -1 then 1 else 0) = 0
      rw [getD_rep, if_neg (by omega)]
  exact this n
theorem endN_lt {nx : List Int} {n : Nat} (h : endN nx n < n) : ∃ t, t < n ∧ nx.getD t 0 ≠ -1 := by
  obtain ⟨t, h1, h2⟩ := sumN_lt h
  refine ⟨t, h1, fun e => ?_⟩
  have h3 : (if nx.getD t 0 = -1 then 1 else 0) = 0 := h2
  rw [if_pos e] at h3
  cases h3
theorem endN_all {nx : List Int} {n : Nat} (h : n ≤ endN nx n) : ∀ t, t < n → nx.getD t 0 = -1 := fun t ht => by
  have h3 : (if nx.getD t 0 = -1 then 1 else 0) = 1 := sumN_all (fun u _ => by
    show (if nx.getD u 0 = -1 then 1 else 0) ≤ 1
    split <;> omega) h t ht
  by_cases e : nx.getD t 0 = -1
  · exact e
  · rw [if_neg e] at h3; cases h3
theorem endN_le (nx : List Int) (n : Nat) : endN nx n ≤ n := by
  have := sumN_le (n := n) (B := 1) (f := fun t => if nx.getD t 0 = -1 then 1 else 0) fun t _ => by
    show (if nx.getD t 0 = -1 then 1 else 0) ≤ 1
    split <;> omega
  unfold endN
  omega
theorem idx_of {l : List Int} {x : Int} (hx : x ∈ l) : idx (fun y => decide (y = x)) l = (l.idxOf x : Nat) := by
  have h := List.idxOf_lt_length_of_mem hx
  refine idx_hit h (by simp) fun j hj hlt => ?_
  have := List.not_of_lt_findIdx (p := (· == x)) (xs := l) (i := j) hlt
  simpa using this
structure Done (H : List Hop) (co : List Int) : Prop where
  ok : In.HValid H
  edge : ∀ p ∈ In.cgr (In.cfN H H.length) 20, idx (fun y => decide (y = p.1)) co < idx (fun y => decide (y = p.2)) co
  ord : ∃ res, In.orderOf H = some res
theorem TI.done (h : TI n pr M ng nx ab hi co s) (hn : n ≤ 5) (hall : ∀ t, t < n → nx.getD t 0 = -1) : Done (In.keepC ab hi) co := by
  have hsub : ∀ x ∈ In.keepC ab hi, x ∈ hi ∧ ab.getD x.tx false = false := fun x hx => by
    have := List.mem_filter.1 hx
    refine ⟨this.1, ?_⟩
    have h2 := this.2
    unfold In.oldC at h2
    simpa using h2
  have hin : ∀ x ∈ In.keepC ab hi, (x.tx : Int) ∈ co := fun x hx => by
    obtain ⟨h1, h2⟩ := hsub x hx
    have h3 := (h.hok x h1).1
    exact h.fin x.tx h3 (hall _ h3) h2
  have hpw : (In.keepC ab hi).Pairwise (Ord ab co) := h.ord.sublist List.filter_sublist
  have hedge : ∀ u v, (u, v) ∈ In.cgr (In.cfN (In.keepC ab hi) (In.keepC ab hi).length) 20 → u ∈ co ∧ v ∈ co ∧ co.idxOf u < co.idxOf v := fun u v huv => by
    obtain ⟨i, j, hi', hj', hij, hc, rfl, rfl⟩ := In.cgr_pair (fun x hx => by
      have := (h.hok x (hsub x hx).1).1
      omega) huv
    have ha := List.getElem_mem hi'
    have hb := List.getElem_mem hj'
    have key := List.pairwise_iff_getElem.1 hpw i j hi' hj' hij hc (hsub _ ha).2 (hsub _ hb).2
    exact ⟨key.1, hin _ hb, key.2 (hin _ hb)⟩
  refine ⟨?_, fun p hp => ?_, In.order_some _ (fun u => (co.idxOf u : Nat)) fun u v huv => ?_⟩
  · have hl : (In.keepC ab hi).length ≤ 200 := by
      have h1 : (In.keepC ab hi).length ≤ hi.length := List.length_filter_le _ _
      have h2 := h.hl
      have h3 := h.few
      omega
    have key : ∀ i, i < (In.keepC ab hi).length → (In.keepC ab hi).getD i In.h0 ∈ hi := fun i hi' => (hsub _ (by simp [List.getD, hi'])).1
    exact ⟨hl, fun i hi' => (h.hok _ (key i hi')).2.1, fun i hi' => by have := (h.hok _ (key i hi')).1; omega, fun i hi' => by rw [(h.hok _ (key i hi')).2.2]; omega⟩
  · obtain ⟨u, v⟩ := p
    obtain ⟨h1, h2, h3⟩ := hedge u v hp
    rw [idx_of h1, idx_of h2]
    omega
  · obtain ⟨h1, h2, h3⟩ := hedge u v huv
    show ((co.idxOf u : Nat) : Int) < ((co.idxOf v : Nat) : Int)
    omega
end
end Go.Proofs.Ytbimkciejfbodaa.Lk
namespace Go.Proofs.Ytbimkciejfbodaa.In
open Go Go.RowKit Hp
theorem equalI_any (v v' : Value) (l l' : List (Int)) (w : World) (h : Arr IntR 1 w v l) (h' : Arr IntR 1 w v' l') :
    Calls Try.prog 20 #[v, v'] w fun e w' => e = .returned (.bool (decide (l = l'))) ∧ Up w w' := by
  obtain ⟨a, cap, rfl, h1, h2, _, h3⟩ := h
  obtain ⟨a', cap', rfl, h1', h2', _, h3'⟩ := h'
  have H3 := Lib.hid h3
  have H3' := Lib.hid h3'
  clear h3 h3'
  by_cases hn : l.length = l'.length
  · have hne : ((l.length : Int) != (l'.length : Int)) = false := by simp [hn]
    have hne2 : (l.length != l'.length) = false := by simp [hn]
    have hn1 : l.length ≤ l'.length := by omega
    have hn2 : l'.length ≤ l.length := by omega
    have HN := Lib.hid hn
    clear hn
    go_enter Try.func20, Try.ntmps20
    go_wp2
    go_loopw [13] (fun iv wr => ∃ k : Nat, k ≤ l.length ∧ iv = .int .i64 k ∧ (∀ j (h : j < l.length) (h' : j < l'.length), j < k → l[j] = l'[j]) ∧ Up w wr) (fun iv _ => l.length - (intOf iv).toNat)
    case atStart => exact ⟨0, by omega, rfl, fun j _ _ hj => by omega, Up.refl _⟩
    case round =>
      obtain ⟨k, hk, rfl, hb, hu⟩ := hrel
      have HB := Lib.hid hb
      clear hb
      by_cases hlt : k < l.length
      · obtain ⟨b, off, rfl, hr⟩ := H3.out k hlt
        obtain ⟨b', off', rfl, hr'⟩ := H3'.out k (by omega)
        have hd := intR_grows _ _ _ _ _ hr hu
        have hd' := intR_grows _ _ _ _ _ hr' hu
        have hlt' : k < l'.length := by omega
        obtain ⟨x, hx⟩ : ∃ x, x = l[k] := ⟨_, rfl⟩
        obtain ⟨x', hx'⟩ : ∃ x, x = l'[k] := ⟨_, rfl⟩
        rw [← hx] at hd
        rw [← hx'] at hd'
        have HX := Lib.hid hx
        have HX' := Lib.hid hx'
        clear hx hx' hr hr'
        by_cases hq : x = x'
        · have EN : Hid (l[k] = l'[k]) := by unfold Hid; rw [← HX.out, ← HX'.out]; exact hq
          subst hq
          clear HX HX'
          obtain ⟨_, c1⟩ := hd
          obtain ⟨_, c2⟩ := hd'
          rw [Nat.mul_one] at c1 c2
          have hz : (x != x) = false := by simp
          go_wp2
          go_quiet (fail)
          go_wp2
          go_roundw
          case rel => exact ⟨k + 1, by omega, by go_num, fun j hj hj' hjk => by
            by_cases e : j = k
            · subst e; exact EN.out
            · exact HB.out j hj hj' (by omega), hu.drewN _⟩
          case measure => simp [intOf]; omega
        · have EN : Hid (decide (l = l') = false) := by
            unfold Hid; rw [decide_eq_false_iff_not]; rintro rfl; exact hq (by rw [HX.out, HX'.out])
          clear HX HX'
          obtain ⟨_, c1⟩ := hd
          obtain ⟨_, c2⟩ := hd'
          rw [Nat.mul_one] at c1 c2
          have hz : (x != x') = true := by simpa using hq
          clear hq
          go_wp2
          go_quiet (fail)
          go_wp2
          go_ret
          exact ⟨ret_bool EN.out.symm, hu.drewN _⟩
      · have EN : Hid (decide (l = l') = true) := by
          unfold Hid; rw [decide_eq_true_eq]
          exact List.ext_getElem HN.out (fun j h1 h2 => HB.out j h1 h2 (by omega))
        go_wp2
        go_ret
        exact ⟨ret_bool EN.out.symm, hu⟩
  · have hne : ((l.length : Int) != (l'.length : Int)) = true := by simp; omega
    have hne2 : (l.length != l'.length) = true := by simpa using hn
    have EN : Hid (decide (l = l') = false) := by
      unfold Hid; rw [decide_eq_false_iff_not]; rintro rfl; exact hn rfl
    go_enter Try.func20, Try.ntmps20
    go_wp2
    go_ret
    exact ⟨ret_bool EN.out.symm, Up.refl _⟩

end Go.Proofs.Ytbimkciejfbodaa.In
