/- Interleavings: normalForm, Equivalent. Printed by gen5/in5.py. -/
import Derived.Test.YthcldanmppkkjaaIng
import Derived.Deep.CutRange
namespace Go.Proofs.Ythcldanmppkkjaa.In
open Go Go.RowKit Hp
set_option linter.unusedVariables false

/-! ### The search -/
def OpB (w : World) (b : Nat) (h : Hop) : Prop := Blk w b (hp1 h) 33
theorem clo_any (x y : Hop) (bo : Nat) (w : World) (hb : OpB w bo y) :
    Calls Try.prog 36 #[hv x, .pointer (some ⟨bo, 0, none⟩)] w fun e w' => e = .returned (.bool (depH x y)) ∧ Up w w' := by
  have HD := Lib.hid (fun W => dep_any x y W)
  obtain ⟨tx, kx, sx⟩ := x
  obtain ⟨ty, ky, sy⟩ := y
  have c0 := (hb.at (i := 0) rfl).2
  have c1 := (hb.at (i := 1) rfl).2
  have c2 := (hb.at (i := 2) rfl).2
  have cl := hb.lt
  unfold hv at HD ⊢
  dsimp only at HD ⊢ c0 c1 c2
  clear hb
  go_enter Try.func36, Try.ntmps36
  go_wp2_with (first
    | (go_at_call 33; refine (HD.out _).mono ?_; rintro e w1 ⟨rfl, h1⟩; have U1 := Lib.hid (((Up.refl w).alloc _).trans h1); clear h1)
    | fail)
  go_ret
  exact ⟨rfl, U1.out⟩
theorem ixf_any (y : Hop) (bo : Nat) (l : List Hop) (v : Value) (w : World) (h : Hops w v l) (hb : OpB w bo y) :
    Calls Try.prog 40 #[v, .func (.func 36) #[] #[.pointer (some ⟨bo, 0, none⟩)]] w fun e w' => e = .returned (.int .i64 (idx (fun x => depH x y) l)) ∧ Up w w' := by
  obtain ⟨a, cap, rfl, h1, h2, _, h3⟩ := h
  have H3 := Lib.hid h3
  have HB0 := Lib.hid hb
  clear h3 hb
  go_enter Try.func40, Try.ntmps40
  go_wp2
  go_loopw [8] (fun iv wr => ∃ k : Nat, k ≤ l.length ∧ iv = .int .i64 k ∧ Hid (∀ j (h : j < l.length), j < k → depH l[j] y = false) ∧ Hid (Up w wr)) (fun iv _ => l.length - (intOf iv).toNat)
  case atStart => exact ⟨0, by omega, rfl, fun j _ hj => by omega, Up.refl _⟩
  case round =>
    obtain ⟨k, hk, rfl, HB, HU⟩ := hrel
    by_cases hlt : k < l.length
    · obtain ⟨b, off, rfl, hr⟩ := H3.out k hlt
      have HT : Hid (depH l[k] y = true → idx (fun x => depH x y) l = (k : Int)) := fun he => idx_hit (p := fun x => depH x y) hlt he HB.out
      have HF : Hid (depH l[k] y = false → ∀ j (h : j < l.length), j < k + 1 → depH l[j] y = false) := fun he j h hj => by
        rcases Nat.lt_or_ge j k with h1 | h1
        · exact HB.out j h h1
        · obtain rfl : j = k := by omega
          exact he
      obtain ⟨_, ⟨hbb, c0⟩, ⟨_, c1⟩, _, c2⟩ := hopR_grows _ _ _ _ _ hr HU.out
      have HC := Lib.hid (clo_any l[k] y bo wr (Blk.up HB0.out HU.out))
      generalize l[k] = x at *
      obtain ⟨x1, x2, x3⟩ := x
      unfold hv at HC
      dsimp only at c0 c1 c2 HC
      cases hd : depH ⟨x1, x2, x3⟩ y with
      | true =>
        rw [hd] at HC
        have E := Lib.hid (HT.out hd)
        clear hd
        go_wp2_with (first
          | (go_at_call 36; refine HC.out.mono ?_; rintro e w2 ⟨rfl, h2⟩; have U2 := Lib.hid (HU.out.trans h2); clear h2)
          | fail)
        go_ret
        exact ⟨ret_int E.out.symm, U2.out⟩
      | false =>
        rw [hd] at HC
        have E := Lib.hid (HF.out hd)
        clear hd
        go_wp2_with (first
          | (go_at_call 36; refine HC.out.mono ?_; rintro e w2 ⟨rfl, h2⟩; have U2 := Lib.hid (HU.out.trans h2); clear h2)
          | fail)
        go_roundw
        case rel => exact ⟨k + 1, by omega, by go_num, E.out, U2.out⟩
        case measure => simp [intOf]; omega
    · have E := Lib.hid (idx_miss (p := fun x => depH x y) (l := l) fun j hj => HB.out j hj (by omega))
      go_wp2
      go_ret
      exact ⟨ret_int E.out.symm, HU.out⟩
theorem ctf_any (y : Hop) (bo : Nat) (l : List Hop) (v : Value) (w : World) (h : Hops w v l) (hb : OpB w bo y) :
    Calls Try.prog 35 #[v, .func (.func 36) #[] #[.pointer (some ⟨bo, 0, none⟩)]] w fun e w' => e = .returned (.bool (l.any fun x => depH x y)) ∧ Up w w' := by
  have E := Lib.hid (idx_any (fun x => depH x y) l)
  have HI := Lib.hid (ixf_any y bo l v w h hb)
  clear h hb
  go_enter Try.func35, Try.ntmps35
  go_wp2_with (first
    | (go_at_call 40; refine HI.out.mono ?_; rintro e w1 ⟨rfl, h1⟩; have U1 := Lib.hid h1; clear h1)
    | fail)
  go_ret
  exact ⟨ret_bool E.out, U1.out⟩
/-! ### The normal form in plain words -/
def rdy (l : List Hop) (i : Nat) : Bool := !((l.take i).any fun x => depH x (l.getD i h0))
theorem pull_rdy {l : List Hop} {t : Nat} : ∀ {l r : List Hop} {y : Hop}, pull (α := Hop) Hop.tx depH t l = some (y, r) → ∃ i, ∃ h : i < l.length, l[i] = y ∧ y.tx = t ∧ rdy l i = true ∧ r = l.eraseIdx i
  | [], _, _, h => by cases h
  | x :: v, r, y, h => by
    by_cases e : x.tx = t
    · rw [pull, if_pos e] at h
      simp only [Option.some.injEq, Prod.mk.injEq] at h
      obtain ⟨rfl, rfl⟩ := h
      exact ⟨0, Nat.succ_pos _, rfl, e, rfl, rfl⟩
    · rw [pull_cons _ e] at h
      cases hp : pull Hop.tx depH t v with
      | none => rw [hp] at h; cases h
      | some q =>
        obtain ⟨z, r'⟩ := q
        rw [hp] at h
        simp only at h
        by_cases hd : depH x z = true
        · rw [if_pos hd] at h; cases h
        · rw [if_neg hd] at h
          simp only [Option.some.injEq, Prod.mk.injEq] at h
          obtain ⟨rfl, rfl⟩ := h
          obtain ⟨i, hi, h1, h2, h3, h4⟩ := pull_rdy (l := l) hp
          refine ⟨i + 1, by simpa using hi, by simpa using h1, h2, ?_, by rw [List.eraseIdx_cons_succ, h4]⟩
          unfold rdy at h3 ⊢
          rw [Bool.not_eq_true', List.any_eq_false] at h3 ⊢
          have hg : (x :: v).getD (i + 1) h0 = z := by simp [List.getD, hi, h1]
          have hg2 : v.getD i h0 = z := by simp [List.getD, hi, h1]
          rw [hg]
          rw [hg2] at h3
          intro w hw
          rw [List.take_succ_cons] at hw
          rcases List.mem_cons.1 hw with e2 | e2
          · rw [e2]; exact hd
          · exact h3 w e2
theorem rdy_pull : ∀ (l : List Hop) (i : Nat) (h : i < l.length), rdy l i = true → pull Hop.tx depH l[i].tx l = some (l[i], l.eraseIdx i)
  | [], i, h, _ => by cases h
  | x :: v, 0, _, _ => by rw [pull]; simp
  | x :: v, i + 1, h, hr => by
    have hi : i < v.length := by simpa using h
    unfold rdy at hr
    rw [Bool.not_eq_true', List.any_eq_false] at hr
    have hg : (x :: v).getD (i + 1) h0 = v[i] := by simp [List.getD, hi]
    rw [hg, List.take_succ_cons] at hr
    have hx := hr x (List.mem_cons_self ..)
    have hne : ¬ x.tx = v[i].tx := fun e => hx (depH_tx e)
    have ih := rdy_pull v i hi (by
      unfold rdy
      rw [Bool.not_eq_true', List.any_eq_false]
      have hg2 : v.getD i h0 = v[i] := by simp [List.getD, hi]
      rw [hg2]
      exact fun w hw => hr w (List.mem_cons_of_mem _ hw))
    show pull Hop.tx depH v[i].tx (x :: v) = _
    rw [pull_cons _ hne, ih]
    simp only
    rw [if_neg hx]
    rfl
/-- What has been found among the first k. -/
def Best (l : List Hop) (k : Nat) (b : Int) : Prop := (b = -1 ∧ ∀ i, i < k → rdy l i = false) ∨ ∃ j : Nat, b = (j : Int) ∧ j < k ∧ rdy l j = true ∧ ∀ i, i < k → rdy l i = true → (l.getD j h0).tx ≤ (l.getD i h0).tx
theorem best_first {l : List Hop} {K j : Nat} (hK : ∀ x ∈ l, x.tx < K) (hj : j < l.length) (hr : rdy l j = true) (hm : ∀ i, i < l.length → rdy l i = true → (l.getD j h0).tx ≤ (l.getD i h0).tx) : (List.range K).findSome? (fun t => pull Hop.tx depH t l) = some (l[j], l.eraseIdx j) := by
  obtain ⟨t, y, r, h1, h2, h3, h4⟩ := find_some (tx := Hop.tx) (dep := depH) hK (by intro e; rw [e] at hj; cases hj)
  obtain ⟨i, hi, e1, e2, e3, e4⟩ := pull_rdy (l := l) h3
  have hle := hm i hi e3
  have g1 : l.getD j h0 = l[j] := by simp [List.getD, hj]
  have g2 : l.getD i h0 = l[i] := by simp [List.getD, hi]
  rw [g1, g2, e1, e2] at hle
  have hp := rdy_pull l j hj hr
  have ht : t = l[j].tx := by
    rcases Nat.lt_or_ge l[j].tx t with h | h
    · rw [h4 _ h] at hp; cases hp
    · omega
  rw [h2, ← h3, ht]
  exact hp
/-- The normal form of what is left. -/
theorem nfn_step {l : List Hop} {K j : Nat} (hK : ∀ x ∈ l, x.tx < K) (hj : j < l.length) (hr : rdy l j = true) (hm : ∀ i, i < l.length → rdy l i = true → (l.getD j h0).tx ≤ (l.getD i h0).tx) : nfn Hop.tx depH K l.length l = l[j] :: nfn Hop.tx depH K (l.eraseIdx j).length (l.eraseIdx j) := by
  obtain ⟨n, hn⟩ : ∃ n, l.length = n + 1 := ⟨l.length - 1, by omega⟩
  rw [List.length_eraseIdx_of_lt hj, hn, nfn, best_first hK hj hr hm, Nat.add_sub_cancel]
theorem nfn_mem {K : Nat} : ∀ (n : Nat) (l : List Hop), (∀ x ∈ l, x.tx < K) → l.length = n → (nfn Hop.tx depH K n l).length = n
  | n, l, hK, hn => by
    have := (nfn_eqv (dep := depH) (tx := Hop.tx) n l hK hn).perm.length_eq
    rw [← this]; exact hn
abbrev nfH (l : List Hop) : List Hop := nf Hop.tx depH 20 l
def slLen : Value → Nat
  | .slice _ n _ => n
  | _ => 0
set_option maxRecDepth 100000 in
set_option maxHeartbeats 4000000 in
theorem nform_any (v : Value) (l : List Hop) (base : Nat) (w : World) (h : OpsO w base v l) (hl : l.length ≤ 1000) (hK : ∀ x ∈ l, x.tx < 20) :
    Calls Try.prog 24 #[v] w fun e w' => ∃ v', e = .returned v' ∧ OpsO w' w.heap.size v' (nfH l) ∧ Up w w' := by
  obtain ⟨i0, hi0, hz0, hz1, hz2⟩ := info_parts Try.infoO
  have HCL := Lib.hid (cloneO v l.length (hpC l) w (own_src h) (hpC_one l) (by omega))
  obtain ⟨va, vc, rfl, _, _, _⟩ := own_form h
  have HK := Lib.hid hK
  obtain ⟨R, hR⟩ : ∃ R, R = nfH l := ⟨_, rfl⟩
  have HR := Lib.hid hR
  rw [← hR]
  clear h hK hR
  go_enter Try.func24, Try.ntmps24
  go_wp2_with (first
    | (go_at_call 15; refine HCL.out.mono ?_; rintro e w1 ⟨v1, rfl, h1, h2⟩; have O1 := Lib.hid h1; have U1 := Lib.hid h2; clear h1 h2)
    | fail)
  go_loopw [3, 4] (fun rv nv wr => ∃ rem acc : List Hop, Hid (OpsO wr w.heap.size rv rem) ∧ Hid (OpsO wr w.heap.size nv acc) ∧ Hid (∀ k, rv.ownBlock = some k → nv.ownBlock ≠ some k) ∧ Hid (Up w wr) ∧ Hid (acc ++ nfn Hop.tx depH 20 rem.length rem = R) ∧ Hid (∀ x ∈ rem, x.tx < 20) ∧ rem.length + acc.length ≤ 1000) (fun rv _ _ => slLen rv)
  case atStart => exact ⟨l, [], O1.out, World.ownsRow_nil _ _ _ _, fun k _ e => (by cases e), U1.out, HR.out.symm, HK.out, by simpa using hl⟩
  case round =>
    obtain ⟨rem, acc, HRO, HAO, HNE, HU, HRR, HRK, hra⟩ := hrel
    obtain ⟨wo, hwo⟩ : ∃ wo : World, wo = wr := ⟨_, rfl⟩
    rw [← hwo] at HRO HAO HU ⊢
    clear hwo
    obtain ⟨ra, rc, rfl, _, _, _⟩ := own_form HRO.out
    obtain ⟨aa, ac, rfl, _, _, _⟩ := own_form HAO.out
    rcases Nat.eq_zero_or_pos rem.length with h0 | h0
    · have hnil : rem = [] := List.eq_nil_of_length_eq_zero h0
      subst hnil
      have hacc : acc = R := by have := HRR.out; simpa [nfn] using this
      subst hacc
      have h00 : ¬ (0 : Int) < ((0 : Nat) : Int) := by omega
      simp only [List.length_nil]
      go_wp2
      go_ret
      exact ⟨_, rfl, HAO.out, HU.out⟩
    · have h0i : (0 : Int) < (rem.length : Int) := by omega
      have hrl : rem.length ≤ 1000 := by omega
      go_wp2
      go_loopw [5, 16] (fun bv iv wr => ∃ (k : Nat) (b : Int), k ≤ rem.length ∧ iv = .int .i64 k ∧ bv = .int .i64 b ∧ Hid (Best rem k b) ∧ Hid (Up wo wr)) (fun _ iv _ => rem.length - (intOf iv).toNat)
      case atStart => exact ⟨0, -1, by omega, rfl, rfl, .inl ⟨rfl, fun i hi => by omega⟩, Up.refl _⟩
      case round =>
        obtain ⟨k, b, hk, rfl, rfl, HBT, HUI⟩ := hrel
        obtain ⟨wi, hwi⟩ : ∃ wi : World, wi = wr := ⟨_, rfl⟩
        rw [← hwi] at HUI ⊢
        clear hwi
        have HRI := Lib.hid (own_up HRO.out HUI.out)
        have hra2 := own_some HRI.out (by omega)
        obtain ⟨g, rc', hgv, hrc1, hrc2, hgl, hgc, _⟩ := hra2
        simp only [Value.slice.injEq, true_and] at hgv
        obtain ⟨rfl, rfl⟩ := hgv
        by_cases hlt : k < rem.length
        · have hki : (k : Int) < (rem.length : Int) := by omega
          have hkc : (k : Int) ≤ (rc : Int) := by omega
          have d0 := hgc _ _ (hpC_get rem k hlt).1
          have d1 := hgc _ _ (hpC_get rem k hlt).2.1
          have d2 := hgc _ _ (hpC_get rem k hlt).2.2
          have HG : Hid (rem.getD k In.h0 = rem[k]) := by unfold Hid; simp [List.getD, hlt]
          have HCT := Lib.hid (fun (W : World) (bo : Nat) (hu : Up wi W) (hb : OpB W bo rem[k]) => ctf_any rem[k] bo (rem.take k) (.slice (some ⟨g, 0, none⟩) k rc) W (hops_take (hops_own (own_up HRI.out hu)) (by omega)) hb)
          have HRD : Hid ((rem.take k).any (fun x => depH x rem[k]) = !rdy rem k) := by
            unfold Hid rdy
            rw [show rem.getD k In.h0 = rem[k] from HG.out, Bool.not_not]
          rw [HRD.out] at HCT
          have HBF : Hid (rdy rem k = false → Best rem (k + 1) b) := fun hf => by
            rcases HBT.out with ⟨h1, h2⟩ | ⟨j, h1, h2, h3, h4⟩
            · exact .inl ⟨h1, fun i hi => by rcases Nat.lt_or_ge i k with e | e; exact h2 i e; rw [show i = k by omega]; exact hf⟩
            · exact .inr ⟨j, h1, by omega, h3, fun i hi hr => by rcases Nat.lt_or_ge i k with e | e; exact h4 i e hr; rw [show i = k by omega, hf] at hr; cases hr⟩
          have hrt : rem[k].tx = (rem.getD k In.h0).tx := by rw [HG.out]
          have HTX := Lib.hid hrt
          clear hrt HRD
          generalize rem[k] = x at *
          obtain ⟨x1, x2, x3⟩ := x
          dsimp only at d0 d1 d2
          have HNB : Hid (OpB (wi.alloc (.cells #[.int .i64 (x1 : Int), .int .i64 x2, .string x3] 33)) wi.heap.size ⟨x1, x2, x3⟩) := Blk.new wi _ _
          have HUA := Lib.hid ((Up.refl wi).alloc (.cells #[.int .i64 (x1 : Int), .int .i64 x2, .string x3] 33))
          cases hrk : rdy rem k with
          | false =>
            rw [hrk] at HCT
            have HB2 := Lib.hid (HBF.out hrk)
            clear hrk
            go_upto_region 9 with (first
              | (go_at_call 35; refine (HCT.out _ wi.heap.size HUA.out HNB.out).mono ?_; rintro e w5 ⟨rfl, h5⟩; have U5 := Lib.hid (HUA.out.trans h5); clear h5)
              | fail)
            go_quiet (fail)
            go_wp2
            go_roundw
            case rel => exact ⟨k + 1, b, by omega, by go_num, rfl, HB2.out, (HUI.out.trans U5.out).drewN _⟩
            case measure => simp [intOf]; omega
          | true =>
            rw [hrk] at HCT
            have HRK2 := Lib.hid hrk
            clear hrk
            rcases HBT.out with ⟨rfl, hno⟩ | ⟨j, rfl, hjk, hrj, hmin⟩
            · have HB2 : Hid (Best rem (k + 1) (k : Int)) := .inr ⟨k, rfl, by omega, HRK2.out, fun i hi hr => by rcases Nat.lt_or_ge i k with e | e; rw [hno i e] at hr; cases hr; rw [show i = k by omega]; exact Nat.le_refl _⟩
              clear hno
              go_upto_region 9 with (first
                | (go_at_call 35; refine (HCT.out _ wi.heap.size HUA.out HNB.out).mono ?_; rintro e w5 ⟨rfl, h5⟩; have U5 := Lib.hid (HUA.out.trans h5); clear h5)
                | fail)
              go_quiet (fail)
              go_wp2
              go_roundw
              case rel => exact ⟨k + 1, (k : Int), by omega, by go_num, rfl, HB2.out, (HUI.out.trans U5.out).drewN _⟩
              case measure => simp [intOf]; omega
            · have hjl : j < rem.length := by omega
              have hjn : ¬ (j : Int) < 0 := by omega
              have hji : (j : Int) < (rem.length : Int) := by omega
              have e0 := hgc _ _ (hpC_get rem j hjl).1
              have HGJ : Hid ((rem.getD j In.h0).tx = rem[j].tx) := by unfold Hid; simp [List.getD, hjl]
              have HB3 : Hid (¬ x1 < rem[j].tx → Best rem (k + 1) (j : Int)) := fun hle => .inr ⟨j, rfl, by omega, hrj, fun i hi hr => by
                rcases Nat.lt_or_ge i k with e | e
                · exact hmin i e hr
                · rw [show i = k by omega, HGJ.out, ← HTX.out]; show rem[j].tx ≤ x1; omega⟩
              have HB4 : Hid (x1 < rem[j].tx → Best rem (k + 1) (k : Int)) := fun hlt2 => .inr ⟨k, rfl, by omega, HRK2.out, fun i hi hr => by
                rcases Nat.lt_or_ge i k with e | e
                · have := hmin i e hr
                  rw [HGJ.out] at this
                  rw [← HTX.out]; show x1 ≤ _; omega
                · rw [show i = k by omega]; exact Nat.le_refl _⟩
              generalize rem[j].tx = y at *
              clear hmin hrj HGJ
              go_upto_region 9 with (first
                | (go_at_call 35; refine (HCT.out _ wi.heap.size HUA.out HNB.out).mono ?_; rintro e w5 ⟨rfl, h5⟩; have U5 := Lib.hid (HUA.out.trans h5); have f0 := (Blk.at (HNB.out.up h5) (i := 0) rfl).2; have fl := Blk.lt (HNB.out.up h5); have e1 := (U5.out.cell (p := ⟨g, j * 3, none⟩) hgl).trans e0; clear h5)
                | fail)
              by_cases hxy : x1 < y
              · have HB2 := Lib.hid (HB4.out hxy)
                have hxi : (x1 : Int) < (y : Int) := by omega
                have hxd : decide (x1 < y) = true := decide_eq_true hxy
                go_quiet (fail)
                go_wp2
                go_roundw
                case rel => exact ⟨k + 1, (k : Int), by omega, by go_num, rfl, HB2.out, (HUI.out.trans U5.out).drewN _⟩
                case measure => simp [intOf]; omega
              · have HB2 := Lib.hid (HB3.out hxy)
                have hxi : ¬ (x1 : Int) < (y : Int) := by omega
                have hxd : decide (x1 < y) = false := decide_eq_false hxy
                go_quiet (fail)
                go_wp2
                go_roundw
                case rel => exact ⟨k + 1, (j : Int), by omega, by go_num, rfl, HB2.out, (HUI.out.trans U5.out).drewN _⟩
                case measure => simp [intOf]; omega
        · obtain rfl : k = rem.length := by omega
          have hr0 : rdy rem 0 = true := rfl
          rcases HBT.out with ⟨rfl, hno⟩ | ⟨j, rfl, hjk, hrj, hmin⟩
          · exact absurd (hno 0 (by omega)) (by rw [hr0]; decide)
          · have HST := Lib.hid (nfn_step HRK.out hjk hrj hmin)
            have hji : (j : Int) < (rem.length : Int) := by omega
            have e0 := hgc _ _ (hpC_get rem j hjk).1
            have e1 := hgc _ _ (hpC_get rem j hjk).2.1
            have e2 := hgc _ _ (hpC_get rem j hjk).2.2
            have HAI := Lib.hid (own_up HAO.out HUI.out)
            have HUW := Lib.hid (HU.out.trans HUI.out)
            have HEL : Hid ((rem.eraseIdx j).length = rem.length - 1) := List.length_eraseIdx_of_lt hjk
            have HCE : Hid ((hpC rem).take (j * 3) ++ (hpC rem).drop ((j + 1) * 3) = hpC (rem.eraseIdx j)) := by unfold Hid; rw [hpC_take, hpC_drop, ← hpC_app, ← List.eraseIdx_eq_take_drop_succ]
            generalize rem[j] = x at *
            obtain ⟨x1, x2, x3⟩ := x
            dsimp only at e0 e1 e2
            clear hr0 hmin hrj
            have HUA := Lib.hid ((Up.refl wi).alloc (.cells #[.int .i64 (x1 : Int), .int .i64 x2, .string x3] 33))
            have HEL1 : Hid (0 < rem.length) := h0
            have HNEWS := Lib.hid (cells_new wi #[.int .i64 (x1 : Int), .int .i64 x2, .string x3] 33)
            have HBS : Hid (w.heap.size ≤ wi.heap.size + 1) := by unfold Hid; have := HUW.out.size; omega
            go_upto_region 12 with fail
            have HNEI : Hid (∀ (W : World) (r : Option Nat) (u : Value), OpsO W w.heap.size u (acc ++ [⟨x1, x2, x3⟩]) → (wi.alloc (.cells #[.int .i64 (x1 : Int), .int .i64 x2, .string x3] 33)).grownBy W (Value.slice aa acc.length ac).ownBlock → ((Value.slice aa acc.length ac).ownBlock = u.ownBlock ∨ u.ownBlock = some (wi.heap.size + 1)) → OpsO W w.heap.size (.slice (some ⟨g, 0, none⟩) rem.length rc) rem ∧ (∀ q, (Value.slice (some ⟨g, 0, none⟩) rem.length rc).ownBlock = some q → u.ownBlock ≠ some q) ∧ Up w W) := fun W r u hW hg hat => by
              have h1 : OpsO W w.heap.size (.slice (some ⟨g, 0, none⟩) rem.length rc) rem := own_chg (own_up HRI.out HUA.out) ((Chg.refl (fun q => (Value.slice aa acc.length ac).ownBlock = some q) _).grown hg fun q hq => .inl hq) fun q hq e => HNE.out q hq e
              refine ⟨h1, fun q hq e => ?_, Below.grown (HUW.out.trans HUA.out) hg (HUW.out.trans HUA.out).size fun q hq => ((own_ty HAI.out) q hq).2⟩
              rcases hat with h | h
              · exact HNE.out q hq (h.trans e)
              · rw [h] at e
                have := ((own_ty HRI.out) q hq).1.lt
                simp only [Option.some.injEq] at e
                omega
            go_wp2_with (first
              | (at_builtin; refine wpList_append_lies _ rfl (.tmp 44) (.tmp 49) 30 rfl w.heap.size 33 i0 (.agg #[.int .i64 0, .int .i64 0, .string ByteArray.empty]) 3 32 Try.underlying30 hi0 hz0 hz1 hz2 rfl (by decide) (.slice aa acc.length ac) acc.length (hpC acc) rfl (own_up HAI.out HUA.out) ⟨wi.heap.size, 0, none⟩ 1 1 [.int .i64 (x1 : Int), .int .i64 x2, .string x3] rfl rfl HNEWS.out (by intro u hu; simp at hu; rcases hu with rfl | rfl | rfl <;> rfl) (by decide) (by unfold maxLen; omega) (by omega) (by simp; exact HBS.out) (wi.heap.size + 1) (by simp) ?_; intro g5 c5 w5 hown5 hgrow5 hat5 hlt5; have HO5 : Hid (OpsO w5 w.heap.size (.slice (some ⟨g5, 0, none⟩) (acc.length + 1) c5) (acc ++ [⟨x1, x2, x3⟩])) := (by unfold Hid OpsO; rw [List.length_append, hpC_app]; exact hown5); have HX5 := Lib.hid (HNEI.out w5 none _ HO5.out hgrow5 (hat5.imp id fun e => congrArg some e)); clear hown5 hgrow5 hat5; have HDL := Lib.hid (delO_any (.slice (some ⟨g, 0, none⟩) rem.length rc) rem.length j (hpC rem) w5 (own_base' HX5.out.1 fun _ _ => Nat.zero_le _) hjk (by omega) (hpC_one rem)))
              | (go_at_call 37; refine HDL.out.mono ?_; rintro e w6 ⟨v6, rfl, h61, h62, h63⟩; obtain ⟨va6, vc6, rfl, _, _, _⟩ := own_form h61; have H61 := Lib.hid h61; have H62 := Lib.hid h62; have H63 := Lib.hid h63; clear h61 h62 h63)
              | fail)
            have hc6 : Chg (fun q => (Value.slice (some ⟨g, 0, none⟩) rem.length rc).ownBlock = some q) w5 w6 := (Chg.refl _ _).grown H62.out fun q hq => .inl hq
            have R6 : Hid (OpsO w6 w.heap.size (.slice va6 (rem.length - 1) vc6) (rem.eraseIdx j)) := by
              have := H61.out
              rw [HCE.out] at this
              unfold Hid OpsO
              rw [HEL.out]
              exact own_base' this fun q hq => ((own_ty HX5.out.1) q (by rw [← H63.out]; exact hq)).2
            have A6 : Hid (OpsO w6 w.heap.size (.slice (some ⟨g5, 0, none⟩) (acc.length + 1) c5) (acc ++ [⟨x1, x2, x3⟩])) := own_chg HO5.out hc6 fun q hq e => HX5.out.2.1 q e hq
            have N6 : Hid (∀ q, (Value.slice va6 (rem.length - 1) vc6).ownBlock = some q → (Value.slice (some ⟨g5, 0, none⟩) (acc.length + 1) c5).ownBlock ≠ some q) := fun q hq => HX5.out.2.1 q (by rw [← H63.out]; exact hq)
            have U6 : Hid (Up w w6) := Below.trans HX5.out.2.2 (hc6.below HX5.out.2.2.size fun q hq e => by have := ((own_ty HX5.out.1) q e).2; omega)
            clear hc6
            go_roundw
            case rel => exact ⟨rem.eraseIdx j, acc ++ [(⟨x1, x2, x3⟩ : Hop)], R6.out, A6.out, N6.out, U6.out, by rw [List.append_assoc]; have h := HRR.out; rw [HST.out] at h; exact h, fun y hy => HRK.out y (List.eraseIdx_subset hy), by rw [HEL.out, List.length_append, List.length_singleton]; omega⟩
            case measure => simp [slLen]; have := HEL1.out; omega
end Go.Proofs.Ythcldanmppkkjaa.In
