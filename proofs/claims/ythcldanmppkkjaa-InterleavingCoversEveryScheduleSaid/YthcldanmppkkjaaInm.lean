/- Interleavings: the transactions that the laws draw. -/
import Derived.Test.YthcldanmppkkjaaInl
import Derived.Test.YthcldanmppkkjaaEl
import Derived.Test.YthcldanmppkkjaaQl
namespace Go.Proofs.Ythcldanmppkkjaa.In
open Go Go.RowKit Hp
set_option linter.unusedVariables false

theorem modn_any (k n : Int) (w : World) (h0 : 0 < n) (h1 : n ≤ 1000000) :
    Calls Try.prog 10 #[.int .i64 k, .int .i64 n] w fun e w' => ∃ q : Nat, e = .returned (.int .i64 q) ∧ (q : Int) < n ∧ w = w' :=
  (mod_any k n w h0 h1).mono fun e w' h => by
    obtain ⟨q, hq⟩ := Int.eq_ofNat_of_zero_le (modV_nonneg k n h0)
    have := modV_lt k n h0
    rw [hq] at h this
    exact ⟨q, h.1, this, h.2⟩
/-- An operation that the laws draw. -/
def HOk (x : Hop) : Prop := (x.kind = 1 ∨ x.kind = 2) ∧ x.key.size ≤ 24
structure PrgL (L : List (List Hop)) (T : Nat) : Prop where
  len : L.length = 3
  tot : L.flatten.length ≤ T
  ok : ∀ i (h : i < L.length), ∀ x ∈ L[i], x.tx = i ∧ HOk x
theorem PrgL.valid {L : List (List Hop)} {T : Nat} (h : PrgL L T) (hT : T ≤ 12) : TValid L := by
  have hl : L.flatten.length ≤ 12 := Nat.le_trans h.tot hT
  have key : ∀ i (hi : i < L.length) k, k < L[i].length → L[i].getD k h0 ∈ L[i] := fun i hi k hk => by simp [List.getD, hk]
  refine ⟨by rw [h.len]; omega, hl, fun i hi => ⟨?_, fun k hk => (h.ok i hi _ (key i hi k hk)).2.1, fun k hk => ?_, fun k hk => (h.ok i hi _ (key i hi k hk)).2.2⟩, fun i hi x hx => (h.ok i hi x hx).1⟩
  · have := mem_len hl i
    rw [show L.getD i [] = L[i] by simp [List.getD, hi]] at this
    omega
  · rw [(h.ok i hi _ (key i hi k hk)).1]
    have := h.len
    omega
theorem flat_set {L : List (List Hop)} {t : Nat} (ht : t < L.length) (x : Hop) : (L.set t (L[t] ++ [x])).flatten.length = L.flatten.length + 1 := by
  induction L generalizing t with
  | nil => cases ht
  | cons a L ih => cases t with
    | zero => simp; omega
    | succ t =>
      have := ih (t := t) (by simpa using ht)
      simp only [List.getElem_cons_succ, List.set_cons_succ, List.flatten_cons, List.length_append] at this ⊢
      omega
theorem PrgL.snoc {L : List (List Hop)} {T t : Nat} (h : PrgL L T) (ht : t < L.length) {x : Hop} (hx : x.tx = t ∧ HOk x) : PrgL (L.set t (L[t] ++ [x])) (T + 1) := by
  refine ⟨by simpa using h.len, by rw [flat_set ht]; have := h.tot; omega, fun i hi y hy => ?_⟩
  rw [List.length_set] at hi
  rw [List.getElem_set] at hy
  split at hy
  · rename_i e
    subst e
    rcases List.mem_append.1 hy with e | e
    · exact h.ok t ht y e
    · rw [List.mem_singleton.1 e]; exact hx
  · exact h.ok i hi y hy
/-! ### Transactions in rows of their own -/
structure TxO (w : World) (base : Nat) (v : Value) (us : List Value) (L : List (List Hop)) : Prop where
  row : w.ownsRow base 30 1 v L.length us
  rows : ∀ i (h : i < L.length), ∃ u, us[i]? = some u ∧ OpsO w base u L[i]
  dis : ∀ (i j : Nat) (u u' : Value), us[i]? = some u → us[j]? = some u' → i ≠ j → ∀ k, u.ownBlock = some k → u'.ownBlock ≠ some k
theorem TxO.txR {w : World} {base : Nat} {v : Value} {us : List Value} {L : List (List Hop)} (h : TxO w base v us L) : TxR w base v L := ⟨us, h.row, h.rows⟩
theorem TxO.up {w w' : World} {base : Nat} {v : Value} {us : List Value} {L : List (List Hop)} (h : TxO w base v us L) (hu : Up w w') : TxO w' base v us L :=
  ⟨own_up h.row hu, fun i hi => by obtain ⟨u, h1, h2⟩ := h.rows i hi; exact ⟨u, h1, own_up h2 hu⟩, h.dis⟩
theorem TxO.len {w : World} {base : Nat} {v : Value} {us : List Value} {L : List (List Hop)} (h : TxO w base v us L) : us.length = L.length := by have := h.row.1; omega
/-- Row t is put anew: its block has changed, or it lies elsewhere. -/
theorem TxO.put {w w3 : World} {base g c t n : Nat} {us : List Value} {u u' : Value} {L : List (List Hop)} {l : List Hop} (hnn : L.length = n) (h : TxO w base (.slice (some ⟨g, 0, none⟩) n c) us L) (ht : t < L.length) (hut : us[t]? = some u)
    (hc : Chg (fun k => u.ownBlock = some k) w w3) (hn : OpsO w3 base u' l) (hat : u'.ownBlock = u.ownBlock ∨ ∀ k, u'.ownBlock = some k → w.heap.size ≤ k) :
    TxO (w3.setCell ⟨g, t, none⟩ u') base (.slice (some ⟨g, 0, none⟩) n c) (us.set t u') (L.set t l) := by
  subst hnn
  have hul := h.len
  obtain ⟨u0, hu0, ho0⟩ := h.rows t ht
  rw [hut] at hu0
  cases hu0
  have hty := (own_ty ho0)
  have hr3 : w3.ownsRow base 30 1 (.slice (some ⟨g, 0, none⟩) L.length c) L.length us := own_chg h.row hc fun k hk e => ((own_ty h.row) k hk).1.ne (by decide) (hty k e).1
  have hcs := chg_set w3 g t none u'
  have hgt := ((own_ty hr3) g rfl).1
  have hfar : ∀ {v : Value} {y : List Hop}, OpsO w3 base v y → OpsO (w3.setCell ⟨g, t, none⟩ u') base v y := fun hv => own_chg hv hcs fun k hk e => by
    subst e
    exact ((own_ty hv) k hk).1.ne (by decide) hgt
  refine ⟨?_, fun i hi => ?_, fun i j v v' hv hv' hne k hk => ?_⟩
  · have := own_set hr3 t (by omega) u'
    rw [List.length_set]
    exact this
  · rw [List.length_set] at hi
    by_cases e : i = t
    · subst e
      exact ⟨u', by rw [List.getElem?_set_self (by omega)], by rw [List.getElem_set_self]; exact hfar hn⟩
    · obtain ⟨v, h1, h2⟩ := h.rows i hi
      exact ⟨v, by rw [List.getElem?_set_ne (Ne.symm e)]; exact h1, by rw [List.getElem_set_ne (Ne.symm e)]; exact hfar (own_chg h2 hc fun k hk e2 => h.dis i t v u h1 hut e k hk e2)⟩
  · have hold : ∀ (j : Nat) (v : Value), us[j]? = some v → ∀ k, v.ownBlock = some k → k < w.heap.size := fun j v hv k hk => by
      have hj : j < L.length := by have := (List.getElem?_eq_some_iff.1 hv).1; omega
      obtain ⟨v0, h1, h2⟩ := h.rows j hj
      rw [hv] at h1
      cases h1
      exact own_lt h2 k hk
    by_cases ei : t = i
    · subst ei
      rw [List.getElem?_set_self (by omega)] at hv
      cases hv
      rw [List.getElem?_set_ne hne] at hv'
      rcases hat with e | e
      · exact h.dis t j u v' hut hv' hne k (by rw [← e]; exact hk)
      · intro e2
        have h1 := e k hk
        have h2 := hold j v' hv' k e2
        omega
    · rw [List.getElem?_set_ne ei] at hv
      by_cases ej : t = j
      · subst ej
        rw [List.getElem?_set_self (by omega)] at hv'
        cases hv'
        intro e2
        rcases hat with e | e
        · rw [e] at e2
          exact h.dis i t v u hv hut hne k hk e2
        · have h1 := e k e2
          have h2 := hold i v hv k hk
          omega
      · rw [List.getElem?_set_ne ej] at hv'
        exact h.dis i j v v' hv hv' hne k hk
theorem cells_at (w : World) (cs : Array Value) (E : TypeId) (g : Nat) (hg : w.heap.size = g) : ∀ (j : Nat) u, cs.toList[j]? = some u → (w.alloc (.cells cs E)).cell? ((⟨g, 0, none⟩ : Addr).add j) = some u := by
  subst hg
  exact cells_new w cs E
theorem TxO.far {w W w3 : World} {base g c t n : Nat} {us : List Value} {u : Value} {L : List (List Hop)} (hnn : L.length = n) (h : TxO w base (.slice (some ⟨g, 0, none⟩) n c) us L) (ht : t < L.length) (hut : us[t]? = some u) (hu : Up w W) (hg : W.grownBy w3 u.ownBlock) :
    w3.cell? ⟨g, t, none⟩ = some u ∧ w3.frozen? ⟨g, t, none⟩ = false ∧ g < w3.heap.size ∧ Chg (fun k => u.ownBlock = some k) w w3 := by
  subst hnn
  obtain ⟨u0, hu0, ho0⟩ := h.rows t ht
  rw [hut] at hu0
  cases hu0
  have hc : Chg (fun k => u.ownBlock = some k) w w3 := (hu.chg _).trans ((Chg.refl (fun k => u.ownBlock = some k) W).grown hg fun k hk => .inl hk) fun _ _ e => e
  have hr3 : w3.ownsRow base 30 1 (.slice (some ⟨g, 0, none⟩) L.length c) L.length us := own_chg h.row hc fun k hk e => ((own_ty h.row) k hk).1.ne (by decide) ((own_ty ho0) k e).1
  exact ⟨own_cell hr3 hut, own_free hr3 t, own_glt hr3, hc⟩
/-- A call with two arguments, as one step of a region that draws: the arguments are read off the frame. -/
theorem step_go2 {P : Program} {ops : Array Oper} {dst : Option Tmp} {f : FuncId} {x y : Operand} {ats : Array TypeId} {ty : TypeId} {pos : String} {after : Array Edge} {a : Act} {w : World} {K : Act → World → Prop} {Q : Exit → Act → World → Prop} {E : Prop}
    (hcall : ∀ args w, (callFunc f args).run P w = .ok (.enter f args) w) (v1 v2 : Value) (h1 : a.eval x = v1) (h2 : a.eval y = v2) {R : Ending → World → Prop} (hc : Calls P f #[v1, v2] w R) (h : ∀ e w', R e w' → ∃ v, e = .returned v ∧ K (a.put dst v) w') :
    if Region.wanted { dst, op := .call { callee := .value (.func f), args := #[x, y], argTypes := ats }, type := ty, pos, after, guard := none } (yielded ops a.tmps) = true then Oper.wp P { dst, op := .call { callee := .value (.func f), args := #[x, y], argTypes := ats }, type := ty, pos, after, guard := none } a w K Q else E :=
  step_go hcall #[v1, v2] (by simp [h1, h2]) hc h
theorem one_size (q : Int) : (one q).size = 1 := by simp [one, ByteArray.size, ByteArray.push]
theorem mk3 (w : World) : (Instr.makeSlice 24 (.int .i64 3) (.int .i64 3)).run Try.prog w = .ok (.slice (some ⟨w.heap.size, 0, none⟩) 3 3) (w.alloc (.cells #[.slice none 0 0, .slice none 0 0, .slice none 0 0] 30)) := by kernel_rfl
theorem txO_new (w : World) : TxO (w.alloc (.cells #[.slice none 0 0, .slice none 0 0, .slice none 0 0] 30)) w.heap.size (.slice (some ⟨w.heap.size, 0, none⟩) 3 3) [.slice none 0 0, .slice none 0 0, .slice none 0 0] [[], [], []] := by
  have hget : ∀ (i : Nat) (u : Value), ([.slice none 0 0, .slice none 0 0, .slice none 0 0] : List Value)[i]? = some u → u = .slice none 0 0 := fun i u h => by
    have hm := List.mem_of_getElem? h
    simpa using hm
  refine ⟨own_of_blk (n := 3) (size := 1) (Blk.new w _ _) rfl (by omega), fun i hi => ?_, fun i j u u' h1 h2 hne k hk => ?_⟩
  · match i, hi with
    | 0, _ => exact ⟨_, rfl, World.ownsRow_nil _ _ _ _⟩
    | 1, _ => exact ⟨_, rfl, World.ownsRow_nil _ _ _ _⟩
    | 2, _ => exact ⟨_, rfl, World.ownsRow_nil _ _ _ _⟩
  · rw [hget i u h1] at hk
    cases hk
set_option maxRecDepth 100000 in
set_option maxHeartbeats 16000000 in
theorem programs_any (T : Nat) (hT : T ≤ 12) (a2 : Option Addr) (len2 cap2 : Nat) (z2 : List Int) (w : World) (hE : Elems w a2 len2 z2) (hl : len2 ≤ cap2) (hm : cap2 ≤ 9223372036854775807) :
    Calls Try.prog 8 #[.slice a2 len2 cap2, .int .i64 (T : Int)] w fun e w' => ∃ g us L, e = .returned (.slice (some ⟨g, 0, none⟩) 3 3) ∧ TxO w' w.heap.size (.slice (some ⟨g, 0, none⟩) 3 3) us L ∧ PrgL L T ∧ Up w w' := by
  obtain ⟨i0, hi0, hz0, hz1, hz2⟩ := info_parts Try.infoO
  have HE := Lib.hid hE
  clear hE
  obtain ⟨m, hmin, hm1, hm2⟩ : ∃ m : Nat, min (len2 : Int) (T : Int) = (m : Int) ∧ m ≤ len2 ∧ m ≤ T := ⟨min len2 T, by omega, by omega, by omega⟩
  have hmin2 : (if T < len2 then (T : Int) else (len2 : Int)) = (m : Int) := by rw [← hmin]; split <;> omega
  have hmk := mk3
  have hcap : (m : Int) ≤ (cap2 : Int) := by omega
  clear hmin
  go_enter Try.func8, Try.ntmps8
  go_wp2
  have HT0 := Lib.hid (txO_new w)
  have UT0 := Lib.hid ((Up.refl w).alloc (.cells #[.slice none 0 0, .slice none 0 0, .slice none 0 0] 30))
  generalize w.alloc (.cells #[.slice none 0 0, .slice none 0 0, .slice none 0 0] 30) = w1 at *
  clear hmin2
  obtain ⟨G, hG⟩ : ∃ G, G = w.heap.size := ⟨_, rfl⟩
  have HG := Lib.hid hG
  rw [← hG] at HT0 ⊢
  clear hG
  go_loopw [17] (fun iv wr => ∃ (k : Nat) (us : List Value) (L : List (List Hop)), k ≤ m ∧ iv = .int .i64 k ∧ Hid (TxO wr G (.slice (some ⟨G, 0, none⟩) 3 3) us L) ∧ Hid (PrgL L k) ∧ Hid (Up w wr)) (fun iv _ => m - (intOf iv).toNat)
  case atStart => exact ⟨0, _, _, by omega, rfl, HT0.out, ⟨rfl, by simp, fun i hi x hx => by
    have : ([[], [], []] : List (List Hop))[i] = [] := by
      match i, hi with
      | 0, _ => rfl
      | 1, _ => rfl
      | 2, _ => rfl
    rw [this] at hx; cases hx⟩, UT0.out⟩
  case round =>
    obtain ⟨k, us, L, hk, rfl, HTX, HPG, HU⟩ := hrel
    by_cases hlt : k < m
    · have hlti : (k : Int) < (m : Int) := by omega
      obtain ⟨b, off, rfl, hbl, hc⟩ := (elems_up HE.out HU.out) k (by omega)
      generalize z2.getD k 0 = x at *
      have hcv := conv1 (P := Try.prog) 31 9 5 Try.underlying31 Try.underlying5 Try.underlying9
      go_wp2_with (first
        | (go_at_call 10; refine (modn_any _ _ _ (by decide) (by decide)).mono ?_; rintro e w' ⟨t, rfl, ht, rfl⟩)
        | fail)
      have hL3 := HPG.out.len
      have htl : t < L.length := by omega
      obtain ⟨u, hut, hou⟩ := HTX.out.rows t htl
      obtain ⟨_, _, hge, _, _, hgl, hgc, hgf⟩ := own_some HTX.out.row (by omega)
      simp only [Value.slice.injEq, Option.some.injEq, Addr.mk.injEq, and_true] at hge
      obtain ⟨rfl, h3, rfl⟩ := hge
      have c0 := hgc _ _ hut
      have f0 := hgf t
      obtain ⟨ua, uc, rfl, _, _, _⟩ := own_form hou
      have hnl : L[t].length ≤ 12 := by
        have h1 := mem_len (L := L) (by have := HPG.out.tot; omega) t
        rwa [show L.getD t [] = L[t] by simp [List.getD, htl]] at h1
      have HOU := Lib.hid hou
      have HTL := Lib.hid htl
      have HUT := Lib.hid hut
      obtain ⟨y, hy⟩ : ∃ y, y = L[t]'htl := ⟨_, rfl⟩
      have HY := Lib.hid hy
      rw [← hy] at HOU HUT hnl c0
      have hwr : G ≤ wr.heap.size := by have h1 := HU.out.size; have h2 := HG.out; omega
      have HL3 := Lib.hid hL3
      clear hgc hgf hou hut hy h3 hL3
      have hcv2 : ∀ z : Int, (convert 31 9 (.slice (some ⟨wr.heap.size, 0, none⟩) 1 1)).run Try.prog (wr.alloc (.cells #[.int .u8 z] 5)).drew = .ok (.string (one z)) (wr.alloc (.cells #[.int .u8 z] 5)).drew := fun z => hcv wr.drew z 1 5
      clear hcv
      refine wp_region_held_last _ 22 (by kernel_rfl) rfl rfl rfl rfl (by kernel_rfl) (by kernel_rfl) (fun w' => w'.cell? ⟨G, t, none⟩ = some (.slice ua y.length uc)) ?xs (fun hHeld => ?xr)
      case xs => simpa using c0
      simp only [List.set_cons_succ, List.set_cons_zero, Hp.idle]
      refine wpAnyH_take (i := 0) (v := ?xv0) rfl (by kernel_rfl) (by kernel_rfl) (by kernel_rfl) (fun _ _ _ h => h) (Or.inl ⟨by rfl, ?xy0⟩) (by assumption) ?xr0
      case xy0 => (intro w hSw; (try dsimp only at hSw); go_simp; try with_reducible rfl)
      (try simp only [Act.put, List.setIfInBounds_toArray])
      refine wpAnyH_take (i := 1) (v := ?xv1) rfl (by kernel_rfl) (by kernel_rfl) (by kernel_rfl) (fun _ _ _ h => h) (Or.inl ⟨by rfl, ?xy1⟩) (by assumption) ?xr1
      case xy1 => (intro w hSw; (try dsimp only at hSw); go_simp; try with_reducible rfl)
      (try simp only [Act.put])
      refine wpAnyH_take (i := 2) (v := ?xv2) rfl (by kernel_rfl) (by kernel_rfl) (by kernel_rfl) (fun _ _ _ h => h) (Or.inl ⟨by rfl, ?xy2⟩) (by assumption) ?xr2
      case xy2 => (intro w hSw; (try dsimp only at hSw); go_simp; try with_reducible rfl)
      (try simp only [Act.put])
      refine wpAnyH_take (i := 3) (v := ?xv3) rfl (by kernel_rfl) (by kernel_rfl) (by kernel_rfl) (fun _ _ _ h => h) (Or.inl ⟨by rfl, ?xy3⟩) (by assumption) ?xr3
      case xy3 => (intro w hSw; (try dsimp only at hSw); go_simp; try with_reducible rfl)
      (try simp only [Act.put])
      refine wpAnyH_take (i := 4) (v := ?xv4) rfl (by kernel_rfl) (by kernel_rfl) (by kernel_rfl) (fun _ _ _ h => h) (Or.inl ⟨by rfl, ?xy4⟩) (by assumption) ?xr4
      case xy4 => (intro w hSw; (try dsimp only at hSw); go_simp; try with_reducible rfl)
      (try simp only [Act.put])
      refine wpAnyH_take (i := 5) (v := ?xv5) rfl (by kernel_rfl) (by kernel_rfl) (by kernel_rfl) (fun _ _ _ h => h) (Or.inl ⟨by rfl, ?xy5⟩) (by assumption) ?xr5
      case xy5 => (intro w hSw; (try dsimp only at hSw); go_simp; try with_reducible rfl)
      (try simp only [Act.put])
      refine wpAnyH_take (i := 6) (v := ?xv6) rfl (by kernel_rfl) (by kernel_rfl) (by kernel_rfl) (fun _ _ _ h => h) (Or.inl ⟨by rfl, ?xy6⟩) (by assumption) ?xr6
      case xy6 => (intro w hSw; (try dsimp only at hSw); go_simp; try with_reducible rfl)
      (try simp only [Act.put])
      refine wpAnyH_take (i := 7) (v := ?xv7) rfl (by kernel_rfl) (by kernel_rfl) (by kernel_rfl) (fun _ _ _ h => h) (Or.inl ⟨by rfl, ?xy7⟩) (by assumption) ?xr7
      case xy7 => (intro w hSw; (try dsimp only at hSw); go_simp; try with_reducible rfl)
      (try simp only [Act.put])
      refine wpAnyH_take (i := 8) (v := ?xv8) rfl (by kernel_rfl) (by kernel_rfl) (by kernel_rfl) (fun _ _ _ h => h) (Or.inl ⟨by rfl, ?xy8⟩) (by assumption) ?xr8
      case xy8 => (intro w hSw; (try dsimp only at hSw); go_simp; try with_reducible rfl)
      (try simp only [Act.put])
      refine wpAnyH_take (i := 11) (v := ?xv11) rfl (by kernel_rfl) (by kernel_rfl) (by kernel_rfl) (fun _ _ _ h => h) (Or.inl ⟨by rfl, ?xy11⟩) (by assumption) ?xr11
      case xy11 => (intro w hSw; (try dsimp only at hSw); go_simp; try with_reducible rfl)
      (try simp only [Act.put])
      refine wpAnyH_take (i := 12) (v := ?xv12) rfl (by kernel_rfl) (by kernel_rfl) (by kernel_rfl) (fun _ _ _ h => h) (Or.inl ⟨by rfl, ?xy12⟩) (by assumption) ?xr12
      case xy12 => (intro w hSw; (try dsimp only at hSw); go_simp; try with_reducible rfl)
      (try simp only [Act.put])
      refine wpAnyH_ready (rs := [9]) (by kernel_rfl) (by simp) (AllReadyH.cons rfl (fun K hK => ?xk9) AllReadyH.nil)
      go_simp
      go_wp2_with (first
        | (go_at_call 10; refine (modn_any _ 2 _ (by decide) (by decide)).mono ?_; rintro e w' ⟨q0, rfl, hq0, rfl⟩)
        | fail)
      have hkd : (q0 : Int) < 2 := by omega
      clear hq0
      obtain ⟨kd, rfl⟩ : ∃ kd : Nat, kd = q0 := ⟨_, rfl⟩
      have hwk : IntKind.i64.wrap (1 + (kd : Int)) = 1 + (kd : Int) := by rw [IntKind.wrap_i64]; omega
      refine hK.out _ _ ?xs9 (fun hHeld => ?xh9)
      case xs9 => (first | assumption | exact r1 | go_keep)
      clear hK K
      (try simp only [Act.put, List.setIfInBounds_toArray, List.set_cons_zero, List.set_cons_succ])
      refine wpAnyH_take (i := 10) (v := ?xv10) rfl (by kernel_rfl) (by kernel_rfl) (by kernel_rfl) (fun _ _ _ h => h) (Or.inl ⟨by rfl, ?xy10⟩) (by assumption) ?xr10
      case xy10 => (intro w hSw; (try dsimp only at hSw); go_simp; try with_reducible rfl)
      (try simp only [Act.put, List.setIfInBounds_toArray])
      refine wpAnyH_ready (rs := [13]) (by kernel_rfl) (by simp) (AllReadyH.cons rfl (fun K hK => ?xk13) AllReadyH.nil)
      go_simp
      go_wp2_with (first
        | (go_at_call 10; refine (modn_any _ 3 _ (by decide) (by decide)).mono ?_; rintro e w' ⟨q0, rfl, hq0, rfl⟩)
        | fail)
      have hq : (q0 : Int) < 3 := by omega
      clear hq0
      obtain ⟨q, rfl⟩ : ∃ q : Nat, q = q0 := ⟨_, rfl⟩
      have hwq : IntKind.u8.wrap (q : Int) = (q : Int) := by rw [IntKind.wrap_u8]; omega
      have hwr : IntKind.u8.wrap (120 + (q : Int)) = 120 + (q : Int) := by rw [IntKind.wrap_u8]; omega
      refine hK.out _ _ ?xs13 (fun hHeld => ?xh13)
      case xs13 => (first | assumption | exact r1 | go_keep)
      clear hK K
      (try simp only [Act.put, List.setIfInBounds_toArray, List.set_cons_zero, List.set_cons_succ])
      refine wpAnyH_take (i := 14) (v := ?xv14) rfl (by kernel_rfl) (by kernel_rfl) (by kernel_rfl) (fun _ _ _ h => h) (Or.inl ⟨by rfl, ?xy14⟩) (by assumption) ?xr14
      case xy14 => (intro w hSw; (try dsimp only at hSw); go_simp; try with_reducible rfl)
      (try simp only [Act.put, List.setIfInBounds_toArray])
      refine wpAnyH_take (i := 15) (v := ?xv15) rfl (by kernel_rfl) (by kernel_rfl) (by kernel_rfl) (fun _ _ _ h => h) (Or.inl ⟨by rfl, ?xy15⟩) (by assumption) ?xr15
      case xy15 => (intro w hSw; (try dsimp only at hSw); go_simp; try with_reducible rfl)
      (try simp only [Act.put])
      refine wpAnyH_ready (rs := [16]) (by kernel_rfl) (by simp) (AllReadyH.cons rfl (fun K hK => ?xk16) AllReadyH.nil)
      go_simp
      refine hK.out _ _ ?xs16 (fun hHeld => ?xh16)
      case xs16 => (first | assumption | exact r1 | go_keep)
      clear hK K
      (try simp only [Act.put, List.setIfInBounds_toArray, List.set_cons_zero, List.set_cons_succ])
      refine wpAnyH_ready (rs := [17]) (by kernel_rfl) (by simp) (AllReadyH.cons rfl (fun K hK => ?xk17) AllReadyH.nil)
      go_simp
      refine hK.out _ _ ?xs17 (fun hHeld => ?xh17)
      case xs17 => (first | assumption | exact r1 | go_keep)
      clear hK K
      (try simp only [Act.put, List.setIfInBounds_toArray, List.set_cons_zero, List.set_cons_succ])
      refine wpAnyH_take (i := 18) (v := ?xv18) rfl (by kernel_rfl) (by kernel_rfl) (by kernel_rfl) (fun _ _ _ h => h) (Or.inl ⟨by rfl, ?xy18⟩) (by assumption) ?xr18
      case xy18 => (intro w hSw; (try dsimp only at hSw); go_simp; try with_reducible rfl)
      (try simp only [Act.put, List.setIfInBounds_toArray])
      refine wpAnyH_ready (rs := [19]) (by kernel_rfl) (by simp) (AllReadyH.cons rfl (fun K hK => ?xk19) AllReadyH.nil)
      go_simp
      refine hK.out _ _ ?xs19 (fun hHeld => ?xh19)
      case xs19 => (first | assumption | exact r1 | go_keep)
      clear hK K
      (try simp only [Act.put, List.setIfInBounds_toArray, List.set_cons_zero, List.set_cons_succ])
      refine wpAnyH_ready (rs := [20]) (by kernel_rfl) (by simp) (AllReadyH.cons rfl (fun K hK => ?xk20) AllReadyH.nil)
      refine step_append_lies _ rfl (.tmp 28) (.tmp 42) 30 rfl G 33 i0 (.agg #[.int .i64 0, .int .i64 0, .string ByteArray.empty]) 3 32 Try.underlying30 hi0 hz0 hz1 hz2 rfl (by decide) (.slice ua y.length uc) y.length (hpC y) (by simp [Act.eval]) (by exact own_up HOU.out (((Up.refl wr).alloc (.cells #[.int .u8 (120 + (q : Int))] 5)).alloc (.cells #[.int .i64 (t : Int), .int .i64 (1 + (kd : Int)), .string (one (120 + (q : Int)))] 33)).drew) ⟨wr.heap.size + 1, 0, none⟩ 1 1 [.int .i64 (t : Int), .int .i64 (1 + (kd : Int)), .string (one (120 + (q : Int)))] (by simp [Act.eval]) rfl (by intro j u hj; exact cells_at (wr.alloc (.cells #[.int .u8 (120 + (q : Int))] 5)) #[.int .i64 (t : Int), .int .i64 (1 + (kd : Int)), .string (one (120 + (q : Int)))] 33 (wr.heap.size + 1) (by simp) j u hj) (by intro u hu; simp at hu; rcases hu with rfl | rfl | rfl <;> rfl) (by omega) (by unfold maxLen; omega) (by omega) (by simp; omega) (wr.heap.size + 2) (by simp) ?ag
      intro g2 c2 w3 hown2 hgrow2 hat2 hlt2
      obtain ⟨r1, r2, r3, r4⟩ := HTX.out.far HL3.out HTL.out HUT.out (((Up.refl wr).alloc (.cells #[.int .u8 (120 + (q : Int))] 5)).alloc (.cells #[.int .i64 (t : Int), .int .i64 (1 + (kd : Int)), .string (one (120 + (q : Int)))] 33)).drew hgrow2
      have HC3 := Lib.hid r4
      have H3 := Lib.hid (And.intro hown2 (And.intro hgrow2 hat2))
      clear hown2 hgrow2 hat2 r4
      refine hK.out _ _ ?xs20 (fun hHeld => ?xh20)
      case xs20 => (first | assumption | exact r1 | go_keep)
      clear hK K
      (try simp only [Act.put, List.setIfInBounds_toArray])
      refine wpAnyH_take (i := 21) (v := ?xv21) rfl (by kernel_rfl) (by kernel_rfl) (by kernel_rfl) (fun _ _ _ h => h) (Or.inl ⟨by rfl, ?xy21⟩) (by assumption) ?xr21
      case xy21 => (intro w hSw; (try dsimp only at hSw); go_simp; try with_reducible rfl)
      (try simp only [Act.put])
      refine wpAnyH_take (i := 22) (v := ?xv22) rfl (by kernel_rfl) (by kernel_rfl) (by kernel_rfl) (fun _ _ _ h => h) (Or.inl ⟨by rfl, ?xy22⟩) (by assumption) ?xr22
      case xy22 => (intro w hSw; (try dsimp only at hSw); go_simp; try with_reducible rfl)
      (try simp only [Act.put])
      refine wpAnyH_done (by kernel_rfl) (Fin1.of ?xd) _
      · have NEW : Hid (∃ us' L', Hid (TxO (w3.setCell ⟨G, t, none⟩ (.slice (some ⟨g2, 0, none⟩) (y.length + 1) c2)) G (.slice (some ⟨G, 0, none⟩) 3 3) us' L') ∧ Hid (PrgL L' (k + 1)) ∧ Hid (Up w (w3.setCell ⟨G, t, none⟩ (.slice (some ⟨g2, 0, none⟩) (y.length + 1) c2)))) := by
          obtain ⟨e1, e2, e3⟩ := H3.out
          refine ⟨_, _, HTX.out.put HL3.out HTL.out HUT.out HC3.out (u' := .slice (some ⟨g2, 0, none⟩) (y.length + 1) c2) (l := y ++ [(⟨t, 1 + (kd : Int), one (120 + (q : Int))⟩ : Hop)]) ?_ ?_, ?_, ?_⟩
          · unfold OpsO
            rw [List.length_append, hpC_app]
            exact e1
          · rcases e3 with e | e
            · exact .inl e.symm
            · refine .inr fun k hk => ?_
              obtain rfl : g2 = k := by simpa [Value.ownBlock] using hk
              rw [e]; exact Nat.le_add_right _ _
          · have := HPG.out.snoc HTL.out (x := ⟨t, 1 + (kd : Int), one (120 + (q : Int))⟩) ⟨rfl, by show (1 + (kd : Int)) = 1 ∨ (1 + (kd : Int)) = 2; omega, by show (one _).size ≤ 24; rw [one_size]; omega⟩
            rw [← HY.out] at this
            exact this
          · refine Up.set (Below.trans HU.out (HC3.out.below HU.out.size fun k hk e => ?_)) (by rw [HG.out]; exact Nat.le_refl _) _ _ _
            have := ((own_ty HOU.out) k e).2
            have := HG.out
            omega
        go_wp2
        go_roundw
        case rel =>
          obtain ⟨us', L', n1, n2, n3⟩ := NEW.out
          exact ⟨k + 1, us', L', by omega, by go_num, n1, n2, n3⟩
        case measure => simp [intOf]; omega
    · obtain rfl : k = m := by omega
      go_wp2
      go_ret
      have hp := HPG.out
      refine ⟨G, us, L, rfl, ?_, ⟨hp.len, by have := hp.tot; omega, hp.ok⟩, HU.out⟩
      have := HTX.out
      rw [← HG.out]
      exact this
end Go.Proofs.Ythcldanmppkkjaa.In
