/- Interleavings: Schedules, Count. -/
import Derived.Test.YthcldanmppkkjaaInk
namespace Go.Proofs.Ythcldanmppkkjaa.In
open Go Go.RowKit Hp
set_option linter.unusedVariables false

/-! ### How many -/
theorem loopE_len {f : List (List Hop) → (Nat → Bool) → List (List Hop)} {rem : List (List Hop)} {K : Nat} (hf : ∀ rem' Z, rem'.length = rem.length → (f rem' Z).length ≤ K) : ∀ (is : List Nat) (Z : Nat → Bool), (loopE depH f rem is Z).length ≤ is.length * K
  | [], _ => Nat.zero_le _
  | i :: is, Z => by
    have ih := loopE_len hf is
    rw [List.length_cons, Nat.add_mul, Nat.one_mul]
    unfold loopE
    split
    · have := ih Z; omega
    · rename_i a r hr
      split
      · have := ih Z; omega
      · have h1 := ih (fun k => Z k || decide (k = i))
        have h2 := hf (rem.set i r) (sleepN depH rem a Z) (by simp)
        rw [List.length_append, List.length_map]
        omega
theorem expl_len : ∀ (n : Nat) (rem : List (List Hop)) (Z : Nat → Bool), (expl depH n rem Z).length ≤ rem.length ^ n
  | 0, rem, Z => by simp [expl]
  | n + 1, rem, Z => by
    have := loopE_len (f := expl depH n) (rem := rem) (K := rem.length ^ n) (fun rem' Z' h => by rw [← h]; exact expl_len n rem' Z') (List.range rem.length) Z
    rw [List.length_range] at this
    rw [expl, Nat.pow_succ, Nat.mul_comm]
    exact this
/-- The schedules that the explorer finds. -/
def sch (L : List (List Hop)) : List (List Hop) := expl depH (tot L) L fun _ => false
theorem tot_flat (L : List (List Hop)) : tot L = L.flatten.length := by unfold tot; rw [List.length_flatten]
theorem sch_len {L : List (List Hop)} (h : TValid L) : (sch L).length ≤ 16777216 := by
  have h1 := expl_len (tot L) L fun _ => false
  have h2 : L.length ^ tot L ≤ 4 ^ tot L := Nat.pow_le_pow_left h.len _
  have h3 : 4 ^ tot L ≤ 4 ^ 12 := Nat.pow_le_pow_right (by omega) (by rw [tot_flat]; exact h.tot)
  unfold sch
  have : (4 : Nat) ^ 12 = 16777216 := by decide
  omega
theorem remL_start (L : List (List Hop)) : remL L (List.replicate L.length 0) = L := by
  refine getD_ext (d := []) (remL_len _ _) fun i hi => ?_
  rw [remL_len] at hi
  rw [remL_get]
  simp [List.getD, hi]
theorem slf_start (n : Nat) : slf (List.replicate n false) = fun _ => false := by
  funext k
  unfold slf
  rcases Nat.lt_or_ge k n with h | h
  · simp [List.getD, h]
  · simp [List.getD, h]
theorem TValid.own' {L : List (List Hop)} (h : TValid L) : Own Hop.tx L := fun i hi x hx => by
  refine h.own i hi x ?_
  simpa [List.getD, hi] using hx
theorem mem_len {L : List (List Hop)} (h : L.flatten.length ≤ 12) (i : Nat) : (L.getD i []).length ≤ 12 := by
  rcases Nat.lt_or_ge i L.length with hi | hi
  · have h1 : (L.getD i []).Sublist L.flatten := by
      rw [show L.getD i [] = L[i] by simp [List.getD, hi]]
      exact List.sublist_flatten_of_mem (List.getElem_mem hi)
    have := h1.length_le
    omega
  · simp [List.getD, List.getElem?_eq_none hi]
theorem merge_valid {L : List (List Hop)} {s : List Hop} (h : TValid L) (hm : Mrg Hop.tx L s) : HValid s := by
  have hl := hm.len h.own'
  have key : ∀ i, i < s.length → ∃ j, ∃ hj : j < L.length, ∃ k, k < L[j].length ∧ s.getD i h0 = L[j].getD k h0 := fun i hi => by
    have hx : s.getD i h0 ∈ s := by simp [List.getD, hi]
    generalize s.getD i h0 = x at *
    have hj := hm.lt _ hx
    have hm2 := hm.mem hx
    have e0 : L.getD x.tx [] = L[x.tx] := by simp [List.getD, hj]
    rw [e0] at hm2
    obtain ⟨k, hk, e⟩ := List.getElem_of_mem hm2
    exact ⟨x.tx, hj, k, hk, by simp [List.getD, hk, e]⟩
  refine ⟨by rw [hl, tot_flat]; have := h.tot; omega, fun i hi => ?_, fun i hi => ?_, fun i hi => ?_⟩
  · obtain ⟨j, hj, k, hk, e⟩ := key i hi; rw [e]; exact (h.each j hj).kind k hk
  · obtain ⟨j, hj, k, hk, e⟩ := key i hi; rw [e]; exact (h.each j hj).tx k hk
  · obtain ⟨j, hj, k, hk, e⟩ := key i hi; rw [e]; exact (h.each j hj).key k hk
theorem sch_merge {L : List (List Hop)} (h : TValid L) : ∀ s ∈ sch L, Mrg Hop.tx L s := expl_mem (dep := depH) (tot L) L _ h.own' rfl
/-! ### Schedules -/
theorem made_in (n : Nat) : madeCells #[.int .i64 0] n = (inC (List.replicate n 0)).toArray := by
  apply Array.toList_inj.1
  rw [toList_madeCells_one]
  unfold inC
  rw [List.map_replicate]
  rfl
theorem mkN (n : Nat) (h2 : n ≤ 1000) (w : World) : (Instr.makeSlice 22 (.int .i64 (n : Int)) (.int .i64 (n : Int))).run Try.prog w = .ok (.slice (some ⟨w.heap.size, 0, none⟩) n n) (w.alloc (.cells (inC (List.replicate n 0)).toArray 3)) := by
  obtain ⟨i0, hi, hz0, hz1, hz2⟩ := info_parts Try.infoI
  have h := run_make (P := Try.prog) w 22 3 i0 (.int .i64 0) Try.underlying22 hi hz0 .i64 .i64 (n : Int) (n : Int) (by omega) (Int.le_refl _) (by rw [hz2]; omega) (by omega)
  rw [hz1, Int.toNat_natCast, Nat.mul_one, show (Value.int .i64 0).cells = #[.int .i64 0] from rfl, made_in] at h
  exact h
set_option maxRecDepth 100000 in
set_option maxHeartbeats 8000000 in
theorem schedules_any (v : Value) (L : List (List Hop)) (w : World) (h : TxR w 0 v L) (hv : TValid L) :
    Calls Try.prog 12 #[v] w fun e w' => ∃ v', e = .returned (.tuple #[v', .int .i64 0]) ∧ TxR w' w.heap.size v' (sch L) ∧ Up w w' := by
  have HCK := Lib.hid (check_any v L w h hv)
  have hm := hv.len
  have HLOW : Hid (∀ k, v.ownBlock = some k → k < w.heap.size) := fun k hk => (h.ty k hk).1.lt
  obtain ⟨ta, tc, rfl, _, _, _⟩ := h.form
  have HT := Lib.hid h
  have HEX := Lib.hid fun (P : Nat) (W : World) (nv bv : Value) (hE : ExS W P w.heap.size (.slice ta L.length tc) (.slice none 0 0) L []) (h1 : W.ownsRow 0 3 1 nv L.length (inC (List.replicate L.length 0))) (h2 : W.ownsRow 0 4 1 bv L.length (boC (List.replicate L.length false))) => by
    have key := explore_any P w.heap.size (.slice ta L.length tc) L (tot L) (List.replicate L.length 0) (List.replicate L.length false) [] [] nv bv (.slice none 0 0) (.slice none 0 0) W hE h1 h2 (World.ownsRow_nil _ _ _ _) (by simp) (by simp)
    rw [remL_start, slf_start] at key
    exact key (fun k hk => by cases hk) (fun i hi => by simp [List.getD, hi]) rfl hm (fun i => by have := mem_len hv.tot i; omega) (by rw [tot_flat]; have := hv.tot; rw [List.length_nil]; omega) (by have := sch_len hv; unfold sch at this; simp; omega)
  have hmk1 := fun W => mkN L.length (by omega) W
  have hmk2 := fun W => mkB L.length (by omega) W
  clear h hv
  go_enter Try.func12, Try.ntmps12
  go_wp2_with (first
    | (go_at_call 19; refine HCK.out.mono ?_; rintro e w1 ⟨rfl, h1⟩; have U1 := Lib.hid h1; clear h1)
    | fail)
  have hw1 := U1.out.size
  have HE2 : Hid (ExS (w1.alloc (.cells #[.slice ta L.length tc, .slice none 0 0] 56)) w1.heap.size w.heap.size (.slice ta L.length tc) (.slice none 0 0) L []) := by
    refine ⟨Blk.new w1 _ _, (HT.out.up U1.out).up ((Up.refl w1).alloc _), ⟨[], World.ownsRow_nil _ _ _ _, fun i hi => by cases hi⟩, HLOW.out, ?_⟩
    have := ((Up.refl w1).alloc (.cells #[.slice ta L.length tc, .slice none 0 0] 56)).size
    omega
  have UP2 := Lib.hid (U1.out.alloc (.cells #[.slice ta L.length tc, .slice none 0 0] 56))
  obtain ⟨P, hP⟩ : ∃ P, P = w1.heap.size := ⟨_, rfl⟩
  have HP : Hid (w.heap.size ≤ P) := by unfold Hid; omega
  rw [← hP] at HE2 ⊢
  generalize w1.alloc (.cells #[.slice ta L.length tc, .slice none 0 0] 56) = w2 at *
  clear hP hw1
  have HI : Hid (∀ (W : World) (m : Nat), m = W.heap.size → (W.alloc (.cells (inC (List.replicate L.length 0)).toArray 3)).ownsRow 0 3 1 (.slice (some ⟨m, 0, none⟩) L.length L.length) L.length (inC (List.replicate L.length 0))) := fun W m hm' => by
    subst hm'
    exact own_base (own_of_blk (n := L.length) (size := 1) (Blk.new W _ _) (by simp [inC_len]) (by omega)) (Nat.zero_le _)
  have HBB : Hid (∀ (W : World) (m : Nat), m = W.heap.size → (W.alloc (.cells (boC (List.replicate L.length false)).toArray 4)).ownsRow 0 4 1 (.slice (some ⟨m, 0, none⟩) L.length L.length) L.length (boC (List.replicate L.length false))) := fun W m hm' => by
    subst hm'
    exact own_base (own_of_blk (n := L.length) (size := 1) (Blk.new W _ _) (by simp [boC_len]) (by omega)) (Nat.zero_le _)
  have HCALL : Hid (∀ (W : World) (nv bv : Value), Up w2 W → W.ownsRow 0 3 1 nv L.length (inC (List.replicate L.length 0)) → W.ownsRow 0 4 1 bv L.length (boC (List.replicate L.length false)) → Calls Try.prog 20 #[.pointer (some ⟨P, 0, none⟩), nv, bv, .slice none 0 0] W fun e w' => e = .returned (.tuple #[]) ∧ ∃ sv', w'.cell? ⟨P, 1, none⟩ = some sv' ∧ P < w'.heap.size ∧ Hid (TxR w' w.heap.size sv' (sch L) ∧ Up w w')) := fun W nv bv hu h1 h2 => by
    refine (HEX.out P W nv bv (HE2.out.up hu) h1 h2).mono ?_
    rintro e w' ⟨rfl, sv', e1, e2, e3⟩
    have hs : (sch L) = [] ++ (expl depH (tot L) L fun _ => false).map ([] ++ ·) := by
      unfold sch
      simp
    refine ⟨rfl, sv', (e1.blk.at (i := 1) rfl).2, e1.blk.lt, by rw [hs]; exact e1.sch, Below.trans (Below.trans UP2.out (hu.mono UP2.out.size)) (e2.below (Nat.le_trans UP2.out.size hu.size) fun k hk e => ?_)⟩
    rcases e with e | e
    · have := HP.out; omega
    · cases e
  obtain ⟨H, hH⟩ : ∃ H, H = w2.heap.size := ⟨_, rfl⟩
  go_region_law (first
    | (refine step_go (f := 20) Try.call20 #[.pointer (some ⟨P, 0, none⟩), .slice (some ⟨w2.heap.size, 0, none⟩) L.length L.length, .slice (some ⟨w2.heap.size + 1, 0, none⟩) L.length L.length, .slice none 0 0] (by simp [Act.eval] <;> rfl) (HCALL.out _ _ _ (((Up.refl w2).alloc _).alloc _).drew (own_up (HI.out w2 _ rfl) ((Up.refl _).alloc _).drew) (own_up (HBB.out _ (w2.heap.size + 1) (by simp)) (Up.refl _).drew)) ?_
       rintro e w9 ⟨rfl, sv', c9, l9, h9⟩
       refine ⟨_, rfl, ?_⟩
       clear hH)
    | (refine step_go (f := 20) Try.call20 #[.pointer (some ⟨P, 0, none⟩), .slice (some ⟨w2.heap.size + 1, 0, none⟩) L.length L.length, .slice (some ⟨w2.heap.size, 0, none⟩) L.length L.length, .slice none 0 0] (by simp [Act.eval] <;> rfl) (HCALL.out _ _ _ (((Up.refl w2).alloc _).alloc _).drew (own_up (HI.out _ (w2.heap.size + 1) (by simp)) (Up.refl _).drew) (own_up (HBB.out w2 _ rfl) ((Up.refl _).alloc _).drew)) ?_
       rintro e w9 ⟨rfl, sv', c9, l9, h9⟩
       refine ⟨_, rfl, ?_⟩
       clear hH)
    | fail)
  all_goals
    go_wp2
    go_ret2
    exact ⟨sv', rfl, h9.out.1, h9.out.2⟩
/-! ### Count -/
def serN (L : List (List Hop)) : Nat := (sch L).countP fun s => (orderOf s).isSome
def cntS (S : List (List Hop)) (q : Nat) : Nat := (S.take q).countP fun s => (orderOf s).isSome
theorem cntS_next (S : List (List Hop)) {q : Nat} (h : q < S.length) : cntS S (q + 1) = cntS S q + (if (orderOf S[q]).isSome = true then 1 else 0) := by
  unfold cntS
  rw [List.take_add_one, List.getElem?_eq_getElem h, Option.toList_some, List.countP_append, List.countP_cons, List.countP_nil]
  simp
theorem cntS_le (S : List (List Hop)) (q : Nat) : cntS S q ≤ S.length := by
  unfold cntS
  have h1 : (S.take q).countP (fun s => (orderOf s).isSome) ≤ (S.take q).length := List.countP_le_length
  have h2 := List.length_take_le q S
  rw [List.length_take] at h1
  omega
set_option maxRecDepth 100000 in
set_option maxHeartbeats 8000000 in
theorem count_any (v : Value) (L : List (List Hop)) (w : World) (h : TxR w 0 v L) (hv : TValid L) :
    Calls Try.prog 9 #[v] w fun e w' => e = .returned (.tuple #[.int .i64 ((sch L).length : Nat), .int .i64 (serN L : Nat), .int .i64 0]) ∧ Up w w' := by
  have HSC := Lib.hid (schedules_any v L w h hv)
  have HM := Lib.hid fun s (hs : s ∈ sch L) => merge_valid hv (sch_merge hv s hs)
  have hlen := sch_len hv
  obtain ⟨S, hS⟩ : ∃ S, S = sch L := ⟨_, rfl⟩
  have HSN : Hid (cntS S S.length = serN L) := by unfold Hid cntS serN; rw [List.take_length, hS]
  rw [← hS] at HSC HM hlen ⊢
  have CL := Lib.hid (cntS_le S)
  clear h hv hS
  go_enter Try.func9, Try.ntmps9
  go_wp2_with (first
    | (go_at_call 12; refine HSC.out.mono ?_; rintro e w1 ⟨v1, rfl, h1, h2⟩; obtain ⟨sa, sc, rfl, _, _, _⟩ := h1.form; have T1 := Lib.hid h1; have U1 := Lib.hid h2; clear h1 h2)
    | fail)
  go_loopw [3, 20] (fun cv iv wr => ∃ q : Nat, q ≤ S.length ∧ iv = .int .i64 q ∧ cv = .int .i64 (cntS S q : Nat) ∧ Hid (Up w1 wr)) (fun _ iv _ => S.length - (intOf iv).toNat)
  case atStart => exact ⟨0, by omega, rfl, rfl, Up.refl _⟩
  case round =>
    obtain ⟨q, hq, rfl, rfl, HU⟩ := hrel
    have hcl := CL.out q
    by_cases hlt : q < S.length
    · have hlti : (q : Int) < (S.length : Int) := by omega
      obtain ⟨g, u, uc, rfl, hg, t0, ho, _⟩ := (T1.out.up HU.out).row hlt
      have HSO := Lib.hid (sorder_any _ S[q] wr (hops_own ho) (HM.out _ (List.getElem_mem hlt)))
      have HCN := Lib.hid (cntS_next S hlt)
      obtain ⟨c, hc⟩ : ∃ c, c = cntS S q := ⟨_, rfl⟩
      have HC := Lib.hid hc
      rw [← hc] at HCN hcl ⊢
      clear ho hc
      cases hr : orderOf S[q] with
      | none =>
        rw [hr] at HSO HCN
        have HCE : Hid (cntS S (q + 1) = c) := by have := HCN.out; simpa [Hid] using this
        clear hr HCN
        generalize S[q].length = y at *
        go_wp2_with (first
          | (go_at_call 18; refine HSO.out.mono ?_; rintro e w2 ⟨h1, h2⟩; obtain rfl := h1.2 rfl; have U2 := Lib.hid h2; clear h1 h2)
          | fail)
        go_roundw
        case rel => exact ⟨q + 1, by omega, by go_num, by rw [HCE.out], HU.out.trans U2.out⟩
        case measure => simp [intOf]; omega
      | some res =>
        rw [hr] at HSO HCN
        have HCE : Hid (cntS S (q + 1) = c + 1) := by have := HCN.out; simpa [Hid] using this
        clear hr HCN
        generalize S[q].length = y at *
        go_wp2_with (first
          | (go_at_call 18; refine HSO.out.mono ?_; rintro e w2 ⟨h1, h2⟩; obtain ⟨v2, rfl, _⟩ := h1.1 res rfl; have U2 := Lib.hid h2; clear h1 h2)
          | fail)
        go_roundw
        case rel => exact ⟨q + 1, by omega, by go_num, by rw [HCE.out]; go_num, HU.out.trans U2.out⟩
        case measure => simp [intOf]; omega
    · obtain rfl : q = S.length := by omega
      go_wp2
      go_ret3
      rw [HSN.out]
      exact ⟨rfl, U1.out.trans HU.out⟩
end Go.Proofs.Ythcldanmppkkjaa.In
