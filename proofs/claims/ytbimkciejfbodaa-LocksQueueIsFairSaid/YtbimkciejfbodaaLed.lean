/- Locks: the queue is fair. -/
import Derived.Test.YtbimkciejfbodaaLec
namespace Go.Proofs.Ytbimkciejfbodaa.Lk
open Go Go.RowKit Hp
set_option linter.unusedVariables false

/-- The shared requests of the readers. -/
def rdr (k : Nat) : List Lk := (List.range k).map fun i : Nat => sh (2 + (i : Int)) 1
def rdT (k : Nat) : List Int := (List.range k).map fun i : Nat => 2 + (i : Int)
theorem rdr_succ (k : Nat) : rdr (k + 1) = rdr k ++ [sh (2 + (k : Int)) 1] := by
  unfold rdr
  rw [List.range_succ, List.map_append]
  rfl
theorem rdT_succ (k : Nat) : rdT (k + 1) = rdT k ++ [2 + (k : Int)] := by
  unfold rdT
  rw [List.range_succ, List.map_append]
  rfl
theorem rdr_len (k : Nat) : (rdr k).length = k := by unfold rdr; simp
theorem rdT_len (k : Nat) : (rdT k).length = k := by unfold rdT; simp
theorem rdr_tx (k : Nat) : (rdr k).map (·.tx) = rdT k := by
  unfold rdr rdT
  rw [List.map_map]
  rfl
theorem mem_rdr {k : Nat} {x : Lk} : x ∈ rdr k ↔ ∃ i : Nat, i < k ∧ x = sh (2 + (i : Int)) 1 := by
  unfold rdr
  rw [List.mem_map]
  constructor
  · rintro ⟨i, h, rfl⟩; exact ⟨i, List.mem_range.1 h, rfl⟩
  · rintro ⟨i, h, rfl⟩; exact ⟨i, List.mem_range.2 h, rfl⟩
theorem sh_tx (t m : Int) : (sh t m).tx = t := rfl
/-- The state behind k readers. -/
def st56 (k : Nat) : Mg := ⟨[sh 0 1], sh 1 2 :: rdr k⟩
theorem edge56 {k : Nat} {t u : Int} (ht : t < 2) (h : EdgeM (st56 k) t u) : u = 0 := by
  obtain ⟨A, q, B, e, e2, x, h1, h2, h3⟩ := edgeS_iff.1 h
  have e : sh 1 2 :: rdr k = A ++ q :: B := e
  cases A with
  | nil =>
    have h1 : x ∈ [sh 0 1] ++ [] := h1
    rw [List.append_nil, List.mem_singleton] at h1
    subst h1
    exact h3.symm
  | cons a A =>
    simp only [List.cons_append, List.cons.injEq] at e
    have : q ∈ rdr k := by rw [e.2]; exact List.mem_append_right _ List.mem_cons_self
    obtain ⟨i, hi, rfl⟩ := mem_rdr.1 this
    rw [sh_tx] at e2
    omega
theorem rch56 {k : Nat} {fs : List Int} {u : Int} (hf : ∀ x ∈ fs, x < 2) (h : Rch (st56 k) fs u) : u < 2 := by
  induction h with
  | base h => exact hf _ h
  | step _ e ih => rw [edge56 ih e]; omega
theorem acq56a : acqL ⟨[], []⟩ (sh 0 1) = (0, ⟨[sh 0 1], []⟩) := (acq_new (l := sh 0 1) (fun ⟨q, h, _⟩ => by cases h) rfl (fun x h => by cases h) (by decide)).1 (fun x h => by cases h)
theorem acq56b : acqL ⟨[sh 0 1], []⟩ (sh 1 2) = (16, st56 0) :=
  (acq_new (l := sh 1 2) (fun ⟨q, h, _⟩ => by cases h) rfl (fun x h => by rw [List.mem_singleton.1 h, sh_same]; decide) (by decide)).2.2 ⟨sh 0 1, by simp, by rw [sh_confl]; decide⟩ (fun h => by
    have h := rch_noq h
    obtain ⟨x, h1, h2, h3⟩ := mem_col.1 h
    have : x = sh 0 1 := by simpa using h1
    rw [this] at h3
    cases h3)
theorem acq56 {k : Nat} (hk : k < 100) : acqL (st56 k) (sh (2 + (k : Int)) 1) = (16, st56 (k + 1)) := by
  have h := (acq_new (gr := [sh 0 1]) (Q := sh 1 2 :: rdr k) (l := sh (2 + (k : Int)) 1) (fun ⟨q, h, e⟩ => by
      rw [sh_tx] at e
      rcases List.mem_cons.1 h with rfl | h
      · rw [sh_tx] at e; omega
      · obtain ⟨i, hi, rfl⟩ := mem_rdr.1 h
        rw [sh_tx] at e; omega) rfl (fun x h => by
      rw [List.mem_singleton.1 h, sh_same]
      exact decide_eq_false (by omega)) (by simp [rdr_len]; omega)).2.2 ⟨sh 1 2, by simp, by
      rw [sh_confl, decide_eq_true (show (1 : Int) ≠ 2 + (k : Int) by omega)]; rfl⟩ (fun h => by
      have h := rch56 (k := k) (fun x hx => ?_) h
      · rw [sh_tx] at h; omega
      · obtain ⟨y, h1, h2, rfl⟩ := mem_col.1 hx
        rcases List.mem_append.1 h1 with h1 | h1
        · rw [List.mem_singleton.1 h1, sh_tx]; omega
        · rcases List.mem_cons.1 h1 with rfl | h1
          · rw [sh_tx]; omega
          · obtain ⟨i, hi, rfl⟩ := mem_rdr.1 h1
            rw [sh_confl] at h2
            simp [compat] at h2)
  unfold st56
  rw [h, rdr_succ]
  rfl
theorem good56 : ∀ k, k ≤ 18 → Good (st56 k) (k + 2)
  | 0, _ => by
    have h := Good.nil.acq (l := sh 0 1) (sh_valid (by omega) (by omega) (by omega) (by omega))
    rw [acq56a] at h
    have h := h.acq (l := sh 1 2) (sh_valid (by omega) (by omega) (by omega) (by omega))
    rw [acq56b] at h
    exact h
  | k + 1, hk => by
    have h := (good56 k (by omega)).acq (l := sh (2 + (k : Int)) 1) (sh_valid (by omega) (by omega) (by omega) (by omega))
    rw [acq56 (by omega)] at h
    exact h
/-! ### The releases -/
theorem blk_none {gr : List Lk} {q : Lk} (h : ∀ x ∈ gr, confl x q = false) : (blkL gr q).length = 0 := by
  rcases Nat.eq_zero_or_pos (blkL gr q).length with e | e
  · exact e
  · obtain ⟨x, h1, h2⟩ := blk_ne.1 (Nat.pos_iff_ne_zero.1 e)
    rw [h x h1] at h2
    cases h2
theorem go_stay {g : Lk} : ∀ (rest pre : List Lk) (res : List Int), (∀ q ∈ rest, confl g q = true) → relGo [g] pre rest res = ([g], pre ++ rest, res)
  | [], pre, res, _ => by unfold relGo; rw [List.append_nil]
  | q :: rest, pre, res, h => by
    unfold relGo
    rw [if_neg (blk_ne.2 ⟨g, by simp, h q List.mem_cons_self⟩), go_stay rest (pre ++ [q]) res fun x hx => h x (List.mem_cons_of_mem _ hx), List.append_assoc]
    rfl
theorem go_all : ∀ (rest gr : List Lk) (res : List Int), (gr ++ rest).Pairwise (fun a b => sameL a b = false ∧ confl a b = false) → relGo gr [] rest res = (gr ++ rest, [], res ++ rest.map (·.tx))
  | [], gr, res, _ => by unfold relGo; simp
  | q :: rest, gr, res, h => by
    have h1 : ∀ x ∈ gr, sameL x q = false ∧ confl x q = false := fun x hx => (List.pairwise_append.1 h).2.2 x hx q List.mem_cons_self
    unfold relGo
    rw [List.append_nil, if_pos (blk_none fun x hx => (h1 x hx).2), (mode_none fun x hx => (h1 x hx).1).2.1, go_all rest (gr ++ [q]) _ (by rw [List.append_assoc]; exact h)]
    simp
theorem keep_id {t : Int} {l : List Lk} (h : ∀ x ∈ l, x.tx ≠ t) : keepC t l = l := by
  unfold keepC
  refine List.filter_eq_self.2 fun x hx => ?_
  unfold oldC
  rw [decide_eq_false (h x hx)]
  rfl
theorem rel56a (k : Nat) : relM (st56 k) 0 = ([sh 1 2], rdr k, [1]) := by
  have h0 : ∀ x ∈ rdr k, x.tx ≠ 0 ∧ x.tx ≠ 1 := fun x hx => by
    obtain ⟨i, hi, rfl⟩ := mem_rdr.1 hx
    rw [sh_tx]
    omega
  unfold relM st56
  rw [show keepC 0 [sh 0 1] = [] by rfl, keep_id (l := sh 1 2 :: rdr k) (fun x hx => by
    rcases List.mem_cons.1 hx with rfl | hx
    · rw [sh_tx]; omega
    · exact (h0 x hx).1)]
  unfold relGo
  rw [if_pos (blk_none (fun x hx => by simp at hx)), (mode_none (gr := []) (fun x hx => by simp at hx)).2.1, List.nil_append, go_stay (rdr k) [] _ fun q hq => by
    obtain ⟨i, hi, rfl⟩ := mem_rdr.1 hq
    rw [sh_confl, decide_eq_true (show (1 : Int) ≠ 2 + (i : Int) by omega)]
    rfl]
  rfl
theorem rel56b (k : Nat) : relM ⟨[sh 1 2], rdr k⟩ 1 = (rdr k, [], rdT k) := by
  unfold relM
  rw [show keepC 1 [sh 1 2] = [] by rfl, keep_id (l := rdr k) (fun x hx => by
    obtain ⟨i, hi, rfl⟩ := mem_rdr.1 hx
    rw [sh_tx]
    omega), go_all (rdr k) [] [] (by
    rw [List.nil_append]
    unfold rdr
    refine List.pairwise_map.2 (List.pairwise_lt_range.imp fun {i j} hij => ?_)
    rw [sh_same, sh_confl]
    refine ⟨decide_eq_false (by omega), ?_⟩
    simp [compat]), rdr_tx]
  rfl
theorem lit1 (W : World) (x : Int) (g : Nat) (hg : W.heap.size = g) : Src (W.alloc (.cells #[.int .i64 x] 3)) 1 (.slice (some ⟨g, 0, none⟩) 1 1) [x].length (icI [x]) := by
  subst hg
  refine ⟨rfl, .inr ⟨W.heap.size, 0, 1, rfl, Nat.le_refl _, by omega, fun j u hj => ?_⟩⟩
  rw [Nat.zero_add]
  refine At.new W _ _ j u ?_
  have : (#[Value.int .i64 x])[j]? = (icI [x])[j]? := by simp [icI]
  rw [this]
  exact hj
set_option maxRecDepth 100000 in
set_option maxHeartbeats 2000000 in
theorem walk56 (z : Int) (w : World) : Calls Try.prog 6 #[.int .i64 z] w fun e w' => e = .returned (.bool true) ∧ Up w w' := by
  obtain ⟨i1, hi1, hz3, hz4, hz5⟩ := info_parts Try.infoI
  obtain ⟨r, hr, hr2⟩ : ∃ r : Nat, modV z 18 = (r : Int) ∧ r < 18 := ⟨(modV z 18).toNat, by have := modV_nonneg z 18 (by omega); omega, by have := modV_nonneg z 18 (by omega); have := modV_lt z 18 (by omega); omega⟩
  have HR := Lib.hid hr
  clear hr
  have G1 := good56 0 (by omega)
  have V1 : Valid (sh 0 1) := sh_valid (by omega) (by omega) (by omega) (by omega)
  have V2 : Valid (sh 1 2) := sh_valid (by omega) (by omega) (by omega) (by omega)
  have G0 := Good.nil.acq V1
  rw [acq56a] at G0
  have HA1 := Lib.hid (fun W p K h => acqO (w := w) (wr := W) (p := p) (K := K) h Good.nil (by omega) V1)
  have HA2 := Lib.hid (fun W p K h => acqO (w := w) (wr := W) (p := p) (K := K) h G0 (by omega) V2)
  rw [acq56a] at HA1
  rw [acq56b] at HA2
  unfold lkV sh tT at HA1 HA2
  clear V1 V2 G1 G0
  go_enter Try.func6, Try.ntmps6
  go_wp2_with (first
    | (go_at_call 22; refine (mod_any _ _ _ (by omega) (by omega)).mono ?_; rw [HR.out]; rintro e w' ⟨rfl, rfl⟩)
    | (go_at_call 14; have tok := O3; refine (HA2.out _ _ _ O3.out).mono ?_; rintro e w4 ⟨rfl, K4, h4, _⟩; have O4 := Lib.hid h4; clear h4)
    | (go_at_call 14; refine (HA1.out _ _ _ O2.out).mono ?_; rintro e w3 ⟨rfl, K3, h3, _⟩; have O3 := Lib.hid h3; clear h3)
    | (go_at_call 10; refine (new_any _).mono ?_; rintro e w2 ⟨rfl, h2⟩; have O2 := Lib.hid (h2.behind U1.out); clear h2)
    | (go_at_call 21; refine (works_any _).mono ?_; rintro e w1 ⟨rfl, h1⟩; have U1 := Lib.hid h1; clear h1)
    | fail)
  go_loopw [5, 28] (fun v kv wr => ∃ (k : Nat) (K : Nat → Prop), k ≤ r + 1 ∧ kv = .int .i64 k ∧ Hid (Keep w wr w1.heap.size (st56 k) K v (rdT k))) (fun _ kv _ => r + 1 - (intOf kv).toNat)
  case atStart => exact ⟨0, _, by omega, rfl, Keep.nil O4.out⟩
  case round =>
    obtain ⟨k, K, hk, rfl, HK⟩ := hrel
    obtain ⟨wo, hwo⟩ : ∃ wo : World, wo = wr := ⟨_, rfl⟩
    rw [← hwo] at HK ⊢
    clear hwo
    have hrow := HK.out.row
    obtain ⟨va, vc, rfl, _, _, _⟩ := own_form hrow
    clear hrow
    by_cases hlt : k < r + 1
    · have hki : (k : Int) < 1 + (r : Int) := by omega
      have HA := acqO HK.out.own (good56 k (by omega)) (by omega) (sh_valid (t := 2 + (k : Int)) (m := 1) (by omega) (by omega) (by omega) (by omega))
      rw [acq56 (by omega)] at HA
      unfold lkV sh tT at HA
      have HA := Lib.hid HA
      have HOS := Lib.hid (rdT_succ k)
      have HOL := Lib.hid (rdT_len k)
      have hol : (rdT k).length ≤ 100 := by rw [HOL.out]; omega
      generalize rdT k = L at *
      go_wp2_with (first
        | (go_at_call 14; refine HA.out.mono ?_; rintro e w5 ⟨rfl, h5⟩; obtain ⟨K5, hk5⟩ := HK.out.land h5; have HK5 := Lib.hid hk5; clear h5 hk5)
        | (at_builtin; refine wpList_append_lies _ rfl (.tmp 37) (.tmp 40) 23 rfl w.heap.size 3 i1 (.int .i64 0) 1 8 Try.underlying23 hi1 hz3 hz4 hz5 rfl (by decide) (.slice va L.length vc) L.length (icI L) rfl (own_up HK5.out.row ((Up.refl _).alloc _)) ⟨w5.heap.size, 0, none⟩ 1 1 [.int .i64 (2 + (k : Int))] rfl rfl (cell_int _ _ _ _ rfl) (by intro u hu; rw [List.mem_singleton.1 hu]; rfl) (by decide) (by unfold maxLen; omega) (by omega) (Nat.le_trans HK5.out.own.upw.size ((Up.refl _).alloc _).size) _ rfl ?_
           intro g9 c9 w9 hown9 hgrow9 hat9 hlt9
           have HK9 := Lib.hid (HK5.out.snoc ((Up.refl w5).alloc _) hown9 hgrow9 hat9 ((Up.refl w5).alloc _).size)
           clear hown9 hgrow9 hat9)
        | fail)
      go_roundw
      case rel => exact ⟨k + 1, K5, by omega, by go_num, by rw [HOS.out]; exact HK9.out⟩
      case measure => simp [intOf]; omega
    · obtain rfl : k = r + 1 := by omega
      have G := good56 (r + 1) (by omega)
      have HR1 := relO HK.out.own G (by omega) (t := 0) (by omega) (by omega)
      have G2 := G.rel 0
      unfold RelO at HR1
      rw [rel56a] at HR1 G2
      have HR2 := Lib.hid (fun W K h => relO (w := w) (wr := W) (p := w1.heap.size) (K := K) h G2 (by omega) (t := 1) (by omega) (by omega))
      have HR1 := Lib.hid HR1
      unfold RelO at HR2
      simp only [rel56b] at HR2
      have hki : ¬ ((r : Int) + 1 < 1 + (r : Int)) := by omega
      have hol : (rdT (r + 1)).length ≤ 100 := by rw [rdT_len]; omega
      clear G G2
      generalize rdT (r + 1) = L at *
      generalize rdr (r + 1) = RD at *
      generalize st56 (r + 1) = S56 at *
      go_wp2_with (first
        | (go_at_call 20; have tok := U8; refine (equal_ints _ _ L _ ((own_src R7.out).up U78.out) ((own_src W7.out).up U78.out) (by omega)).mono ?_; rintro e w9 ⟨rfl, h9⟩; have U9 := Lib.hid (U8.out.trans h9); clear h9)
        | (go_at_call 20; refine (equal_ints _ _ [1] _ ((own_src R67.out).up ((Up.refl _).alloc _)) (lit1 _ _ _ rfl) (by decide)).mono ?_; rintro e w8 ⟨rfl, h8⟩; have U78 := Lib.hid (((Up.refl w7).alloc _).trans h8); have U8 := Lib.hid (O7.out.upw.trans U78.out); clear h8)
        | (go_at_call 13; have tok := R6; refine (HR2.out _ _ O6.out).mono ?_; rintro e w7 ⟨v7, rfl, h71, K7, h72, h73, h74, h75⟩; obtain ⟨xa7, xc7, rfl, _, _, _⟩ := own_form h71; have R7 := Lib.hid h71; have O7 := Lib.hid h72; have R67 := Lib.hid (own_chg R6.out h73 F6.out); have W7 := Lib.hid (own_chg W6.out h73 WF6.out); clear h71 h72 h73 h74 h75)
        | (go_at_call 13; refine HR1.out.mono ?_; rintro e w6 ⟨v6, rfl, h61, K6, h62, h63, h64, h65⟩; obtain ⟨xa6, xc6, rfl, _, _, _⟩ := own_form h61; have R6 := Lib.hid h61; have O6 := Lib.hid h62; have F6 := Lib.hid h65; have W6 := Lib.hid (own_chg HK.out.row h63 HK.out.far); have WF6 := Lib.hid (show ∀ k, (Value.slice va L.length vc).ownBlock = some k → ¬ K6 k from fun j hj e => by
              rcases h64 j e with e | e
              · exact HK.out.far j hj e
              · have := own_lt HK.out.row j hj; omega); clear h61 h62 h63 h64 h65)
        | fail)
      go_ret
      exact ⟨rfl, U9.out⟩
end Go.Proofs.Ytbimkciejfbodaa.Lk
