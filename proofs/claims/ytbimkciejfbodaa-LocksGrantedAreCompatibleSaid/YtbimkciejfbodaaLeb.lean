/- Locks: what is granted is compatible; a lock that is held is granted again: the walks. -/
import Derived.Test.YtbimkciejfbodaaLkw
import Derived.Test.YtbimkciejfbodaaLea
namespace Go.Proofs.Ytbimkciejfbodaa.Lk
open Go Go.RowKit Hp
set_option linter.unusedVariables false

/-! ### Law 63, plain -/
theorem acq_same {M : Mg} {n : Nat} (h : Good M n) {l : Lk} (hl : l ∈ M.gr) : acqL M l = (0, M) ∨ acqL M l = (15, M) := by
  by_cases hq : ∃ q ∈ M.qu, q.tx = l.tx
  · right
    unfold acqL
    rw [if_pos hq]
  · left
    have hm := h.inv.vl l (List.mem_append_left _ hl)
    have e := modeL_of h.inv.hd hl (same_iff.2 ⟨rfl, rfl, rfl⟩)
    have hk : ¬ (l.key.size ≠ 0 ∧ (modeL M.gr (intL l) = 0 ∨ cov (modeL M.gr (intL l)) (l.mode + 2) = false)) := by
      rintro ⟨h1, h2⟩
      obtain ⟨y, y1, y2, y3, y4, y5⟩ := h.inv.pr l (List.mem_append_left _ hl) h1
      have e2 := modeL_of h.inv.hd y1 (l := intL l) (same_iff.2 ⟨y2, y3, y4⟩)
      have vy := (h.inv.vl y (List.mem_append_left _ y1)).m0
      rw [e2, y5] at h2
      rcases h2 with h2 | h2
      · omega
      · cases h2
    unfold acqL
    rw [if_neg hq, if_neg hk, e, if_pos ⟨by have := hm.m0; omega, cov_refl _⟩]
theorem sorted_ext : ∀ {l1 l2 : List Lk}, l1.Pairwise ltL → l2.Pairwise ltL → (∀ x, x ∈ l1 ↔ x ∈ l2) → l1 = l2
  | [], [], _, _, _ => rfl
  | [], b :: l2, _, _, h => by have := (h b).2 List.mem_cons_self; cases this
  | a :: l1, [], _, _, h => by have := (h a).1 List.mem_cons_self; cases this
  | a :: l1, b :: l2, h1, h2, h => by
    obtain ⟨p1, p2⟩ := List.pairwise_cons.1 h1
    obtain ⟨q1, q2⟩ := List.pairwise_cons.1 h2
    have e : a = b := by
      rcases List.mem_cons.1 ((h a).1 List.mem_cons_self) with e | e
      · exact e
      · rcases List.mem_cons.1 ((h b).2 List.mem_cons_self) with e2 | e2
        · exact e2.symm
        · exact absurd (ltL_trans (q1 a e) (p1 b e2)) (ltL_irrefl b)
    subst e
    congr 1
    refine sorted_ext p2 q2 fun x => ?_
    constructor
    · intro hx
      rcases List.mem_cons.1 ((h x).1 (List.mem_cons_of_mem _ hx)) with e | e
      · subst e; exact absurd (p1 x hx) (ltL_irrefl x)
      · exact e
    · intro hx
      rcases List.mem_cons.1 ((h x).2 (List.mem_cons_of_mem _ hx)) with e | e
      · subst e; exact absurd (q1 x hx) (ltL_irrefl x)
      · exact e
theorem held_lt {gr rs : List Lk} (hd : Dist gr) (hp : rs.Perm gr) (hs : SortedL rs) : rs.Pairwise ltL := by
  refine List.pairwise_iff_getElem.2 fun i j hi hj hij => ?_
  have h1 := List.pairwise_iff_getElem.1 hs i j hi hj hij
  by_cases h2 : ltL rs[i] rs[j]
  · exact h2
  · have h3 := ltL_total h2 h1
    have hdr : rs.Pairwise fun a b => sameL a b = false := (hp.pairwise_iff (fun {a b} h => by
      cases e : sameL b a with
      | false => rfl
      | true => rw [same_symm e] at h; cases h)).2 hd
    have := List.pairwise_iff_getElem.1 hdr i j hi hj hij
    rw [same_iff.2 h3] at this
    cases this
theorem held_uniq {gr rs rs2 : List Lk} (hd : Dist gr) (hp : rs.Perm gr) (hs : SortedL rs) (hp2 : rs2.Perm gr) (hs2 : SortedL rs2) : rs2 = rs :=
  sorted_ext (held_lt hd hp2 hs2) (held_lt hd hp hs) fun x => (hp2.mem_iff).trans hp.mem_iff.symm
set_option maxRecDepth 100000 in
set_option maxHeartbeats 1000000 in
theorem walk63 (a : Option Addr) (len cap : Nat) (zs : List Int) (w : World) (hE : Elems w a len zs) (hl : len ≤ cap) (hm : cap ≤ 9223372036854775807) :
    Calls Try.prog 9 #[.slice a len cap] w fun e w' => e = .returned (.bool true) ∧ Up w w' := by
  have HALL := Lib.hid (fun W hu => all_any a len cap zs W (elems_up hE hu) hl hm)
  clear hE
  go_enter Try.func9, Try.ntmps9
  go_wp2_with (first
    | (go_at_call 24; refine (heldO HO.out HG.out (by omega)).mono ?_; rintro e w3 ⟨v, rs, rfl, h31, h32, h33, h34⟩; obtain ⟨va, vc, rfl, _, _, _⟩ := own_form h33; have H31 := Lib.hid h31; have H32 := Lib.hid h32; have H33 := Lib.hid h33; have HO3 := Lib.hid (HO.out.up h34); have FAR := Lib.hid (show ∀ k, (Value.slice va rs.length vc).ownBlock = some k → ¬ K k from fun k e e2 => by have := ((own_ty h33) k e).2; have := HO.out.man.lt k e2; omega); clear h31 h32 h33 h34)
    | (go_at_call 23; refine (HALL.out _ U1.out).mono ?_; rintro e w2 ⟨p, M, K, rfl, hO, hG, h6⟩; have HO := Lib.hid (hO.behind U1.out); have HG := Lib.hid hG; have H6 := Lib.hid h6; clear hO hG h6)
    | (go_at_call 21; refine (works_any _).mono ?_; rintro e w1 ⟨rfl, h1⟩; have U1 := Lib.hid h1; clear h1)
    | fail)
  have hrl : rs.length ≤ 240 := by rw [H31.out.length_eq]; have := HG.out.len; omega
  go_loopw [16] (fun kv wr => ∃ (k : Nat) (K' : Nat → Prop), k ≤ rs.length ∧ kv = .int .i64 k ∧ Hid (OwnM w wr p M K') ∧ Hid (wr.ownsRow w2.heap.size 33 4 (.slice va rs.length vc) rs.length (lkC rs) ∧ ∀ k, (Value.slice va rs.length vc).ownBlock = some k → ¬ K' k)) (fun kv _ => rs.length - (intOf kv).toNat)
  case atStart => exact ⟨0, K, by omega, rfl, HO3.out, H33.out, FAR.out⟩
  case round =>
    obtain ⟨k, K1, hk, rfl, HO1, HS⟩ := hrel
    obtain ⟨wo, hwo⟩ : ∃ wo : World, wo = wr := ⟨_, rfl⟩
    rw [← hwo] at HO1 HS ⊢
    clear hwo
    by_cases hlt : k < rs.length
    · have hki : (k : Int) < (rs.length : Int) := by omega
      have hmem : rs[k] ∈ M.gr := H31.out.mem_iff.1 (List.getElem_mem hlt)
      have HS0 := HS.out.1
      obtain ⟨b, off, hva, hc⟩ := src_at (own_src HS0) (by omega)
      have HSM := Lib.hid (acq_same HG.out hmem)
      have HVL := HG.out.inv.vl _ (List.mem_append_left _ hmem)
      obtain ⟨g0, g1, g2, g3⟩ := lkC_get rs k hlt
      have d0 := (hc _ _ g0).2
      have d1 := (hc _ _ g1).2
      have d2 := (hc _ _ g2).2
      have d3 := (hc _ _ g3).2
      have d4 := (hc _ _ g0).1
      rw [← Nat.add_assoc] at d1 d2 d3
      have HAC := acqO (HO1.out.up ((Up.refl wo).alloc (.cells #[.int .i64 rs[k].tx, .string rs[k].tab, .string rs[k].key, .int .i64 rs[k].mode] 33))) HG.out (by omega) HVL
      unfold lkV at HAC
      generalize rs[k] = l at *
      have HVA := Lib.hid hva
      clear hmem g0 g1 g2 g3 hc HS0 HVL
      have hfin : ∀ w', Lands w (wo.alloc (.cells #[.int .i64 l.tx, .string l.tab, .string l.key, .int .i64 l.mode] 33)) w' p K1 M → ∃ K', Hid (OwnM w w' p M K') ∧ Hid (w'.ownsRow w2.heap.size 33 4 (.slice va rs.length vc) rs.length (lkC rs) ∧ ∀ k, (Value.slice va rs.length vc).ownBlock = some k → ¬ K' k) := fun w' ⟨K', h1, h2, h3⟩ =>
        ⟨K', h1, own_chg (own_up HS.out.1 ((Up.refl wo).alloc _)) h2 HS.out.2, fun j hj e => by
          rcases h3 j e with e | e
          · exact HS.out.2 j hj e
          · have := own_lt HS.out.1 j hj; simp at e; omega⟩
      have HFIN := Lib.hid hfin
      clear hfin
      subst hva
      rcases HSM.out with he | he
      all_goals
        rw [he] at HAC
        have HAC := Lib.hid HAC
        clear he
        go_wp2_with (first
          | (go_at_call 14; refine HAC.out.mono ?_; rintro e w5 ⟨rfl, h5⟩; obtain ⟨K5, F1, F2⟩ := HFIN.out _ h5; clear h5)
          | fail)
        go_roundw
        case rel => exact ⟨k + 1, K5, by omega, by go_num, F1.out, F2.out⟩
        case measure => simp [intOf]; omega
    · obtain rfl : k = rs.length := by omega
      go_wp2_with (first
        | (go_at_call 24; refine (heldO HO1.out HG.out (by omega)).mono ?_; rintro e w6 ⟨v6, rs6, rfl, h61, h62, h63, h64⟩; obtain rfl := held_uniq HG.out.inv.hd H31.out H32.out h61 h62; obtain ⟨va6, vc6, rfl, _, _, _⟩ := own_form h63; have R1 := Lib.hid (own_src (own_up HS.out.1 h64)); have R2 := Lib.hid (own_src h63); have U6 := Lib.hid (HO1.out.upw.trans h64); clear h61 h62 h63 h64)
        | (go_at_call 25; refine (equal_locks _ _ _ _ R1.out R2.out (by omega)).mono ?_; rintro e w7 ⟨rfl, h7⟩; have U7 := Lib.hid (U6.out.trans h7); clear h7)
        | fail)
      go_ret
      exact ⟨rfl, U7.out⟩

/-! ### Law 61 -/
def prC (a b : Lk) : Bool := decide (a.tx = b.tx) && (decide (a.tab = b.tab) && (decide (b.key.size = 0) && (decide (a.mode = 1) || (decide (b.mode = 4) || decide (b.mode = 2)))))
def prB (a : Lk) (rs : List Lk) (k : Nat) : Bool := decide (a.key.size = 0) || (rs.take k).any (prC a)
theorem prB_zero (a : Lk) (rs : List Lk) : prB a rs 0 = decide (a.key.size = 0) := by unfold prB; simp
theorem prB_succ (a : Lk) (rs : List Lk) (k : Nat) (h : k < rs.length) : prB a rs (k + 1) = (prB a rs k || prC a rs[k]) := by
  unfold prB
  rw [List.take_add_one, List.getElem?_eq_getElem h, Option.toList_some, List.any_append, List.any_cons, List.any_nil, Bool.or_false, Bool.or_assoc]
theorem prB_all {gr Q : List Lk} (h : Inv gr Q) {rs : List Lk} (hp : rs.Perm gr) {a : Lk} (ha : a ∈ gr) : prB a rs rs.length = true := by
  unfold prB
  rw [List.take_length]
  by_cases hk : a.key.size = 0
  · rw [decide_eq_true hk]; rfl
  · rw [Bool.or_eq_true]
    right
    obtain ⟨y, y1, y2, y3, y4, y5⟩ := h.pr a (List.mem_append_left _ ha) hk
    have va := h.vl a (List.mem_append_left _ ha)
    have vy := h.vl y (List.mem_append_left _ y1)
    have hm : a.mode = 1 ∨ y.mode = 4 ∨ y.mode = 2 := by
      have := va.k1 hk
      have := va.m0
      rw [cov_iff] at y5
      omega
    refine List.any_eq_true.2 ⟨y, hp.mem_iff.2 y1, ?_⟩
    unfold prC
    simp only [Bool.and_eq_true, Bool.or_eq_true, decide_eq_true_eq]
    exact ⟨y2.symm, y3.symm, by rw [y4]; rfl, hm⟩
theorem prC_off {a b : Lk} (h : ¬ (a.tx = b.tx ∧ a.tab = b.tab ∧ b.key.size = 0)) : prC a b = false := by
  unfold prC
  by_cases h1 : a.tx = b.tx
  · by_cases h2 : a.tab = b.tab
    · rw [decide_eq_false (fun e => h ⟨h1, h2, e⟩), Bool.false_and, Bool.and_false, Bool.and_false]
    · rw [decide_eq_false h2, Bool.false_and, Bool.and_false]
  · rw [decide_eq_false h1, Bool.false_and]
theorem prC_on {a b : Lk} (h1 : a.tx = b.tx) (h2 : a.tab = b.tab) (h3 : b.key.size = 0) : prC a b = (decide (a.mode = 1) || (decide (b.mode = 4) || decide (b.mode = 2))) := by
  unfold prC
  rw [decide_eq_true h1, decide_eq_true h2, decide_eq_true h3, Bool.true_and, Bool.true_and, Bool.true_and]
set_option maxRecDepth 100000 in
set_option maxHeartbeats 40000000 in
theorem walk61 (a : Option Addr) (len cap : Nat) (zs : List Int) (w : World) (hE : Elems w a len zs) (hl : len ≤ cap) (hm : cap ≤ 9223372036854775807) :
    Calls Try.prog 7 #[.slice a len cap] w fun e w' => e = .returned (.bool true) ∧ Up w w' := by
  have HALL := Lib.hid (fun W hu => all_any a len cap zs W (elems_up hE hu) hl hm)
  clear hE
  go_enter Try.func7, Try.ntmps7
  go_wp2_with (first
    | (go_at_call 24; refine (heldO HO.out HG.out (by omega)).mono ?_; rintro e w3 ⟨v, rs, rfl, h31, h32, h33, h34⟩; obtain ⟨va, vc, rfl, _, _, _⟩ := own_form h33; have H31 := Lib.hid h31; have H33 := Lib.hid (own_src h33); have U3 := Lib.hid (HO.out.upw.trans h34); clear h31 h32 h33 h34)
    | (go_at_call 23; refine (HALL.out _ U1.out).mono ?_; rintro e w2 ⟨p, M, K, rfl, hO, hG, h6⟩; have HO := Lib.hid (hO.behind U1.out); have HG := Lib.hid hG; have H6 := Lib.hid h6; clear hO hG h6)
    | (go_at_call 21; refine (works_any _).mono ?_; rintro e w1 ⟨rfl, h1⟩; have U1 := Lib.hid h1; clear h1)
    | fail)
  have hrl : rs.length ≤ 240 := by rw [H31.out.length_eq]; have := HG.out.len; omega
  go_loopw [18] (fun iv wr => ∃ i : Nat, i ≤ rs.length ∧ iv = .int .i64 i ∧ Hid (Up w3 wr)) (fun iv _ => rs.length - (intOf iv).toNat)
  case atStart => exact ⟨0, by omega, rfl, Up.refl _⟩
  case round =>
    obtain ⟨i, hi, rfl, HU⟩ := hrel
    obtain ⟨wo, hwo⟩ : ∃ wo : World, wo = wr := ⟨_, rfl⟩
    rw [← hwo] at HU ⊢
    clear hwo
    by_cases hlt : i < rs.length
    · have hii : (i : Int) < (rs.length : Int) := by omega
      have hmem : rs[i] ∈ M.gr := H31.out.mem_iff.1 (List.getElem_mem hlt)
      obtain ⟨b, off, hva, hc⟩ := src_at H33.out (by omega)
      subst hva
      obtain ⟨g0, g1, g2, g3⟩ := lkC_get rs i hlt
      have d0 := ((hc _ _ g0).grow HU.out).2
      have d1 := ((hc _ _ g1).grow HU.out).2
      have d2 := ((hc _ _ g2).grow HU.out).2
      have d3 := ((hc _ _ g3).grow HU.out).2
      have d4 := ((hc _ _ g0).grow HU.out).1
      rw [← Nat.add_assoc] at d1 d2 d3
      have HC := Lib.hid hc
      have HALLP := Lib.hid (prB_all HG.out.inv H31.out hmem)
      have HMEM := Lib.hid hmem
      generalize rs[i] = x at *
      have HX := Lib.hid (LB.new wo x)
      have HB0 := Lib.hid (prB_zero x rs)
      clear hmem g0 g1 g2 g3 hc
      have hkx : (x.key.toList.isEmpty) = decide (x.key.size = 0) := by
        by_cases e : x.key.size = 0
        · rw [decide_eq_true e, sz_iff.1 e]; rfl
        · rw [decide_eq_false e, List.isEmpty_eq_false_iff]; exact fun e2 => e (sz_iff.2 e2)
      have HKX := Lib.hid hkx
      clear hkx
      go_wp2
      go_loopw [6, 28] (fun pv kv wr => ∃ k : Nat, k ≤ rs.length ∧ kv = .int .i64 k ∧ pv = .bool (prB x rs k) ∧ Hid (Up (wo.alloc (.cells #[.int .i64 x.tx, .string x.tab, .string x.key, .int .i64 x.mode] 33)) wr)) (fun _ kv _ => rs.length - (intOf kv).toNat)
      case atStart => exact ⟨0, by omega, rfl, by rw [HB0.out, ← HKX.out], Up.refl _⟩
      case round =>
        obtain ⟨k, hk, rfl, rfl, HV⟩ := hrel
        obtain ⟨wi, hwi⟩ : ∃ wi : World, wi = wr := ⟨_, rfl⟩
        rw [← hwi] at HV ⊢
        clear hwi
        have XI := Lib.hid (HX.out.up HV.out)
        have HUV := Lib.hid ((HU.out.alloc (.cells #[.int .i64 x.tx, .string x.tab, .string x.key, .int .i64 x.mode] 33)).trans HV.out)
        by_cases hlt2 : k < rs.length
        · have hki : (k : Int) < (rs.length : Int) := by omega
          have hmem2 : rs[k] ∈ M.gr := H31.out.mem_iff.1 (List.getElem_mem hlt2)
          obtain ⟨g0, g1, g2, g3⟩ := lkC_get rs k hlt2
          have f0 := ((HC.out _ _ g0).grow HUV.out).2
          have f1 := ((HC.out _ _ g1).grow HUV.out).2
          have f2 := ((HC.out _ _ g2).grow HUV.out).2
          have f3 := ((HC.out _ _ g3).grow HUV.out).2
          have f4 := ((HC.out _ _ g0).grow HUV.out).1
          rw [← Nat.add_assoc] at f1 f2 f3
          have HSC := Lib.hid (prB_succ x rs k hlt2)
          have HGC := Lib.hid (HG.out.inv.gc x HMEM.out _ hmem2)
          generalize rs[k] = y at *
          have x0 := (Blk.at XI.out (i := 0) rfl).2
          have x1 := (Blk.at XI.out (i := 1) rfl).2
          have x2 := (Blk.at XI.out (i := 2) rfl).2
          have x3 := (Blk.at XI.out (i := 3) rfl).2
          have xl := Blk.lt XI.out
          clear hmem2 g0 g1 g2 g3 d0 d1 d2 d3 d4
          generalize prB x rs k = P at *
          have hikc : ((i : Int) != (k : Int)) = true ∨ ((i : Int) != (k : Int)) = false := by cases ((i : Int) != (k : Int)) <;> simp
          rcases hikc with hik | hik
          all_goals
            by_cases hT : x.tx = y.tx
            · have t1 : (x.tx == y.tx) = true := beq_iff_eq.2 hT
              have t2 : (x.tx != y.tx) = false := by simp [hT]
              by_cases hA : x.tab = y.tab
              · have t3 : (x.tab.toList == y.tab.toList) = true := by rw [tl_eq]; exact decide_eq_true hA
                by_cases hB : y.key.size = 0
                · have t4 : y.key.toList.isEmpty = true := by rw [sz_iff.1 hB]; rfl
                  have HON := Lib.hid (prC_on hT hA hB)
                  clear hT hA hB
                  cases P with
                  | true =>
                    
                    go_wp2
                    all_goals
                      go_roundw
                      case rel => exact ⟨k + 1, by omega, by go_num, by rw [HSC.out, Bool.true_or], HV.out.alloc _⟩
                      case measure => simp [intOf]; omega
                  | false =>
                    by_cases m1 : x.mode = 1
                    · have t5 : (x.mode == 1) = true := beq_iff_eq.2 m1
                      have HP := Lib.hid (show (decide (x.mode = 1) || (decide (y.mode = 4) || decide (y.mode = 2))) = true by rw [decide_eq_true m1]; rfl)
                      clear m1
                      
                      go_wp2
                      all_goals
                        go_roundw
                        case rel => exact ⟨k + 1, by omega, by go_num, by rw [HSC.out, HON.out, HP.out, Bool.or_true], HV.out.alloc _⟩
                        case measure => simp [intOf]; omega
                    · have t5 : (x.mode == 1) = false := beq_eq_false_iff_ne.2 m1
                      by_cases m4 : y.mode = 4
                      · have t6 : (y.mode == 4) = true := beq_iff_eq.2 m4
                        have HP := Lib.hid (show (decide (x.mode = 1) || (decide (y.mode = 4) || decide (y.mode = 2))) = true by rw [decide_eq_true m4]; simp)
                        clear m1 m4
                        
                        go_wp2
                        all_goals
                          go_roundw
                          case rel => exact ⟨k + 1, by omega, by go_num, by rw [HSC.out, HON.out, HP.out, Bool.or_true], HV.out.alloc _⟩
                          case measure => simp [intOf]; omega
                      · have t6 : (y.mode == 4) = false := beq_eq_false_iff_ne.2 m4
                        by_cases m2 : y.mode = 2
                        · have t7 : (y.mode == 2) = true := beq_iff_eq.2 m2
                          have HP := Lib.hid (show (decide (x.mode = 1) || (decide (y.mode = 4) || decide (y.mode = 2))) = true by rw [decide_eq_true m2]; simp)
                          clear m1 m4 m2
                          
                          go_wp2
                          all_goals
                            go_roundw
                            case rel => exact ⟨k + 1, by omega, by go_num, by rw [HSC.out, HON.out, HP.out, Bool.or_true], HV.out.alloc _⟩
                            case measure => simp [intOf]; omega
                        · have t7 : (y.mode == 2) = false := beq_eq_false_iff_ne.2 m2
                          have HP := Lib.hid (show (decide (x.mode = 1) || (decide (y.mode = 4) || decide (y.mode = 2))) = false by rw [decide_eq_false m1, decide_eq_false m4, decide_eq_false m2]; rfl)
                          clear m1 m4 m2
                          
                          go_wp2
                          all_goals
                            go_roundw
                            case rel => exact ⟨k + 1, by omega, by go_num, by rw [HSC.out, HON.out, HP.out, Bool.or_false], HV.out.alloc _⟩
                            case measure => simp [intOf]; omega
                · have t4 : y.key.toList.isEmpty = false := by rw [List.isEmpty_eq_false_iff]; exact fun e => hB (sz_iff.2 e)
                  have HOFF := Lib.hid (prC_off (a := x) (b := y) (fun e => hB e.2.2))
                  clear hT hA hB
                  
                  go_wp2
                  all_goals
                    go_roundw
                    case rel => exact ⟨k + 1, by omega, by go_num, by rw [HSC.out, HOFF.out, Bool.or_false], HV.out.alloc _⟩
                    case measure => simp [intOf]; omega
              · have t3 : (x.tab.toList == y.tab.toList) = false := by rw [tl_eq]; exact decide_eq_false hA
                have HOFF := Lib.hid (prC_off (a := x) (b := y) (fun e => hA e.2.1))
                clear hT hA
                
                go_wp2
                all_goals
                  go_roundw
                  case rel => exact ⟨k + 1, by omega, by go_num, by rw [HSC.out, HOFF.out, Bool.or_false], HV.out.alloc _⟩
                  case measure => simp [intOf]; omega
            · have t1 : (x.tx == y.tx) = false := beq_eq_false_iff_ne.2 hT
              have t2 : (x.tx != y.tx) = true := by simp [hT]
              have HOFF := Lib.hid (prC_off (a := x) (b := y) (fun e => hT e.1))
              by_cases hA : x.tab = y.tab
              · have t3 : (x.tab.toList == y.tab.toList) = true := by rw [tl_eq]; exact decide_eq_true hA
                by_cases hK : x.key = y.key
                · have t4 : (x.key.toList == y.key.toList) = true := by rw [tl_eq]; exact decide_eq_true hK
                  have hcm : compat x.mode y.mode ≠ false := fun e => by have := HGC.out; rw [confl_iff.2 ⟨hT, hA, hK, e⟩] at this; cases this
                  rw [Ne, compat_iff] at hcm
                  have m1 : (x.mode == 2) = false := beq_eq_false_iff_ne.2 (by omega)
                  have m2 : (y.mode == 2) = false := beq_eq_false_iff_ne.2 (by omega)
                  by_cases m3 : x.mode = 1
                  · have m4 : (x.mode == 1) = true := beq_iff_eq.2 m3
                    have m5 : (y.mode == 4) = false := beq_eq_false_iff_ne.2 (by omega)
                    clear hT hA hK hcm m3
                    
                    go_wp2
                    all_goals
                      go_roundw
                      case rel => exact ⟨k + 1, by omega, by go_num, by rw [HSC.out, HOFF.out, Bool.or_false], HV.out.alloc _⟩
                      case measure => simp [intOf]; omega
                  · have m4 : (x.mode == 1) = false := beq_eq_false_iff_ne.2 m3
                    clear hT hA hK hcm m3
                    
                    go_wp2
                    all_goals
                      go_roundw
                      case rel => exact ⟨k + 1, by omega, by go_num, by rw [HSC.out, HOFF.out, Bool.or_false], HV.out.alloc _⟩
                      case measure => simp [intOf]; omega
                · have t4 : (x.key.toList == y.key.toList) = false := by rw [tl_eq]; exact decide_eq_false hK
                  clear hT hA hK
                  
                  go_wp2
                  all_goals
                    go_roundw
                    case rel => exact ⟨k + 1, by omega, by go_num, by rw [HSC.out, HOFF.out, Bool.or_false], HV.out.alloc _⟩
                    case measure => simp [intOf]; omega
              · have t3 : (x.tab.toList == y.tab.toList) = false := by rw [tl_eq]; exact decide_eq_false hA
                clear hT hA
                
                go_wp2
                all_goals
                  go_roundw
                  case rel => exact ⟨k + 1, by omega, by go_num, by rw [HSC.out, HOFF.out, Bool.or_false], HV.out.alloc _⟩
                  case measure => simp [intOf]; omega
        · obtain rfl : k = rs.length := by omega
          rw [HALLP.out]
          go_wp2
          go_roundw
          case rel => exact ⟨i + 1, by omega, by go_num, HUV.out⟩
          case measure => simp [intOf]; omega
    · obtain rfl : i = rs.length := by omega
      go_wp2
      go_ret
      exact ⟨rfl, U3.out.trans HU.out⟩
end Go.Proofs.Ytbimkciejfbodaa.Lk
