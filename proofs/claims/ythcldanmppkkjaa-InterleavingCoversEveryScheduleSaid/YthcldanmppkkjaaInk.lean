/- Interleavings: explore. -/
import Derived.Test.YthcldanmppkkjaaInj
import Derived.Test.YthcldanmppkkjaaQt
import Derived.StillTailTactics
import Derived.Deep.RegionLawGrows
import Derived.Deep.CutBlock
import Derived.Laws.MakeOwn
namespace Go.Proofs.Ythcldanmppkkjaa.In
open Go Go.RowKit Hp
set_option linter.unusedVariables false

theorem made_bo (n : Nat) : madeCells #[.bool false] n = (boC (List.replicate n false)).toArray := by
  apply Array.toList_inj.1
  rw [toList_madeCells_one]
  unfold boC
  rw [List.map_replicate]
theorem mkB (n : Nat) (h2 : n ≤ 1000) (w : World) : (Instr.makeSlice 58 (.int .i64 (n : Int)) (.int .i64 (n : Int))).run Try.prog w = .ok (.slice (some ⟨w.heap.size, 0, none⟩) n n) (w.alloc (.cells (boC (List.replicate n false)).toArray 4)) := by
  obtain ⟨i0, hi, hz0, hz1, hz2⟩ := info_parts Try.infoB
  have h := run_make (P := Try.prog) w 58 4 i0 (.bool false) Try.underlying58 hi hz0 .i64 .i64 (n : Int) (n : Int) (by omega) (Int.le_refl _) (by rw [hz2]; omega) (by omega)
  rw [hz1, Int.toNat_natCast, Nat.mul_one, show (Value.bool false).cells = #[.bool false] from rfl, made_bo] at h
  exact h
/-- Whether nothing is left of the first i. -/
def allNil (rem : List (List Hop)) (i : Nat) : Bool := (List.range i).all fun j => (rem.getD j []).isEmpty
theorem allNil_nil {rem : List (List Hop)} {i : Nat} (h : rem.getD i [] = []) : allNil rem (i + 1) = allNil rem i := by
  unfold allNil
  rw [List.range_succ, List.all_append]
  simp only [List.getD] at h
  simp [List.getD, h]
theorem allNil_cons {rem : List (List Hop)} {i : Nat} (h : rem.getD i [] ≠ []) : allNil rem (i + 1) = false := by
  unfold allNil
  rw [List.range_succ, List.all_append]
  have : (rem.getD i []).isEmpty = false := by simpa using h
  simp only [List.getD] at this
  simp [List.getD, this]
theorem allNil_iff {rem : List (List Hop)} : allNil rem rem.length = true ↔ ∀ i, i < rem.length → rem.getD i [] = [] := by
  unfold allNil
  rw [List.all_eq_true]
  exact ⟨fun h i hi => List.isEmpty_iff.1 (h i (List.mem_range.2 hi)), fun h i hi => List.isEmpty_iff.2 (h i (List.mem_range.1 hi))⟩
/-- explore's contract. -/
def ExC (P B : Nat) (tv : Value) (L : List (List Hop)) (n : Nat) : Prop := ∀ (ns : List Nat) (bs : List Bool) (S : List (List Hop)) (sched : List Hop) (nv bv ov sv : Value) (w : World),
  ExS w P B tv sv L S → w.ownsRow 0 3 1 nv L.length (inC ns) → w.ownsRow 0 4 1 bv L.length (boC bs) → OpsO w 0 ov sched → bs.length = L.length → ns.length = L.length →
  (∀ k, slf bs k = true → (remL L ns).getD k [] ≠ []) → (∀ i, i < L.length → ns.getD i 0 ≤ (L.getD i []).length) → tot (remL L ns) = n → L.length ≤ 4 → (∀ i, (L.getD i []).length ≤ 1000) → sched.length + n ≤ 1000 →
  S.length + (expl depH n (remL L ns) (slf bs)).length ≤ 1000000000 →
  Calls Try.prog 20 #[.pointer (some ⟨P, 0, none⟩), nv, bv, ov] w fun e w' => e = .returned (.tuple #[]) ∧ ∃ sv', ExS w' P B tv sv' L (S ++ (expl depH n (remL L ns) (slf bs)).map (sched ++ ·)) ∧
    Chg (ExF P sv) w w' ∧ (sv'.ownBlock = sv.ownBlock ∨ ∀ k, sv'.ownBlock = some k → w.heap.size ≤ k)
theorem ex_call {P B n i : Nat} {tv sv' : Value} {L S' : List (List Hop)} {wo : World} {ns : List Nat} {bs' : List Bool} {sched tl : List Hop} {op : Hop} {rem : List (List Hop)} (IH : ∀ k, k + 1 = n → ExC P B tv L k)
    (hrem : rem = remL L ns) (htot : tot (remL L ns) = n) (hi : i < L.length) (hnl : ns.length = L.length) (hr1 : rem.getD i [] = op :: tl) (hop : tl = (L.getD i []).drop (ns.getD i 0 + 1)) (hnx1 : ns.getD i 0 + 1 ≤ (L.getD i []).length)
    (hE : ExS wo P B tv sv' L S') (hbl : bs'.length = L.length) (hz : ∀ k, slf bs' k = true → rem.getD k [] ≠ []) (hsl : slf bs' i = false) (hnx : ∀ i, i < L.length → ns.getD i 0 ≤ (L.getD i []).length) (hm : L.length ≤ 4) (hL : ∀ i, (L.getD i []).length ≤ 1000)
    (hsc : sched.length + n ≤ 1000) (hsz : S'.length + (expl depH (n - 1) (rem.set i tl) (sleepN depH rem op (slf bs'))).length ≤ 1000000000) :
    ∀ (W : World) (nv bv ov : Value), Up wo W → W.ownsRow 0 3 1 nv L.length (inC (ns.set i (ns.getD i 0 + 1))) → W.ownsRow 0 4 1 bv L.length (boC (stL L ns bs' op)) → OpsO W 0 ov (sched ++ [op]) →
      Calls Try.prog 20 #[.pointer (some ⟨P, 0, none⟩), nv, bv, ov] W fun e w' => e = .returned (.tuple #[]) ∧ ∃ sv'', ExS w' P B tv sv'' L (S' ++ (expl depH (n - 1) (rem.set i tl) (sleepN depH rem op (slf bs'))).map ((sched ++ [op]) ++ ·)) ∧
        Chg (ExF P sv') W w' ∧ (sv''.ownBlock = sv'.ownBlock ∨ ∀ k, sv''.ownBlock = some k → W.heap.size ≤ k) := by
  intro W nv bv ov hu h1 h2 h3
  have hil : i < rem.length := by rw [hrem, remL_len]; exact hi
  have ht := tot_set hil hr1
  have hs : remL L (ns.set i (ns.getD i 0 + 1)) = rem.set i tl := by rw [remL_set hi hnl, hrem, hop]
  rw [← hrem] at htot
  have key := IH (n - 1) (by omega) (ns.set i (ns.getD i 0 + 1)) (stL L ns bs' op) S' (sched ++ [op]) nv bv ov sv' W (hE.up hu) h1 h2 h3 (by simp [stL]) (by simpa using hnl)
  rw [hs, stL_slf hbl, ← hrem] at key
  refine key (fun k hk => ?_) (fun j hj => ?_) (by omega) hm hL (by rw [List.length_append, List.length_singleton]; omega) hsz
  · have hk' : slf bs' k = true := by
      unfold sleepN at hk
      rw [Bool.and_eq_true] at hk
      exact hk.1
    have hki : k ≠ i := fun e => by rw [e, hsl] at hk'; cases hk'
    rw [getD_set rem i k tl hil, if_neg hki]
    exact hz k hk'
  · by_cases e : j = i
    · subst e
      simpa [List.getD, hnl, hi] using hnx1
    · have := hnx j hj
      simpa [List.getD, List.getElem?_set_ne (Ne.symm e)] using this
set_option maxRecDepth 100000 in
set_option maxHeartbeats 8000000 in
theorem explore_step (P B : Nat) (tv : Value) (L : List (List Hop)) (n : Nat) (IH : ∀ k, k + 1 = n → ExC P B tv L k) : ExC P B tv L n := by
  intro ns bs S sched nv bv ov sv w hE hnv hbv hov hbl hnl hz hnx htot hm hL hsc hsz
  have HE := Lib.hid hE
  have HN := Lib.hid hnv
  have HO := Lib.hid hov
  have HZ := Lib.hid hz
  have HNX := Lib.hid hnx
  have HLL := Lib.hid hL
  have HIH := Lib.hid IH
  have HTOT := Lib.hid htot
  have HCB := Lib.hid (cloneB bv L.length (boC bs) w (own_src hbv) (boC_one bs) (by omega))
  obtain ⟨rem, hrem⟩ : ∃ r, r = remL L ns := ⟨_, rfl⟩
  obtain ⟨f, hf⟩ : ∃ f, f = expl depH (n - 1) := ⟨_, rfl⟩
  obtain ⟨E, hEd⟩ : ∃ E, E = loopE depH f rem (List.range' 0 L.length) (slf bs) := ⟨_, rfl⟩
  have HREM := Lib.hid hrem
  have HF := Lib.hid hf
  have HED := Lib.hid hEd
  have hrl : rem.length = L.length := by rw [hrem, remL_len]
  have HX : Hid (expl depH n rem (slf bs) = if allNil rem L.length = true then [[]] else E) := by
    unfold Hid
    rw [expl_step n rem _ (by rw [hrem]; exact htot), hEd, hf, ← hrl]
    by_cases h : allNil rem rem.length = true
    · rw [if_pos h, if_pos (allNil_iff.1 h)]
    · rw [if_neg h, if_neg (fun e => h (allNil_iff.2 e))]
  have HSZ : Hid (S.length + (expl depH n rem (slf bs)).length ≤ 1000000000) := by rw [hrem]; exact hsz
  have HRL := Lib.hid hrl
  rw [← hrem] at HZ
  obtain ⟨na, nc, rfl, _, _, _⟩ := own_form hnv
  obtain ⟨oa, oc, rfl, _, _, _⟩ := own_form hov
  obtain ⟨ta, tc, htv, _, _, _⟩ := hE.txs.form
  subst htv
  have b0 := (hE.blk.at (i := 0) rfl).2
  have bl := hE.blk.lt
  rw [show remL L ns = rem from hrem.symm]
  have hPN : n = 0 ∨ 0 < n := by omega
  clear hE hnv hbv hov hz hnx htot hL hsz IH hrem hf hEd hrl
  go_enter Try.func20, Try.ntmps20
  go_wp2_with (first
    | (go_at_call 32; refine HCB.out.mono ?_; rintro e w1 ⟨bv1, rfl, h1, h2⟩; have O1 := Lib.hid h1; have U1 := Lib.hid h2; have b1 := (h2.cell (p := ⟨P, 0, none⟩) bl).trans b0; have bl1 : P < w1.heap.size := Nat.lt_of_lt_of_le bl h2.size; clear h1 h2)
    | fail)
  go_loopw [8, 22] (fun cv iv wr => ∃ (i : Nat) (bs' : List Bool) (S' : List (List Hop)) (sv' : Value), i ≤ L.length ∧ iv = .int .i64 i ∧ cv = .bool (allNil rem i) ∧ Hid (wr.ownsRow w.heap.size 4 1 bv1 L.length (boC bs')) ∧ bs'.length = L.length ∧
    Hid (∀ k, slf bs' k = true → rem.getD k [] ≠ []) ∧ Hid (ExS wr P B (.slice ta L.length tc) sv' L S') ∧ Hid (Chg (ExF P sv) w wr) ∧ Hid (sv'.ownBlock = sv.ownBlock ∨ ∀ k, sv'.ownBlock = some k → w.heap.size ≤ k) ∧
    Hid (S' ++ (loopE depH f rem (List.range' i (L.length - i)) (slf bs')).map (sched ++ ·) = S ++ E.map (sched ++ ·))) (fun _ iv _ => L.length - (intOf iv).toNat)
  case atStart => exact ⟨0, bs, S, sv, by omega, rfl, rfl, O1.out, hbl, HZ.out, HE.out.up U1.out, U1.out.chg _, .inl rfl, by rw [Nat.sub_zero, HED.out]; rfl⟩
  case round =>
    obtain ⟨i, bs', S', sv', hi, rfl, rfl, HB, hbl', HZ', HES, HCH, HSV, HEQ⟩ := hrel
    obtain ⟨wo, hwo⟩ : ∃ wo : World, wo = wr := ⟨_, rfl⟩
    rw [← hwo] at HB HES HCH ⊢
    clear hwo
    by_cases hlt : i < L.length
    · have hpos : 0 < L.length := by omega
      have hlti : (i : Int) < (L.length : Int) := by omega
      have HNw := Lib.hid (HE.out.keep HCH.out HN.out (by decide) (by decide))
      obtain ⟨gn, nc', hnv, hnc1, hnc2, hgn, hcn, _⟩ := own_some HNw.out hpos
      simp only [Value.slice.injEq, true_and] at hnv
      obtain ⟨rfl, rfl⟩ := hnv
      obtain ⟨gs, sc, rfl, hsc1, hsc2, hgs, hcs, hfs⟩ := own_some HB.out hpos
      obtain ⟨gt, u, uc, rfl, hgt, ht0, hul, _⟩ := HES.out.txs.row hlt
      have HUL := Lib.hid hul
      have n0 := hcn _ _ (inC_get ns (i := i) (by omega))
      have s0 := hcs _ _ (boC_get bs' (i := i) (by omega))
      have p0 := (HES.out.blk.at (i := 0) rfl).2
      have pl := HES.out.blk.lt
      have hgd : L.getD i [] = L[i] := by simp [List.getD, hlt]
      have HGD := Lib.hid hgd
      have hnx := HNX.out i hlt
      have hly := HLL.out i
      rw [hgd] at hnx hly
      have hrg : rem.getD i [] = L[i].drop (ns.getD i 0) := by rw [HREM.out, remL_get, hgd]
      obtain ⟨nx, hnxe⟩ : ∃ nx, nx = ns.getD i 0 := ⟨_, rfl⟩
      have HNXE := Lib.hid hnxe
      rw [← hnxe] at n0 hnx hrg
      have HSL : Hid (bs'.getD i false = slf bs' i) := rfl
      rw [HSL.out] at s0
      have HRP : Hid (List.range' i (L.length - i) = i :: List.range' (i + 1) (L.length - (i + 1))) := range_part hlt
      clear hnxe hgd hul hcn hcs
      by_cases hnil : nx = L[i].length
      · have hr0 : rem.getD i [] = [] := by rw [hrg, hnil]; exact List.drop_length
        have hq : ((nx : Int) == (L[i].length : Int)) = true := by rw [hnil]; simp
        have HAN := Lib.hid (allNil_nil hr0)
        have HEQ2 := HEQ.out
        rw [HRP.out, loopE_pass (.inl hr0)] at HEQ2
        have HEQ3 := Lib.hid HEQ2
        clear hr0 hrg HEQ2
        generalize L[i] = l at *
        go_wp2
        go_roundw
        case rel => exact ⟨i + 1, bs', S', sv', by omega, by go_num, by rw [HAN.out], HB.out, hbl', HZ'.out, HES.out, HCH.out, HSV.out, HEQ3.out⟩
        case measure => simp [intOf]; omega
      · have hnlt : nx < L[i].length := by omega
        have hq : ((nx : Int) == (L[i].length : Int)) = false := beq_eq_false_iff_ne.2 (by omega)
        have hqi : ¬ (nx : Int) = (L[i].length : Int) := by omega
        have hr1 : rem.getD i [] = (L[i][nx]'hnlt) :: L[i].drop (nx + 1) := hrg.trans (List.drop_eq_getElem_cons hnlt)
        have HAN := Lib.hid (allNil_cons (rem := rem) (i := i) (fun e => List.cons_ne_nil _ _ (hr1.symm.trans e)))
        cases hsl : slf bs' i with
        | true =>
          rw [hsl] at s0
          have HEQ2 := HEQ.out
          rw [HRP.out, loopE_pass (.inr hsl)] at HEQ2
          have HEQ3 := Lib.hid HEQ2
          clear hr1 hrg HEQ2 hsl hnlt
          generalize L[i] = l at *
          go_wp2
          go_roundw
          case rel => exact ⟨i + 1, bs', S', sv', by omega, by go_num, by rw [HAN.out], HB.out, hbl', HZ'.out, HES.out, HCH.out, HSV.out, HEQ3.out⟩
          case measure => simp [intOf]; omega
        | false =>
          rw [hsl] at s0
          have HEQ2 := HEQ.out
          rw [HRP.out, loopE_take hr1 hsl] at HEQ2
          have HEQ3 := Lib.hid HEQ2
          obtain ⟨gu, uc', hue, _, _, hgu, hcu, _⟩ := own_some HUL.out (by omega)
          simp only [Value.slice.injEq, true_and] at hue
          obtain ⟨rfl, rfl⟩ := hue
          have d0 := hcu _ _ (hpC_get L[i] nx hnlt).1
          have d1 := hcu _ _ (hpC_get L[i] nx hnlt).2.1
          have d2 := hcu _ _ (hpC_get L[i] nx hnlt).2.2
          have HR1 := Lib.hid hr1
          have HSLF := Lib.hid hsl
          clear hr1 hrg HEQ2 hsl hcu
          obtain ⟨op, hop⟩ : ∃ op, op = L[i][nx]'hnlt := ⟨_, rfl⟩
          rw [← hop] at d0 d1 d2 HR1 HEQ3
          obtain ⟨tl, htl⟩ : ∃ tl, tl = L[i].drop (nx + 1) := ⟨_, rfl⟩
          rw [← htl] at HR1 HEQ3
          have HOPD := Lib.hid hop
          have HTLD := Lib.hid htl
          clear hop htl
          have hnli : (nx : Int) < (L[i].length : Int) := by omega
          obtain ⟨yl, hyl⟩ : ∃ yl, yl = L[i].length := ⟨_, rfl⟩
          rw [← hyl] at ht0 hq hqi hnli
          have HYL := Lib.hid hyl
          clear hyl
          obtain ⟨o1, o2, o3⟩ := op
          dsimp only at d0 d1 d2
          have hmk := fun W => mkB L.length (by omega) W
          go_wp2
          obtain ⟨wb, hwb⟩ : ∃ wb, wb = ((wo.alloc (.cells #[.int .i64 (o1 : Int), .int .i64 o2, .string o3] 33)).alloc (.cells (boC (List.replicate L.length false)).toArray 4)) := ⟨_, rfl⟩
          have UB : Hid (Up wo wb) := by rw [hwb]; exact ((Up.refl wo).alloc _).alloc _
          have OPW : Hid (Blk wb wo.heap.size (hp1 ⟨o1, o2, o3⟩) 33) := by rw [hwb]; exact (Blk.new wo _ _).up ((Up.refl _).alloc _)
          have hgsz : (wo.alloc (.cells #[.int .i64 (o1 : Int), .int .i64 o2, .string o3] 33)).heap.size = wo.heap.size + 1 := by simp
          have hws := HCH.out.size
          have SLW : Hid (wb.ownsRow w.heap.size 4 1 (.slice (some ⟨wo.heap.size + 1, 0, none⟩) L.length L.length) L.length (boC (stP L ns bs' ⟨o1, o2, o3⟩ 0))) := by
            unfold Hid
            have h := own_of_blk (n := L.length) (size := 1) (Blk.new (wo.alloc (.cells #[.int .i64 (o1 : Int), .int .i64 o2, .string o3] 33)) (boC (List.replicate L.length false)).toArray 4) (by simp [boC_len]) (by omega)
            rw [hgsz, ← hwb] at h
            rw [stP_zero]
            exact own_base h (by omega)
          have hbsz : wb.heap.size = wo.heap.size + 2 := by rw [hwb]; simp
          have HBSZ := Lib.hid hbsz
          rw [← hwb]
          clear hwb hgsz hbsz
          obtain ⟨gb, hgb⟩ : ∃ gb, gb = wo.heap.size := ⟨_, rfl⟩
          have HGB := Lib.hid hgb
          rw [← hgb] at OPW SLW ⊢
          clear hgb
          go_loopw [53] (fun kv wi => ∃ q : Nat, q ≤ L.length ∧ kv = .int .i64 q ∧ Hid (wi.ownsRow w.heap.size 4 1 (.slice (some ⟨gb + 1, 0, none⟩) L.length L.length) L.length (boC (stP L ns bs' ⟨o1, o2, o3⟩ q))) ∧ Hid (Chg (fun k => k = gb + 1) wb wi)) (fun kv _ => L.length - (intOf kv).toNat)
          case atStart => exact ⟨0, by omega, rfl, SLW.out, Chg.refl _ _⟩
          case round =>
            obtain ⟨q, hq', rfl, HQ, HQC⟩ := hrel
            obtain ⟨wi, hwi⟩ : ∃ wi : World, wi = wr := ⟨_, rfl⟩
            rw [← hwi] at HQ HQC ⊢
            clear hwi
            have HQU : Hid (Up wo wi) := Below.trans UB.out (HQC.out.below UB.out.size fun k hk e => by have := HGB.out; omega)
            by_cases hlq : q < L.length
            · have hlqi : (q : Int) < (L.length : Int) := by omega
              obtain ⟨_, _, hqe, _, _, hgq, hcq, hfq⟩ := own_some HQ.out hpos
              simp only [Value.slice.injEq, true_and, Option.some.injEq, Addr.mk.injEq, and_true] at hqe
              obtain ⟨rfl, rfl⟩ := hqe
              have z0 := hcq _ _ (boC_get (stP L ns bs' ⟨o1, o2, o3⟩ q) (i := q) (by rw [stP_len]; exact hlq))
              have zf := hfq q
              obtain ⟨_, _, hqe, _, _, hgs2, hcs2, _⟩ := own_some (own_up HB.out HQU.out) hpos
              simp only [Value.slice.injEq, true_and, Option.some.injEq, Addr.mk.injEq, and_true] at hqe
              obtain ⟨rfl, rfl⟩ := hqe
              have s1 := hcs2 _ _ (boC_get bs' (i := q) (by omega))
              have HSL1 : Hid (bs'.getD q false = slf bs' q) := rfl
              rw [HSL1.out] at s1
              have HNXT : Hid ((boC (stP L ns bs' ⟨o1, o2, o3⟩ q)).set q (.bool (stB L ns bs' ⟨o1, o2, o3⟩ q)) = boC (stP L ns bs' ⟨o1, o2, o3⟩ (q + 1))) := by unfold Hid; rw [boC_set, stP_next L ns bs' _ hlq]
              clear hcq hfq hcs2 p0 d0 d1 d2 n0 s0 ht0 hfs
              cases hsq : slf bs' q with
              | false =>
                rw [hsq] at s1
                have HST := Lib.hid (stB_off (L := L) (ns := ns) (a := ⟨o1, o2, o3⟩) hsq)
                clear hsq
                go_wp2
                refine wp_region_gr_last _ 25 (by kernel_rfl) rfl rfl rfl rfl (by kernel_rfl) (by kernel_rfl) (by kernel_rfl) ?_
                simp only [List.take_succ_cons, List.take_zero, List.drop_succ_cons, List.drop_zero]
                repeat (go_big_quiet_step (fail))
                refine wpQuiet_nil ?_
                intro _ hw'
                obtain ⟨g1, rfl⟩ := hw'
                have H5 := Lib.hid (own_up HQ.out (gr_up wi g1))
                have C5 := Lib.hid (HQC.out.trans ((gr_up wi g1).chg (fun k => k = gb + 1)) fun _ _ e => e)
                have z1 := ((gr_up wi g1).cell (p := ⟨gb + 1, q, none⟩) hgq).trans z0
                have zf1 := own_free H5.out q
                have zl1 := own_glt H5.out
                clear z0 zf hgq
                generalize gr wi g1 = w5 at *
                go_wp2
                go_roundw
                case rel =>
                  refine ⟨q + 1, by omega, by go_num, ?_, C5.out.set (b := gb + 1) (.inl rfl) _ _ _⟩
                  have h := own_set H5.out q (by rw [boC_len, stP_len]; exact hlq) (.bool (stB L ns bs' ⟨o1, o2, o3⟩ q))
                  rw [HNXT.out, HST.out] at h
                  exact h
                case measure => simp [intOf]; omega
              | true =>
                rw [hsq] at s1
                have hzq := HZ'.out q hsq
                have hrq : rem.getD q [] = (L.getD q []).drop (ns.getD q 0) := by rw [HREM.out, remL_get]
                have hgdq : L.getD q [] = L[q] := by simp [List.getD, hlq]
                rw [hgdq] at hrq
                have hnq : ns.getD q 0 < L[q].length := by
                  rcases Nat.lt_or_ge (ns.getD q 0) L[q].length with h | h
                  · exact h
                  · exact absurd (hrq.trans (List.drop_eq_nil_of_le h)) hzq
                have hr2 : rem.getD q [] = (L[q][ns.getD q 0]'hnq) :: L[q].drop (ns.getD q 0 + 1) := hrq.trans (List.drop_eq_getElem_cons hnq)
                have HST := Lib.hid (stB_on (L := L) (ns := ns) (a := ⟨o1, o2, o3⟩) (b := L[q][ns.getD q 0]'hnq) hsq (by rw [← HREM.out]; exact hr2))
                obtain ⟨_, u2, uc2, hge, hgt2, ht2, hul2, _⟩ := (HES.out.txs.up HQU.out).row hlq
                simp only [Option.some.injEq, Addr.mk.injEq, and_true] at hge
                subst hge
                obtain ⟨gv, _, hue2, _, _, hgv, hcv, _⟩ := own_some hul2 (by omega)
                simp only [Value.slice.injEq, true_and] at hue2
                obtain ⟨rfl, rfl⟩ := hue2
                have e0 := hcv _ _ (hpC_get L[q] _ hnq).1
                have e1 := hcv _ _ (hpC_get L[q] _ hnq).2.1
                have e2 := hcv _ _ (hpC_get L[q] _ hnq).2.2
                obtain ⟨_, _, hne2, _, _, hgn2, hcn2, _⟩ := own_some (own_up HNw.out HQU.out) hpos
                simp only [Value.slice.injEq, true_and, Option.some.injEq, Addr.mk.injEq, and_true] at hne2
                obtain ⟨rfl, rfl⟩ := hne2
                have n1 := hcn2 _ _ (inC_get ns (i := q) (by omega))
                have p1 := ((HES.out.up HQU.out).blk.at (i := 0) rfl).2
                have pl1 := (HES.out.up HQU.out).blk.lt
                have hbx := OPW.out.chg HQC.out (by omega)
                have x0 := (hbx.at (i := 0) rfl).2
                have x1 := (hbx.at (i := 1) rfl).2
                have x2 := (hbx.at (i := 2) rfl).2
                have xl := hbx.lt
                have HD := Lib.hid (fun W => dep_any (L[q][ns.getD q 0]'hnq) ⟨o1, o2, o3⟩ W)
                have hnqi : (ns.getD q 0 : Int) < (L[q].length : Int) := by omega
                clear hsq hzq hrq hgdq hr2 hul2 hcv hcn2 hbx
                generalize (L[q][ns.getD q 0]'hnq) = y at *
                generalize ns.getD q 0 = nq at *
                generalize L[q].length = yq at *
                obtain ⟨y1, y2, y3⟩ := y
                unfold hv at HD
                dsimp only at e0 e1 e2 HD
                rw [HST.out] at HNXT
                have hdec : ∀ b : Bool, Value.bool (!b) = .bool (!b) := fun _ => rfl
                generalize depH ⟨y1, y2, y3⟩ ⟨o1, o2, o3⟩ = dd at *
                go_wp2
                refine wp_region_gr_last _ 25 (by kernel_rfl) rfl rfl rfl rfl (by kernel_rfl) (by kernel_rfl) (by kernel_rfl) ?_
                simp only [List.take_succ_cons, List.take_zero, List.drop_succ_cons, List.drop_zero]
                repeat (go_big_quiet_step (first
                  | (go_at_call 33; exact gr_callb (HD.out _) rfl)
                  | fail))
                refine wpQuiet_nil ?_
                intro _ hw'
                obtain ⟨g1, rfl⟩ := hw'
                have H5 := Lib.hid (own_up HQ.out (gr_up wi g1))
                have C5 := Lib.hid (HQC.out.trans ((gr_up wi g1).chg (fun k => k = gb + 1)) fun _ _ e => e)
                have z1 := ((gr_up wi g1).cell (p := ⟨gb + 1, q, none⟩) hgq).trans z0
                have zf1 := own_free H5.out q
                have zl1 := own_glt H5.out
                clear z0 zf hgq
                generalize gr wi g1 = w5 at *
                go_wp2
                go_roundw
                case rel =>
                  refine ⟨q + 1, by omega, by go_num, ?_, C5.out.set (b := gb + 1) (.inl rfl) _ _ _⟩
                  have h := own_set H5.out q (by rw [boC_len, stP_len]; exact hlq) (.bool (stB L ns bs' ⟨o1, o2, o3⟩ q))
                  rw [HST.out, HNXT.out] at h
                  exact h
                case measure => simp [intOf]; omega
            · obtain rfl : q = L.length := by omega
              have hsl0 := HSLF.out
              have hsz1 : S'.length + (f (rem.set i tl) (sleepN depH rem ⟨o1, o2, o3⟩ (slf bs'))).length ≤ 1000000000 := by
                have h1 := congrArg List.length HEQ3.out
                simp only [List.length_append, List.length_map] at h1
                have h2 := HSZ.out
                rw [HX.out, if_neg (fun e => by
                  have h3 := allNil_iff.1 (by rw [HRL.out]; exact e) i (by rw [HRL.out]; exact hlt)
                  rw [HR1.out] at h3; cases h3)] at h2
                omega
              rw [HF.out] at hsz1
              have HCALL := Lib.hid (ex_call HIH.out HREM.out HTOT.out hlt hnl HR1.out (by rw [HTLD.out, HGD.out, HNXE.out]) (by rw [HGD.out, ← HNXE.out]; omega) HES.out hbl' HZ'.out HSLF.out HNX.out hm HLL.out hsc hsz1)
              rw [← HF.out, ← HNXE.out] at HCALL
              have HQ2 := HQ.out
              rw [stP_full] at HQ2
              have HQ3 := Lib.hid HQ2
              have HNI := Lib.hid (own_up HNw.out HQU.out)
              have HCN := Lib.hid (cloneI _ L.length (inC ns) wi (own_src HNI.out) (inC_one ns) (by omega))
              have hpl : P < wi.heap.size := Nat.lt_of_lt_of_le pl HQU.out.size
              have HWO := HQU.out.size
              have hbx := OPW.out.chg HQC.out (by omega)
              have HBX := Lib.hid hbx
              clear hsl0 hsz1 HQ2 hbx p0 d0 d1 d2 n0 s0 ht0 hfs hgs hgn hgt hgu
              go_wp2_with (first
                | (go_at_call 34; refine HCN.out.mono ?_; rintro e w6 ⟨v6, rfl, h6, h7⟩; obtain ⟨g6, c6, rfl, _, _, hg6, hc6, hf6⟩ := own_some h6 hpos; have m0 := hc6 _ _ (inC_get ns (i := i) (by omega)); rw [← HNXE.out] at m0; have mf := hf6 i; have H6 := Lib.hid h6; have H7 := Lib.hid h7; clear h6 h7 hc6 hf6)
                | fail)
              have hcast : ((nx + 1 : Nat) : Int) = (nx : Int) + 1 := by omega
              have HU7 : Hid (Up wi (w6.setCell ⟨g6, i, none⟩ (.int .i64 ((nx : Int) + 1)))) := by
                have := ((own_ty H6.out) g6 rfl).2
                exact H7.out.set this _ _ _
              have HN7 : Hid ((w6.setCell ⟨g6, i, none⟩ (.int .i64 ((nx : Int) + 1))).ownsRow wi.heap.size 3 1 (.slice (some ⟨g6, 0, none⟩) L.length c6) L.length (inC (ns.set i (nx + 1)))) := by
                have h := own_set H6.out i (by rw [inC_len]; omega) (.int .i64 ((nx : Int) + 1))
                rw [← hcast, inC_set] at h
                rw [← hcast]
                exact h
              have HO7 := Lib.hid (HE.out.keep HCH.out HO.out (by decide) (by decide))
              generalize w6.setCell ⟨g6, i, none⟩ (.int .i64 ((nx : Int) + 1)) = w7 at *
              have HUO7 := Lib.hid (Below.trans HQU.out (HU7.out.mono HQU.out.size))
              have hb7 := HBX.out.up HU7.out
              have x0 := (hb7.at (i := 0) rfl).2
              have x1 := (hb7.at (i := 1) rfl).2
              have x2 := (hb7.at (i := 2) rfl).2
              have xl := hb7.lt
              have HSRC := Lib.hid (src_parts (own_src (own_up HO7.out HUO7.out)))
              have hoc1 : (sched.length : Int) ≤ (oc : Int) := by omega
              obtain ⟨i0, hi0, hz0, hz1, hz2⟩ := info_parts Try.infoO
              go_cut [] from 90 to 102 (fun wx => ∃ sv'' : Value, Hid (ExS wx P B (.slice (some ⟨gt, 0, none⟩) L.length tc) sv'' L (S' ++ (f (rem.set i tl) (sleepN depH rem ⟨o1, o2, o3⟩ (slf bs'))).map ((sched ++ [⟨o1, o2, o3⟩]) ++ ·))) ∧ Hid (Chg (ExF P sv) w wx) ∧ Hid (sv''.ownBlock = sv.ownBlock ∨ ∀ k, sv''.ownBlock = some k → w.heap.size ≤ k) ∧
                Hid (wx.ownsRow w.heap.size 4 1 (.slice (some ⟨gs, 0, none⟩) L.length sc) L.length (boC bs')))
              case first =>
                have HAP : Hid (∀ (W : World) (v : Value), Up w7 W → W.ownsRow w7.heap.size 33 3 v (sched.length + 1) (hpC sched ++ [.int .i64 (o1 : Int), .int .i64 o2, .string o3]) → OpsO W 0 v (sched ++ [⟨o1, o2, o3⟩])) := fun W v _ hw => by
                  unfold OpsO
                  rw [List.length_append, hpC_app]
                  exact own_base hw (Nat.zero_le _)
                have HUA := Lib.hid ((Up.refl w7).alloc (.cells #[.int .i64 (o1 : Int), .int .i64 o2, .string o3] 33)).drew
                have HCA : Hid (∀ (W : World) (v : Value), Up w7 W → OpsO W 0 v (sched ++ [⟨o1, o2, o3⟩]) → Calls Try.prog 20 #[.pointer (some ⟨P, 0, none⟩), .slice (some ⟨g6, 0, none⟩) L.length c6, .slice (some ⟨gb + 1, 0, none⟩) L.length L.length, v] W fun e w' => e = .returned (.tuple #[]) ∧ Hid (∃ sv'', ExS w' P B (.slice (some ⟨gt, 0, none⟩) L.length tc) sv'' L (S' ++ (f (rem.set i tl) (sleepN depH rem ⟨o1, o2, o3⟩ (slf bs'))).map ((sched ++ [⟨o1, o2, o3⟩]) ++ ·)) ∧
                    Chg (ExF P sv') W w' ∧ (sv''.ownBlock = sv'.ownBlock ∨ ∀ k, sv''.ownBlock = some k → W.heap.size ≤ k))) := fun W v hu hv =>
                  HCALL.out W _ _ v (Below.trans HUO7.out (hu.mono HUO7.out.size)) (own_base (own_up HN7.out hu) (Nat.zero_le _)) (own_base (own_up HQ3.out (Below.trans HU7.out (hu.mono HU7.out.size))) (Nat.zero_le _)) hv
                go_region_law (first
                  | (refine step_append_grows rfl (.tmp 98) (.tmp 100) 30 rfl 33 i0 (.agg #[.int .i64 0, .int .i64 0, .string ByteArray.empty]) 3 32 Try.underlying30 hi0 hz0 hz1 hz2 rfl (by decide) oa sched.length sched.length (hpC sched) (by simp [Act.eval]) (fun e => ⟨(HSRC.out.1 e).1, (HSRC.out.1 e).1⟩) (hpC_len sched) (fun b e j u hj => by
                      have hc := (src_parts (own_src (own_up HO7.out (Below.trans HUO7.out (HUA.out.mono HUO7.out.size))))).2 b e j u hj
                      exact hc) ⟨w7.heap.size, 0, none⟩ 1 1 [.int .i64 (o1 : Int), .int .i64 o2, .string o3] (by simp [Act.eval]) rfl (cells_new w7 #[.int .i64 (o1 : Int), .int .i64 o2, .string o3] 33) (by intro u hu; simp at hu; rcases hu with rfl | rfl | rfl <;> rfl) (by omega) (by unfold maxLen; omega) (by omega) ?_
                     intro v8 w8 hown8 hgrow8
                     have U8 := Lib.hid (Below.grown HUA.out hgrow8 HUA.out.size fun k hk => by cases hk)
                     have O8 := Lib.hid (HAP.out w8 v8 U8.out (own_base hown8 (by simp)))
                     clear hown8 hgrow8)
                  | (refine step_go (f := 20) Try.call20 #[.pointer (some ⟨P, 0, none⟩), .slice (some ⟨g6, 0, none⟩) L.length c6, .slice (some ⟨gb + 1, 0, none⟩) L.length L.length, v8] (by simp [Act.eval] <;> rfl) (HCA.out w8 v8 U8.out O8.out) ?_
                     rintro e w9 ⟨rfl, h9⟩
                     refine ⟨_, rfl, ?_⟩
                     have H9 := Lib.hid h9
                     clear h9)
                  | fail)
                all_goals
                  go_wp2
                  go_meet
                  obtain ⟨sv'', e1, e2, e3⟩ := H9.out
                  have UO8 : Up wo w8 := Below.trans HUO7.out (U8.out.mono HUO7.out.size)
                  have hc8 : Chg (ExF P sv) w w8 := HCH.out.trans (UO8.chg _) fun _ _ e => e
                  refine ⟨sv'', e1, ExS.chgF hc8 HSV.out e2, ?_, (HES.out.up UO8).keep e2 (own_up HB.out UO8) (by decide) (by decide)⟩
                  rcases e3 with e3 | e3
                  · rcases HSV.out with h | h
                    · exact .inl (e3.trans h)
                    · exact .inr fun k hk => h k (by rw [← e3]; exact hk)
                  · exact .inr fun k hk => Nat.le_trans hc8.size (e3 k hk)
              case rest =>
                obtain ⟨sv'', HE9, HC9, HS9, HB9⟩ := hcut
                obtain ⟨_, _, hse, _, _, hg9, hc9, hf9⟩ := own_some HB9.out hpos
                simp only [Value.slice.injEq, true_and, Option.some.injEq, Addr.mk.injEq, and_true] at hse
                obtain ⟨rfl, rfl⟩ := hse
                have t0 := hc9 _ _ (boC_get bs' (i := i) (by omega))
                have tf := hf9 i
                clear hc9 hf9 x0 x1 x2 xl
                go_wp2
                go_roundw
                case rel =>
                  refine ⟨i + 1, bs'.set i true, S' ++ (f (rem.set i tl) (sleepN depH rem ⟨o1, o2, o3⟩ (slf bs'))).map ((sched ++ [(⟨o1, o2, o3⟩ : Hop)]) ++ ·), sv'', by omega, by go_num, by rw [HAN.out], ?_, by simpa using hbl', fun k hk => ?_, HE9.out.bool (chg_set _ gs i none _) (fun k e => by subst e; exact ((own_ty HB9.out) k rfl).1), HC9.out.set (.inr ((own_ty HB9.out) gs rfl).2) _ _ _, HS9.out, ?_⟩
                  · have h := own_set HB9.out i (by rw [boC_len]; omega) (.bool true)
                    rw [boC_set] at h
                    exact h
                  · rw [slf_set (by omega)] at hk
                    simp only [Bool.or_eq_true, decide_eq_true_eq] at hk
                    rcases hk with hk | hk
                    · exact HZ'.out k hk
                    · rw [hk, HR1.out]; exact List.cons_ne_nil _ _
                  · rw [slf_set (by omega)]
                    have h := HEQ3.out
                    rw [List.map_append, List.map_map, ← List.append_assoc] at h
                    unfold Hid
                    rw [← h]
                    congr 2
                    exact List.map_congr_left fun x _ => by simp
                case measure => simp [intOf]; omega
    · obtain rfl : i = L.length := by omega
      have HEQ2 := HEQ.out
      rw [Nat.sub_self] at HEQ2
      have HEQ3 : Hid (S' = S ++ E.map (sched ++ ·)) := by unfold Hid; simpa [loopE] using HEQ2
      clear HEQ2
      cases han : allNil rem L.length with
      | false =>
        have HXE := HX.out
        rw [han, if_neg (by decide)] at HXE
        have HXF := Lib.hid HXE
        clear HXE
        go_wp2
        go_end0
        refine ⟨rfl, sv', ?_, HCH.out, HSV.out⟩
        rw [HXF.out, ← HEQ3.out]
        exact HES.out
      | true =>
        have HXE := HX.out
        rw [han, if_pos rfl] at HXE
        have HXF := Lib.hid HXE
        have hE0 : E = [] := by
          rw [HED.out]
          have hall := allNil_iff.1 (by rw [HRL.out]; exact han)
          exact loopE_empty (fun j => by
            rcases Nat.lt_or_ge j rem.length with h | h
            · exact hall j h
            · simp [List.getD, List.getElem?_eq_none h]) _ _
        have HE0 := Lib.hid hE0
        clear HXE hE0 han
        obtain ⟨vs, hvs1, hvs2⟩ := HES.out.sch
        obtain ⟨sa, scap, rfl, _, _, _⟩ := own_form hvs1
        have HV1 := Lib.hid hvs1
        have HV2 := Lib.hid hvs2
        have p1 := (HES.out.blk.at (i := 1) rfl).2
        have pl := HES.out.blk.lt
        have pf := HES.out.blk.free 1
        have HOw := Lib.hid (HE.out.keep HCH.out HO.out (by decide) (by decide))
        have HCO := Lib.hid (fun W (hu : Up wo W) => cloneO (.slice oa sched.length oc) sched.length (hpC sched) W (own_src (own_up HOw.out hu)) (hpC_one sched) (by omega))
        have hsl : S'.length ≤ 1000000000 := by
          have h2 := HSZ.out
          rw [HEQ3.out, HE0.out]
          simp
          omega
        obtain ⟨i1, hi0, hz0, hz1, hz2⟩ := info_parts Try.infoR
        have HBS := Lib.hid HES.out.base
        clear hvs1 hvs2
        go_wp2
        go_region_law (first
          | (refine step_go (f := 15) Try.call15 #[.slice oa sched.length oc] (by simp [Act.eval, Act.put]) (HCO.out _ (by first | exact Up.refl wo | exact (Up.refl wo).drew)) ?_
             rintro e w2 ⟨v, rfl, h1, h2⟩
             refine ⟨_, rfl, ?_⟩
             obtain ⟨av, cv, rfl, _, _, _⟩ := own_form h1
             have h2' : Up wo w2 := (Up.refl wo).drew.trans h2
             have r3 := (h2'.cell (p := ⟨P, 1, none⟩) pl).trans p1
             have hp1 : P < w2.heap.size := Nat.lt_of_lt_of_le pl h2'.size
             have H2 := Lib.hid h1
             have H3 := Lib.hid h2'
             clear h1 h2 h2')
          | (refine step_append_lies _ rfl (.tmp 112) (.tmp 115) 24 rfl B 30 i1 (.slice none 0 0) 1 24 Try.underlying24 hi0 hz0 hz1 hz2 rfl (by decide) (.slice sa S'.length scap) S'.length vs (by simp [Act.eval]) (by first | exact own_up HV1.out (H3.out.alloc _)) ⟨w2.heap.size, 0, none⟩ 1 1 [.slice av sched.length cv] (by simp [Act.eval]) rfl (cells_new w2 #[.slice av sched.length cv] 30) (by intro u hu; simp at hu; rcases hu with rfl; rfl) (by omega) (by unfold maxLen; omega) (by omega) (by have := HBS.out; have := H3.out.size; simp; omega) (w2.heap.size + 1) (by simp) ?_
             intro g2 c2 w3 hown2 hgrow2 hat2 hlt2
             have q0 := fld_far HES.out.blk (by decide) (own_base HV1.out (Nat.zero_le _)) (H3.out.alloc _) hgrow2
             have q1 := q0.cell 1
             have q2 := q0.free 1
             clear q0
             have hown2 := Lib.hid hown2
             have hgrow2 := Lib.hid hgrow2
             have hat2 := Lib.hid hat2)
          | fail)
        all_goals
          go_wp2
          go_end0
          obtain ⟨r1, r2, r3⟩ := HES.out.snoc (H3.out.alloc _) (own_base (own_up H2.out ((Up.refl w2).alloc _)) HBS.out) hgrow2.out vs HV2.out (by have := HV1.out.1; omega) hown2.out (hat2.out.imp id fun e => by have := H3.out.size; omega)
          refine ⟨rfl, .slice (some ⟨g2, 0, none⟩) (S'.length + 1) c2, ?_, ExS.chgF HCH.out HSV.out r2, ?_⟩
          · rw [HXF.out]
            have := HEQ3.out
            rw [HE0.out] at this
            simp only [List.map_nil, List.append_nil] at this
            rw [← this]
            simpa using r1
          · rcases r3 with e | e
            · rcases HSV.out with h | h
              · exact .inl (e.trans h)
              · exact .inr fun k hk => h k (by rw [← e]; exact hk)
            · exact .inr fun k hk => Nat.le_trans HCH.out.size (e k hk)
/-- explore. -/
theorem explore_any (P B : Nat) (tv : Value) (L : List (List Hop)) : ∀ n, ExC P B tv L n
  | 0 => explore_step P B tv L 0 fun k hk => by omega
  | n + 1 => explore_step P B tv L (n + 1) fun k hk => by
    have e : k = n := by omega
    rw [e]
    exact explore_any P B tv L n
end Go.Proofs.Ythcldanmppkkjaa.In
