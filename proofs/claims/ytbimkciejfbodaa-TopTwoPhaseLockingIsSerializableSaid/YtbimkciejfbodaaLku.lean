/- Locks: Acquire. -/
import Derived.Test.YtbimkciejfbodaaLks
import Derived.Test.YtbimkciejfbodaaLkt
import Derived.Deep.CutRange
namespace Go.Proofs.Ytbimkciejfbodaa.Lk
open Go Go.RowKit Hp
set_option linter.unusedVariables false

def AcqPost (p : Nat) (M : Mg) (F : Nat → Prop) (l : Lk) (w : World) (e : Ending) (w' : World) : Prop := e = .returned (.int .i64 (acqL M l).1) ∧ ManPost p (acqL M l).2 F w w'
theorem acq_go {M : Mg} {l : Lk} (h1 : ¬ ∃ q ∈ M.qu, q.tx = l.tx) (h2 : ¬ (l.key.size ≠ 0 ∧ (modeL M.gr (intL l) = 0 ∨ cov (modeL M.gr (intL l)) (l.mode + 2) = false)))
    (h3 : ¬ (0 < modeL M.gr l ∧ cov (modeL M.gr l) l.mode = true)) (h4 : ¬ (modeL M.gr l = 0 ∧ 200 ≤ M.gr.length + M.qu.length)) :
    ((blkL (M.gr ++ M.qu) (askL M.gr l)).length = 0 → acqL M l = (0, ⟨grantL M.gr (askL M.gr l), M.qu⟩)) ∧
    ((blkL (M.gr ++ M.qu) (askL M.gr l)).length ≠ 0 → Rch M (blkL (M.gr ++ M.qu) (askL M.gr l)) l.tx → acqL M l = (14, M)) ∧
    ((blkL (M.gr ++ M.qu) (askL M.gr l)).length ≠ 0 → ¬ Rch M (blkL (M.gr ++ M.qu) (askL M.gr l)) l.tx → acqL M l = (16, ⟨M.gr, M.qu ++ [askL M.gr l]⟩)) := by
  unfold acqL
  rw [if_neg h1, if_neg h2, if_neg h3, if_neg h4]
  refine ⟨fun e => by rw [if_pos e], fun e k => by rw [if_neg e, if_pos k], fun e k => by rw [if_neg e, if_neg k]⟩
set_option maxRecDepth 100000 in
set_option maxHeartbeats 2000000 in
theorem acq_15 (p : Nat) (M : Mg) (F : Nat → Prop) (l : Lk) (w : World) (h : ManR w p M F) (hV : Valid l) (hl : M.gr.length + M.qu.length ≤ 900) (hq : ∃ q ∈ M.qu, q.tx = l.tx) :
    Calls Try.prog 14 #[.pointer (some ⟨p, 0, none⟩), lkV l] w (AcqPost p M F l w) := by
  have HRM := Lib.hid h
  have HE := Lib.hid (show acqL M l = (15, M) by unfold acqL; rw [if_pos hq])
  obtain ⟨gv, qv, hP⟩ := h
  have U1 := Lib.hid ((Up.refl w).alloc (.cells #[.int .i64 l.tx, .string l.tab, .string l.key, .int .i64 l.mode] 33))
  have X1 := Lib.hid (LB.new w l)
  obtain ⟨hpl, c0⟩ := hP.blk.at (i := 0) rfl
  obtain ⟨_, c1⟩ := hP.blk.at (i := 1) rfl
  have HP := Lib.hid hP
  obtain ⟨ga, gc, rfl, _, _, _⟩ := own_form hP.go
  obtain ⟨qa, qc, rfl, _, _, _⟩ := own_form hP.qo
  have HV := valid_any l hV
  have HCF : Hid (∀ W, LB W w.heap.size l → Up w W → Calls Try.prog 34 #[.slice qa M.qu.length qc, .func (.func 35) #[] #[.pointer (some ⟨w.heap.size, 0, none⟩)]] W fun e w' => e = .returned (.bool (M.qu.any fun x => decide (x.tx = l.tx))) ∧ Up W w') := fun W hX hu =>
    cf_A w.heap.size _ _ M.qu W (cl_A W _ l hX) (own_src (own_up hP.qo hu)) (by omega)
  rw [List.any_eq_true.2 (by obtain ⟨q, h1, h2⟩ := hq; exact ⟨q, h1, decide_eq_true h2⟩)] at HCF
  have HCF := Lib.hid HCF.out
  clear hP hV hq
  unfold lkV at HV ⊢
  go_enter Try.func14, Try.ntmps14
  go_wp2_with (first
    | (go_at_call 34; refine (HCF.out _ X2.out U2.out).mono ?_; rintro e w3 ⟨rfl, h3⟩; have X3 := Lib.hid (X2.out.up h3); have U3 := Lib.hid (U2.out.trans h3); have x30 := (Blk.at X3.out (i := 0) rfl).2; have x31 := (Blk.at X3.out (i := 1) rfl).2; have x32 := (Blk.at X3.out (i := 2) rfl).2; have x33 := (Blk.at X3.out (i := 3) rfl).2; have xl3 := Blk.lt X3.out; have c30 := (U3.out.cell (p := ⟨p, 0, none⟩) hpl).trans c0; have c31 := (U3.out.cell (p := ⟨p, 1, none⟩) hpl).trans c1; have pl3 := Nat.lt_of_lt_of_le hpl U3.out.size; clear h3)
    | (go_at_call 33; refine (HV _).mono ?_; rintro e w2 ⟨rfl, h2⟩; have X2 := Lib.hid (X1.out.up h2); have U2 := Lib.hid (U1.out.trans h2); have x20 := (Blk.at X2.out (i := 0) rfl).2; have x21 := (Blk.at X2.out (i := 1) rfl).2; have x22 := (Blk.at X2.out (i := 2) rfl).2; have x23 := (Blk.at X2.out (i := 3) rfl).2; have xl2 := Blk.lt X2.out; have c20 := (U2.out.cell (p := ⟨p, 0, none⟩) hpl).trans c0; have c21 := (U2.out.cell (p := ⟨p, 1, none⟩) hpl).trans c1; have pl2 := Nat.lt_of_lt_of_le hpl U2.out.size; clear h2)
    | fail)
  go_ret
  exact ⟨by rw [HE.out]; rfl, by rw [HE.out]; exact ManPost.of_up HRM.out U3.out⟩
set_option maxRecDepth 100000 in
set_option maxHeartbeats 2000000 in
theorem acq_6 (p : Nat) (M : Mg) (F : Nat → Prop) (l : Lk) (w : World) (h : ManR w p M F) (hV : Valid l) (hl : M.gr.length + M.qu.length ≤ 900) (hq : ¬ ∃ q ∈ M.qu, q.tx = l.tx)
    (hk : l.key.size ≠ 0) (hb : modeL M.gr (intL l) = 0 ∨ cov (modeL M.gr (intL l)) (l.mode + 2) = false) :
    Calls Try.prog 14 #[.pointer (some ⟨p, 0, none⟩), lkV l] w (AcqPost p M F l w) := by
  have HRM := Lib.hid h
  have HE := Lib.hid (show acqL M l = (6, M) by unfold acqL; rw [if_neg hq, if_pos ⟨hk, hb⟩])
  obtain ⟨gv, qv, hP⟩ := h
  have U1 := Lib.hid ((Up.refl w).alloc (.cells #[.int .i64 l.tx, .string l.tab, .string l.key, .int .i64 l.mode] 33))
  have X1 := Lib.hid (LB.new w l)
  obtain ⟨hpl, c0⟩ := hP.blk.at (i := 0) rfl
  obtain ⟨_, c1⟩ := hP.blk.at (i := 1) rfl
  have HP := Lib.hid hP
  obtain ⟨ga, gc, rfl, _, _, _⟩ := own_form hP.go
  obtain ⟨qa, qc, rfl, _, _, _⟩ := own_form hP.qo
  have HV := valid_any l hV
  have HCF : Hid (∀ W, LB W w.heap.size l → Up w W → Calls Try.prog 34 #[.slice qa M.qu.length qc, .func (.func 35) #[] #[.pointer (some ⟨w.heap.size, 0, none⟩)]] W fun e w' => e = .returned (.bool (M.qu.any fun x => decide (x.tx = l.tx))) ∧ Up W w') := fun W hX hu =>
    cf_A w.heap.size _ _ M.qu W (cl_A W _ l hX) (own_src (own_up hP.qo hu)) (by omega)
  rw [List.any_eq_false.2 (fun q h1 h2 => hq ⟨q, h1, of_decide_eq_true h2⟩)] at HCF
  have HCF := Lib.hid HCF.out
  have HMI : ∀ W, Up w W → ∀ m', m' = l.mode + 2 → Calls Try.prog 36 #[.pointer (some ⟨p, 0, none⟩), .agg #[.int .i64 l.tx, .string l.tab, .string ByteArray.empty, .int .i64 m']] W fun e w' => e = .returned (.int .i64 (modeL M.gr (intL l))) ∧ Up W w' := fun W hu m' e => by
    subst e; exact mode_any p M F (intL l) W (HRM.out.up hu) (by omega)
  have hk1 : ¬ l.key.toList = [] := fun e => hk (sz_iff.2 e)
  have hk2 : l.key.toList.isEmpty = false := by rw [List.isEmpty_eq_false_iff]; exact hk1
  have hm0 := hV.m0
  have hm1 := hV.k1 hk
  have hk1m : 0 ≤ l.mode ∧ l.mode ≤ 2 := ⟨by omega, hm1⟩
  clear hP hV hq hk
  unfold lkV at HV ⊢
  by_cases h0 : modeL M.gr (intL l) = 0
  · rw [h0] at HMI
    have HMI := Lib.hid HMI
    clear h0 hb
    go_enter Try.func14, Try.ntmps14
    go_wp2_with (first
      | (go_at_call 36; refine (HMI.out _ (U3.out.alloc _) _ (by omega)).mono ?_; rintro e w4 ⟨rfl, h4⟩; have Y4 := Lib.hid ((Blk.new w3 #[.int .i64 l.tx, .string l.tab, .string ByteArray.empty, .int .i64 (l.mode + 3 - 1)] 33).up h4); have y43 := (Blk.at Y4.out (i := 3) rfl).2; have yl4 := Blk.lt Y4.out; have h4 := ((Up.refl w3).alloc (.cells #[.int .i64 l.tx, .string l.tab, .string ByteArray.empty, .int .i64 (l.mode + 3 - 1)] 33)).trans h4; have X4 := Lib.hid (X3.out.up h4); have U4 := Lib.hid (U3.out.trans h4); have x40 := (Blk.at X4.out (i := 0) rfl).2; have x41 := (Blk.at X4.out (i := 1) rfl).2; have x42 := (Blk.at X4.out (i := 2) rfl).2; have x43 := (Blk.at X4.out (i := 3) rfl).2; have xl4 := Blk.lt X4.out; have c40 := (U4.out.cell (p := ⟨p, 0, none⟩) hpl).trans c0; have c41 := (U4.out.cell (p := ⟨p, 1, none⟩) hpl).trans c1; have pl4 := Nat.lt_of_lt_of_le hpl U4.out.size; clear h4)
      | (go_at_call 34; refine (HCF.out _ X2.out U2.out).mono ?_; rintro e w3 ⟨rfl, h3⟩; have X3 := Lib.hid (X2.out.up h3); have U3 := Lib.hid (U2.out.trans h3); have x30 := (Blk.at X3.out (i := 0) rfl).2; have x31 := (Blk.at X3.out (i := 1) rfl).2; have x32 := (Blk.at X3.out (i := 2) rfl).2; have x33 := (Blk.at X3.out (i := 3) rfl).2; have xl3 := Blk.lt X3.out; have c30 := (U3.out.cell (p := ⟨p, 0, none⟩) hpl).trans c0; have c31 := (U3.out.cell (p := ⟨p, 1, none⟩) hpl).trans c1; have pl3 := Nat.lt_of_lt_of_le hpl U3.out.size; clear h3)
      | (go_at_call 33; refine (HV _).mono ?_; rintro e w2 ⟨rfl, h2⟩; have X2 := Lib.hid (X1.out.up h2); have U2 := Lib.hid (U1.out.trans h2); have x20 := (Blk.at X2.out (i := 0) rfl).2; have x21 := (Blk.at X2.out (i := 1) rfl).2; have x22 := (Blk.at X2.out (i := 2) rfl).2; have x23 := (Blk.at X2.out (i := 3) rfl).2; have xl2 := Blk.lt X2.out; have c20 := (U2.out.cell (p := ⟨p, 0, none⟩) hpl).trans c0; have c21 := (U2.out.cell (p := ⟨p, 1, none⟩) hpl).trans c1; have pl2 := Nat.lt_of_lt_of_le hpl U2.out.size; clear h2)
      | fail)
    go_ret
    exact ⟨by rw [HE.out]; rfl, by rw [HE.out]; exact ManPost.of_up HRM.out U4.out⟩
  · have HCOV := Lib.hid (hb.resolve_left h0)
    generalize modeL M.gr (intL l) = hh at *
    have h01 : (hh == 0) = false := beq_eq_false_iff_ne.2 h0
    have HMI := Lib.hid HMI
    clear h0 hb
    go_enter Try.func14, Try.ntmps14
    go_wp2_with (first
      | (go_at_call 37; refine (cov_any _ _ _).mono ?_; rw [show l.mode + 3 - 1 = l.mode + 2 by omega, HCOV.out]; rintro e w5 ⟨rfl, rfl⟩)
      | (go_at_call 36; refine (HMI.out _ (U3.out.alloc _) _ (by omega)).mono ?_; rintro e w4 ⟨rfl, h4⟩; have Y4 := Lib.hid ((Blk.new w3 #[.int .i64 l.tx, .string l.tab, .string ByteArray.empty, .int .i64 (l.mode + 3 - 1)] 33).up h4); have y43 := (Blk.at Y4.out (i := 3) rfl).2; have yl4 := Blk.lt Y4.out; have h4 := ((Up.refl w3).alloc (.cells #[.int .i64 l.tx, .string l.tab, .string ByteArray.empty, .int .i64 (l.mode + 3 - 1)] 33)).trans h4; have X4 := Lib.hid (X3.out.up h4); have U4 := Lib.hid (U3.out.trans h4); have x40 := (Blk.at X4.out (i := 0) rfl).2; have x41 := (Blk.at X4.out (i := 1) rfl).2; have x42 := (Blk.at X4.out (i := 2) rfl).2; have x43 := (Blk.at X4.out (i := 3) rfl).2; have xl4 := Blk.lt X4.out; have c40 := (U4.out.cell (p := ⟨p, 0, none⟩) hpl).trans c0; have c41 := (U4.out.cell (p := ⟨p, 1, none⟩) hpl).trans c1; have pl4 := Nat.lt_of_lt_of_le hpl U4.out.size; clear h4)
      | (go_at_call 34; refine (HCF.out _ X2.out U2.out).mono ?_; rintro e w3 ⟨rfl, h3⟩; have X3 := Lib.hid (X2.out.up h3); have U3 := Lib.hid (U2.out.trans h3); have x30 := (Blk.at X3.out (i := 0) rfl).2; have x31 := (Blk.at X3.out (i := 1) rfl).2; have x32 := (Blk.at X3.out (i := 2) rfl).2; have x33 := (Blk.at X3.out (i := 3) rfl).2; have xl3 := Blk.lt X3.out; have c30 := (U3.out.cell (p := ⟨p, 0, none⟩) hpl).trans c0; have c31 := (U3.out.cell (p := ⟨p, 1, none⟩) hpl).trans c1; have pl3 := Nat.lt_of_lt_of_le hpl U3.out.size; clear h3)
      | (go_at_call 33; refine (HV _).mono ?_; rintro e w2 ⟨rfl, h2⟩; have X2 := Lib.hid (X1.out.up h2); have U2 := Lib.hid (U1.out.trans h2); have x20 := (Blk.at X2.out (i := 0) rfl).2; have x21 := (Blk.at X2.out (i := 1) rfl).2; have x22 := (Blk.at X2.out (i := 2) rfl).2; have x23 := (Blk.at X2.out (i := 3) rfl).2; have xl2 := Blk.lt X2.out; have c20 := (U2.out.cell (p := ⟨p, 0, none⟩) hpl).trans c0; have c21 := (U2.out.cell (p := ⟨p, 1, none⟩) hpl).trans c1; have pl2 := Nat.lt_of_lt_of_le hpl U2.out.size; clear h2)
      | fail)
    go_ret
    exact ⟨by rw [HE.out]; rfl, by rw [HE.out]; exact ManPost.of_up HRM.out U4.out⟩
set_option maxRecDepth 100000 in
set_option maxHeartbeats 4000000 in
theorem acq_main (p : Nat) (M : Mg) (F : Nat → Prop) (l : Lk) (w : World) (h : ManR w p M F) (hI : Inv M.gr M.qu) (hV : Valid l) (hl : M.gr.length + M.qu.length ≤ 900) (hq : ¬ ∃ q ∈ M.qu, q.tx = l.tx)
    (hk : ¬ (l.key.size ≠ 0 ∧ (modeL M.gr (intL l) = 0 ∨ cov (modeL M.gr (intL l)) (l.mode + 2) = false))) :
    Calls Try.prog 14 #[.pointer (some ⟨p, 0, none⟩), lkV l] w (AcqPost p M F l w) := by
  have HRM := Lib.hid h
  have HI := Lib.hid hI
  have HQ := Lib.hid hq
  have HK := Lib.hid hk
  have HVV := Lib.hid hV
  obtain ⟨gv, qv, hP⟩ := h
  have U1 := Lib.hid ((Up.refl w).alloc (.cells #[.int .i64 l.tx, .string l.tab, .string l.key, .int .i64 l.mode] 33))
  have X1 := Lib.hid (LB.new w l)
  obtain ⟨hpl, c0⟩ := hP.blk.at (i := 0) rfl
  obtain ⟨_, c1⟩ := hP.blk.at (i := 1) rfl
  have HP := Lib.hid hP
  obtain ⟨ga, gc, rfl, _, _, _⟩ := own_form hP.go
  obtain ⟨qa, qc, rfl, _, _, _⟩ := own_form hP.qo
  have HV := valid_any l hV
  have HCF : Hid (∀ W, LB W w.heap.size l → Up w W → Calls Try.prog 34 #[.slice qa M.qu.length qc, .func (.func 35) #[] #[.pointer (some ⟨w.heap.size, 0, none⟩)]] W fun e w' => e = .returned (.bool (M.qu.any fun x => decide (x.tx = l.tx))) ∧ Up W w') := fun W hX hu =>
    cf_A w.heap.size _ _ M.qu W (cl_A W _ l hX) (own_src (own_up hP.qo hu)) (by omega)
  rw [List.any_eq_false.2 (fun q h1 h2 => hq ⟨q, h1, of_decide_eq_true h2⟩)] at HCF
  have HCF := Lib.hid HCF.out
  have HMI : ∀ W, Up w W → ∀ m', m' = l.mode + 2 → Calls Try.prog 36 #[.pointer (some ⟨p, 0, none⟩), .agg #[.int .i64 l.tx, .string l.tab, .string ByteArray.empty, .int .i64 m']] W fun e w' => e = .returned (.int .i64 (modeL M.gr (intL l))) ∧ Up W w' := fun W hu m' e => by
    subst e; exact mode_any p M F (intL l) W (HRM.out.up hu) (by omega)
  have HMI := Lib.hid HMI
  have hm0 := hV.m0
  have hm4 := hV.m1
  obtain ⟨i0, hi0, hz0', hz1, hz2⟩ := info_parts Try.infoL
  clear hP hV hq hk hI
  unfold lkV at HV ⊢
  go_enter Try.func14, Try.ntmps14
  go_upto_if 23 with (first
    | (go_at_call 34; refine (HCF.out _ X2.out U2.out).mono ?_; rintro e w3 ⟨rfl, h3⟩; have X3 := Lib.hid (X2.out.up h3); have U3 := Lib.hid (U2.out.trans h3); have x30 := (Blk.at X3.out (i := 0) rfl).2; have x31 := (Blk.at X3.out (i := 1) rfl).2; have x32 := (Blk.at X3.out (i := 2) rfl).2; have x33 := (Blk.at X3.out (i := 3) rfl).2; have xl3 := Blk.lt X3.out; have c30 := (U3.out.cell (p := ⟨p, 0, none⟩) hpl).trans c0; have c31 := (U3.out.cell (p := ⟨p, 1, none⟩) hpl).trans c1; have pl3 := Nat.lt_of_lt_of_le hpl U3.out.size; clear h3)
    | (go_at_call 33; refine (HV _).mono ?_; rintro e w2 ⟨rfl, h2⟩; have X2 := Lib.hid (X1.out.up h2); have U2 := Lib.hid (U1.out.trans h2); have x20 := (Blk.at X2.out (i := 0) rfl).2; have x21 := (Blk.at X2.out (i := 1) rfl).2; have x22 := (Blk.at X2.out (i := 2) rfl).2; have x23 := (Blk.at X2.out (i := 3) rfl).2; have xl2 := Blk.lt X2.out; have c20 := (U2.out.cell (p := ⟨p, 0, none⟩) hpl).trans c0; have c21 := (U2.out.cell (p := ⟨p, 1, none⟩) hpl).trans c1; have pl2 := Nat.lt_of_lt_of_le hpl U2.out.size; clear h2)
    | fail)
  go_cut [] from 6 to 44 (fun wx => Hid (Up w wx) ∧ Hid (LB wx w.heap.size l))
  case first =>
    by_cases hks : l.key.size = 0
    · have hk1 := sz_iff.1 hks
      have hk2 : (!l.key.toList.isEmpty) = false := by rw [hk1]; rfl
      simp only [hk2]
      clear hks hk1 hk2
      go_wp2
      go_meet
      exact ⟨U3.out, X3.out⟩
    · have hk1 : ¬ l.key.toList = [] := fun e => hks (sz_iff.2 e)
      have hk2 : (!l.key.toList.isEmpty) = true := by rw [List.isEmpty_eq_false_iff.2 hk1]; rfl
      simp only [hk2]
      have hm1 := HVV.out.k1 hks
      have h0 : modeL M.gr (intL l) ≠ 0 := fun e => HK.out ⟨hks, .inl e⟩
      have HCOV : Hid (cov (modeL M.gr (intL l)) (l.mode + 2) = true) := by
        cases e : cov (modeL M.gr (intL l)) (l.mode + 2) with
        | true => exact Lib.hid rfl
        | false => exact absurd ⟨hks, .inr e⟩ HK.out
      clear hks
      generalize modeL M.gr (intL l) = hh at *
      have h01 : (hh == 0) = false := beq_eq_false_iff_ne.2 h0
      clear h0
      go_wp2_with (first
        | (go_at_call 37; refine (cov_any _ _ _).mono ?_; rw [show l.mode + 3 - 1 = l.mode + 2 by omega, HCOV.out]; rintro e w5 ⟨rfl, rfl⟩)
        | (go_at_call 36; refine (HMI.out _ (U3.out.alloc _) _ (by omega)).mono ?_; rintro e w4 ⟨rfl, h4⟩; have Y4 := Lib.hid ((Blk.new w3 #[.int .i64 l.tx, .string l.tab, .string ByteArray.empty, .int .i64 (l.mode + 3 - 1)] 33).up h4); have y43 := (Blk.at Y4.out (i := 3) rfl).2; have yl4 := Blk.lt Y4.out; have h4 := ((Up.refl w3).alloc (.cells #[.int .i64 l.tx, .string l.tab, .string ByteArray.empty, .int .i64 (l.mode + 3 - 1)] 33)).trans h4; have X4 := Lib.hid (X3.out.up h4); have U4 := Lib.hid (U3.out.trans h4); have x40 := (Blk.at X4.out (i := 0) rfl).2; have x41 := (Blk.at X4.out (i := 1) rfl).2; have x42 := (Blk.at X4.out (i := 2) rfl).2; have x43 := (Blk.at X4.out (i := 3) rfl).2; have xl4 := Blk.lt X4.out; have c40 := (U4.out.cell (p := ⟨p, 0, none⟩) hpl).trans c0; have c41 := (U4.out.cell (p := ⟨p, 1, none⟩) hpl).trans c1; have pl4 := Nat.lt_of_lt_of_le hpl U4.out.size; clear h4)
        | fail)
      go_meet
      exact ⟨U4.out, X4.out⟩
  case rest =>
    obtain ⟨U5, X5⟩ := hcut
    have x50 := (Blk.at X5.out (i := 0) rfl).2
    have x51 := (Blk.at X5.out (i := 1) rfl).2
    have x52 := (Blk.at X5.out (i := 2) rfl).2
    have x53 := (Blk.at X5.out (i := 3) rfl).2
    have xl5 := Blk.lt X5.out
    have c50 := (U5.out.cell (p := ⟨p, 0, none⟩) hpl).trans c0
    have c51 := (U5.out.cell (p := ⟨p, 1, none⟩) hpl).trans c1
    have pl5 := Nat.lt_of_lt_of_le hpl U5.out.size
    have HMD := mode_any p M F l wc (HRM.out.up U5.out) (by omega)
    unfold lkV at HMD
    have HMD := Lib.hid HMD
    have hh0 : 0 ≤ modeL M.gr l ∧ modeL M.gr l ≤ 4 := by
      by_cases e : modeL M.gr l = 0
      · omega
      · obtain ⟨x, h1, h2, h3⟩ := modeL_some e
        have vx := HI.out.vl x (List.mem_append_left _ h1)
        rw [h3]
        exact ⟨by have := vx.m0; omega, vx.m1⟩
    obtain ⟨hh1, hh2⟩ := hh0
    by_cases hp0 : 0 < modeL M.gr l
    · by_cases hc : cov (modeL M.gr l) l.mode = true
      · have HE := Lib.hid (show acqL M l = (0, M) by unfold acqL; rw [if_neg HQ.out, if_neg HK.out, if_pos ⟨hp0, hc⟩])
        have HCV := Lib.hid hc
        clear hc
        generalize modeL M.gr l = hh at *
        go_wp2_with (first
          | (go_at_call 37; refine (cov_any _ _ _).mono ?_; rw [HCV.out]; rintro e w7 ⟨rfl, rfl⟩)
          | (go_at_call 36; refine HMD.out.mono ?_; rintro e w6 ⟨rfl, h6⟩; have X6 := Lib.hid (X5.out.up h6); have U6 := Lib.hid (U5.out.trans h6); have x60 := (Blk.at X6.out (i := 0) rfl).2; have x61 := (Blk.at X6.out (i := 1) rfl).2; have x62 := (Blk.at X6.out (i := 2) rfl).2; have x63 := (Blk.at X6.out (i := 3) rfl).2; have xl6 := Blk.lt X6.out; have c60 := (U6.out.cell (p := ⟨p, 0, none⟩) hpl).trans c0; have c61 := (U6.out.cell (p := ⟨p, 1, none⟩) hpl).trans c1; have pl6 := Nat.lt_of_lt_of_le hpl U6.out.size; clear h6)
          | fail)
        go_ret
        exact ⟨by rw [HE.out]; rfl, by rw [HE.out]; exact ManPost.of_up HRM.out U6.out⟩
      · have hc := eq_false_of_ne_true hc
        have HA := Lib.hid (show askL M.gr l = ⟨l.tx, l.tab, l.key, supM (modeL M.gr l) l.mode⟩ by unfold askL; rw [if_pos hp0])
        have HCV := Lib.hid hc
        have HSB : 0 ≤ supM (modeL M.gr l) l.mode ∧ supM (modeL M.gr l) l.mode ≤ 4 := by rcases sup_cases (modeL M.gr l) l.mode with e | e | e <;> rw [e] <;> omega
        have HE := Lib.hid (acq_go HQ.out HK.out (fun e => by rw [hc] at e; cases e.2) (fun e => by omega))
        clear hc
        have HSU := Lib.hid (fun w => sup_any (modeL M.gr l) l.mode w)
        generalize supM (modeL M.gr l) l.mode = m' at *
        generalize modeL M.gr l = hh at *
        go_wp2_with (first
          | (go_at_call 38; refine (HSU.out _).mono ?_; rintro e w7 ⟨rfl, rfl⟩)
          | (go_at_call 37; refine (cov_any _ _ _).mono ?_; rw [HCV.out]; rintro e w7 ⟨rfl, rfl⟩)
          | (go_at_call 36; refine HMD.out.mono ?_; rintro e w6 ⟨rfl, h6⟩; have X6 := Lib.hid (X5.out.up h6); have U6 := Lib.hid (U5.out.trans h6); have x60 := (Blk.at X6.out (i := 0) rfl).2; have x61 := (Blk.at X6.out (i := 1) rfl).2; have x62 := (Blk.at X6.out (i := 2) rfl).2; have x63 := (Blk.at X6.out (i := 3) rfl).2; have xl6 := Blk.lt X6.out; have c60 := (U6.out.cell (p := ⟨p, 0, none⟩) hpl).trans c0; have c61 := (U6.out.cell (p := ⟨p, 1, none⟩) hpl).trans c1; have pl6 := Nat.lt_of_lt_of_le hpl U6.out.size; clear h6; have xf6 := Blk.free X6.out 3)
          | fail)
        have X7 : Hid (Blk (w6.setCell ⟨w.heap.size, 3, none⟩ (.int .i64 m')) w.heap.size [.int .i64 l.tx, .string l.tab, .string l.key, .int .i64 m'] 33) := Blk.set X6.out 3 _
        have U7 : Hid (Up w (w6.setCell ⟨w.heap.size, 3, none⟩ (.int .i64 m'))) := U6.out.set (Nat.le_refl _) _ _ _
        generalize w6.setCell ⟨w.heap.size, 3, none⟩ (.int .i64 m') = w7 at *
        have h01 : (hh == 0) = false := beq_eq_false_iff_ne.2 (by omega)
        clear x60 x61 x62 x63 xl6 c60 c61 pl6 xf6 x50 x51 x52 x53 xl5 c50 c51 pl5
        have x70 := (Blk.at X7.out (i := 0) rfl).2
        have x71 := (Blk.at X7.out (i := 1) rfl).2
        have x72 := (Blk.at X7.out (i := 2) rfl).2
        have x73 := (Blk.at X7.out (i := 3) rfl).2
        have xl7 := Blk.lt X7.out
        have c70 := (U7.out.cell (p := ⟨p, 0, none⟩) hpl).trans c0
        have c71 := (U7.out.cell (p := ⟨p, 1, none⟩) hpl).trans c1
        have pl7 := Nat.lt_of_lt_of_le hpl U7.out.size
        go_quiet (fail)
        have X8 : Hid (Blk (w7.drewN nq) w.heap.size [.int .i64 l.tx, .string l.tab, .string l.key, .int .i64 m'] 33) := Blk.up X7.out ((Up.refl w7).drewN nq)
        have U8 := Lib.hid (U7.out.drewN nq)
        generalize w7.drewN nq = w8 at *
        have HBL := fun W hu => blk_any p M F (askL M.gr l) M.qu.length W (HRM.out.up hu) (Nat.le_refl _) (by omega) (by omega)
        rw [List.take_length, HA.out] at HBL
        have HFR := Lib.hid (show ∀ u ∈ blkL (M.gr ++ M.qu) (askL M.gr l), 0 ≤ u ∧ u < 20 from fun u hu => by
          obtain ⟨x, k1, _, k2⟩ := mem_col.1 hu
          have vx := HI.out.vl x k1
          rw [← k2]
          exact ⟨vx.t0, vx.t1⟩)
        have HLL := blkL_len (M.gr ++ M.qu) (askL M.gr l)
        rw [List.length_append] at HLL
        rw [HA.out] at HE HFR HLL
        unfold lkV at HBL
        have HGR := Lib.hid (fun W h => grant_any p M F ⟨l.tx, l.tab, l.key, m'⟩ W h (by omega))
        have HBL := Lib.hid HBL
        have HTX : Hid (∀ x ∈ M.gr ++ M.qu, 0 ≤ x.tx ∧ x.tx < 20) := Lib.hid fun x hx => ⟨(HI.out.vl x hx).t0, (HI.out.vl x hx).t1⟩
        generalize hL : blkL (M.gr ++ M.qu) ⟨l.tx, l.tab, l.key, m'⟩ = L at *
        clear hL
        have x80 := (Blk.at X8.out (i := 0) rfl).2
        have x81 := (Blk.at X8.out (i := 1) rfl).2
        have x82 := (Blk.at X8.out (i := 2) rfl).2
        have x83 := (Blk.at X8.out (i := 3) rfl).2
        have xl8 := Blk.lt X8.out
        have c80 := (U8.out.cell (p := ⟨p, 0, none⟩) hpl).trans c0
        have c81 := (U8.out.cell (p := ⟨p, 1, none⟩) hpl).trans c1
        have pl8 := Nat.lt_of_lt_of_le hpl U8.out.size
        by_cases hz : L.length = 0
        · have HZ := Lib.hid hz
          have HE := Lib.hid (HE.out.1 hz)
          clear hz
          go_wp2
          go_region_held3 (fun w' => w'.cell? ⟨p, 1, none⟩ = some (.slice qa M.qu.length qc) ∧ w'.cell? ⟨w.heap.size, 0, none⟩ = some (.int .i64 l.tx) ∧ w'.cell? ⟨w.heap.size, 1, none⟩ = some (.string l.tab) ∧ w'.cell? ⟨w.heap.size, 2, none⟩ = some (.string l.key) ∧ w'.cell? ⟨w.heap.size, 3, none⟩ = some (.int .i64 m')) (go_keep)
            ((go_at_call 28
              refine (HBL.out _ U8.out.drew).mono ?_
              rintro e w9 ⟨v, rfl, h9, h9u⟩
              rw [HZ.out] at h9
              obtain ⟨va, vc, rfl, _, _, _⟩ := own_form h9
              have H9 := Lib.hid h9
              have h9 := Below.trans ((Up.refl w8).drew) (h9u.mono (Nat.le_refl _))
              have X9 := Lib.hid (X8.out.up h9); have U9 := Lib.hid (U8.out.trans h9); have x90 := (Blk.at X9.out (i := 0) rfl).2; have x91 := (Blk.at X9.out (i := 1) rfl).2; have x92 := (Blk.at X9.out (i := 2) rfl).2; have x93 := (Blk.at X9.out (i := 3) rfl).2; have xl9 := Blk.lt X9.out; have c90 := (U9.out.cell (p := ⟨p, 0, none⟩) hpl).trans c0; have c91 := (U9.out.cell (p := ⟨p, 1, none⟩) hpl).trans c1; have pl9 := Nat.lt_of_lt_of_le hpl U9.out.size; clear h9
              clear h9u))
          clear c91 x90 x91 x92 x93
          go_wp2_with (first
            | (go_at_call 31; refine (HGR.out _ (HRM.out.up U9.out)).mono ?_; rintro e w10 ⟨rfl, h10⟩; have H10 := Lib.hid h10; clear h10)
            | fail)
          go_ret
          exact ⟨by rw [HE.out]; rfl, by rw [HE.out]; exact ManPost.behind HRM.out.lt U9.out H10.out⟩
        · have hz0 : ((L.length : Int) == 0) = false := beq_eq_false_iff_ne.2 (by omega)
          by_cases hr : Rch M L l.tx
          · have HE := Lib.hid (HE.out.2.1 hz hr)
            have HR := Lib.hid hr
            clear hz hr
            go_wp2
            go_region_held3 (fun w' => w'.cell? ⟨p, 1, none⟩ = some (.slice qa M.qu.length qc) ∧ w'.cell? ⟨w.heap.size, 0, none⟩ = some (.int .i64 l.tx) ∧ w'.cell? ⟨w.heap.size, 1, none⟩ = some (.string l.tab) ∧ w'.cell? ⟨w.heap.size, 2, none⟩ = some (.string l.key) ∧ w'.cell? ⟨w.heap.size, 3, none⟩ = some (.int .i64 m')) (go_keep)
              ((go_at_call 28
                refine (HBL.out _ U8.out.drew).mono ?_
                rintro e w9 ⟨v, rfl, h9, h9u⟩
                skip
                obtain ⟨va, vc, rfl, _, _, _⟩ := own_form h9
                have H9 := Lib.hid h9
                have h9 := Below.trans ((Up.refl w8).drew) (h9u.mono (Nat.le_refl _))
                have X9 := Lib.hid (X8.out.up h9); have U9 := Lib.hid (U8.out.trans h9); have x90 := (Blk.at X9.out (i := 0) rfl).2; have x91 := (Blk.at X9.out (i := 1) rfl).2; have x92 := (Blk.at X9.out (i := 2) rfl).2; have x93 := (Blk.at X9.out (i := 3) rfl).2; have xl9 := Blk.lt X9.out; have c90 := (U9.out.cell (p := ⟨p, 0, none⟩) hpl).trans c0; have c91 := (U9.out.cell (p := ⟨p, 1, none⟩) hpl).trans c1; have pl9 := Nat.lt_of_lt_of_le hpl U9.out.size; clear h9
                clear h9u))
            clear c91 x90 x91 x92 x93
            go_wp2_with (first
              | (go_at_call 39; refine (reach_any p M F _ L l.tx _ (HRM.out.up U9.out) (own_src H9.out) (by omega) (by omega) (by omega) HTX.out HFR.out).mono ?_; rintro e w10 ⟨b, rfl, hb, h10⟩; obtain rfl := hb.2 HR.out; have U10 := Lib.hid (U9.out.trans h10); clear hb h10)
              | fail)
            go_ret
            exact ⟨by rw [HE.out]; rfl, by rw [HE.out]; exact ManPost.of_up HRM.out U10.out⟩
          · have HE := Lib.hid (HE.out.2.2 hz hr)
            have HR := Lib.hid hr
            clear hz hr
            go_wp2
            go_region_held3 (fun w' => w'.cell? ⟨p, 1, none⟩ = some (.slice qa M.qu.length qc) ∧ w'.cell? ⟨w.heap.size, 0, none⟩ = some (.int .i64 l.tx) ∧ w'.cell? ⟨w.heap.size, 1, none⟩ = some (.string l.tab) ∧ w'.cell? ⟨w.heap.size, 2, none⟩ = some (.string l.key) ∧ w'.cell? ⟨w.heap.size, 3, none⟩ = some (.int .i64 m')) (go_keep)
              ((go_at_call 28
                refine (HBL.out _ U8.out.drew).mono ?_
                rintro e w9 ⟨v, rfl, h9, h9u⟩
                skip
                obtain ⟨va, vc, rfl, _, _, _⟩ := own_form h9
                have H9 := Lib.hid h9
                have h9 := Below.trans ((Up.refl w8).drew) (h9u.mono (Nat.le_refl _))
                have X9 := Lib.hid (X8.out.up h9); have U9 := Lib.hid (U8.out.trans h9); have x90 := (Blk.at X9.out (i := 0) rfl).2; have x91 := (Blk.at X9.out (i := 1) rfl).2; have x92 := (Blk.at X9.out (i := 2) rfl).2; have x93 := (Blk.at X9.out (i := 3) rfl).2; have xl9 := Blk.lt X9.out; have c90 := (U9.out.cell (p := ⟨p, 0, none⟩) hpl).trans c0; have c91 := (U9.out.cell (p := ⟨p, 1, none⟩) hpl).trans c1; have pl9 := Nat.lt_of_lt_of_le hpl U9.out.size; clear h9
                clear h9u))
            clear c91 x90 x91 x92 x93
            go_wp2_with (first
              | (go_at_call 39; refine (reach_any p M F _ L l.tx _ (HRM.out.up U9.out) (own_src H9.out) (by omega) (by omega) (by omega) HTX.out HFR.out).mono ?_; rintro e w10 ⟨b, rfl, hb, h10⟩; have hbf : b = false := (by cases b with | false => rfl | true => exact absurd (hb.1 rfl) HR.out); subst hbf; have X10 := Lib.hid (Blk.up X9.out h10); have U10 := Lib.hid (U9.out.trans h10); have x100 := (Blk.at X10.out (i := 0) rfl).2; have x101 := (Blk.at X10.out (i := 1) rfl).2; have x102 := (Blk.at X10.out (i := 2) rfl).2; have x103 := (Blk.at X10.out (i := 3) rfl).2; have xl10 := Blk.lt X10.out; have c100 := (U10.out.cell (p := ⟨p, 0, none⟩) hpl).trans c0; have c101 := (U10.out.cell (p := ⟨p, 1, none⟩) hpl).trans c1; have pl10 := Nat.lt_of_lt_of_le hpl U10.out.size; clear hb h10)
              | fail)
            have P10 := Lib.hid (HP.out.up U10.out)
            have BAK := Lib.hid P10.out.qo
            refine region_split (fun a a' W => ∃ (v100 v : Value), Hid (ManPost p ⟨M.gr, M.qu ++ [⟨l.tx, l.tab, l.key, m'⟩]⟩ F w10 W) ∧ a' = (((((((((a.put (some 94) (.pointer (some ⟨p, 0, none⟩))).put (some 95) (.pointer (some ⟨p, 0, none⟩))).put (some 96) (.pointer (some ⟨p, 0, none⟩))).put (some 97) (.pointer (some ⟨p, 1, none⟩))).put (some 98) (.slice qa M.qu.length qc)).put (some 99) (.agg #[.int .i64 l.tx, .string l.tab, .string l.key, .int .i64 m'])).put (some 100) v100).put (some 101) v).put (some 102) (.pointer (some ⟨p, 0, none⟩))).put (some 103) (.pointer (some ⟨p, 1, none⟩))) ?_ ?_
            · simp only [Act.put, List.setIfInBounds_toArray, List.set_cons_zero, List.set_cons_succ]
              go_region_law (first
                | (refine step_append_lies _ rfl (.tmp 98) (.tmp 100) 52 rfl 0 33 i0 (.agg #[.int .i64 0, .string ByteArray.empty, .string ByteArray.empty, .int .i64 0]) 4 48 Try.underlying52 hi0 hz0' hz1 hz2 rfl (by decide) (.slice qa M.qu.length qc) M.qu.length (lkC M.qu) (by simp [Act.eval]) (own_up BAK.out ((Up.refl w10).alloc _).drew) ⟨w10.heap.size, 0, none⟩ 1 1 (lkC1 ⟨l.tx, l.tab, l.key, m'⟩) (by simp [Act.eval]) rfl (fun j u hu => cells_new w10 #[.int .i64 l.tx, .string l.tab, .string l.key, .int .i64 m'] 33 j u hu) (by intro u hu; simp [lkC1] at hu; rcases hu with rfl | rfl | rfl | rfl <;> rfl) (by omega) (by unfold maxLen; omega) (by omega) (Nat.zero_le _) _ rfl ?_
                   intro g9 c9 w5 hown9 hgrow9 hat9 hlt9
                   have PB5 := fld_far P10.out.blk (by decide) BAK.out ((Up.refl w10).alloc _).drew hgrow9
                   have q2 := (PB5.at (i := 1) rfl).2
                   have q3 := PB5.free 1
                   have hp5 := PB5.lt
                   have FIN := Lib.hid (P10.out.appQ (l := ⟨l.tx, l.tab, l.key, m'⟩) ((Up.refl w10).alloc _).drew hown9 hgrow9 hat9 (((Up.refl w10).alloc _).drew).size)
                   clear hown9 hgrow9 hat9 PB5)
                | fail)
              all_goals exact OnNormal.of ⟨_, _, FIN.out, rfl⟩
            · simp only [Act.put, List.setIfInBounds_toArray, List.set_cons_zero, List.set_cons_succ]
              rintro a' W5 ⟨v100, v, hf, rfl⟩
              have HF := Lib.hid hf.out
              clear hf
              go_wp2
              go_ret
              exact ⟨by rw [HE.out]; rfl, by rw [HE.out]; exact ManPost.behind HRM.out.lt U10.out HF.out⟩
    · have h0 : modeL M.gr l = 0 := by omega
      have HA := Lib.hid (show askL M.gr l = ⟨l.tx, l.tab, l.key, l.mode⟩ by unfold askL; rw [if_neg hp0])
      have hwr : IntKind.i64.wrap ((M.gr.length : Int) + (M.qu.length : Int)) = (M.gr.length : Int) + (M.qu.length : Int) := IntWalk.i64_in _ (by omega)
      have hfu := @acq_go M l HQ.out HK.out (fun e => by omega)
      by_cases hf : 200 ≤ M.gr.length + M.qu.length
      · have HE := Lib.hid (show acqL M l = (18, M) by unfold acqL; rw [if_neg HQ.out, if_neg HK.out, if_neg (fun e => by omega), if_pos ⟨h0, hf⟩])
        have hd : decide ((200 : Int) ≤ (M.gr.length : Int) + (M.qu.length : Int)) = true := decide_eq_true (by omega)
        rw [h0] at HMD
        clear hfu hp0 hh1 hh2 h0
        go_wp2_with (first
          | (go_at_call 36; refine HMD.out.mono ?_; rintro e w6 ⟨rfl, h6⟩; have X6 := Lib.hid (X5.out.up h6); have U6 := Lib.hid (U5.out.trans h6); have x60 := (Blk.at X6.out (i := 0) rfl).2; have x61 := (Blk.at X6.out (i := 1) rfl).2; have x62 := (Blk.at X6.out (i := 2) rfl).2; have x63 := (Blk.at X6.out (i := 3) rfl).2; have xl6 := Blk.lt X6.out; have c60 := (U6.out.cell (p := ⟨p, 0, none⟩) hpl).trans c0; have c61 := (U6.out.cell (p := ⟨p, 1, none⟩) hpl).trans c1; have pl6 := Nat.lt_of_lt_of_le hpl U6.out.size; clear h6)
          | fail)
        go_quiet (fail)
        go_wp2
        go_ret
        exact ⟨by rw [HE.out]; rfl, by rw [HE.out]; exact ManPost.of_up HRM.out (U6.out.drewN _)⟩
      · have HE := Lib.hid (hfu (fun e => hf e.2))
        have hd : decide ((200 : Int) ≤ (M.gr.length : Int) + (M.qu.length : Int)) = false := decide_eq_false (by omega)
        rw [h0] at HMD
        clear hfu hp0 hh1 hh2 h0 hf
        go_wp2_with (first
          | (go_at_call 36; refine HMD.out.mono ?_; rintro e w6 ⟨rfl, h6⟩; have X6 := Lib.hid (X5.out.up h6); have U6 := Lib.hid (U5.out.trans h6); have x60 := (Blk.at X6.out (i := 0) rfl).2; have x61 := (Blk.at X6.out (i := 1) rfl).2; have x62 := (Blk.at X6.out (i := 2) rfl).2; have x63 := (Blk.at X6.out (i := 3) rfl).2; have xl6 := Blk.lt X6.out; have c60 := (U6.out.cell (p := ⟨p, 0, none⟩) hpl).trans c0; have c61 := (U6.out.cell (p := ⟨p, 1, none⟩) hpl).trans c1; have pl6 := Nat.lt_of_lt_of_le hpl U6.out.size; clear h6)
          | fail)
        go_quiet (fail)
        have X8 : Hid (Blk (w6.drewN nq) w.heap.size [.int .i64 l.tx, .string l.tab, .string l.key, .int .i64 l.mode] 33) := Blk.up X6.out ((Up.refl w6).drewN nq)
        have U8 := Lib.hid (U6.out.drewN nq)
        generalize w6.drewN nq = w8 at *
        clear hwr hd
        have HBL := fun W hu => blk_any p M F (askL M.gr l) M.qu.length W (HRM.out.up hu) (Nat.le_refl _) (by omega) (by omega)
        rw [List.take_length, HA.out] at HBL
        have HFR := Lib.hid (show ∀ u ∈ blkL (M.gr ++ M.qu) (askL M.gr l), 0 ≤ u ∧ u < 20 from fun u hu => by
          obtain ⟨x, k1, _, k2⟩ := mem_col.1 hu
          have vx := HI.out.vl x k1
          rw [← k2]
          exact ⟨vx.t0, vx.t1⟩)
        have HLL := blkL_len (M.gr ++ M.qu) (askL M.gr l)
        rw [List.length_append] at HLL
        rw [HA.out] at HE HFR HLL
        unfold lkV at HBL
        have HGR := Lib.hid (fun W h => grant_any p M F ⟨l.tx, l.tab, l.key, l.mode⟩ W h (by omega))
        have HBL := Lib.hid HBL
        have HTX : Hid (∀ x ∈ M.gr ++ M.qu, 0 ≤ x.tx ∧ x.tx < 20) := Lib.hid fun x hx => ⟨(HI.out.vl x hx).t0, (HI.out.vl x hx).t1⟩
        generalize hL : blkL (M.gr ++ M.qu) ⟨l.tx, l.tab, l.key, l.mode⟩ = L at *
        clear hL
        have x80 := (Blk.at X8.out (i := 0) rfl).2
        have x81 := (Blk.at X8.out (i := 1) rfl).2
        have x82 := (Blk.at X8.out (i := 2) rfl).2
        have x83 := (Blk.at X8.out (i := 3) rfl).2
        have xl8 := Blk.lt X8.out
        have c80 := (U8.out.cell (p := ⟨p, 0, none⟩) hpl).trans c0
        have c81 := (U8.out.cell (p := ⟨p, 1, none⟩) hpl).trans c1
        have pl8 := Nat.lt_of_lt_of_le hpl U8.out.size
        by_cases hz : L.length = 0
        · have HZ := Lib.hid hz
          have HE := Lib.hid (HE.out.1 hz)
          clear hz
          go_wp2
          go_region_held3 (fun w' => w'.cell? ⟨p, 1, none⟩ = some (.slice qa M.qu.length qc) ∧ w'.cell? ⟨w.heap.size, 0, none⟩ = some (.int .i64 l.tx) ∧ w'.cell? ⟨w.heap.size, 1, none⟩ = some (.string l.tab) ∧ w'.cell? ⟨w.heap.size, 2, none⟩ = some (.string l.key) ∧ w'.cell? ⟨w.heap.size, 3, none⟩ = some (.int .i64 l.mode)) (go_keep)
            ((go_at_call 28
              refine (HBL.out _ U8.out.drew).mono ?_
              rintro e w9 ⟨v, rfl, h9, h9u⟩
              rw [HZ.out] at h9
              obtain ⟨va, vc, rfl, _, _, _⟩ := own_form h9
              have H9 := Lib.hid h9
              have h9 := Below.trans ((Up.refl w8).drew) (h9u.mono (Nat.le_refl _))
              have X9 := Lib.hid (X8.out.up h9); have U9 := Lib.hid (U8.out.trans h9); have x90 := (Blk.at X9.out (i := 0) rfl).2; have x91 := (Blk.at X9.out (i := 1) rfl).2; have x92 := (Blk.at X9.out (i := 2) rfl).2; have x93 := (Blk.at X9.out (i := 3) rfl).2; have xl9 := Blk.lt X9.out; have c90 := (U9.out.cell (p := ⟨p, 0, none⟩) hpl).trans c0; have c91 := (U9.out.cell (p := ⟨p, 1, none⟩) hpl).trans c1; have pl9 := Nat.lt_of_lt_of_le hpl U9.out.size; clear h9
              clear h9u))
          clear c91 x90 x91 x92 x93
          go_wp2_with (first
            | (go_at_call 31; refine (HGR.out _ (HRM.out.up U9.out)).mono ?_; rintro e w10 ⟨rfl, h10⟩; have H10 := Lib.hid h10; clear h10)
            | fail)
          go_ret
          exact ⟨by rw [HE.out]; rfl, by rw [HE.out]; exact ManPost.behind HRM.out.lt U9.out H10.out⟩
        · have hz0 : ((L.length : Int) == 0) = false := beq_eq_false_iff_ne.2 (by omega)
          by_cases hr : Rch M L l.tx
          · have HE := Lib.hid (HE.out.2.1 hz hr)
            have HR := Lib.hid hr
            clear hz hr
            go_wp2
            go_region_held3 (fun w' => w'.cell? ⟨p, 1, none⟩ = some (.slice qa M.qu.length qc) ∧ w'.cell? ⟨w.heap.size, 0, none⟩ = some (.int .i64 l.tx) ∧ w'.cell? ⟨w.heap.size, 1, none⟩ = some (.string l.tab) ∧ w'.cell? ⟨w.heap.size, 2, none⟩ = some (.string l.key) ∧ w'.cell? ⟨w.heap.size, 3, none⟩ = some (.int .i64 l.mode)) (go_keep)
              ((go_at_call 28
                refine (HBL.out _ U8.out.drew).mono ?_
                rintro e w9 ⟨v, rfl, h9, h9u⟩
                skip
                obtain ⟨va, vc, rfl, _, _, _⟩ := own_form h9
                have H9 := Lib.hid h9
                have h9 := Below.trans ((Up.refl w8).drew) (h9u.mono (Nat.le_refl _))
                have X9 := Lib.hid (X8.out.up h9); have U9 := Lib.hid (U8.out.trans h9); have x90 := (Blk.at X9.out (i := 0) rfl).2; have x91 := (Blk.at X9.out (i := 1) rfl).2; have x92 := (Blk.at X9.out (i := 2) rfl).2; have x93 := (Blk.at X9.out (i := 3) rfl).2; have xl9 := Blk.lt X9.out; have c90 := (U9.out.cell (p := ⟨p, 0, none⟩) hpl).trans c0; have c91 := (U9.out.cell (p := ⟨p, 1, none⟩) hpl).trans c1; have pl9 := Nat.lt_of_lt_of_le hpl U9.out.size; clear h9
                clear h9u))
            clear c91 x90 x91 x92 x93
            go_wp2_with (first
              | (go_at_call 39; refine (reach_any p M F _ L l.tx _ (HRM.out.up U9.out) (own_src H9.out) (by omega) (by omega) (by omega) HTX.out HFR.out).mono ?_; rintro e w10 ⟨b, rfl, hb, h10⟩; obtain rfl := hb.2 HR.out; have U10 := Lib.hid (U9.out.trans h10); clear hb h10)
              | fail)
            go_ret
            exact ⟨by rw [HE.out]; rfl, by rw [HE.out]; exact ManPost.of_up HRM.out U10.out⟩
          · have HE := Lib.hid (HE.out.2.2 hz hr)
            have HR := Lib.hid hr
            clear hz hr
            go_wp2
            go_region_held3 (fun w' => w'.cell? ⟨p, 1, none⟩ = some (.slice qa M.qu.length qc) ∧ w'.cell? ⟨w.heap.size, 0, none⟩ = some (.int .i64 l.tx) ∧ w'.cell? ⟨w.heap.size, 1, none⟩ = some (.string l.tab) ∧ w'.cell? ⟨w.heap.size, 2, none⟩ = some (.string l.key) ∧ w'.cell? ⟨w.heap.size, 3, none⟩ = some (.int .i64 l.mode)) (go_keep)
              ((go_at_call 28
                refine (HBL.out _ U8.out.drew).mono ?_
                rintro e w9 ⟨v, rfl, h9, h9u⟩
                skip
                obtain ⟨va, vc, rfl, _, _, _⟩ := own_form h9
                have H9 := Lib.hid h9
                have h9 := Below.trans ((Up.refl w8).drew) (h9u.mono (Nat.le_refl _))
                have X9 := Lib.hid (X8.out.up h9); have U9 := Lib.hid (U8.out.trans h9); have x90 := (Blk.at X9.out (i := 0) rfl).2; have x91 := (Blk.at X9.out (i := 1) rfl).2; have x92 := (Blk.at X9.out (i := 2) rfl).2; have x93 := (Blk.at X9.out (i := 3) rfl).2; have xl9 := Blk.lt X9.out; have c90 := (U9.out.cell (p := ⟨p, 0, none⟩) hpl).trans c0; have c91 := (U9.out.cell (p := ⟨p, 1, none⟩) hpl).trans c1; have pl9 := Nat.lt_of_lt_of_le hpl U9.out.size; clear h9
                clear h9u))
            clear c91 x90 x91 x92 x93
            go_wp2_with (first
              | (go_at_call 39; refine (reach_any p M F _ L l.tx _ (HRM.out.up U9.out) (own_src H9.out) (by omega) (by omega) (by omega) HTX.out HFR.out).mono ?_; rintro e w10 ⟨b, rfl, hb, h10⟩; have hbf : b = false := (by cases b with | false => rfl | true => exact absurd (hb.1 rfl) HR.out); subst hbf; have X10 := Lib.hid (Blk.up X9.out h10); have U10 := Lib.hid (U9.out.trans h10); have x100 := (Blk.at X10.out (i := 0) rfl).2; have x101 := (Blk.at X10.out (i := 1) rfl).2; have x102 := (Blk.at X10.out (i := 2) rfl).2; have x103 := (Blk.at X10.out (i := 3) rfl).2; have xl10 := Blk.lt X10.out; have c100 := (U10.out.cell (p := ⟨p, 0, none⟩) hpl).trans c0; have c101 := (U10.out.cell (p := ⟨p, 1, none⟩) hpl).trans c1; have pl10 := Nat.lt_of_lt_of_le hpl U10.out.size; clear hb h10)
              | fail)
            have P10 := Lib.hid (HP.out.up U10.out)
            have BAK := Lib.hid P10.out.qo
            refine region_split (fun a a' W => ∃ (v100 v : Value), Hid (ManPost p ⟨M.gr, M.qu ++ [⟨l.tx, l.tab, l.key, l.mode⟩]⟩ F w10 W) ∧ a' = (((((((((a.put (some 94) (.pointer (some ⟨p, 0, none⟩))).put (some 95) (.pointer (some ⟨p, 0, none⟩))).put (some 96) (.pointer (some ⟨p, 0, none⟩))).put (some 97) (.pointer (some ⟨p, 1, none⟩))).put (some 98) (.slice qa M.qu.length qc)).put (some 99) (.agg #[.int .i64 l.tx, .string l.tab, .string l.key, .int .i64 l.mode])).put (some 100) v100).put (some 101) v).put (some 102) (.pointer (some ⟨p, 0, none⟩))).put (some 103) (.pointer (some ⟨p, 1, none⟩))) ?_ ?_
            · simp only [Act.put, List.setIfInBounds_toArray, List.set_cons_zero, List.set_cons_succ]
              go_region_law (first
                | (refine step_append_lies _ rfl (.tmp 98) (.tmp 100) 52 rfl 0 33 i0 (.agg #[.int .i64 0, .string ByteArray.empty, .string ByteArray.empty, .int .i64 0]) 4 48 Try.underlying52 hi0 hz0' hz1 hz2 rfl (by decide) (.slice qa M.qu.length qc) M.qu.length (lkC M.qu) (by simp [Act.eval]) (own_up BAK.out ((Up.refl w10).alloc _).drew) ⟨w10.heap.size, 0, none⟩ 1 1 (lkC1 ⟨l.tx, l.tab, l.key, l.mode⟩) (by simp [Act.eval]) rfl (fun j u hu => cells_new w10 #[.int .i64 l.tx, .string l.tab, .string l.key, .int .i64 l.mode] 33 j u hu) (by intro u hu; simp [lkC1] at hu; rcases hu with rfl | rfl | rfl | rfl <;> rfl) (by omega) (by unfold maxLen; omega) (by omega) (Nat.zero_le _) _ rfl ?_
                   intro g9 c9 w5 hown9 hgrow9 hat9 hlt9
                   have PB5 := fld_far P10.out.blk (by decide) BAK.out ((Up.refl w10).alloc _).drew hgrow9
                   have q2 := (PB5.at (i := 1) rfl).2
                   have q3 := PB5.free 1
                   have hp5 := PB5.lt
                   have FIN := Lib.hid (P10.out.appQ (l := ⟨l.tx, l.tab, l.key, l.mode⟩) ((Up.refl w10).alloc _).drew hown9 hgrow9 hat9 (((Up.refl w10).alloc _).drew).size)
                   clear hown9 hgrow9 hat9 PB5)
                | fail)
              all_goals exact OnNormal.of ⟨_, _, FIN.out, rfl⟩
            · simp only [Act.put, List.setIfInBounds_toArray, List.set_cons_zero, List.set_cons_succ]
              rintro a' W5 ⟨v100, v, hf, rfl⟩
              have HF := Lib.hid hf.out
              clear hf
              go_wp2
              go_ret
              exact ⟨by rw [HE.out]; rfl, by rw [HE.out]; exact ManPost.behind HRM.out.lt U10.out HF.out⟩
/-- Acquire, told whole. -/
theorem acq_any (p : Nat) (M : Mg) (F : Nat → Prop) (l : Lk) (w : World) (h : ManR w p M F) (hI : Inv M.gr M.qu) (hV : Valid l) (hl : M.gr.length + M.qu.length ≤ 900) :
    Calls Try.prog 14 #[.pointer (some ⟨p, 0, none⟩), lkV l] w (AcqPost p M F l w) := by
  by_cases hq : ∃ q ∈ M.qu, q.tx = l.tx
  · exact acq_15 p M F l w h hV hl hq
  · by_cases hk : l.key.size ≠ 0 ∧ (modeL M.gr (intL l) = 0 ∨ cov (modeL M.gr (intL l)) (l.mode + 2) = false)
    · exact acq_6 p M F l w h hV hl hq hk.1 hk.2
    · exact acq_main p M F l w h hI hV hl hq hk
end Go.Proofs.Ytbimkciejfbodaa.Lk
