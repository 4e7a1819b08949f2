/- Locks: ReleaseAll. -/
import Derived.Test.YtbimkciejfbodaaLkr
namespace Go.Proofs.Ytbimkciejfbodaa.Lk
open Go Go.RowKit Hp
set_option linter.unusedVariables false

def RelPost (p : Nat) (M : Mg) (F : Nat → Prop) (t : Int) (w : World) (e : Ending) (w' : World) : Prop :=
  ∃ v K, e = .returned (.tuple #[v, .int .i64 0]) ∧ w'.ownsRow w.heap.size 3 1 v (relM M t).2.2.length (icI (relM M t).2.2) ∧ ManR w' p ⟨(relM M t).1, (relM M t).2.1⟩ K ∧ Chg F w w' ∧ (∀ k, K k → F k ∨ w.heap.size ≤ k) ∧ ∀ k, v.ownBlock = some k → ¬ K k
theorem ManR.lenq {w : World} {p : Nat} {M : Mg} {K : Nat → Prop} (h : ManR w p M K) : lenV ((w.cell? ⟨p, 1, none⟩).getD undef) = M.qu.length := by
  obtain ⟨gv, qv, hP⟩ := h
  rw [(hP.blk.at (i := 1) rfl).2]
  obtain ⟨a, c, e, _⟩ := own_form hP.qo
  show lenV qv = _
  rw [e]
  rfl
theorem lkC_del (pre rest : List Lk) (q : Lk) : (lkC (pre ++ q :: rest)).take (pre.length * 4) ++ (lkC (pre ++ q :: rest)).drop ((pre.length + 1) * 4) = lkC (pre ++ rest) := by
  unfold lkC
  rw [fm_take (f := lkC1) (k := 4) (fun _ => rfl), fm_drop (f := lkC1) (k := 4) (fun _ => rfl), ← List.flatMap_append]
  congr 1
  rw [List.take_left]
  congr 1
  rw [show pre ++ q :: rest = (pre ++ [q]) ++ rest by simp, show pre.length + 1 = (pre ++ [q]).length by simp, List.drop_left]
set_option maxRecDepth 100000 in
set_option maxHeartbeats 1000000 in
theorem rel_any (p : Nat) (M : Mg) (F : Nat → Prop) (t : Int) (w : World) (h : ManR w p M F) (ht0 : 0 ≤ t) (ht1 : t < 20) (hl : M.gr.length + M.qu.length ≤ 900) :
    Calls Try.prog 13 #[.pointer (some ⟨p, 0, none⟩), .int .i64 t] w (RelPost p M F t w) := by
  obtain ⟨i1, hi1, hz3, hz4, hz5⟩ := info_parts Try.infoI
  obtain ⟨gv, qv, hP⟩ := h
  have U0 := (Up.refl w).alloc (.cells #[.int .i64 t] 3)
  have HA := Lib.hid (At.new w #[.int .i64 t] 3 0 (.int .i64 t) rfl)
  have P0 := Lib.hid (hP.up U0)
  obtain ⟨hpl, c0⟩ := hP.blk.at (i := 0) rfl
  have hgb : ∀ k, gv.ownBlock = some k → k < w.heap.size := own_lt hP.go
  have hqb : ∀ k, qv.ownBlock = some k → k < w.heap.size := own_lt hP.qo
  have HL := Lib.hid hP.lt
  obtain ⟨ga, gc, rfl, _, _, _⟩ := own_form hP.go
  obtain ⟨qa, qc, rfl, _, _, _⟩ := own_form hP.qo
  have HGB := Lib.hid hgb
  have HQB := Lib.hid hqb
  have HD1 := Lib.hid (delf_any w.heap.size t 0 (.slice ga M.gr.length gc) M.gr _ HA.out (fun e => by have := HGB.out _ e; omega) P0.out.go (by omega))
  have ht1b : ¬ t < 0 := by omega
  have ht2b : ¬ (20 : Int) ≤ t := by omega
  clear hP hgb hqb U0
  go_enter Try.func13, Try.ntmps13
  go_wp2_with (first
    | (go_at_call 30; refine (delf_any w.heap.size t 0 (.slice qa M.qu.length qc) M.qu _ HA2.out (fun e => by have := HQB.out _ e; omega) P1.out.1.qo (by omega)).mono ?_; rintro e w3 ⟨v2, rfl, h2, h3, h4⟩; obtain ⟨a2, b2, rfl, _, _, _⟩ := own_form h2; have P2 := Lib.hid (P1.out.1.storeQ h3 h2 h4); have B2 := P1.out.1.farQ h3; have r2 := (B2.at (i := 1) rfl).2; have r3 := B2.free 1; have r5 := B2.lt; clear h2 h3 h4 B2)
    | (go_at_call 30; refine HD1.out.mono ?_; rintro e w2 ⟨v1, rfl, h2, h3, h4⟩; obtain ⟨a1, b1, rfl, _, _, _⟩ := own_form h2; have P1 := Lib.hid (P0.out.storeG h3 h2 h4); have B1 := P0.out.farG h3; have q2 := (B1.at (i := 0) rfl).2; have q3 := B1.free 0; have q4 := (B1.at (i := 1) rfl).2; have q5 := B1.lt; have HA2 := Lib.hid (HA.out.chg P1.out.2 (fun e => by have := HL.out _ e; omega)); clear h2 h3 h4 B1)
    | fail)
  clear q2 q3 q4 q5 r2 r3 r5
  have l1 : (keepC t M.gr).length ≤ M.gr.length := List.length_filter_le _ _
  have l2 : (keepC t M.qu).length ≤ M.qu.length := List.length_filter_le _ _
  have S0 : Hid (RL w (w3.setCell ⟨p, 1, none⟩ (.slice a2 (keepC t M.qu).length b2)) p F (relM M t) 900 (.slice none 0 0) (keepC t M.gr) [] (keepC t M.qu) [] F) := by
    refine ⟨⟨_, _, P2.out.1⟩, ?_, fun _ e => .inl e, World.ownsRow_nil _ _ _ _, fun _ e => (by cases e), rfl, ?_, ?_⟩
    · exact ((Below.chg (fun _ => False) ((Up.refl w).alloc _)).mono fun _ _ e => e.elim).trans (P1.out.2.trans P2.out.2 fun _ _ e => e) fun _ _ e => e
    · rw [List.nil_append]; omega
    · rw [List.length_nil]; omega
  clear l1 l2
  generalize w3.setCell ⟨p, 1, none⟩ (.slice a2 (keepC t M.qu).length b2) = W3 at *
  go_loopw [7, 8] (fun rv iv wr => ∃ pre rest gr res K, iv = .int .i64 (List.length pre) ∧ Hid (RL w wr p F (relM M t) 900 rv gr pre rest res K)) (fun _ iv wr => lenV ((wr.cell? ⟨p, 1, none⟩).getD undef) - (intOf iv).toNat)
  case atStart => exact ⟨[], keepC t M.qu, keepC t M.gr, [], F, rfl, S0.out⟩
  case round =>
    obtain ⟨pre, rest, gr, res, K, rfl, HS⟩ := hrel
    obtain ⟨wo, hwo⟩ : ∃ wo : World, wo = wr := ⟨_, rfl⟩
    rw [← hwo] at HS ⊢
    clear hwo
    have hrl := HS.out.rl
    have HRR := Lib.hid HS.out.row
    obtain ⟨ra, rc, rfl, _, _, _⟩ := own_form HS.out.row
    obtain ⟨gv, qv, hP⟩ := HS.out.man
    have HG := Lib.hid HS.out.go
    obtain ⟨hpl1, c1⟩ := hP.blk.at (i := 1) rfl
    have hq : wo.ownsRow 0 33 4 qv (pre ++ rest).length (lkC (pre ++ rest)) := hP.qo
    have HLQ := Lib.hid HS.out.man.lenq
    have hlen := HS.out.len
    obtain ⟨xa, xc, rfl, _, _, _⟩ := own_form hq
    have HKL := Lib.hid (show ¬ K wo.heap.size from fun e => by have := HS.out.man.lt _ e; omega)
    clear hP
    cases rest with
    | nil =>
      rw [List.append_nil] at *
      clear hq
      go_wp2
      go_ret2
      have e := HS.out.go
      unfold relGo at e
      unfold RelPost
      rw [← e]
      exact ⟨_, K, rfl, HRR.out, by have := HS.out.man; rwa [List.append_nil] at this, HS.out.ch, HS.out.kf, HS.out.far⟩
    | cons q rest =>
      have hqq : (pre ++ q :: rest)[pre.length]'(by simp) = q := by simp
      obtain ⟨g0, g1, g2, g3⟩ := lkC_get (pre ++ q :: rest) pre.length (by simp)
      rw [hqq] at g0 g1 g2 g3
      have hin : (pre.length : Int) < ((pre ++ q :: rest).length : Int) := by simp; omega
      obtain ⟨b, off, rfl, hc⟩ := src_at (own_src hq) (by simp; omega)
      have d0 := (hc _ _ g0).2
      have d1 := (hc _ _ g1).2
      have d2 := (hc _ _ g2).2
      have d3 := (hc _ _ g3).2
      have d4 := (hc _ _ g0).1
      rw [← Nat.add_assoc] at d1 d2 d3
      have HBL := Lib.hid (fun W hu => blk_any p ⟨gr, pre ++ q :: rest⟩ K q pre.length W (HS.out.man.up hu) (by simp) (by show gr.length ≤ 10000; omega) (by show (pre ++ q :: rest).length ≤ 10000; omega))
      have et : (pre ++ q :: rest).take pre.length = pre := List.take_left
      simp only [et] at HBL
      have HSTAY := Lib.hid (@RL.stay w wo p F K (relM M t) 900 _ gr pre rest q res HS.out)
      clear hqq g0 g1 g2 g3 hc hq
      generalize hn : (pre ++ q :: rest).length = n at *
      obtain ⟨m, hm⟩ : ∃ m, (pre ++ rest).length = m := ⟨_, rfl⟩
      obtain rfl : n = m + 1 := by rw [← hn, ← hm]; simp; omega
      have HN := Lib.hid hn
      have HM := Lib.hid hm
      clear hn hm et
      unfold lkV at HBL
      by_cases hz : (blkL (gr ++ pre) q).length = 0
      · have HZ := Lib.hid hz
        clear hz
        go_wp2_with (first
          | (go_at_call 28; refine (HBL.out _ ((Up.refl _).alloc _)).mono ?_; rintro e w5 ⟨bv, rfl, h5, h6⟩; rw [HZ.out] at h5; obtain ⟨ba, bc, rfl, _, _, _⟩ := own_form h5; have H6 := Lib.hid (((Up.refl wo).alloc _).trans h6); have X5 := Lib.hid ((Blk.new wo #[.int .i64 q.tx, .string q.tab, .string q.key, .int .i64 q.mode] 33).up h6); have S5 := Lib.hid (HS.out.up H6.out); have x0 := (Blk.at X5.out (i := 0) rfl).2; have x1 := (Blk.at X5.out (i := 1) rfl).2; have x2 := (Blk.at X5.out (i := 2) rfl).2; have x3 := (Blk.at X5.out (i := 3) rfl).2; have xl := Blk.lt X5.out; clear h5 h6)
          | (go_at_call 31; refine (grant_any p ⟨gr, pre ++ q :: rest⟩ K q _ S5.out.man (by show gr.length ≤ 100000; omega)).mono ?_; rintro e w6 ⟨rfl, h6⟩; have H7 := Lib.hid h6; have X6 := Lib.hid (X5.out.chg h6.2 (fun e => HKL.out e)); have y0 := (Blk.at X6.out (i := 0) rfl).2; have y1 := (Blk.at X6.out (i := 1) rfl).2; have y2 := (Blk.at X6.out (i := 2) rfl).2; have y3 := (Blk.at X6.out (i := 3) rfl).2; have yl := Blk.lt X6.out; obtain ⟨gv6, qv6, P6⟩ := h6.1; obtain ⟨qa6, qc6, rfl, _, _, _⟩ := own_form P6.qo; have z1 : w6.cell? ⟨p, 1, none⟩ = some (.slice qa6 (m + 1) qc6) := (by rw [← HN.out]; exact (P6.blk.at (i := 1) rfl).2); have zl := P6.blk.lt; have P6 := Lib.hid P6; clear h6)
          | (go_at_call 32; refine (del_any (.slice qa6 (m + 1) qc6) (m + 1) pre.length (lkC (pre ++ q :: rest)) _ (by have := P6.out.qo; rw [← HN.out]; exact this) (by omega) (by omega) (lkC_one _)).mono ?_
             rintro e w7 ⟨v7, rfl, k1, k2, k3⟩
             rw [lkC_del, show m + 1 - 1 = m by omega] at k1
             obtain ⟨a7, c7, rfl, _, _, _⟩ := own_form k1
             have C7 : Chg (fun k => (Value.slice qa6 (m + 1) qc6).ownBlock = some k) w6 w7 := (Chg.refl _ w6).grown k2 fun k hk => .inl hk
             have C7' : Chg (fun k => (Value.slice qa6 (pre ++ q :: rest).length qc6).ownBlock = some k) w6 w7 := by rw [HN.out]; exact C7
             have P8 := Lib.hid (P6.out.storeQ (l' := pre ++ rest) C7' (by rw [HM.out]; exact k1) (fun k hk => by rw [HN.out]; rw [k3] at hk; exact hk))
             have T8 := Lib.hid (S5.out.take H7.out.2 rfl ⟨_, _, P8.out.1⟩ P8.out.2)
             have BB := P6.out.farQ C7'
             have t1 := (BB.at (i := 1) rfl).2
             have t2 := BB.free 1
             have tl := BB.lt
             have X7 := X6.out.chg C7 (fun e => by
               rcases P6.out.qF _ (by show (Value.slice qa6 (pre ++ q :: rest).length qc6).ownBlock = _; rw [HN.out]; exact e) with e | e
               · exact HKL.out e
               · have := X5.out.lt; omega)
             have u0 := (Blk.at X7 (i := 0) rfl).2
             have u1 := (Blk.at X7 (i := 1) rfl).2
             have u2 := (Blk.at X7 (i := 2) rfl).2
             have u3 := (Blk.at X7 (i := 3) rfl).2
             have ul := Blk.lt X7
             clear k1 k2 k3 C7 C7' BB X7)
          | (at_builtin; refine wpList_append_lies _ rfl (.tmp 71) (.tmp 74) 23 rfl w.heap.size 3 i1 (.int .i64 0) 1 8 Try.underlying23 hi1 hz3 hz4 hz5 rfl (by decide) (.slice ra res.length rc) res.length (icI res) rfl (own_up T8.out.2.2.1 ((Up.refl _).alloc _)) ⟨w7.heap.size, 0, none⟩ 1 1 [.int .i64 q.tx] rfl rfl (cell_int _ _ _ _ (by simp [World.setCell])) (by intro u hu; rw [List.mem_singleton.1 hu]; rfl) (by decide) (by unfold maxLen; omega) (by omega) (Nat.le_trans T8.out.1.size ((Up.refl _).alloc _).size) (w7.heap.size + 1) (by simp [World.setCell]) ?_
             intro g9 c9 w9 hown9 hgrow9 hat9 hlt9
             have N9 := Lib.hid (S5.out.next HZ.out ⟨_, _, P8.out.1⟩ T8.out ((Up.refl _).alloc _) hown9 hgrow9 (fun k hk => by
               obtain rfl : g9 = k := by simpa [Value.ownBlock] using hk
               rcases hat9 with e | e
               · exact .inl e
               · refine .inr ?_
                 rw [e]; simp [World.setCell]))
             clear hown9 hgrow9 hat9)
          | fail)
        go_roundw
        case rel => exact ⟨pre, rest, grantL gr q, res ++ [q.tx], Fx K w5 w6, rfl, N9.out⟩
        case measure =>
          have e := HN.out
          simp only [List.length_append, List.length_cons] at e
          rw [N9.out.man.lenq, HLQ.out]
          simp [intOf]
          omega
      · have hz2 : (0 : Int) < ((blkL (gr ++ pre) q).length : Int) := by omega
        have HZ := Lib.hid hz
        clear hz
        go_wp2_with (first
          | (go_at_call 28; refine (HBL.out _ ((Up.refl _).alloc _)).mono ?_; rintro e w5 ⟨bv, rfl, h5, h6⟩; obtain ⟨ba, bc, rfl, _, _, _⟩ := own_form h5; have H6 := Lib.hid (((Up.refl wo).alloc _).trans h6); clear h5 h6)
          | fail)
        go_roundw
        case rel => exact ⟨pre ++ [q], rest, gr, res, K, by simp, (HSTAY.out HZ.out).up H6.out⟩
        case measure =>
          have e := HN.out
          simp only [List.length_append, List.length_cons] at e
          rw [((HSTAY.out HZ.out).up H6.out).man.lenq, HLQ.out]
          simp [intOf]
          omega
end Go.Proofs.Ytbimkciejfbodaa.Lk
