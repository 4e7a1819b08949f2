/- Recovery: finish, Begin, Write, Commit. -/
import Derived.Test.YtjalpppmgoepiaaRve
namespace Go.Proofs.Ytjalpppmgoepiaa.Rv
open Go Go.RowKit Hp
set_option linter.unusedVariables false

def zw (t x : Nat) : Nat := if x = t then 0 else x
def zwk (t : Nat) (l : List Nat) (k : Nat) : List Nat := (l.take k).map (zw t) ++ l.drop k
theorem zwk_len (t : Nat) (l : List Nat) (k : Nat) : (zwk t l k).length = l.length := by unfold zwk; simp only [List.length_append, List.length_map, List.length_take, List.length_drop]; omega
theorem zwk_zero (t : Nat) (l : List Nat) : zwk t l 0 = l := by unfold zwk; simp
theorem zwk_all (t : Nat) (l : List Nat) : zwk t l l.length = l.map (zw t) := by unfold zwk; simp
theorem zwk_get (t : Nat) (l : List Nat) (k : Nat) (h : k < l.length) : (zwk t l k)[k]'(by rw [zwk_len]; exact h) = l[k] := by
  unfold zwk
  rw [List.getElem_append_right (by simp; omega)]
  simp only [List.length_map, List.length_take, List.getElem_drop]
  congr 1
  omega
theorem zwk_succ (t : Nat) (l : List Nat) (k : Nat) (h : k < l.length) : zwk t l (k + 1) = (zwk t l k).set k (zw t l[k]) := by
  unfold zwk
  rw [List.take_succ_eq_append_getElem h, List.map_append, List.append_assoc, List.set_append_right _ _ (by simp; omega)]
  congr 1
  rw [show k - ((l.take k).map (zw t)).length = 0 by simp; omega, List.drop_eq_getElem_cons h, List.set_cons_zero]
  rfl
theorem zwk_stay (t : Nat) (l : List Nat) (k : Nat) (h : k < l.length) (hn : l[k] ≠ t) : zwk t l (k + 1) = zwk t l k := by
  have e : zw t l[k] = (zwk t l k)[k]'(by rw [zwk_len]; exact h) := by rw [zwk_get t l k h]; unfold zw; rw [if_neg hn]
  rw [zwk_succ t l k h, e, List.set_getElem_self]
theorem fin_eq (E : Eng) (t : Nat) : finE E t = { appE E ⟨3, t, 0, 0, 0⟩ with act := keepC t E.act, wri := E.wri.map (zw t) } := by
  unfold finE keepC oldC
  have : (fun x : Nat => decide (x ≠ t)) = fun c => !decide (c = t) := by funext x; simp
  simp only [this]
  rfl
/-- Where the engine is, in its last call's footprint. -/
theorem EngP.fx {w w' : World} {p : Nat} {F F' : Nat → Prop} {E : Eng} {bv dv lv av wv : Value} (h : EngP w' p F' E bv dv lv av wv) (C : Chg F w w') (hl : ∀ k, F k → k < w.heap.size) (hF : ∀ k, F' k → Fx F w w' k) : EngPost p E F w w' :=
  ⟨⟨bv, dv, lv, av, wv, h.mono hF fun k hk => fx_ltp hl C.size hk⟩, C⟩
set_option maxRecDepth 100000 in
set_option maxHeartbeats 2000000 in
theorem fin_any (p : Nat) (E : Eng) (F : Nat → Prop) (t : Nat) (w : World) (h : EngR w p E F) (hl : E.log.length ≤ 100000) (ha : E.act.length ≤ 100000) (hw : E.wri.length ≤ 1000) :
    Calls Try.prog 25 #[.pointer (some ⟨p, 0, none⟩), .int .i64 (t : Int)] w fun e w' => e = .returned (.tuple #[]) ∧ EngPost p (finE E t) F w w' := by
  have HL := Lib.hid h.lt
  have U1 : Up w (w.alloc (.cells #[.int .i64 (t : Int)] 3)) := (Up.refl w).alloc _
  have T1 : At (w.alloc (.cells #[.int .i64 (t : Int)] 3)) w.heap.size 0 (.int .i64 (t : Int)) := At.new w _ _ 0 _ rfl
  have t0 := T1.2
  have tl := T1.1
  have HAP : Hid (Calls Try.prog 23 #[.pointer (some ⟨p, 0, none⟩), .agg #[.int .i64 3, .int .i64 (t : Int), .int .i64 0, .int .i64 0, .int .i64 0]] (w.alloc (.cells #[.int .i64 (t : Int)] 3)) fun e w' => e = .returned (.tuple #[]) ∧ EngPost p (appE E ⟨3, t, 0, 0, 0⟩) F (w.alloc (.cells #[.int .i64 (t : Int)] 3)) w') := append_any p E F ⟨3, t, 0, 0, 0⟩ _ (h.up U1) hl (fun e => absurd rfl e)
  have HFE := Lib.hid (fin_eq E t)
  have HE1 : Hid ((appE E ⟨3, t, 0, 0, 0⟩).act = E.act ∧ (appE E ⟨3, t, 0, 0, 0⟩).wri = E.wri) := ⟨rfl, rfl⟩
  have HT := Lib.hid T1
  have HU := Lib.hid U1
  have hFt : ¬ F w.heap.size := fun e => by have := HL.out _ e; omega
  clear T1 U1
  generalize hE2 : appE E ⟨3, t, 0, 0, 0⟩ = E1 at *
  clear hE2
  go_enter Try.func25, Try.ntmps25
  go_wp2_with (first
    | (go_at_call 23; refine HAP.out.mono ?_; rintro e w2 ⟨rfl, ⟨bv, dv, lv, av, wv, h2⟩, C2⟩
       obtain ⟨aa, ac, rfl, _, _, _⟩ := own_form h2.ao
       obtain ⟨wa, wc, rfl, _, _, _⟩ := own_form h2.wo
       have P2 := Lib.hid h2
       have HC2 := Lib.hid C2
       have T2 := Lib.hid (HT.out.chg C2 hFt)
       have t1 := T2.out.2
       have tl1 := T2.out.1
       have c5 := (h2.blk.at (i := 5) rfl).2
       have pl2 := h2.blk.lt
       clear h2 C2)
    | (go_at_call 28; refine (delf_any w.heap.size t 0 (.slice aa E1.act.length ac) E1.act _ T2.out (fun e => by have := P2.out.aF _ e; rcases this with q | q; exact hFt q; have := HT.out.1; omega) P2.out.ao (by rw [HE1.out.1]; exact ha)).mono ?_; rintro e w3 ⟨v3, rfl, h31, h32, h33⟩
       obtain ⟨va3, vc3, rfl, _, _, _⟩ := own_form h31
       have ST := Lib.hid (P2.out.storeA h32 h31 h33)
       have B3 := Lib.hid (P2.out.blk.chg h32 fun e => by exact ((own_ty P2.out.ao) _ e).1.ne (E' := 44) (by decide) (blk_ty P2.out.blk))
       have pl3 := B3.out.lt
       have pf3 := B3.out.free 5
       have y5 := (B3.out.at (i := 5) rfl).2
       have z6 := (ST.out.1.blk.at (i := 6) rfl).2
       have pl4 := ST.out.1.blk.lt
       clear h31 h32 h33)
    | fail)
  have CST := Lib.hid (HC2.out.trans ST.out.2 fun k hk e => by rcases e with e | e; exact e; omega)
  have PST := Lib.hid ST.out.1
  have hwl : E1.wri.length ≤ 1000 := by rw [HE1.out.2]; exact hw
  have T4 := Lib.hid (T2.out.chg ST.out.2 fun e => by rcases e with q | q; exact hFt q; have := HT.out.1; omega)
  clear ST
  have CW : Hid (Chg F w (w3.setCell ⟨p, 5, none⟩ (.slice va3 (keepC t E1.act).length vc3))) := (Below.chg F HU.out).trans CST.out fun _ _ e => e
  have HF3 : Hid (∀ k, Fx F (w.alloc (.cells #[.int .i64 (t : Int)] 3)) w2 k → k ≠ w.heap.size) := fun k hk e => by
    subst e
    rcases hk with q | q
    · exact hFt q
    · have := HT.out.1; omega
  go_loopw [4, 5, 24] (fun _ _ kv wr => ∃ k : Nat, k ≤ E1.wri.length ∧ kv = .int .i64 k ∧ Hid (∃ bv' dv' lv', EngP wr p (Fx F (w.alloc (.cells #[.int .i64 (t : Int)] 3)) w2) { E1 with act := keepC t E1.act, wri := zwk t E1.wri k } bv' dv' lv' (.slice va3 (keepC t E1.act).length vc3) (.slice wa E1.wri.length wc)) ∧ Hid (Chg F w wr) ∧ Hid (At wr w.heap.size 0 (.int .i64 (t : Int)))) (fun _ _ kv _ => E1.wri.length - (intOf kv).toNat)
  case atStart => exact ⟨0, by omega, rfl, ⟨_, _, _, by rw [zwk_zero]; exact PST.out⟩, CW.out, T4.out⟩
  case round =>
    obtain ⟨k, hk, rfl, HP, HC, HB⟩ := hrel
    obtain ⟨bv', dv', lv', hp⟩ := HP.out
    have HPP := Lib.hid hp
    clear HP t0 tl t1 tl1 c5 pl2 pl3 pf3 y5 z6 pl4
    have t0 := HB.out.2
    have tl := HB.out.1
    have pl := hp.blk.lt
    have c6 := (hp.blk.at (i := 6) rfl).2
    by_cases hlt : k < E1.wri.length
    · obtain ⟨g, c, hgv, hgc, _, hgl, hgat, hgf⟩ := own_some hp.wo (by show 0 < (zwk t E1.wri k).length; rw [zwk_len]; omega)
      rw [show ({ E1 with act := keepC t E1.act, wri := zwk t E1.wri k } : Eng).wri.length = E1.wri.length from zwk_len _ _ _] at hgv hgc
      simp only [Value.slice.injEq, true_and] at hgv
      obtain ⟨rfl, rfl⟩ := hgv
      have hgk := hgat k _ (naC_get (zwk t E1.wri k) k (by rw [zwk_len]; exact hlt))
      rw [zwk_get t E1.wri k hlt] at hgk
      have hgf2 := hgf k
      have hki : (k : Int) < (E1.wri.length : Int) := by omega
      have HST := Lib.hid (zwk_stay t E1.wri k hlt)
      have HSU := Lib.hid (zwk_succ t E1.wri k hlt)
      have HLN := Lib.hid (zwk_len t E1.wri k)
      clear hp hgat hgf
      generalize E1.wri[k] = x at *
      by_cases hx : x = t
      · have hxt : ((x : Int) == (t : Int)) = true := by simp [hx]
        have hxt2 : (x : Int) = (t : Int) := by omega
        have HZ : Hid (zw t x = 0) := by unfold Hid zw; rw [if_pos hx]
        have hzl : k < (zwk t E1.wri k).length := by rw [HLN.out]; exact hlt
        have HPW : Hid (EngP wr p (Fx F (w.alloc (.cells #[.int .i64 (t : Int)] 3)) w2) { E1 with act := keepC t E1.act, wri := zwk t E1.wri k } bv' dv' lv' (.slice va3 (keepC t E1.act).length vc3) (.slice (some ⟨g, 0, none⟩) (zwk t E1.wri k).length wc)) := by
          unfold Hid; rw [HLN.out]; exact HPP.out
        have SW := Lib.hid (HPW.out.setW (m := 0) hzl)
        have hgp : g ≠ w.heap.size := HF3.out g (HPP.out.wF g rfl)
        clear hx HST
        go_wp2
        go_roundw
        case rel => exact ⟨k + 1, by omega, by go_num, ⟨_, _, _, by rw [HSU.out, HZ.out, ← HLN.out]; exact SW.out.1⟩, HC.out.set (by rcases HPP.out.wF g rfl with q | q; exact .inl q; exact .inr (by have := HU.out.size; omega)) _ _ _, HB.out.chg (chg_set wr g k none _) (fun e => hgp e.symm)⟩
        case measure => simp [intOf]; omega
      · have hxt : ((x : Int) == (t : Int)) = false := beq_eq_false_iff_ne.2 (by omega)
        have hxt2 : ¬ (x : Int) = (t : Int) := by omega
        have HS2 := Lib.hid (HST.out hx)
        clear hx HST
        go_wp2
        go_roundw
        case rel => exact ⟨k + 1, by omega, by go_num, ⟨_, _, _, by rw [HS2.out]; exact HPP.out⟩, HC.out, HB.out⟩
        case measure => simp [intOf]; omega
    · obtain rfl : k = E1.wri.length := by omega
      clear hp
      go_wp2
      go_end0
      refine ⟨rfl, ?_⟩
      rw [HFE.out]
      have hp := HPP.out
      rw [zwk_all] at hp
      have e3 : E1.wri.map (zw t) = E.wri.map (zw t) := by rw [HE1.out.2]
      have ha2 : keepC t E1.act = keepC t E.act := by rw [HE1.out.1]
      refine EngP.fx (F := F) (F' := Fx F (w.alloc (.cells #[.int .i64 (t : Int)] 3)) w2) (bv := bv') (dv := dv') (lv := lv') (av := .slice va3 (keepC t E1.act).length vc3) (wv := .slice wa E1.wri.length wc) (by rw [← ha2, ← e3]; exact hp) HC.out HL.out fun k hk => ?_
      rcases hk with q | q
      · exact .inl q
      · exact .inr ⟨by have := HU.out.size; omega, HPP.out.lt k (.inr q)⟩
set_option maxRecDepth 100000 in
set_option maxHeartbeats 2000000 in
theorem begin_any (p : Nat) (E : Eng) (F : Nat → Prop) (w : World) (h : EngR w p E F) (ha : E.act.length < 10) (hl : E.last ≤ 1000000) :
    Calls Try.prog 11 #[.pointer (some ⟨p, 0, none⟩)] w fun e w' => e = .returned (.tuple #[.int .i64 ((E.last + 1 : Nat) : Int), .int .i64 0]) ∧ EngPost p { E with last := E.last + 1, act := E.act ++ [E.last + 1] } F w w' := by
  obtain ⟨i0, hi0, hz0, hz1, hz2⟩ := info_parts Try.infoI
  obtain ⟨bv, dv, lv, av, wv, hP⟩ := h
  obtain ⟨aa, ac, rfl, hg1, hg2, _⟩ := own_form hP.ao
  have c5 := (hP.blk.at (i := 5) rfl).2
  have c4 := (hP.blk.at (i := 4) rfl).2
  have f4 := hP.blk.free 4
  have hpl := hP.blk.lt
  have HP := Lib.hid hP
  have ha2 : ¬ (E.act.length : Int) = 10 := by omega
  have ha3 : ((E.act.length : Int) == 10) = false := beq_eq_false_iff_ne.2 ha2
  have hwr : IntKind.i64.wrap ((E.last : Int) + 1) = (E.last : Int) + 1 := IntWalk.i64_in _ (by omega)
  have HL : Hid (((E.last + 1 : Nat) : Int) = (E.last : Int) + 1) := by unfold Hid; omega
  have hP1 := hP.putLast (E.last + 1)
  rw [HL.out] at hP1
  rw [HL.out]
  have C1 : Chg F w (w.setCell ⟨p, 4, none⟩ (.int .i64 ((E.last : Int) + 1))) := (chg_set w p 4 none _).mono fun j _ e => e ▸ hP.fp
  have P1 := Lib.hid hP1
  have HC1 := Lib.hid C1
  have d5 := (hP1.blk.at (i := 5) rfl).2
  have d4 := (hP1.blk.at (i := 4) rfl).2
  have hpl1 := hP1.blk.lt
  have BAK := Lib.hid P1.out.ao
  clear hP hP1 C1
  go_enter Try.func11, Try.ntmps11
  go_wp2
  obtain ⟨w2, hw2⟩ : ∃ w2, w2 = w.setCell ⟨p, 4, none⟩ (.int .i64 ((E.last : Int) + 1)) := ⟨_, rfl⟩
  rw [← hw2] at d5 d4 hpl1 P1 BAK HC1 ⊢
  clear hw2 hl hwr c5 c4 f4 hpl
  have HLT := Lib.hid HP.out.lt
  refine region_split (fun a a' W => ∃ (v26 : Value) (g c : Nat), Hid (EngP W p (Fx F w2 W) { E with last := E.last + 1, act := E.act ++ [E.last + 1] } bv dv lv (.slice (some ⟨g, 0, none⟩) (E.act.length + 1) c) wv ∧ Chg F w2 W) ∧ a' = (((((((((((((a.put (some 17) (.pointer (some ⟨p, 0, none⟩))).put (some 18) (.pointer (some ⟨p, 0, none⟩))).put (some 19) (.pointer (some ⟨p, 0, none⟩))).put (some 20) (.pointer (some ⟨p, 5, none⟩))).put (some 21) (.slice aa E.act.length ac)).put (some 22) (.pointer (some ⟨p, 0, none⟩))).put (some 23) (.pointer (some ⟨p, 0, none⟩))).put (some 24) (.pointer (some ⟨p, 4, none⟩))).put (some 25) (.int .i64 ((E.last : Int) + 1))).put (some 26) v26).put (some 27) (.slice (some ⟨g, 0, none⟩) (E.act.length + 1) c)).put (some 28) (.pointer (some ⟨p, 0, none⟩))).put (some 29) (.pointer (some ⟨p, 5, none⟩)))) ?_ ?_
  · simp only [Act.put, List.setIfInBounds_toArray, List.set_cons_zero, List.set_cons_succ]
    go_region_law (first
      | (refine step_append_lies _ rfl (.tmp 21) (.tmp 26) 22 rfl 0 3 i0 (.int .i64 0) 1 8 Try.underlying22 hi0 hz0 hz1 hz2 rfl (by decide) (.slice aa E.act.length ac) E.act.length (naC E.act) (by simp [Act.eval]) (own_up BAK.out ((Up.refl w2).alloc _).drew) ⟨w2.heap.size, 0, none⟩ 1 1 [.int .i64 ((E.last : Int) + 1)] (by simp [Act.eval]) rfl (fun j u hu => cells_new w2 #[.int .i64 ((E.last : Int) + 1)] 3 j u hu) (by intro u hu; simp at hu; subst hu; rfl) (by omega) (by unfold maxLen; omega) (by omega) (Nat.zero_le _) _ rfl ?_
         intro g9 c9 w5 hown9 hgrow9 hat9 hlt9
         have PB5 := fld_far P1.out.blk (by decide) BAK.out ((Up.refl w2).alloc _).drew hgrow9
         have q2 := (PB5.at (i := 5) rfl).2
         have q3 := PB5.free 5
         have hp5 := PB5.lt
         rw [show ([Value.int .i64 ((E.last : Int) + 1)]) = naC1 (E.last + 1) by unfold naC1; rw [HL.out]] at hown9
         have FIN := Lib.hid (P1.out.appA ((Up.refl w2).alloc _).drew hown9 hgrow9 hat9 (((Up.refl w2).alloc _).drew).size)
         clear hown9 hgrow9 hat9 PB5)
      | fail)
    all_goals exact OnNormal.of ⟨_, _, _, FIN.out, rfl⟩
  · simp only [Act.put, List.setIfInBounds_toArray, List.set_cons_zero, List.set_cons_succ]
    rintro a' W5 ⟨v26, g5, c5, hf, rfl⟩
    have P5 := Lib.hid hf.out.1
    have C5 := Lib.hid hf.out.2
    clear hf d5 d4 hpl1
    have d4 := (P5.out.blk.at (i := 4) rfl).2
    rw [HL.out] at d4
    have hp5 := P5.out.blk.lt
    go_wp2
    go_ret2
    refine ⟨rfl, EngP.fx P5.out (HC1.out.trans C5.out fun k hk e => e) HLT.out fun k hk => ?_⟩
    rcases hk with q | q
    · exact .inl q
    · exact .inr ⟨by have := HC1.out.size; omega, q.2⟩
end Go.Proofs.Ytjalpppmgoepiaa.Rv
