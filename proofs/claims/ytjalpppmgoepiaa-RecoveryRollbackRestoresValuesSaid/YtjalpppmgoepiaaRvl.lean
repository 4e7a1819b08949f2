/- Recovery: Crash. -/
import Derived.Test.YtjalpppmgoepiaaRvk
namespace Go.Proofs.Ytjalpppmgoepiaa.Rv
open Go Go.RowKit Hp
set_option linter.unusedVariables false

structure CrH (E : Eng) : Prop where
  fl : E.fl ≤ E.log.length
  len : E.log.length ≤ 10000
  d1 : 1 ≤ E.dsk.length
  d2 : E.dsk.length ≤ 16
  pg : ∀ r ∈ E.log, r.kind ≠ 3 → r.page < E.dsk.length
  tx : ∀ r ∈ E.log, r.tx < 1000000
theorem lgE_len {E : Eng} (h : CrH E) : (lgE E).length = E.fl := by unfold lgE; rw [List.length_take]; exact Nat.min_eq_left h.fl
theorem own_any {w : World} {B : Nat} {E : TypeId} {size n : Nat} {v : Value} {xs : List Value} (h : w.ownsRow B E size v n xs) : w.ownsRow 0 E size v n xs := own_base' h fun _ _ => Nat.zero_le _
theorem own_writ (w : World) (n : Nat) (hn : n ≤ 16) : (w.alloc (.cells (naC (na0 n)).toArray 3)).ownsRow w.heap.size 3 1 (.slice (some ⟨w.heap.size, 0, none⟩) n n) (na0 n).length (naC (na0 n)) := by
  rw [na0_len]
  exact own_base' (own_new (Blk.new w _ _) (by rw [naC_len, na0_len]) (by omega) (by omega)) fun k hk => by simp [Value.ownBlock] at hk; omega
theorem EngP.newW2 {w : World} {p : Nat} {F : Nat → Prop} {E : Eng} {bv dv lv av wv v' : Value} {l' : List Nat} (h : EngP w p F E bv dv lv av wv) (ho : w.ownsRow 0 3 1 v' l'.length (naC l')) (hf : ∀ k, v'.ownBlock = some k → ¬ F k) :
    EngP (w.setCell ⟨p, 6, none⟩ v') p (fun k => F k ∨ v'.ownBlock = some k) { E with wri := l' } bv dv lv av v' ∧ Chg F w (w.setCell ⟨p, 6, none⟩ v') := by
  have C := chg_set w p 6 none v'
  have hs : (w.setCell ⟨p, 6, none⟩ v').heap.size = w.heap.size := by simp [World.setCell]
  exact ⟨h.putW (C.mono fun j _ e => .inr e) (h.blk.set 6 v') (own_chg ho C fun k hk e => hf k hk (e ▸ h.fp)) (fun k hk => .inl hk) (fun k hk => by
      rw [hs]
      rcases hk with q | q
      · exact h.lt k q
      · exact own_lt ho k q) (fun k hk => .inr hk) (fun k hk => .inr (hf k hk)),
    C.mono fun j _ e => e ▸ h.fp⟩
theorem cmp2_succ (l : List Rec) (n k : Nat) (h : n + k < l.length) : cmp2 ((l.drop n).take (k + 1)) = cmp2 ((l.drop n).take k) + if rgK l (n + k) = 2 then 1 else 0 := by
  unfold cmp2
  have h2 : k < (l.drop n).length := by rw [List.length_drop]; omega
  rw [List.take_succ_eq_append_getElem h2, List.filter_append, List.length_append, List.getElem_drop, rg_at l (n + k) h]
  congr 1
  by_cases e : rgK l (n + k) = 2 <;> simp [e]
theorem cmp2_le (l : List Rec) : cmp2 l ≤ l.length := List.length_filter_le _ _
theorem own_ptr {w : World} {B : Nat} {E : TypeId} {size n cap : Nat} {a : Option Addr} {xs : List Value} (h : w.ownsRow B E size (.slice a n cap) n xs) : (a = none ∧ n = 0 ∧ cap = 0) ∨ ∃ g, a = some ⟨g, 0, none⟩ := by
  obtain ⟨_, h⟩ := h
  rcases h with ⟨h1, h2⟩ | ⟨g, cap, cur, hv, _⟩
  · simp only [Value.slice.injEq] at h1
    exact .inl ⟨h1.1, h2, h1.2.2⟩
  · simp only [Value.slice.injEq] at hv
    exact .inr ⟨g, hv.1⟩
/-- The second loop's state. -/
structure L2 (p mb : Nat) (F G : Nat → Prop) (w W4 W : World) (ra : Option Addr) (rc : Nat) (L : List Rec) (B : Nat) (S : Eng × List Nat) (k : Nat) : Prop where
  er : EngR W p S.1 (Fx G W4 W)
  ch : Chg F w W
  mp : ∃ m, m ≤ L.length + k ∧ MV W mb m S.2
  rw : W.ownsRow B 50 5 (.slice ra L.length rc) L.length (reC L)
  sz : W4.heap.size ≤ W.heap.size
theorem L2.up {p mb : Nat} {F G : Nat → Prop} {w W4 W W' : World} {ra : Option Addr} {rc : Nat} {L : List Rec} {B : Nat} {S : Eng × List Nat} {k : Nat} (h : L2 p mb F G w W4 W ra rc L B S k) (hu : Up W W') : L2 p mb F G w W4 W' ra rc L B S k := by
  obtain ⟨⟨bv, dv, lv, av, wv, h1⟩, h2, ⟨m, hm, h3⟩, h4, h5⟩ := h
  refine ⟨⟨bv, dv, lv, av, wv, (h1.up hu).mono (fun k hk => fx_mono hu.size hk) fun k hk => ?_⟩, h2.trans (Below.chg (fun _ => False) hu) fun _ _ e => e.elim, ⟨m, hm, h3.up hu⟩, own_up h4 hu, Nat.le_trans h5 hu.size⟩
  rcases hk with q | q
  · exact Nat.lt_of_lt_of_le (h1.lt k (.inl q)) hu.size
  · exact q.2
/-- One loser more. -/
theorem L2.next {p mb m : Nat} {F G : Nat → Prop} {w W4 W W1 w5 w6 w7 : World} {ra : Option Addr} {rc : Nat} {L : List Rec} {B : Nat} {S : Eng × List Nat} {k t : Nat} {E2 E3 : Eng} (h : L2 p mb F G w W4 W ra rc L B S k) (hu : Up W W1) (hlt : ∀ k, G k → k < W4.heap.size) (hmb : ¬ G mb ∧ mb < W4.heap.size ∧ w.heap.size ≤ mb) (hB : ∀ k, (Value.slice ra L.length rc).ownBlock = some k → ¬ G k ∧ k < W4.heap.size ∧ k ≠ mb) (hGF : ∀ k, G k → F k ∨ w.heap.size ≤ k) (hw4 : w.heap.size ≤ W4.heap.size)
    (hm : m ≤ L.length + k) (C5 : Chg (fun k => k = mb) W1 w5) (hv : MV w5 mb (m + 1) (t :: S.2)) (h6 : EngPost p E2 (Fx G W4 W) w5 w6) (h7 : EngPost p E3 (Fx (Fx G W4 W) w5 w6) w6 w7) : L2 p mb F G w W4 w7 ra rc L B (E3, t :: S.2) (k + 1) := by
  have nF : ∀ k, Fx G W4 W k → G k ∨ W4.heap.size ≤ k := fun k hk => hk.imp id fun q => q.1
  have s5 := Nat.le_trans hu.size C5.size
  have c6 := h6.2
  have c7 := h7.2
  have n2 : ∀ k, Fx (Fx G W4 W) w5 w6 k → G k ∨ W4.heap.size ≤ k := fun k hk => by
    rcases hk with q | q
    · exact nF k q
    · exact .inr (by have := h.sz; omega)
  obtain ⟨⟨bv, dv, lv, av, wv, e7⟩, _⟩ := h7
  have hz := h.sz
  have hz6 := c6.size
  have hz7 := c7.size
  have cw5 : Chg F w w5 := (h.ch.trans (Below.chg (fun _ => False) hu) fun _ _ e => e.elim).trans C5 fun k hk e => by omega
  have cw6 : Chg F w w6 := cw5.trans c6 fun k hk e => (nF k e).elim (fun q => (hGF k q).elim id fun q => by omega) fun q => by omega
  have cw7 : Chg F w w7 := cw6.trans c7 fun k hk e => (n2 k e).elim (fun q => (hGF k q).elim id fun q => by omega) fun q => by omega
  have mb6 : ¬ Fx G W4 W mb := fun e => (nF mb e).elim hmb.1 fun q => by omega
  have mb7 : ¬ Fx (Fx G W4 W) w5 w6 mb := fun e => (n2 mb e).elim hmb.1 fun q => by omega
  refine ⟨⟨bv, dv, lv, av, wv, e7.mono (fun j hj => ?_) fun j hj => ?_⟩, cw7, ⟨m + 1, by omega, (hv.chg c6 mb6).chg c7 mb7⟩, ?_, by omega⟩
  · rcases hj with (( q | q) | q) | q
    · exact .inl q
    · exact .inr ⟨q.1, by omega⟩
    · exact .inr ⟨by omega, by omega⟩
    · exact .inr ⟨by omega, q.2⟩
  · rcases hj with q | q
    · have := hlt j q; omega
    · exact q.2
  · refine own_chg (own_chg (own_chg (own_up h.rw hu) C5 fun j hj e => (hB j hj).2.2 e) c6 fun j hj e => ?_) c7 fun j hj e => ?_
    · exact (nF j e).elim (hB j hj).1 fun q => by have := (hB j hj).2.1; omega
    · exact (n2 j e).elim (hB j hj).1 fun q => by have := (hB j hj).2.1; omega
set_option maxRecDepth 100000 in
set_option maxHeartbeats 8000000 in
theorem crash_any (p : Nat) (E : Eng) (F : Nat → Prop) (w : World) (h : EngR w p E F) (hc : CrH E) :
    Calls Try.prog 9 #[.pointer (some ⟨p, 0, none⟩)] w fun e w' => ∃ rd : Nat, e = .returned (.tuple #[.int .i64 (rd : Int), .int .i64 (undone E : Int)]) ∧ EngPost p (crE E) F w w' := by
  have HLT := Lib.hid h.lt
  obtain ⟨bv, dv, lv, av, wv, hP⟩ := h
  obtain ⟨la, lc, rfl, hg1, hg2, _⟩ := own_form hP.lo
  have c2 := (hP.blk.at (i := 2) rfl).2
  have c3 := (hP.blk.at (i := 3) rfl).2
  have hpl := hP.blk.lt
  have HP := Lib.hid hP
  have HCR := Lib.hid hc
  have HLL := Lib.hid (lgE_len hc)
  have SL := Lib.hid (src_takeR hP.lo rfl hc.fl)
  have hf1 : (E.fl : Int) ≤ (E.log.length : Int) := by have := hc.fl; omega
  have hf2 : (E.fl : Int) ≤ (lc : Int) := by omega
  have hd1 := hc.d1
  have hd2 := hc.d2
  have hl10 := hc.len
  have hl11 := lgE_len hc
  have hl12 : (lgE E).length ≤ 10000 := by have := hc.fl; omega
  clear hP hc hl11
  change Hid (Src w 5 (.slice la E.fl lc) (lgE E).length (reC (lgE E))) at SL
  have HCL : Hid (∀ W, Up w W → Calls Try.prog 20 #[.slice la E.fl lc] W fun e w' => ∃ v', e = .returned v' ∧ w'.ownsRow W.heap.size 50 5 v' (lgE E).length (reC (lgE E)) ∧ Up W w') := fun W hu => by
    have h2 := SL.out.up hu
    rw [HLL.out] at h2
    have h3 := cloneR (.slice la E.fl lc) E.fl (reC (lgE E)) W h2 (reC_one _) (by have := HCR.out.fl; omega)
    rw [HLL.out]
    exact h3
  go_enter Try.func9, Try.ntmps9
  go_wp2
  refine region_split (fun a a' W => ∃ (va : Option Addr) (vc : Nat), Hid (EngP W p (Fx F w W) { E with log := lgE E } bv dv (.slice va (lgE E).length vc) av wv ∧ Chg F w W) ∧ a' = (((((((((((((a.put (some 12) (.pointer (some ⟨p, 0, none⟩))).put (some 13) (.pointer (some ⟨p, 0, none⟩))).put (some 14) (.pointer (some ⟨p, 0, none⟩))).put (some 15) (.pointer (some ⟨p, 2, none⟩))).put (some 16) (.slice la E.log.length lc)).put (some 17) (.pointer (some ⟨p, 0, none⟩))).put (some 18) (.pointer (some ⟨p, 0, none⟩))).put (some 19) (.pointer (some ⟨p, 3, none⟩))).put (some 20) (.int .i64 (E.fl : Int))).put (some 21) (.slice la E.fl lc)).put (some 22) (.slice va (lgE E).length vc)).put (some 23) (.pointer (some ⟨p, 0, none⟩))).put (some 24) (.pointer (some ⟨p, 2, none⟩)))) ?_ ?_
  · simp only [Act.put, List.setIfInBounds_toArray, List.set_cons_zero, List.set_cons_succ]
    go_region_law (first
      | (refine step_go (f := 20) Try.call20 #[.slice la E.fl lc] (by simp [Act.eval] <;> rfl) (HCL.out _ (by first | exact Up.refl w | exact (Up.refl w).drew)) ?_
         rintro e w1 ⟨v, rfl, h1, h2⟩
         refine ⟨_, rfl, ?_⟩
         obtain ⟨va, vc, rfl, _, _, _⟩ := own_form h1
         have h2' : Up w w1 := (Up.refl w).drew.trans h2
         have hb1 := HP.out.blk.up h2'
         have r2 := (hb1.at (i := 2) rfl).2
         have rf := hb1.free 2
         have rl := hb1.lt
         have FIN := Lib.hid (HP.out.newL h2' (own_base' h1 (fun k hk => ((own_ty h1) k hk).2)))
         clear h1 h2 h2' hb1)
      | fail)
    all_goals exact OnNormal.of ⟨_, _, FIN.out, rfl⟩
  · simp only [Act.put, List.setIfInBounds_toArray, List.set_cons_zero, List.set_cons_succ]
    rintro a' W1 ⟨va, vc, hf, rfl⟩
    have P1 := Lib.hid hf.out.1
    have C1 := Lib.hid hf.out.2
    clear hf c2 c3 hpl SL HCL
    have c1 := (P1.out.blk.at (i := 1) rfl).2
    have hpl := P1.out.blk.lt
    obtain ⟨da, dc, rfl, _, _, _⟩ := own_form P1.out.do_
    go_wp2_with (first
      | (go_at_call 21; refine (cloneP (.slice da E.dsk.length dc) E.dsk.length (pgC E.dsk) _ (own_src P1.out.do_) (pgC_one _) (by omega)).mono ?_; rintro e w2 ⟨v2, rfl, h1, h2⟩
         obtain ⟨ba, bc, rfl, _, _, _⟩ := own_form h1
         have hb1 := P1.out.blk.up h2
         have r0 := (hb1.at (i := 0) rfl).2
         have rf := hb1.free 0
         have rl := hb1.lt
         have P2 := Lib.hid (P1.out.newB h2 h1)
         clear h1 h2 hb1)
      | fail)
    have HG2 : Hid ((∀ k, Fx (Fx F w W1) W1 (w2.setCell ⟨p, 0, none⟩ (.slice ba E.dsk.length bc)) k → F k ∨ w.heap.size ≤ k) ∧ Chg F w (w2.setCell ⟨p, 0, none⟩ (.slice ba E.dsk.length bc))) := by
      have hs := C1.out.size
      refine ⟨fun k hk => ?_, C1.out.trans P2.out.2 fun k hk e => ?_⟩
      · rcases hk with (q | q) | q
        · exact .inl q
        · exact .inr q.1
        · exact .inr (by omega)
      · rcases e with q | q
        · exact q
        · omega
    have P2' := Lib.hid P2.out.1
    obtain ⟨W2, hW2⟩ : ∃ W2, W2 = w2.setCell ⟨p, 0, none⟩ (.slice ba E.dsk.length bc) := ⟨_, rfl⟩
    rw [← hW2] at HG2 P2' ⊢
    generalize Fx (Fx F w W1) W1 W2 = G2 at *
    have e0 := (P2'.out.blk.at (i := 0) rfl).2
    have e5 := (P2'.out.blk.at (i := 5) rfl).2
    have e6 := (P2'.out.blk.at (i := 6) rfl).2
    have f5 := P2'.out.blk.free 5
    have f6 := P2'.out.blk.free 6
    have el := P2'.out.blk.lt
    have hmi := mkI E.dsk.length hd2
    clear hW2 P2 c1 hpl r0 rf rl
    refine region_split (fun a a' W => W = (((W2.setCell ⟨p, 5, none⟩ (.slice none 0 0)).setCell ⟨p, 6, none⟩ (.slice (some ⟨W2.heap.size, 0, none⟩) E.dsk.length E.dsk.length)).alloc (.cells (naC (na0 E.dsk.length)).toArray 3)).drew ∧ a' = ((((((((((((a.put (some 33) (.pointer (some ⟨p, 0, none⟩))).put (some 34) (.pointer (some ⟨p, 0, none⟩))).put (some 35) (.pointer (some ⟨p, 0, none⟩))).put (some 36) (.pointer (some ⟨p, 0, none⟩))).put (some 37) (.pointer (some ⟨p, 0, none⟩))).put (some 38) (.slice ba E.dsk.length bc)).put (some 39) (.int .i64 (E.dsk.length : Int))).put (some 40) (.slice (some ⟨W2.heap.size, 0, none⟩) E.dsk.length E.dsk.length)).put (some 41) (.pointer (some ⟨p, 0, none⟩))).put (some 42) (.pointer (some ⟨p, 5, none⟩))).put (some 43) (.pointer (some ⟨p, 0, none⟩))).put (some 44) (.pointer (some ⟨p, 6, none⟩)))) ?_ ?_
    · simp only [Act.put, List.setIfInBounds_toArray, List.set_cons_zero, List.set_cons_succ]
      go_region_law (fail)
      all_goals exact OnNormal.of ⟨rfl, rfl⟩
    · simp only [Act.put, List.setIfInBounds_toArray, List.set_cons_zero, List.set_cons_succ]
      rintro a' W3 ⟨hW3, rfl⟩
      have A1 := (P2'.out.up ((Up.refl W2).alloc (.cells (naC (na0 E.dsk.length)).toArray 3))).nilA
      have A2 := A1.1.newW2 (own_any (own_chg (own_writ W2 E.dsk.length hd2) (chg_set _ p 5 none _) fun k hk e => by simp [Value.ownBlock] at hk; omega)) (fun k hk e => by simp [Value.ownBlock] at hk; have := P2'.out.lt k e; omega)
      have hcm : ((W2.alloc (.cells (naC (na0 E.dsk.length)).toArray 3)).setCell ⟨p, 5, none⟩ (.slice none 0 0)).setCell ⟨p, 6, none⟩ (.slice (some ⟨W2.heap.size, 0, none⟩) E.dsk.length E.dsk.length) = ((W2.setCell ⟨p, 5, none⟩ (.slice none 0 0)).setCell ⟨p, 6, none⟩ (.slice (some ⟨W2.heap.size, 0, none⟩) E.dsk.length E.dsk.length)).alloc (.cells (naC (na0 E.dsk.length)).toArray 3) := by
        rw [World.setCell_alloc_past _ p _ _ el, World.setCell_alloc_past _ p _ _ (by simpa [World.setCell] using el)]
      have P3 : EngP W3 p (fun k => G2 k ∨ (Value.slice (some ⟨W2.heap.size, 0, none⟩) E.dsk.length E.dsk.length).ownBlock = some k) (cr0 E) (.slice ba E.dsk.length bc) (.slice da E.dsk.length dc) (.slice va (lgE E).length vc) (.slice none 0 0) (.slice (some ⟨W2.heap.size, 0, none⟩) E.dsk.length E.dsk.length) := by
        have := A2.1.up ((Up.refl _).drew)
        rw [hcm, ← hW3] at this
        exact this
      have CH3 : Chg F w W3 := by
        have h1 := (((Below.chg G2 ((Up.refl W2).alloc (.cells (naC (na0 E.dsk.length)).toArray 3))).trans A1.2 fun k _ e => e).trans A2.2 fun k _ e => e).drew
        rw [hcm, ← hW3] at h1
        exact HG2.out.2.trans h1 fun k hk e => (HG2.out.1 k e).elim id fun q => by omega
      have HG3 : ∀ k, (fun k => G2 k ∨ (Value.slice (some ⟨W2.heap.size, 0, none⟩) E.dsk.length E.dsk.length).ownBlock = some k) k → F k ∨ w.heap.size ≤ k := fun k hk => by
        rcases hk with q | q
        · exact HG2.out.1 k q
        · have : W2.heap.size = k := by simpa [Value.ownBlock] using q
          have := HG2.out.2.size
          exact .inr (by omega)
      have P3 := Lib.hid P3
      have CH3 := Lib.hid CH3
      have HG3 := Lib.hid HG3
      clear A1 A2 hcm hW3 e0 e5 e6 f5 f6 el hmi HG2 P2'
      generalize (fun k => G2 k ∨ (Value.slice (some ⟨W2.heap.size, 0, none⟩) E.dsk.length E.dsk.length).ownBlock = some k) = G3 at *
      have c2 := (P3.out.blk.at (i := 2) rfl).2
      have hpl := P3.out.blk.lt
      have hmm := @run_makeMap Try.prog
      have MN := Lib.hid (MV.new W3)
      have c2m : (W3.alloc (.map #[] 0)).cell? ⟨p, 2, none⟩ = some (.slice va (lgE E).length vc) := (((Up.refl W3).alloc (.map #[] 0)).cell (p := ⟨p, 2, none⟩) hpl).trans c2
      have hpm : p < (W3.alloc (.map #[] 0)).heap.size := by simp; omega
      go_wp2
      have HLT3 := Lib.hid P3.out.lt
      have ST : Hid (EngP (W3.alloc (.map #[] 0)) p G3 { cr0 E with buf := redoK (lgE E) E.dsk 0 } (.slice ba E.dsk.length bc) (.slice da E.dsk.length dc) (.slice va (lgE E).length vc) (.slice none 0 0) (.slice (some ⟨W2.heap.size, 0, none⟩) E.dsk.length E.dsk.length)) := P3.out.up ((Up.refl _).alloc _)
      have STC : Hid (Chg F w (W3.alloc (.map #[] 0))) := CH3.out.alloc _
      have HRG : Hid (∀ k, k < (lgE E).length → (rgK (lgE E) k ≠ 3 → rgP (lgE E) k < E.dsk.length) ∧ rgT (lgE E) k < 1000000) := fun k hk => by
        have h1 := HCR.out.pg _ (List.mem_of_mem_take (List.getElem_mem hk : (lgE E)[k] ∈ lgE E))
        have h2 := HCR.out.tx _ (List.mem_of_mem_take (List.getElem_mem hk : (lgE E)[k] ∈ lgE E))
        rw [rg_at (lgE E) k hk] at h1 h2
        exact ⟨h1, h2⟩
      have hww : w.heap.size ≤ W3.heap.size := CH3.out.size
      clear c2 c2m hpl hpm hmm P3 CH3
      go_loopw [2, 5, 6, 51] (fun v2 _ _ kv wr => ∃ k j : Nat, k ≤ (lgE E).length ∧ j ≤ k ∧ kv = .int .i64 k ∧ v2 = .int .i64 j ∧ Hid (EngP wr p G3 { cr0 E with buf := redoK (lgE E) E.dsk k } (.slice ba E.dsk.length bc) (.slice da E.dsk.length dc) (.slice va (lgE E).length vc) (.slice none 0 0) (.slice (some ⟨W2.heap.size, 0, none⟩) E.dsk.length E.dsk.length)) ∧ Hid (∃ m, m ≤ k ∧ MV wr W3.heap.size m (endK (lgE E) k)) ∧ Hid (Chg F w wr)) (fun _ _ _ kv _ => (lgE E).length - (intOf kv).toNat)
      case atStart => exact ⟨0, 0, by omega, by omega, rfl, rfl, ST.out, ⟨0, by omega, MN.out⟩, STC.out⟩
      case round =>
        obtain ⟨k, j, hk, hj, rfl, rfl, HPK, HMV, HCH⟩ := hrel
        obtain ⟨wo, hwo⟩ : ∃ wo : World, wo = wr := ⟨_, rfl⟩
        rw [← hwo] at HPK HMV HCH ⊢
        clear hwo
        by_cases hlt : k < (lgE E).length
        · have hki : (k : Int) < ((lgE E).length : Int) := by omega
          obtain ⟨gl, cl, hvl, _, _, hgl, hat, _⟩ := own_some HPK.out.lo (by show 0 < (lgE E).length; omega)
          simp only [Value.slice.injEq] at hvl
          obtain ⟨rfl, hkk, rfl⟩ := hvl
          clear hkk
          obtain ⟨q0, q1, q2, q3, q4⟩ := rg_cells (lgE E) k hlt
          have x0 := hat _ _ q0
          have x1 := hat _ _ q1
          have x2 := hat _ _ q2
          have x3 := hat _ _ q3
          have x4 := hat _ _ q4
          obtain ⟨hpg, htx⟩ := HRG.out k hlt
          have HRS := Lib.hid (redo_succ (lgE E) E.dsk k)
          have HES := Lib.hid (end_succ (lgE E) k)
          unfold rstep at HRS
          unfold estep at HES
          have hrl := redo_len (lgE E) E.dsk k
          obtain ⟨m, hmk, hmv⟩ := HMV.out
          clear HMV hat q0 q1 q2 q3 q4
          generalize rgK (lgE E) k = K at *
          generalize rgT (lgE E) k = T at *
          generalize rgP (lgE E) k = P at *
          generalize rgB (lgE E) k = B at *
          generalize rgA (lgE E) k = A at *
          by_cases hK : K = 3
          · subst hK
            rw [if_pos rfl] at HRS HES
            have e3 : ((3 : Nat) : Int) = 3 := rfl
            rw [e3] at x0
            obtain ⟨w5, r1, r2, r3⟩ := (hmv.up ((Up.refl wo).alloc (.cells #[.int .i64 3, .int .i64 (T : Int), .int .i64 (P : Int), .int .i64 B, .int .i64 A] 50))).put (n := m) (by omega) (x := T) (by omega)
            have HR2 := Lib.hid r2
            have HR3 := Lib.hid ((Chg.refl (fun k => k = W3.heap.size) _).grown r3 fun k hk => .inl (by cases hk; rfl))
            have HP5 := Lib.hid ((HPK.out.up ((Up.refl wo).alloc (.cells #[.int .i64 3, .int .i64 (T : Int), .int .i64 (P : Int), .int .i64 B, .int .i64 A] 50))).chg HR3.out fun k hk e => by have := HLT3.out k hk; omega)
            clear hmv r2 r3 e3
            go_wp2
            go_roundw
            case rel => exact ⟨k + 1, j, by omega, by omega, by go_num, rfl, by rw [HRS.out]; exact HP5.out, ⟨m + 1, by omega, by rw [HES.out]; exact HR2.out⟩, (HCH.out.alloc _).trans HR3.out fun k hk e => by omega⟩
            case measure => simp [intOf]; omega
          · have hKi : ¬ (K : Int) = 3 := by omega
            have hKb : ((K : Int) == 3) = false := beq_eq_false_iff_ne.2 hKi
            rw [if_neg hK] at HRS HES
            have hP := hpg hK
            obtain ⟨gb, cb, hvb, _, _, hgbl, hatb, hfrb⟩ := own_some HPK.out.bo (by show 0 < (redoK (lgE E) E.dsk k).length; rw [hrl]; omega)
            rw [show ({ cr0 E with buf := redoK (lgE E) E.dsk k } : Eng).buf.length = E.dsk.length from hrl] at hvb
            simp only [Value.slice.injEq] at hvb
            obtain ⟨rfl, hkk, rfl⟩ := hvb
            clear hkk
            have hPl : P < (redoK (lgE E) E.dsk k).length := by rw [hrl]; exact hP
            obtain ⟨z1, z2⟩ := pgC_get (redoK (lgE E) E.dsk k) P hPl
            have y1 := hatb _ _ z1
            have y2 := hatb _ _ z2
            have y3 := hfrb (P * 2)
            have y4 := hfrb (P * 2 + 1)
            have hgd : (redoK (lgE E) E.dsk k).getD P (0, 0) = (redoK (lgE E) E.dsk k)[P] := by simp [List.getD, hPl]
            rw [hgd] at HRS
            have c0 := (HPK.out.blk.at (i := 0) rfl).2
            have pl := HPK.out.blk.lt
            have hPi : (P : Int) < (E.dsk.length : Int) := by omega
            have hwk : IntKind.i64.wrap ((k : Int) + 1) = (k : Int) + 1 := IntWalk.i64_in _ (by omega)
            clear hatb hfrb z1 z2 hgd hP hpg
            generalize (redoK (lgE E) E.dsk k)[P].1 = pv at *
            generalize (redoK (lgE E) E.dsk k)[P].2 = pn at *
            by_cases hlsn : pn < k + 1
            · have hli : (pn : Int) < (k : Int) + 1 := by omega
              rw [if_pos hlsn] at HRS
              go_wp2
              go_quiet (fail)
              go_wp2
              obtain ⟨wx, hwx⟩ : ∃ wx, wx = (wo.alloc (.cells #[.int .i64 (K : Int), .int .i64 (T : Int), .int .i64 (P : Int), .int .i64 B, .int .i64 A] 50)).drewN nq := ⟨_, rfl⟩
              have UX : Up wo wx := by rw [hwx]; exact ((Up.refl wo).alloc _).drewN _
              have BX : Blk wx wo.heap.size [.int .i64 (K : Int), .int .i64 (T : Int), .int .i64 (P : Int), .int .i64 B, .int .i64 A] 50 := by rw [hwx]; exact Blk.new wo _ _
              rw [← hwx]
              have PX := Lib.hid (HPK.out.up UX)
              have HBX := Lib.hid BX
              have c0' := (PX.out.blk.at (i := 0) rfl).2
              have pl' := PX.out.blk.lt
              have b2 := (BX.at (i := 2) rfl).2
              have b4 := (BX.at (i := 4) rfl).2
              have bl := BX.lt
              have y1' := (UX.cell (p := ⟨gb, P * 2, none⟩) hgbl).trans y1
              have y2' := (UX.cell (p := ⟨gb, P * 2 + 1, none⟩) hgbl).trans y2
              have y3' := (UX.frozen (p := ⟨gb, P * 2, none⟩) hgbl).trans y3
              have y4' := (UX.frozen (p := ⟨gb, P * 2 + 1, none⟩) hgbl).trans y4
              have hgx := Nat.lt_of_lt_of_le hgbl UX.size
              have hgp : ¬ gb = p := fun e => by subst e; exact ((own_ty PX.out.bo) _ rfl).1.ne (E' := 44) (by decide) (blk_ty PX.out.blk)
              have hgw : ¬ gb = wo.heap.size := by omega
              have C2 : Chg (fun j => j = gb) wx ((wx.setCell ⟨gb, P * 2, none⟩ (.int .i64 A)).setCell ⟨gb, P * 2 + 1, none⟩ (.int .i64 ((k : Int) + 1))) := (chg_set wx gb (P * 2) none _).set (.inl rfl) _ _ _
              have k0 := (C2.cell (b := p) (o := 0) pl' (fun e => hgp e.symm)).trans c0'
              have k2 := (C2.cell (b := wo.heap.size) (o := 2) bl (fun e => hgw e.symm)).trans b2
              have k4 := (C2.cell (b := wo.heap.size) (o := 4) bl (fun e => hgw e.symm)).trans b4
              have hPX : Hid (EngP wx p G3 { cr0 E with buf := redoK (lgE E) E.dsk k } (.slice (some ⟨gb, 0, none⟩) (redoK (lgE E) E.dsk k).length bc) (.slice da E.dsk.length dc) (.slice (some ⟨gl, 0, none⟩) (lgE E).length vc) (.slice none 0 0) (.slice (some ⟨W2.heap.size, 0, none⟩) E.dsk.length E.dsk.length)) := by unfold Hid; rw [hrl]; exact PX.out
              have FIN := Lib.hid (hPX.out.setB (v := A) (n := k + 1) (m := (k : Int) + 1) (by omega) hPl)
              have HMX := Lib.hid (hmv.up UX)
              have HCX := Lib.hid (HCH.out.trans (Below.chg (fun _ => False) UX) fun _ _ e => e.elim)
              have hFgb : G3 gb := PX.out.bF gb rfl
              have HCF : Hid (Chg F w ((wx.setCell ⟨gb, P * 2, none⟩ (.int .i64 A)).setCell ⟨gb, P * 2 + 1, none⟩ (.int .i64 ((k : Int) + 1)))) := HCX.out.trans FIN.out.2 fun j hj e => (HG3.out j e).elim id fun q => by omega
              have HMF : Hid (MV ((wx.setCell ⟨gb, P * 2, none⟩ (.int .i64 A)).setCell ⟨gb, P * 2 + 1, none⟩ (.int .i64 ((k : Int) + 1))) W3.heap.size m (endK (lgE E) k)) := HMX.out.chg C2 fun e => by have := HLT3.out gb hFgb; omega
              clear hwx UX BX C2 x0 x1 x2 x3 x4 hmv y1 y2 y3 y4 c0 pl
              go_region_held3 (fun w' => w'.cell? ⟨p, 0, none⟩ = some (.slice (some ⟨gb, 0, none⟩) E.dsk.length bc) ∧ w'.cell? ⟨wo.heap.size, 2, none⟩ = some (.int .i64 (P : Int)) ∧ w'.cell? ⟨wo.heap.size, 4, none⟩ = some (.int .i64 A)) (first | exact ⟨k0, k2, k4⟩ | go_keep) (fail)
              clear k0 k2 k4
              go_wp2
              go_roundw
              case rel => exact ⟨k + 1, j + 1, by omega, by omega, by go_num, by go_num, by rw [HRS.out]; have h9 := FIN.out.1.up ((Up.refl _).drew); rw [hrl] at h9; exact h9, ⟨m, by omega, by rw [HES.out]; exact HMF.out.up ((Up.refl _).drew)⟩, HCF.out.drew⟩
              case measure => simp [intOf]; omega
            · have hli : ¬ (pn : Int) < (k : Int) + 1 := by omega
              rw [if_neg hlsn] at HRS
              go_wp2
              go_quiet (fail)
              go_wp2
              go_roundw
              case rel => exact ⟨k + 1, j, by omega, by omega, by go_num, rfl, by rw [HRS.out]; exact HPK.out.up (((Up.refl wo).alloc _).drewN _), ⟨m, by omega, by rw [HES.out]; exact hmv.up (((Up.refl wo).alloc _).drewN _)⟩, (HCH.out.alloc _).drewN _⟩
              case measure => simp [intOf]; omega
        · obtain rfl : k = (lgE E).length := by omega
          have PK : Hid (EngP wo p G3 (cr1 E) (.slice ba E.dsk.length bc) (.slice da E.dsk.length dc) (.slice va (lgE E).length vc) (.slice none 0 0) (.slice (some ⟨W2.heap.size, 0, none⟩) E.dsk.length E.dsk.length)) := HPK.out
          have c2 := (PK.out.blk.at (i := 2) rfl).2
          have hpl := PK.out.blk.lt
          have HCL : Hid (Calls Try.prog 20 #[.slice va (lgE E).length vc] wo fun e w' => ∃ v', e = .returned v' ∧ w'.ownsRow wo.heap.size 50 5 v' (lgE E).length (reC (lgE E)) ∧ Up wo w') := cloneR (.slice va (lgE E).length vc) (lgE E).length (reC (lgE E)) wo (own_src PK.out.lo) (reC_one _) (by omega)
          have HLS := Lib.hid (fun k (hk : k ≤ (lgE E).length) => los_len (cr1 E) (endK (lgE E) (lgE E).length) k hk)
          have HBL : Hid ((cr1 E).buf.length = E.dsk.length) := redo_len _ _ _
          have HWS : Hid (W3.heap.size + 1 ≤ wo.heap.size) := by
            obtain ⟨m, _, D, hm, _⟩ := HMV.out
            exact hm.lt
          clear HPK ST STC MN
          go_wp2_with (first
            | (go_at_call 20; refine HCL.out.mono ?_; rintro e w4 ⟨v4, rfl, h41, h42⟩; obtain ⟨ra, rc, rfl, _, _, _⟩ := own_form h41; have R4 := Lib.hid h41; have U4 := Lib.hid h42; clear h41 h42)
            | fail)
          clear c2 hpl HCL
          have S4 : Hid (L2 p W3.heap.size F G3 w w4 w4 ra rc (lgE E) wo.heap.size (cr1 E, endK (lgE E) (lgE E).length) 0) := by
            obtain ⟨m, hm, hmv⟩ := HMV.out
            have e := PK.out.up U4.out
            refine ⟨⟨_, _, _, _, _, e.mono (fun k hk => .inl hk) fun k hk => ?_⟩, HCH.out.trans (Below.chg (fun _ => False) U4.out) fun _ _ e => e.elim, ⟨m, hm, hmv.up U4.out⟩, R4.out, Nat.le_refl _⟩
            rcases hk with q | q
            · exact e.lt k q
            · exact q.2
          have HG4 : Hid (∀ k, G3 k → k < w4.heap.size) := fun k hk => by have := HLT3.out k hk; have := HWS.out; have := U4.out.size; omega
          have HMB : Hid (¬ G3 W3.heap.size ∧ W3.heap.size < w4.heap.size ∧ w.heap.size ≤ W3.heap.size) := ⟨fun e => by have := HLT3.out _ e; omega, by have := HWS.out; have := U4.out.size; omega, hww⟩
          have HRB : Hid (∀ k, (Value.slice ra (lgE E).length rc).ownBlock = some k → ¬ G3 k ∧ k < w4.heap.size ∧ k ≠ W3.heap.size) := fun k hk => by
            have h1 := ((own_ty R4.out) k hk).2
            have h2 := own_lt R4.out k hk
            have h3 := HWS.out
            exact ⟨fun e => by have := HLT3.out _ e; omega, h2, by omega⟩
          have hw4 : w.heap.size ≤ w4.heap.size := by have := HMB.out; omega
          have hrcn : (lgE E).length ≤ 10000 := hl12
          clear PK HMV HCH R4 U4 HLT3 HWS
          go_loopw [9, 100] (fun _ kv wr => ∃ k : Nat, k ≤ (lgE E).length ∧ kv = .int .i64 k ∧ Hid (L2 p W3.heap.size F G3 w w4 wr ra rc (lgE E) wo.heap.size (losK (lgE E) (cr1 E, endK (lgE E) (lgE E).length) k) k)) (fun _ kv _ => (lgE E).length - (intOf kv).toNat)
          case atStart => exact ⟨0, by omega, rfl, S4.out⟩
          case round =>
            obtain ⟨k, hk, rfl, HS⟩ := hrel
            obtain ⟨wq, hwq⟩ : ∃ wq : World, wq = wr := ⟨_, rfl⟩
            rw [← hwq] at HS ⊢
            clear hwq
            by_cases hlt : k < (lgE E).length
            · have hki : (k : Int) < ((lgE E).length : Int) := by omega
              obtain ⟨gl, cl, hvl, _, _, hgl, hat, _⟩ := own_some HS.out.rw (by omega)
              simp only [Value.slice.injEq] at hvl
              obtain ⟨rfl, hkk, rfl⟩ := hvl
              clear hkk
              obtain ⟨q0, q1, q2, q3, q4⟩ := rg_cells (lgE E) k hlt
              have x0 := hat _ _ q0
              have x1 := hat _ _ q1
              have x2 := hat _ _ q2
              have x3 := hat _ _ q3
              have x4 := hat _ _ q4
              obtain ⟨_, htx⟩ := HRG.out k hlt
              have HLST := Lib.hid (los_succ (lgE E) (cr1 E, endK (lgE E) (lgE E).length) k)
              unfold lstep at HLST
              obtain ⟨hz1, hz2, X, hz3, hz4⟩ := HLS.out k (by omega)
              rw [show (cr1 E).log = lgE E from rfl] at hz1 hz2 hz3
              rw [HBL.out] at hz2
              clear hat q0 q1 q2 q3 q4
              generalize losK (lgE E) (cr1 E, endK (lgE E) (lgE E).length) k = S at *
              generalize rgK (lgE E) k = K at *
              generalize rgT (lgE E) k = T at *
              generalize rgP (lgE E) k = P at *
              generalize rgB (lgE E) k = B at *
              generalize rgA (lgE E) k = A at *
              have UQ : Up wq (wq.alloc (.cells #[.int .i64 (K : Int), .int .i64 (T : Int), .int .i64 (P : Int), .int .i64 B, .int .i64 A] 50)) := (Up.refl wq).alloc _
              obtain ⟨m, hmk, hmv⟩ := HS.out.mp
              have hlk := (hmv.up UQ).look (x := T) (by omega)
              by_cases hT : T ∈ S.2
              · rw [decide_eq_true hT] at hlk
                rw [if_pos hT] at HLST
                have HUQ := Lib.hid UQ
                clear UQ hmv hT
                go_wp2
                go_roundw
                case rel => exact ⟨k + 1, by omega, by go_num, by rw [HLST.out]; exact ⟨(HS.out.up HUQ.out).er, (HS.out.up HUQ.out).ch, by obtain ⟨m, h1, h2⟩ := (HS.out.up HUQ.out).mp; exact ⟨m, by omega, h2⟩, (HS.out.up HUQ.out).rw, (HS.out.up HUQ.out).sz⟩⟩
                case measure => simp [intOf]; omega
              · rw [decide_eq_false hT] at hlk
                rw [if_neg hT] at HLST
                obtain ⟨w5, r1, r2, r3⟩ := (hmv.up UQ).put (n := m) (by omega) (x := T) (by omega)
                have C5 := Lib.hid ((Chg.refl (fun k => k = W3.heap.size) _).grown r3 fun k hk => .inl (by cases hk; rfl))
                have M5 := Lib.hid r2
                have HUQ := Lib.hid UQ
                have X5 : Hid (Blk w5 wq.heap.size [.int .i64 (K : Int), .int .i64 (T : Int), .int .i64 (P : Int), .int .i64 B, .int .i64 A] 50) := (Blk.new wq _ _).chg C5.out fun e => by have := HS.out.sz; have := HMB.out; omega
                have t5 := (X5.out.at (i := 1) rfl).2
                have tl5 := X5.out.lt
                have E5 : Hid (EngR w5 p S.1 (Fx G3 w4 wq)) := (HS.out.er.up HUQ.out).chg C5.out fun j hj e => by
                  subst e
                  rcases hj with q | q
                  · exact HMB.out.1 q
                  · have := HMB.out; omega
                have HUN : Hid (Calls Try.prog 22 #[.pointer (some ⟨p, 0, none⟩), .int .i64 (T : Int)] w5 fun e w' => e = .returned (.tuple #[]) ∧ EngPost p (undoE S.1 T) (Fx G3 w4 wq) w5 w') := undo_any p S.1 _ T w5 E5.out (by omega) (fun r hr e => by
                  rw [hz3] at hr
                  rw [hz2]
                  rcases List.mem_append.1 hr with h | h
                  · exact HCR.out.pg r (List.mem_of_mem_take h) (by omega)
                  · exact absurd e (hz4 r h))
                have HLU : Hid ((undoE S.1 T).log.length ≤ 90000) := by
                  obtain ⟨Y, y1, _, y3⟩ := undo_adds S.1 T
                  have : cnt S.1.log T ≤ S.1.log.length := List.countP_le_length
                  unfold Hid
                  rw [y1.log, List.length_append]
                  omega
                have HAP : Hid (∀ W (F' : Nat → Prop), EngR W p (undoE S.1 T) F' → Calls Try.prog 23 #[.pointer (some ⟨p, 0, none⟩), .agg #[.int .i64 3, .int .i64 (T : Int), .int .i64 0, .int .i64 0, .int .i64 0]] W fun e w' => e = .returned (.tuple #[]) ∧ EngPost p (appE (undoE S.1 T) ⟨3, T, 0, 0, 0⟩) F' W w') := fun W F' h => append_any p (undoE S.1 T) F' ⟨3, T, 0, 0, 0⟩ W h (by have := HLU.out; omega) (fun e => absurd rfl e)
                clear hmv r2 r3 UQ hT hz3 hz4 hz1 hz2
                generalize undoE S.1 T = E2 at *
                go_wp2_with (first
                  | (go_at_call 23; refine (HAP.out _ _ H6.out.1).mono ?_; rintro e w7 ⟨rfl, h7⟩; have H7 := Lib.hid h7; clear h7)
                  | (go_at_call 22; refine HUN.out.mono ?_; rintro e w6 ⟨rfl, h6⟩; have H6 := Lib.hid h6
                     have X6 := Lib.hid (X5.out.chg h6.2 fun e => by have := HS.out.sz; rcases e with q | q; have := HG4.out _ q; omega; omega)
                     have t6 := (X6.out.at (i := 1) rfl).2
                     have tl6 := X6.out.lt
                     clear h6)
                  | fail)
                go_roundw
                case rel => exact ⟨k + 1, by omega, by go_num, by rw [HLST.out]; exact HS.out.next HUQ.out HG4.out HMB.out HRB.out HG3.out hw4 hmk C5.out M5.out H6.out H7.out⟩
                case measure => simp [intOf]; omega
            · obtain rfl : k = (lgE E).length := by omega
              obtain ⟨hz1, _, X, hz3, _⟩ := HLS.out (lgE E).length (by omega)
              rw [show (cr1 E).log = lgE E from rfl] at hz1 hz3
              have HC2 : Hid (losK (lgE E) (cr1 E, endK (lgE E) (lgE E).length) (lgE E).length = cr2 E) := rfl
              rw [HC2.out] at HS hz1 hz3
              have HCE : Hid (crE E = { (cr2 E).1 with fl := (cr2 E).1.log.length }) := rfl
              have HUD : Hid (undone E = cmp2 ((cr2 E).1.log.drop (lgE E).length)) := rfl
              have HCH2 := Lib.hid HS.out.ch
              have HFX : Hid (∀ k, Fx G3 w4 wq k → F k ∨ w.heap.size ≤ k) := fun k hk => by
                rcases hk with q | q
                · exact HG3.out k q
                · exact .inr (by omega)
              obtain ⟨bv2, dv2, lv2, av2, wv2, e2⟩ := HS.out.er
              clear HS HLS HRG HC2
              generalize cr2 E = S2 at *
              obtain ⟨E2, V2⟩ := S2
              simp only at e2 hz1 hz3 HCE HUD
              obtain ⟨la2, lc2, rfl, hn1, hn2, _⟩ := own_form e2.lo
              have hNn : (lgE E).length ≤ E2.log.length := by rw [hz3, List.length_append]; omega
              have c2 := (e2.blk.at (i := 2) rfl).2
              have hpl := e2.blk.lt
              have P2 := Lib.hid e2
              have hb1 : ((lgE E).length : Int) ≤ (E2.log.length : Int) := by omega
              have hb2 : ((lgE E).length : Int) ≤ (lc2 : Int) := by omega
              clear hz3 e2
              generalize hn : (lgE E).length = n at *
              clear hn
              obtain ⟨N, hN⟩ : ∃ N, N = E2.log.length - n := ⟨_, rfl⟩
              have HN := Lib.hid hN
              have hNi : (E2.log.length : Int) - (n : Int) = (N : Int) := by omega
              have hN3 : N ≤ 40000 := by omega
              have HALL : Hid (cmp2 ((E2.log.drop n).take N) = cmp2 (E2.log.drop n)) := by unfold Hid; rw [List.take_of_length_le (by rw [List.length_drop]; omega)]
              have hNN : (E2.log.length - n : Nat) = N := hN.symm
              clear hN
              by_cases hcap : lc2 = n
              · have hN0 : N = 0 := by omega
                have hNlen : E2.log.length = n := by omega
                rw [hcap, hNlen] at c2
                have hnn : ¬ n < n := Nat.lt_irrefl n
                clear hcap hb1 hb2 hn1 hn2 hNi hNN
                have HNL := Lib.hid hNlen
                go_wp2
                go_loopw [3, 11, 129] (fun v3 _ kv wr => kv = .int .i64 0 ∧ v3 = .int .i64 0 ∧ Hid (Up wq wr)) (fun _ _ _ _ => 0)
                case atStart => exact ⟨rfl, rfl, Up.refl _⟩
                case round =>
                  obtain ⟨rfl, rfl, HU⟩ := hrel
                  obtain ⟨wz, hwz⟩ : ∃ wz : World, wz = wr := ⟨_, rfl⟩
                  rw [← hwz] at HU ⊢
                  clear hwz c2 hpl
                  have c2 := ((P2.out.up HU.out).blk.at (i := 2) rfl).2
                  have c3 := ((P2.out.up HU.out).blk.at (i := 3) rfl).2
                  have f3 := (P2.out.up HU.out).blk.free 3
                  have pl := (P2.out.up HU.out).blk.lt
                  rw [hNlen] at c2
                  clear hNlen
                  go_wp2
                  go_ret2
                  have h0 : undone E = 0 := by rw [HUD.out, ← HALL.out, hN0]; rfl
                  refine ⟨j, by rw [h0]; rfl, ?_⟩
                  rw [HCE.out, HNL.out]
                  have hpf := (P2.out.up HU.out).putFl n
                  refine EngP.fx hpf ((HCH2.out.trans (Below.chg (fun _ => False) HU.out) fun _ _ e => e.elim).set (by rcases HFX.out p P2.out.fp with q | q; exact .inl q; exact .inr q) _ _ _) HLT.out fun k hk => ?_
                  rcases HFX.out k hk with q | q
                  · exact .inl q
                  · exact .inr ⟨q, by simpa [World.setCell] using Nat.lt_of_lt_of_le (P2.out.lt k hk) HU.out.size⟩
              · have hcap2 : ¬ (n : Nat) = lc2 := fun e => hcap e.symm
                rcases own_ptr P2.out.lo with ⟨_, _, e3⟩ | ⟨g, rfl⟩
                · omega
                · go_wp2
                  go_loopw [3, 11, 129] (fun v3 _ kv wr => ∃ k : Nat, k ≤ N ∧ kv = .int .i64 k ∧ v3 = .int .i64 (cmp2 ((E2.log.drop n).take k) : Int) ∧ Hid (Up wq wr)) (fun _ _ kv _ => N - (intOf kv).toNat)
                  case atStart => exact ⟨0, by omega, rfl, rfl, Up.refl _⟩
                  case round =>
                    obtain ⟨k, hk, rfl, rfl, HU⟩ := hrel
                    obtain ⟨wz, hwz⟩ : ∃ wz : World, wz = wr := ⟨_, rfl⟩
                    rw [← hwz] at HU ⊢
                    clear hwz
                    by_cases hlt : k < N
                    · have hki : (k : Int) < (N : Int) := by omega
                      have hnk : n + k < E2.log.length := by have := HN.out; omega
                      obtain ⟨g', cl, hvl, _, _, hgl, hat, _⟩ := own_some (P2.out.up HU.out).lo (by show 0 < E2.log.length; omega)
                      simp only [Value.slice.injEq, Option.some.injEq, Addr.mk.injEq, and_true, true_and] at hvl
                      obtain ⟨rfl, rfl⟩ := hvl
                      obtain ⟨q0, q1, q2, q3, q4⟩ := rg_cells E2.log (n + k) hnk
                      rw [Nat.add_mul] at q0 q1 q2 q3 q4
                      have x0 := hat _ _ q0
                      have x1 := hat _ _ q1
                      have x2 := hat _ _ q2
                      have x3 := hat _ _ q3
                      have x4 := hat _ _ q4
                      have HCS := Lib.hid (cmp2_succ E2.log n k hnk)
                      have hcl : cmp2 ((E2.log.drop n).take k) ≤ 40000 := Nat.le_trans (cmp2_le _) (by rw [List.length_take, List.length_drop]; omega)
                      clear hat q0 q1 q2 q3 q4
                      generalize cmp2 ((E2.log.drop n).take k) = cc at *
                      generalize rgK E2.log (n + k) = K at *
                      generalize rgT E2.log (n + k) = T at *
                      generalize rgP E2.log (n + k) = P at *
                      generalize rgB E2.log (n + k) = B at *
                      generalize rgA E2.log (n + k) = A at *
                      by_cases hK : K = 2
                      · subst hK
                        have HCC : Hid (cmp2 ((E2.log.drop n).take (k + 1)) = cc + 1) := by unfold Hid; rw [HCS.out]; simp
                        go_wp2
                        go_roundw
                        case rel => exact ⟨k + 1, by omega, by go_num, by rw [HCC.out]; go_num, HU.out.alloc _⟩
                        case measure => simp [intOf]; omega
                      · have hKi : ¬ (K : Int) = 2 := by omega
                        have hKb : ((K : Int) == 2) = false := beq_eq_false_iff_ne.2 hKi
                        have HCC : Hid (cmp2 ((E2.log.drop n).take (k + 1)) = cc) := by unfold Hid; rw [HCS.out]; simp [hK]
                        go_wp2
                        go_roundw
                        case rel => exact ⟨k + 1, by omega, by go_num, by rw [HCC.out], HU.out.alloc _⟩
                        case measure => simp [intOf]; omega
                    · obtain rfl : k = N := by omega
                      have c2 := ((P2.out.up HU.out).blk.at (i := 2) rfl).2
                      have c3 := ((P2.out.up HU.out).blk.at (i := 3) rfl).2
                      have f3 := (P2.out.up HU.out).blk.free 3
                      have pl := (P2.out.up HU.out).blk.lt
                      go_wp2
                      go_ret2
                      refine ⟨j, by rw [HUD.out, ← HALL.out]; rfl, ?_⟩
                      rw [HCE.out]
                      have hpf := (P2.out.up HU.out).putFl E2.log.length
                      refine EngP.fx hpf ((HCH2.out.trans (Below.chg (fun _ => False) HU.out) fun _ _ e => e.elim).set (by rcases HFX.out p P2.out.fp with q | q; exact .inl q; exact .inr q) _ _ _) HLT.out fun k hk => ?_
                      rcases HFX.out k hk with q | q
                      · exact .inl q
                      · exact .inr ⟨q, by simpa [World.setCell] using Nat.lt_of_lt_of_le (P2.out.lt k hk) HU.out.size⟩
end Go.Proofs.Ytjalpppmgoepiaa.Rv
