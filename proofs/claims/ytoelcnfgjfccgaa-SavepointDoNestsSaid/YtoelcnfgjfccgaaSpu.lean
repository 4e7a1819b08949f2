/- SavepointDoNests: the functions, and the walk. -/
import Derived.Test.YtoelcnfgjfccgaaSpt
namespace Go.Proofs.Ytoelcnfgjfccgaa.Sp
open Go Go.RowKit Hp So
set_option linter.unusedVariables false

/-- The inner function. -/
def X25i (r : Int) (W w' : World) : Prop := r = 13
set_option maxRecDepth 100000 in
set_option maxHeartbeats 2000000 in
theorem fn25i (p : Nat) (l : Ws) (F : Nat → Prop) (bi : Nat) (a : Option Addr) (len cap : Nat) (zs : List Int) (w0 W : World) (h : TxR W p l [] F) (hE : Elems w0 a len zs) (hc1 : len ≤ cap) (hc2 : cap ≤ 9223372036854775807) (hu : Up w0 W) (hF : ∀ k, F k → w0.heap.size ≤ k) (hi : At W bi 0 (.slice a len cap)) :
    Calls Try.prog 31 #[.pointer (some ⟨p, 0, none⟩), .pointer (some ⟨bi, 0, none⟩)] W (FnPost p F (fun _ => False) X25i False W) := by
  have x1 := hi.2
  have HM := Lib.hid (modify_any p l [] F a len cap zs w0 W h hE hc1 hc2 hu hF)
  go_enter Try.func31, Try.ntmps31
  go_wp2_with (first
    | (go_at_call 23; refine HM.out.mono ?_; rintro e w2 ⟨rfl, h2⟩; have H2 := Lib.hid h2; clear h2)
    | fail)
  go_ret
  exact ⟨.inl ⟨13, rfl, rfl⟩, ⟨_, _, H2.out.1⟩, H2.out.2.mono fun _ _ e => .inl e⟩
theorem do25i (p : Nat) (l : Ws) (F : Nat → Prop) (bi : Nat) (a : Option Addr) (len cap : Nat) (zs : List Int) (w0 w : World) (h : TxR w p l [] F) (hE : Elems w0 a len zs) (hc1 : len ≤ cap) (hc2 : cap ≤ 9223372036854775807) (hu : Up w0 w) (hF : ∀ k, F k → w0.heap.size ≤ k) (hi : At w bi 0 (.slice a len cap)) :
    Calls Try.prog 29 #[.pointer (some ⟨p, 0, none⟩), .func (.func 31) #[] #[.pointer (some ⟨bi, 0, none⟩)]] w
      fun e w' => e = .returned (.int .i64 13) ∧ TxR w' p l [] (Fx F w w') ∧ Chg F w w' := by
  refine (do_any p l F (fun _ => False) 31 #[.pointer (some ⟨bi, 0, none⟩)] X25i False w h (fun _ e => e.elim) Try.call31
    fun W hW => fn25i p l F bi a len cap zs w0 W (h.up hW) hE hc1 hc2 (hu.trans hW) hF (hi.grow hW)).mono ?_
  rintro e w' (⟨W, w1, rfl, _, hx, _⟩ | ⟨⟨r, rfl, hr, hx⟩, h1, h2⟩)
  · cases hx
  · rcases hx with ⟨W, w1, hx⟩ | ⟨hy, _⟩
    · cases hx; exact ⟨rfl, h1, chg_ff h2⟩
    · exact hy.elim
/-- The outer function. -/
def X25 (p bn : Nat) (l' : Ws) (F : Nat → Prop) (r : Int) (W w' : World) : Prop := r = 0 ∧ TxR w' p l' [] (Fx F W w') ∧ Chg (fun k => F k ∨ k = bn) W w' ∧ Blk w' bn [.int .i64 13] 25
set_option maxRecDepth 100000 in
set_option maxHeartbeats 2000000 in
theorem fn25 (p : Nat) (l : Ws) (F : Nat → Prop) (bo bi bn : Nat) (a : Option Addr) (len cap : Nat) (zs : List Int) (a3 : Option Addr) (len3 cap3 : Nat) (z3 : List Int) (x0 : Int) (w0 W : World) (h : TxR W p l [] F) (hE : Elems w0 a len zs) (hc1 : len ≤ cap) (hc2 : cap ≤ 9223372036854775807)
    (hE3 : Elems w0 a3 len3 z3) (hc3 : len3 ≤ cap3) (hc4 : cap3 ≤ 9223372036854775807) (hu : Up w0 W) (hF : ∀ k, F k → w0.heap.size ≤ k) (ho : At W bo 0 (.slice a len cap)) (hi : At W bi 0 (.slice a3 len3 cap3)) (hn : Blk W bn [.int .i64 x0] 25) (no : ¬ F bo) (ni : ¬ F bi) (nn : ¬ F bn) :
    Calls Try.prog 30 #[.pointer (some ⟨p, 0, none⟩), .pointer (some ⟨bo, 0, none⟩), .pointer (some ⟨bi, 0, none⟩), .pointer (some ⟨bn, 0, none⟩)] W (FnPost p F (fun k => k = bn) (X25 p bn (modL l (opsOf zs len)) F) False W) := by
  have x1 := ho.2
  have H := Lib.hid h
  have HU := Lib.hid hu
  have HF := Lib.hid hF
  have HM := Lib.hid (modify_any p l [] F a len cap zs w0 W h hE hc1 hc2 hu hF)
  have HE3 := Lib.hid hE3
  have HI := Lib.hid hi
  have HN := Lib.hid hn
  have hmf : ∀ (fn : Fn) (first cap : Array Value) (w : World), (Instr.makeFunc fn first cap).run Try.prog w = .ok (.func fn first cap) w := fun _ _ _ _ => rfl
  clear h hu hF hE hE3 ho hi hn
  go_enter Try.func30, Try.ntmps30
  go_wp2_with (first
    | (go_at_call 29; refine (do25i p _ (Fx F W w2) bi a3 len3 cap3 z3 w0 w2 H2.out.1 HE3.out hc3 hc4 HU2.out HF2.out HI2.out).mono ?_; rintro e w3 ⟨rfl, h3⟩; have H3 := Lib.hid (TxR.two H.out.lt H2.out.2 h3); have HN3 := Lib.hid (HN.out.chg H3.out.2 nn); have e0 := HN3.out.cell 0; rw [show ([Value.int .i64 x0])[0]? = some (.int .i64 x0) from rfl] at e0; have e1 := HN3.out.free 0; clear h3)
    | (go_at_call 23; refine HM.out.mono ?_; rintro e w2 ⟨rfl, h2⟩; have H2 := Lib.hid h2; have HU2 : Hid (Up w0 w2) := ((HU.out.chg fun _ => False).trans h2.2 fun j hj e => by have := HF.out j e; omega).up fun _ _ e => e; have HF2 : Hid (∀ k, Fx F W w2 k → w0.heap.size ≤ k) := (fun k hk => by rcases hk with hk | hk; exact HF.out k hk; have := HU.out.size; omega); have HI2 := Lib.hid (HI.out.chg h2.2 ni); have x2 := HI2.out.2; clear h2)
    | fail)
  go_ret
  have hB := HN3.out.set 0 (.int .i64 13)
  have hC : Chg (fun k => F k ∨ k = bn) W (w3.setCell ⟨bn, 0, none⟩ (.int .i64 13)) := H3.out.2.or (chg_set w3 bn 0 none (.int .i64 13))
  have hbn : bn < W.heap.size := HN.out.lt
  have hT : TxR (w3.setCell ⟨bn, 0, none⟩ (.int .i64 13)) p (modL l (opsOf zs len)) [] (Fx F W (w3.setCell ⟨bn, 0, none⟩ (.int .i64 13))) := (H3.out.1.chg (chg_set w3 bn 0 none (.int .i64 13)) fun k hk e => by
    subst e
    rcases hk with hk | hk
    · exact nn hk
    · omega).mono (fun k hk => by
      have hz : (w3.setCell ⟨bn, 0, none⟩ (.int .i64 13)).heap.size = w3.heap.size := by simp [World.setCell]
      unfold Fx at hk ⊢
      rw [hz]; exact hk) (fx_lt H.out.lt hC.size)
  exact ⟨.inl ⟨0, rfl, rfl, hT, hC, hB⟩, ⟨_, _, hT⟩, hC⟩
theorem do25 (p : Nat) (l : Ws) (F : Nat → Prop) (bo bi bn : Nat) (a : Option Addr) (len cap : Nat) (zs : List Int) (a3 : Option Addr) (len3 cap3 : Nat) (z3 : List Int) (x0 : Int) (w0 w : World) (h : TxR w p l [] F) (hE : Elems w0 a len zs) (hc1 : len ≤ cap) (hc2 : cap ≤ 9223372036854775807)
    (hE3 : Elems w0 a3 len3 z3) (hc3 : len3 ≤ cap3) (hc4 : cap3 ≤ 9223372036854775807) (hu : Up w0 w) (hF : ∀ k, F k → w0.heap.size ≤ k) (ho : At w bo 0 (.slice a len cap)) (hi : At w bi 0 (.slice a3 len3 cap3)) (hn : Blk w bn [.int .i64 x0] 25) (no : ¬ F bo) (ni : ¬ F bi) (nn : ¬ F bn) :
    Calls Try.prog 29 #[.pointer (some ⟨p, 0, none⟩), .func (.func 30) #[] #[.pointer (some ⟨bo, 0, none⟩), .pointer (some ⟨bi, 0, none⟩), .pointer (some ⟨bn, 0, none⟩)]] w
      fun e w' => e = .returned (.int .i64 0) ∧ TxR w' p (modL l (opsOf zs len)) [] (Fx F w w') ∧ Chg (fun k => F k ∨ k = bn) w w' ∧ Blk w' bn [.int .i64 13] 25 := by
  have hnl := hn.lt
  refine (do_any p l F (fun k => k = bn) 30 #[.pointer (some ⟨bo, 0, none⟩), .pointer (some ⟨bi, 0, none⟩), .pointer (some ⟨bn, 0, none⟩)] (X25 p bn (modL l (opsOf zs len)) F) False w h (fun k e => by subst e; exact hnl) Try.call30
    fun W hW => fn25 p l F bo bi bn a len cap zs a3 len3 cap3 z3 x0 w0 W (h.up hW) hE hc1 hc2 hE3 hc3 hc4 (hu.trans hW) hF (ho.grow hW) (hi.grow hW) (hn.up hW) no ni nn).mono ?_
  rintro e w' (⟨W, w1, rfl, hUW, ⟨_, hT, hC, hB⟩, _, hC2⟩ | ⟨⟨r, rfl, hr, hx⟩, h1, h2⟩)
  · have hz := hC.size
    have hz2 := hC2.size
    have hzW := hUW.size
    refine ⟨rfl, (hT.chg hC2 fun k hk e => ?_).mono (fun k hk => ?_) (fx_lt h.lt (by omega)), ((hUW.chg fun k => F k ∨ k = bn).trans hC fun _ _ e => e).trans hC2 fun k hk e => by omega, hB.chg hC2 fun e => by omega⟩
    · rcases hk with hk | hk
      · have := h.lt k hk; omega
      · omega
    · rcases hk with hk | hk
      · exact .inl hk
      · exact .inr ⟨by omega, by omega⟩
  · rcases hx with ⟨W, w1, hx, _⟩ | ⟨hy, _⟩
    · exact absurd hx hr
    · exact hy.elim
theorem St2.stepTS {w wr w2 : World} {p q b : Nat} {l l' : Ws} {sp sp' : List Ws} {lu : Ws} {F G : Nat → Prop} (h : St2 w wr p q l sp lu F G) (k : TxR w2 p l' sp' (Fx F wr w2)) (hc : Chg (fun k => F k ∨ k = b) wr w2) (hb : ¬ G b) (hb2 : w.heap.size ≤ b) : St2 w w2 p q l' sp' lu (Fx F wr w2) G :=
  ⟨k, h.u.chg hc fun j hj e => by
    rcases e with e | e
    · exact h.dis j e hj
    · subst e; exact hb hj, fun j hj e => by
    rcases hj with hj | hj
    · exact h.dis j hj e
    · have := h.u.lt j e; omega, fun j hj => by
    rcases hj with hj | hj
    · exact h.fF j hj
    · have := h.up.size; omega, h.fG, ((h.up.chg fun _ => False).trans hc fun j hj e => by
      rcases e with e | e
      · have := h.fF j e; omega
      · omega).up fun _ _ e => e⟩
set_option maxRecDepth 100000 in
set_option maxHeartbeats 4000000 in
theorem walk25 (a2 : Option Addr) (len2 cap2 : Nat) (z2 : List Int) (a3 : Option Addr) (len3 cap3 : Nat) (z3 : List Int) (a4 : Option Addr) (len4 cap4 : Nat) (z4 : List Int) (w : World) (hE : Elems w a2 len2 z2) (hl : len2 ≤ cap2) (hm : cap2 ≤ 9223372036854775807)
    (hE3 : Elems w a3 len3 z3) (hl3 : len3 ≤ cap3) (hm3 : cap3 ≤ 9223372036854775807) (hE4 : Elems w a4 len4 z4) (hl4 : len4 ≤ cap4) (hm4 : cap4 ≤ 9223372036854775807) :
    Calls Try.prog 8 #[.slice a2 len2 cap2, .slice a3 len3 cap3, .slice a4 len4 cap4] w fun e w' => e = .returned (.bool true) ∧ Up w w' := by
  have hmf : ∀ (fn : Fn) (first cap : Array Value) (w : World), (Instr.makeFunc fn first cap).run Try.prog w = .ok (.func fn first cap) w := fun _ _ _ _ => rfl
  obtain ⟨W0, hW0⟩ : ∃ W, W = (w.alloc (.cells #[.slice a3 len3 cap3] 22)).alloc (.cells #[.slice a4 len4 cap4] 22) := ⟨_, rfl⟩
  have U0 : Hid (Up w W0) := by rw [hW0]; exact ((Up.refl w).alloc _).alloc _
  have BO : Hid (At W0 w.heap.size 0 (.slice a3 len3 cap3)) := by rw [hW0]; exact (At.new w _ _ 0 _ rfl).grow ((Up.refl _).alloc _)
  have BI : Hid (At W0 (w.heap.size + 1) 0 (.slice a4 len4 cap4)) := by rw [hW0]; have h := (At.new (w.alloc (.cells #[.slice a3 len3 cap3] 22)) #[.slice a4 len4 cap4] 22 0 _ rfl); rw [World.size_alloc] at h; exact h
  have HE := Lib.hid (elems_up hE U0.out)
  have HE3 := Lib.hid (elems_up hE3 U0.out)
  have HE4 := Lib.hid (elems_up hE4 U0.out)
  have HZ : Hid (w.heap.size + 2 ≤ W0.heap.size) := by rw [hW0]; show _ ≤ _; simp
  have HW0 := Lib.hid hW0
  obtain ⟨L, hL⟩ : ∃ L, L = modL [] ((List.range (min len2 60)).map fun i => z2.getD i 0) := ⟨_, rfl⟩
  have HLK : Hid (WOk L) := by rw [hL]; exact modL_ok WOk.nil _
  have HLE := Lib.hid hL
  obtain ⟨M, hM⟩ : ∃ M, M = modL L ((List.range (min len3 60)).map fun i => z3.getD i 0) := ⟨_, rfl⟩
  have HMK : Hid (WOk M) := by rw [hM]; exact modL_ok HLK.out _
  have HME := Lib.hid hM
  have hM2 : modL L (opsOf z3 len3) = M := hM.symm
  have DO : Hid (∀ (W : World) (p bn : Nat) (F : Nat → Prop), Up W0 W → TxR W p L [] F → (∀ k, F k → W0.heap.size ≤ k) → Blk W bn [.int .i64 0] 25 → ¬ F bn → Calls Try.prog 29 #[.pointer (some ⟨p, 0, none⟩), .func (.func 30) #[] #[.pointer (some ⟨w.heap.size, 0, none⟩), .pointer (some ⟨w.heap.size + 1, 0, none⟩), .pointer (some ⟨bn, 0, none⟩)]] W fun e w' => e = .returned (.int .i64 0) ∧ TxR w' p M [] (Fx F W w') ∧ Chg (fun k => F k ∨ k = bn) W w' ∧ Blk w' bn [.int .i64 13] 25) := fun W p bn F hu h hF hb hn => by
    have := do25 p L F w.heap.size (w.heap.size + 1) bn a3 len3 cap3 z3 a4 len4 cap4 z4 0 W0 W h HE3.out hl3 hm3 HE4.out hl4 hm4 hu hF (BO.out.grow hu) (BI.out.grow hu) hb (fun e => by have := hF _ e; have := HZ.out; omega) (fun e => by have := hF _ e; have := HZ.out; omega) hn
    rwa [hM2] at this
  clear hL hM hM2 hE hE3 hE4 hW0
  go_enter Try.func8, Try.ntmps8
  go_wp2_with (fail)
  have hw := HW0.out
  rw [← hw]
  clear hw
  go_wp2_with (first
    | (go_at_call 26; refine (equalE_same _ _ M _ ((own_src HB.out).up U10.out) (own_src HD.out) HMK.out.len).mono ?_; rintro e w11 ⟨rfl, h5⟩; have S11 := Lib.hid (S10.out.grow h5); clear h5)
    | (go_at_call 24; have tok := HB; refine (all_any q M [] _ _ S9.out.u).mono ?_; rintro e w10 ⟨vd, rfl, h5, h6⟩; obtain ⟨ad, cd, rfl, _, _, _⟩ := own_form h5; have HD := Lib.hid h5; have U10 := Lib.hid h6; have S10 := Lib.hid (S9.out.grow h6); clear h5 h6 tok)
    | (go_at_call 24; refine (all_any p M [] _ _ S8.out.t).mono ?_; rintro e w9 ⟨vb, rfl, h5, h6⟩; obtain ⟨ab, cb, rfl, _, _, _⟩ := own_form h5; have HB := Lib.hid h5; have S9 := Lib.hid (S8.out.grow h6); clear h5 h6)
    | (go_at_call 23; refine (modify_any q L [] _ a3 len3 cap3 z3 W0 _ S7.out.u HE3.out hl3 hm3 S7.out.up S7.out.fG).mono ?_; rw [← HME.out]; rintro e w8 ⟨rfl, h4⟩; have S8 := Lib.hid (S7.out.stepU h4); have y1 := (BN7.out.chg h4.2 NG.out).cell 0; rw [show ([Value.int .i64 13])[0]? = some (.int .i64 13) from rfl] at y1; clear h4)
    | (go_at_call 29; refine (DO.out _ p w5.heap.size _ (S5.out.grow ((Up.refl w5).alloc _)).up (S5.out.grow ((Up.refl w5).alloc _)).t S5.out.fF (Blk.new w5 _ _) NF.out).mono ?_; rintro e w7 ⟨rfl, h7, h8, h9⟩; have S7 := Lib.hid ((S5.out.grow ((Up.refl w5).alloc _)).stepTS h7 h8 NG.out S5.out.up.size); have BN7 := Lib.hid h9; have x1 := (BO.out.grow S7.out.up).2; clear h7 h8 h9)
    | (go_at_call 23; refine (modify_any q [] [] _ a2 len2 cap2 z2 W0 _ S4.out.u HE.out hl hm S4.out.up S4.out.fG).mono ?_; rw [← HLE.out]; rintro e w5 ⟨rfl, h4⟩; have S5 := Lib.hid (S4.out.stepU h4); have NF := Lib.hid (fun e => Nat.lt_irrefl _ (S5.out.t.lt w5.heap.size e)); have NG := Lib.hid (fun e => Nat.lt_irrefl _ (S5.out.u.lt w5.heap.size e)); clear h4)
    | (go_at_call 23; refine (modify_any p [] [] _ a2 len2 cap2 z2 W0 _ S3.out.t HE.out hl hm S3.out.up S3.out.fF).mono ?_; rw [← HLE.out]; rintro e w4 ⟨rfl, h4⟩; have S4 := Lib.hid (S3.out.stepT h4); clear h4)
    | (go_at_call 22; have tok := H2; refine (new_any _ [] _ (src_nil _) WOk.nil).mono ?_; rintro e w3 ⟨q, rfl, h4, h5⟩; have S3 := Lib.hid (St2.start H1.out H2.out H3.out h4 h5); clear h4 h5 tok)
    | (go_at_call 22; refine (new_any _ [] _ (src_nil _) WOk.nil).mono ?_; rintro e w2 ⟨p, rfl, h2, h3⟩; have H2 := Lib.hid h2; have H3 := Lib.hid h3; clear h2 h3)
    | (go_at_call 21; refine (works_any _).mono ?_; rintro e w1 ⟨rfl, h1⟩; have H1 := Lib.hid h1; clear h1)
    | fail)
  go_ret
  exact ⟨rfl, U0.out.trans S11.out.up⟩
end Go.Proofs.Ytoelcnfgjfccgaa.Sp
