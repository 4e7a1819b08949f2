/- SavepointDoUndoesFailures: the walk. -/
import Derived.Test.YtoelcnfgjfccgaaSps
namespace Go.Proofs.Ytoelcnfgjfccgaa.Sp
open Go Go.RowKit Hp So
set_option linter.unusedVariables false

/-- Two workspaces, apart. -/
structure St2 (w wr : World) (p q : Nat) (l : Ws) (sp : List Ws) (lu : Ws) (F G : Nat → Prop) : Prop where
  t : TxR wr p l sp F
  u : TxR wr q lu [] G
  dis : ∀ k, F k → ¬ G k
  fF : ∀ k, F k → w.heap.size ≤ k
  fG : ∀ k, G k → w.heap.size ≤ k
  up : Up w wr
theorem St2.grow {w wr w2 : World} {p q : Nat} {l : Ws} {sp : List Ws} {lu : Ws} {F G : Nat → Prop} (h : St2 w wr p q l sp lu F G) (hu : Up wr w2) : St2 w w2 p q l sp lu F G := ⟨h.t.up hu, h.u.up hu, h.dis, h.fF, h.fG, h.up.trans hu⟩
theorem St2.stepT {w wr w2 : World} {p q : Nat} {l l' : Ws} {sp sp' : List Ws} {lu : Ws} {F G : Nat → Prop} (h : St2 w wr p q l sp lu F G) (k : TxR w2 p l' sp' (Fx F wr w2) ∧ Chg F wr w2) : St2 w w2 p q l' sp' lu (Fx F wr w2) G :=
  ⟨k.1, h.u.chg k.2 fun j hj e => h.dis j e hj, fun j hj e => by
    rcases hj with hj | hj
    · exact h.dis j hj e
    · have := h.u.lt j e; omega, fun j hj => by
    rcases hj with hj | hj
    · exact h.fF j hj
    · have := h.up.size; omega, h.fG, ((h.up.chg fun _ => False).trans k.2 fun j hj e => by have := h.fF j e; omega).up fun _ _ e => e⟩
theorem St2.stepU {w wr w2 : World} {p q : Nat} {l : Ws} {sp : List Ws} {lu lu' : Ws} {F G : Nat → Prop} (h : St2 w wr p q l sp lu F G) (k : TxR w2 q lu' [] (Fx G wr w2) ∧ Chg G wr w2) : St2 w w2 p q l sp lu' F (Fx G wr w2) :=
  ⟨h.t.chg k.2 fun j hj e => h.dis j hj e, k.1, fun j hj e => by
    rcases e with e | e
    · exact h.dis j hj e
    · have := h.t.lt j hj; omega, h.fF, fun j hj => by
    rcases hj with hj | hj
    · exact h.fG j hj
    · have := h.up.size; omega, ((h.up.chg fun _ => False).trans k.2 fun j hj e => by have := h.fG j e; omega).up fun _ _ e => e⟩
theorem St2.start {w w1 w2 w3 : World} {p q : Nat} (h0 : Up w w1) (h1 : TxR w2 p [] [] (fun j => w1.heap.size ≤ j ∧ j < w2.heap.size)) (u1 : Up w1 w2) (h2 : TxR w3 q [] [] (fun j => w2.heap.size ≤ j ∧ j < w3.heap.size)) (u2 : Up w2 w3) :
    St2 w w3 p q [] [] [] (fun j => w1.heap.size ≤ j ∧ j < w2.heap.size) (fun j => w2.heap.size ≤ j ∧ j < w3.heap.size) :=
  ⟨h1.up u2, h2, fun k a b => by omega, fun k a => by have := h0.size; omega, fun k a => by have := h0.size; have := u1.size; omega, (h0.trans u1).trans u2⟩
theorem own_keep {w5 w6 w7 : World} {v : Value} {l : Ws} {F : Nat → Prop} (h : w6.ownsRow w5.heap.size 48 2 v l.length (ec l)) (hF : ∀ k, F k → k < w5.heap.size ∨ w6.heap.size ≤ k) (hc : Chg F w6 w7) : w7.ownsRow w5.heap.size 48 2 v l.length (ec l) :=
  own_chg h hc fun k hk e => by
    have h1 := ((own_ty h) k hk).2
    have h2 := own_lt h k hk
    rcases hF k e with h3 | h3 <;> omega
set_option maxRecDepth 100000 in
set_option maxHeartbeats 4000000 in
theorem walk30_err (a2 : Option Addr) (len2 cap2 : Nat) (z2 : List Int) (a3 : Option Addr) (len3 cap3 : Nat) (z3 : List Int) (fail pan : Bool) (w : World) (hpf : pan = true ∨ fail = true) (hE : Elems w a2 len2 z2) (hl : len2 ≤ cap2) (hm : cap2 ≤ 9223372036854775807)
    (hE3 : Elems w a3 len3 z3) (hl3 : len3 ≤ cap3) (hm3 : cap3 ≤ 9223372036854775807) :
    Calls Try.prog 10 #[.slice a2 len2 cap2, .slice a3 len3 cap3, .bool fail, .bool pan] w fun e w' => e = .returned (.bool true) ∧ Up w w' := by
  have hmf : ∀ (fn : Fn) (first cap : Array Value) (w : World), (Instr.makeFunc fn first cap).run Try.prog w = .ok (.func fn first cap) w := fun _ _ _ _ => rfl
  obtain ⟨W0, hW0⟩ : ∃ W, W = ((w.alloc (.cells #[.slice a3 len3 cap3] 22)).alloc (.cells #[.bool fail] 4)).alloc (.cells #[.bool pan] 4) := ⟨_, rfl⟩
  have U0 : Hid (Up w W0) := by rw [hW0]; exact (((Up.refl w).alloc _).alloc _).alloc _
  have BI : Hid (At W0 w.heap.size 0 (.slice a3 len3 cap3)) := by rw [hW0]; exact ((At.new w _ _ 0 _ rfl).grow ((Up.refl _).alloc _)).grow ((Up.refl _).alloc _)
  have BF : Hid (At W0 (w.heap.size + 1) 0 (.bool fail)) := by rw [hW0]; have h := (At.new (w.alloc (.cells #[.slice a3 len3 cap3] 22)) #[.bool fail] 4 0 _ rfl); rw [World.size_alloc] at h; exact h.grow ((Up.refl _).alloc _)
  have BP : Hid (At W0 (w.heap.size + 1 + 1) 0 (.bool pan)) := by rw [hW0]; have h := (At.new ((w.alloc (.cells #[.slice a3 len3 cap3] 22)).alloc (.cells #[.bool fail] 4)) #[.bool pan] 4 0 _ rfl); rw [World.size_alloc, World.size_alloc] at h; exact h
  have HE := Lib.hid (elems_up hE U0.out)
  have HE3 := Lib.hid (elems_up hE3 U0.out)
  have HZ : Hid (w.heap.size + 3 ≤ W0.heap.size) := by rw [hW0]; show _ ≤ _; simp
  have HW0 := Lib.hid hW0
  obtain ⟨L, hL⟩ : ∃ L, L = modL [] ((List.range (min len2 60)).map fun i => z2.getD i 0) := ⟨_, rfl⟩
  have HLK : Hid (WOk L) := by rw [hL]; exact modL_ok WOk.nil _
  have HLE := Lib.hid hL
  clear hL hE hE3 hW0
  have DO : Hid (∀ (W : World) (p : Nat) (F : Nat → Prop), Up W0 W → TxR W p L [] F → (∀ k, F k → W0.heap.size ≤ k) → Calls Try.prog 29 #[.pointer (some ⟨p, 0, none⟩), .func (.func 33) #[] #[.pointer (some ⟨w.heap.size, 0, none⟩), .pointer (some ⟨w.heap.size + 1 + 1, 0, none⟩), .pointer (some ⟨w.heap.size + 1, 0, none⟩)]] W fun e w' => e = .returned (.int .i64 (if pan = true then 15 else 7)) ∧ TxR w' p L [] (Fx F W w') ∧ Chg F W w') := fun W p F hu h hF =>
    do30_err p L F w.heap.size (w.heap.size + 1 + 1) (w.heap.size + 1) a3 len3 cap3 z3 W0 W pan fail hpf h HE3.out hl3 hm3 hu hF (BI.out.grow hu) (BP.out.grow hu) (BF.out.grow hu) (fun e => by have := hF _ e; have := HZ.out; omega) (fun e => by have := hF _ e; have := HZ.out; omega) (fun e => by have := hF _ e; have := HZ.out; omega)
  cases pan <;> cases fail
  · simp at hpf
  all_goals
    go_enter Try.func10, Try.ntmps10
    go_wp2_with (fail)
    have hw := HW0.out
    rw [← hw]
    clear hw
    go_wp2_with (first
      | (go_at_call 28; refine (rb_no p L [] _ 1 _ S9.out.t (by simp)).mono ?_; rintro e w10 ⟨rfl, h5⟩; have S10 := Lib.hid (S9.out.stepT h5); clear h5)
      | (go_at_call 26; refine (equalE_same _ _ L _ (own_src HB.out) ((own_src HW7.out).up U8.out) HLK.out.len).mono ?_; rintro e w9 ⟨rfl, h5⟩; have S9 := Lib.hid (S8.out.grow h5); clear h5)
      | (go_at_call 24; refine (all_any p L [] _ _ S7.out.t).mono ?_; rintro e w8 ⟨vb, rfl, h5, h6⟩; obtain ⟨ab, cb, rfl, _, _, _⟩ := own_form h5; have HB := Lib.hid h5; have U8 := Lib.hid h6; have S8 := Lib.hid (S7.out.grow h6); clear h5 h6)
      | (go_at_call 29; refine (DO.out w6 p _ S6.out.up S6.out.t S6.out.fF).mono ?_; rintro e w7 ⟨rfl, h7⟩; have HW7 := Lib.hid (own_keep HA.out (fun k hk => .inl (S5.out.t.lt k hk)) h7.2); have S7 := Lib.hid (S6.out.stepT h7); have x1 := (BP.out.grow S7.out.up).2; have x2 := (BF.out.grow S7.out.up).2; clear h7)
      | (go_at_call 24; refine (all_any p L [] _ _ S5.out.t).mono ?_; rintro e w6 ⟨va, rfl, h5, h6⟩; obtain ⟨aa, ca, rfl, _, _, _⟩ := own_form h5; have HA := Lib.hid h5; have S6 := Lib.hid (S5.out.grow h6); clear h5 h6)
      | (go_at_call 23; refine (modify_any q [] [] _ a2 len2 cap2 z2 W0 _ S4.out.u HE.out hl hm S4.out.up S4.out.fG).mono ?_; rw [← HLE.out]; rintro e w5 ⟨rfl, h4⟩; have S5 := Lib.hid (S4.out.stepU h4); clear h4)
      | (go_at_call 23; refine (modify_any p [] [] _ a2 len2 cap2 z2 W0 _ S3.out.t HE.out hl hm S3.out.up S3.out.fF).mono ?_; rw [← HLE.out]; rintro e w4 ⟨rfl, h4⟩; have S4 := Lib.hid (S3.out.stepT h4); clear h4)
      | (go_at_call 22; have tok := H2; refine (new_any _ [] _ (src_nil _) WOk.nil).mono ?_; rintro e w3 ⟨q, rfl, h4, h5⟩; have S3 := Lib.hid (St2.start H1.out H2.out H3.out h4 h5); clear h4 h5 tok)
      | (go_at_call 22; refine (new_any _ [] _ (src_nil _) WOk.nil).mono ?_; rintro e w2 ⟨p, rfl, h2, h3⟩; have H2 := Lib.hid h2; have H3 := Lib.hid h3; clear h2 h3)
      | (go_at_call 21; refine (works_any _).mono ?_; rintro e w1 ⟨rfl, h1⟩; have H1 := Lib.hid h1; clear h1)
      | fail)
    go_ret
    exact ⟨rfl, U0.out.trans S10.out.up⟩
set_option maxRecDepth 100000 in
set_option maxHeartbeats 4000000 in
theorem walk30_ok (a2 : Option Addr) (len2 cap2 : Nat) (z2 : List Int) (a3 : Option Addr) (len3 cap3 : Nat) (z3 : List Int) (w : World) (hE : Elems w a2 len2 z2) (hl : len2 ≤ cap2) (hm : cap2 ≤ 9223372036854775807)
    (hE3 : Elems w a3 len3 z3) (hl3 : len3 ≤ cap3) (hm3 : cap3 ≤ 9223372036854775807) :
    Calls Try.prog 10 #[.slice a2 len2 cap2, .slice a3 len3 cap3, .bool false, .bool false] w fun e w' => e = .returned (.bool true) ∧ Up w w' := by
  have hmf : ∀ (fn : Fn) (first cap : Array Value) (w : World), (Instr.makeFunc fn first cap).run Try.prog w = .ok (.func fn first cap) w := fun _ _ _ _ => rfl
  obtain ⟨W0, hW0⟩ : ∃ W, W = ((w.alloc (.cells #[.slice a3 len3 cap3] 22)).alloc (.cells #[.bool false] 4)).alloc (.cells #[.bool false] 4) := ⟨_, rfl⟩
  have U0 : Hid (Up w W0) := by rw [hW0]; exact (((Up.refl w).alloc _).alloc _).alloc _
  have BI : Hid (At W0 w.heap.size 0 (.slice a3 len3 cap3)) := by rw [hW0]; exact ((At.new w _ _ 0 _ rfl).grow ((Up.refl _).alloc _)).grow ((Up.refl _).alloc _)
  have BF : Hid (At W0 (w.heap.size + 1) 0 (.bool false)) := by rw [hW0]; have h := (At.new (w.alloc (.cells #[.slice a3 len3 cap3] 22)) #[.bool false] 4 0 _ rfl); rw [World.size_alloc] at h; exact h.grow ((Up.refl _).alloc _)
  have BP : Hid (At W0 (w.heap.size + 1 + 1) 0 (.bool false)) := by rw [hW0]; have h := (At.new ((w.alloc (.cells #[.slice a3 len3 cap3] 22)).alloc (.cells #[.bool false] 4)) #[.bool false] 4 0 _ rfl); rw [World.size_alloc, World.size_alloc] at h; exact h
  have HE := Lib.hid (elems_up hE U0.out)
  have HE3 := Lib.hid (elems_up hE3 U0.out)
  have HZ : Hid (w.heap.size + 3 ≤ W0.heap.size) := by rw [hW0]; show _ ≤ _; simp
  have HW0 := Lib.hid hW0
  obtain ⟨L, hL⟩ : ∃ L, L = modL [] ((List.range (min len2 60)).map fun i => z2.getD i 0) := ⟨_, rfl⟩
  have HLK : Hid (WOk L) := by rw [hL]; exact modL_ok WOk.nil _
  have HLE := Lib.hid hL
  clear hL hE hE3 hW0
  obtain ⟨M, hM⟩ : ∃ M, M = modL L ((List.range (min len3 60)).map fun i => z3.getD i 0) := ⟨_, rfl⟩
  have HMK : Hid (WOk M) := by rw [hM]; exact modL_ok HLK.out _
  have HME := Lib.hid hM
  have hM2 : modL L (opsOf z3 len3) = M := hM.symm
  have DO : Hid (∀ (W : World) (p : Nat) (F : Nat → Prop), Up W0 W → TxR W p L [] F → (∀ k, F k → W0.heap.size ≤ k) → Calls Try.prog 29 #[.pointer (some ⟨p, 0, none⟩), .func (.func 33) #[] #[.pointer (some ⟨w.heap.size, 0, none⟩), .pointer (some ⟨w.heap.size + 1 + 1, 0, none⟩), .pointer (some ⟨w.heap.size + 1, 0, none⟩)]] W fun e w' => e = .returned (.int .i64 0) ∧ TxR w' p M [L] (Fx F W w') ∧ Chg F W w') := fun W p F hu h hF => by
    have := do30_ok p L F w.heap.size (w.heap.size + 1 + 1) (w.heap.size + 1) a3 len3 cap3 z3 W0 W h HE3.out hl3 hm3 hu hF (BI.out.grow hu) (BP.out.grow hu) (BF.out.grow hu) (fun e => by have := hF _ e; have := HZ.out; omega) (fun e => by have := hF _ e; have := HZ.out; omega) (fun e => by have := hF _ e; have := HZ.out; omega)
    rwa [hM2] at this
  clear hM hM2
  go_enter Try.func10, Try.ntmps10
  go_wp2_with (fail)
  have hw := HW0.out
  rw [← hw]
  clear hw
  go_wp2_with (first
    | (go_at_call 26; have tok := HC; refine (equalE_same _ _ L _ (own_src HC.out) ((own_src HW12.out).up U13.out) HLK.out.len).mono ?_; rintro e w14 ⟨rfl, h5⟩; have S14 := Lib.hid (S13.out.grow h5); clear h5 tok)
    | (go_at_call 24; have tok := S12; refine (all_any p L [L] _ _ S12.out.t).mono ?_; rintro e w13 ⟨vc, rfl, h5, h6⟩; obtain ⟨ac, cc, rfl, _, _, _⟩ := own_form h5; have HC := Lib.hid h5; have U13 := Lib.hid h6; have S13 := Lib.hid (S12.out.grow h6); clear h5 h6 tok)
    | (go_at_call 28; refine (rb_ok p M [L] _ 1 0 _ S11.out.t rfl (by simp)).mono ?_; rintro e w12 ⟨rfl, h5⟩; have S12 : Hid (St2 W0 w12 p q L [L] M _ _) := (S11.out.stepT h5); have HW12 := Lib.hid (own_chg HW11.out h5.2 fun k hk e => by have h1 := ((own_ty HA.out) k hk).2; have h2 := own_lt HA.out k hk; rcases e with e | e; have := S5.out.t.lt k e; omega; omega); clear h5)
    | (go_at_call 26; refine (equalE_same _ _ M _ ((own_src HB.out).up U10.out) (own_src HD.out) HMK.out.len).mono ?_; rintro e w11 ⟨rfl, h5⟩; have S11 := Lib.hid (S10.out.grow h5); have HW11 := Lib.hid (own_up (own_up HW9.out U10.out) h5); clear h5)
    | (go_at_call 24; have tok := HB; refine (all_any q M [] _ _ S9.out.u).mono ?_; rintro e w10 ⟨vd, rfl, h5, h6⟩; obtain ⟨ad, cd, rfl, _, _, _⟩ := own_form h5; have HD := Lib.hid h5; have U10 := Lib.hid h6; have S10 := Lib.hid (S9.out.grow h6); clear h5 h6 tok)
    | (go_at_call 24; refine (all_any p M [L] _ _ S8.out.t).mono ?_; rintro e w9 ⟨vb, rfl, h5, h6⟩; obtain ⟨ab, cb, rfl, _, _, _⟩ := own_form h5; have HB := Lib.hid h5; have S9 := Lib.hid (S8.out.grow h6); have HW9 := Lib.hid (own_up HW8.out h6); clear h5 h6)
    | (go_at_call 23; refine (modify_any q L [] _ a3 len3 cap3 z3 W0 _ S7.out.u HE3.out hl3 hm3 S7.out.up S7.out.fG).mono ?_; rw [← HME.out]; rintro e w8 ⟨rfl, h4⟩; have S8 := Lib.hid (S7.out.stepU h4); have HW8 := Lib.hid (own_chg HW7.out h4.2 fun k hk e => by have h1 := ((own_ty HA.out) k hk).2; have := S5.out.u.lt k e; omega); clear h4)
    | (go_at_call 29; refine (DO.out w6 p _ S6.out.up S6.out.t S6.out.fF).mono ?_; rintro e w7 ⟨rfl, h7⟩; have HW7 := Lib.hid (own_keep HA.out (fun k hk => .inl (S5.out.t.lt k hk)) h7.2); have S7 := Lib.hid (S6.out.stepT h7); have x1 := (BP.out.grow S7.out.up).2; have x2 := (BF.out.grow S7.out.up).2; have x3 := (BI.out.grow S7.out.up).2; clear h7)
    | (go_at_call 24; refine (all_any p L [] _ _ S5.out.t).mono ?_; rintro e w6 ⟨va, rfl, h5, h6⟩; obtain ⟨aa, ca, rfl, _, _, _⟩ := own_form h5; have HA := Lib.hid h5; have S6 := Lib.hid (S5.out.grow h6); clear h5 h6)
    | (go_at_call 23; refine (modify_any q [] [] _ a2 len2 cap2 z2 W0 _ S4.out.u HE.out hl hm S4.out.up S4.out.fG).mono ?_; rw [← HLE.out]; rintro e w5 ⟨rfl, h4⟩; have S5 := Lib.hid (S4.out.stepU h4); clear h4)
    | (go_at_call 23; refine (modify_any p [] [] _ a2 len2 cap2 z2 W0 _ S3.out.t HE.out hl hm S3.out.up S3.out.fF).mono ?_; rw [← HLE.out]; rintro e w4 ⟨rfl, h4⟩; have S4 := Lib.hid (S3.out.stepT h4); clear h4)
    | (go_at_call 22; have tok := H2; refine (new_any _ [] _ (src_nil _) WOk.nil).mono ?_; rintro e w3 ⟨q, rfl, h4, h5⟩; have S3 := Lib.hid (St2.start H1.out H2.out H3.out h4 h5); clear h4 h5 tok)
    | (go_at_call 22; refine (new_any _ [] _ (src_nil _) WOk.nil).mono ?_; rintro e w2 ⟨p, rfl, h2, h3⟩; have H2 := Lib.hid h2; have H3 := Lib.hid h3; clear h2 h3)
    | (go_at_call 21; refine (works_any _).mono ?_; rintro e w1 ⟨rfl, h1⟩; have H1 := Lib.hid h1; clear h1)
    | fail)
  go_ret
  exact ⟨rfl, U0.out.trans S14.out.up⟩
theorem walk30 (a2 : Option Addr) (len2 cap2 : Nat) (z2 : List Int) (a3 : Option Addr) (len3 cap3 : Nat) (z3 : List Int) (fail pan : Bool) (w : World) (hE : Elems w a2 len2 z2) (hl : len2 ≤ cap2) (hm : cap2 ≤ 9223372036854775807)
    (hE3 : Elems w a3 len3 z3) (hl3 : len3 ≤ cap3) (hm3 : cap3 ≤ 9223372036854775807) :
    Calls Try.prog 10 #[.slice a2 len2 cap2, .slice a3 len3 cap3, .bool fail, .bool pan] w fun e w' => e = .returned (.bool true) ∧ Up w w' := by
  cases pan with
  | true => exact walk30_err a2 len2 cap2 z2 a3 len3 cap3 z3 fail true w (.inl rfl) hE hl hm hE3 hl3 hm3
  | false =>
    cases fail with
    | true => exact walk30_err a2 len2 cap2 z2 a3 len3 cap3 z3 true false w (.inr rfl) hE hl hm hE3 hl3 hm3
    | false => exact walk30_ok a2 len2 cap2 z2 a3 len3 cap3 z3 w hE hl hm hE3 hl3 hm3
end Go.Proofs.Ytoelcnfgjfccgaa.Sp
