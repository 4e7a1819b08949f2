/- The functions that the laws hand to Do. -/
import Derived.Test.YtoelcnfgjfccgaaSpr
namespace Go.Proofs.Ytoelcnfgjfccgaa.Sp
open Go Go.RowKit Hp So
set_option linter.unusedVariables false

/-- What the law's function leaves where it returns. -/
def X30 (p : Nat) (l l' : Ws) (F : Nat → Prop) (pan fail : Bool) (r : Int) (W w' : World) : Prop := pan = false ∧ r = (if fail = true then 7 else 0) ∧ TxR w' p l' [l] (Fx F W w') ∧ Chg F W w'
def opsOf (zs : List Int) (len : Nat) : List Int := (List.range (min len 60)).map fun i => zs.getD i 0
set_option maxRecDepth 100000 in
set_option maxHeartbeats 2000000 in
theorem fn30 (p : Nat) (l : Ws) (F : Nat → Prop) (bi bp bf : Nat) (a : Option Addr) (len cap : Nat) (zs : List Int) (pan fail : Bool) (w0 W : World) (h : TxR W p l [] F) (hE : Elems w0 a len zs) (hc1 : len ≤ cap) (hc2 : cap ≤ 9223372036854775807) (hu : Up w0 W) (hF : ∀ k, F k → w0.heap.size ≤ k)
    (hi : At W bi 0 (.slice a len cap)) (hp : At W bp 0 (.bool pan)) (hf : At W bf 0 (.bool fail)) (ni : ¬ F bi) (np : ¬ F bp) (nf : ¬ F bf) :
    Calls Try.prog 33 #[.pointer (some ⟨p, 0, none⟩), .pointer (some ⟨bi, 0, none⟩), .pointer (some ⟨bp, 0, none⟩), .pointer (some ⟨bf, 0, none⟩)] W (FnPost p F (fun _ => False) (X30 p l (modL l (opsOf zs len)) F pan fail) (pan = true) W) := by
  have HE := Lib.hid hE
  have H := Lib.hid h
  have HU := Lib.hid hu
  have HF := Lib.hid hF
  have HI := Lib.hid hi
  have HP := Lib.hid hp
  have HFL := Lib.hid hf
  clear hE h hu hF hi hp hf
  have ends : ∀ (w1 w2 : World), (TxR w1 p l [l] (Fx F W w1) ∧ Chg F W w1) → (TxR w2 p (modL l (opsOf zs len)) [l] (Fx (Fx F W w1) w1 w2) ∧ Chg (Fx F W w1) w1 w2) → TxR w2 p (modL l (opsOf zs len)) [l] (Fx F W w2) ∧ Chg F W w2 := fun w1 w2 h1 h2 => TxR.two H.out.lt h1.2 h2
  have ENDS := Lib.hid ends
  clear ends
  cases pan with
  | true =>
    go_enter Try.func33, Try.ntmps33
    go_wp2_with (first
      | (go_at_call 23; refine (modify_any p l [l] _ a len cap zs w0 _ H1.out.1 HE.out hc1 hc2 HU1.out HF1.out).mono ?_; rintro e w2 ⟨rfl, h2⟩; have H2 := Lib.hid h2; have x2 := (C2.out.chg h2.2 HN2.out).2; clear h2)
      | (go_at_call 27; refine (sp_any p l [] F _ H.out).mono ?_; rw [spP_nil]; rintro e w1 ⟨rfl, h1⟩; have H1 := Lib.hid h1; have HU1 : Hid (Up w0 w1) := ((HU.out.chg fun _ => False).trans h1.2 fun j hj e => by have := HF.out j e; omega).up fun _ _ e => e; have HF1 : Hid (∀ k, Fx F W w1 k → w0.heap.size ≤ k) := (fun k hk => by rcases hk with hk | hk; exact HF.out k hk; have := HU.out.size; omega); have C1 := Lib.hid (HI.out.chg h1.2 ni); have C2 := Lib.hid (HP.out.chg h1.2 np); have x1 := C1.out.2; have HN2 : Hid (¬ Fx F W w1 bp) := (fun e => by rcases e with e | e; exact np e; have := HP.out.1; omega); clear h1)
      | fail)
    exact ⟨rfl, .inr ⟨(by first | rfl | trivial), _, _, rfl⟩, ⟨_, _, (ENDS.out _ _ H1.out H2.out).1⟩, (ENDS.out _ _ H1.out H2.out).2.mono fun _ _ e => .inl e⟩
  | false =>
    cases fail with
    | true =>
      go_enter Try.func33, Try.ntmps33
      go_wp2_with (first
        | (go_at_call 23; refine (modify_any p l [l] _ a len cap zs w0 _ H1.out.1 HE.out hc1 hc2 HU1.out HF1.out).mono ?_; rintro e w2 ⟨rfl, h2⟩; have H2 := Lib.hid h2; have x2 := (C2.out.chg h2.2 HN2.out).2; have x3 := (C3.out.chg h2.2 HN3.out).2; clear h2)
        | (go_at_call 27; refine (sp_any p l [] F _ H.out).mono ?_; rw [spP_nil]; rintro e w1 ⟨rfl, h1⟩; have H1 := Lib.hid h1; have HU1 : Hid (Up w0 w1) := ((HU.out.chg fun _ => False).trans h1.2 fun j hj e => by have := HF.out j e; omega).up fun _ _ e => e; have HF1 : Hid (∀ k, Fx F W w1 k → w0.heap.size ≤ k) := (fun k hk => by rcases hk with hk | hk; exact HF.out k hk; have := HU.out.size; omega); have C1 := Lib.hid (HI.out.chg h1.2 ni); have C2 := Lib.hid (HP.out.chg h1.2 np); have x1 := C1.out.2; have C3 := Lib.hid (HFL.out.chg h1.2 nf); have HN3 : Hid (¬ Fx F W w1 bf) := (fun e => by rcases e with e | e; exact nf e; have := HFL.out.1; omega); have HN2 : Hid (¬ Fx F W w1 bp) := (fun e => by rcases e with e | e; exact np e; have := HP.out.1; omega); clear h1)
        | fail)
      go_ret
      exact ⟨.inl ⟨7, rfl, rfl, rfl, ENDS.out _ _ H1.out H2.out⟩, ⟨_, _, (ENDS.out _ _ H1.out H2.out).1⟩, (ENDS.out _ _ H1.out H2.out).2.mono fun _ _ e => .inl e⟩
    | false =>
      go_enter Try.func33, Try.ntmps33
      go_wp2_with (first
        | (go_at_call 23; refine (modify_any p l [l] _ a len cap zs w0 _ H1.out.1 HE.out hc1 hc2 HU1.out HF1.out).mono ?_; rintro e w2 ⟨rfl, h2⟩; have H2 := Lib.hid h2; have x2 := (C2.out.chg h2.2 HN2.out).2; have x3 := (C3.out.chg h2.2 HN3.out).2; clear h2)
        | (go_at_call 27; refine (sp_any p l [] F _ H.out).mono ?_; rw [spP_nil]; rintro e w1 ⟨rfl, h1⟩; have H1 := Lib.hid h1; have HU1 : Hid (Up w0 w1) := ((HU.out.chg fun _ => False).trans h1.2 fun j hj e => by have := HF.out j e; omega).up fun _ _ e => e; have HF1 : Hid (∀ k, Fx F W w1 k → w0.heap.size ≤ k) := (fun k hk => by rcases hk with hk | hk; exact HF.out k hk; have := HU.out.size; omega); have C1 := Lib.hid (HI.out.chg h1.2 ni); have C2 := Lib.hid (HP.out.chg h1.2 np); have x1 := C1.out.2; have C3 := Lib.hid (HFL.out.chg h1.2 nf); have HN3 : Hid (¬ Fx F W w1 bf) := (fun e => by rcases e with e | e; exact nf e; have := HFL.out.1; omega); have HN2 : Hid (¬ Fx F W w1 bp) := (fun e => by rcases e with e | e; exact np e; have := HP.out.1; omega); clear h1)
        | fail)
      go_ret
      exact ⟨.inl ⟨0, rfl, rfl, rfl, ENDS.out _ _ H1.out H2.out⟩, ⟨_, _, (ENDS.out _ _ H1.out H2.out).1⟩, (ENDS.out _ _ H1.out H2.out).2.mono fun _ _ e => .inl e⟩
section
variable (p : Nat) (l : Ws) (F : Nat → Prop) (bi bp bf : Nat) (a : Option Addr) (len cap : Nat) (zs : List Int) (w0 w : World)
theorem do30 (pan fail : Bool) (h : TxR w p l [] F) (hE : Elems w0 a len zs) (hc1 : len ≤ cap) (hc2 : cap ≤ 9223372036854775807) (hu : Up w0 w) (hF : ∀ k, F k → w0.heap.size ≤ k)
    (hi : At w bi 0 (.slice a len cap)) (hp : At w bp 0 (.bool pan)) (hf : At w bf 0 (.bool fail)) (ni : ¬ F bi) (np : ¬ F bp) (nf : ¬ F bf) :
    Calls Try.prog 29 #[.pointer (some ⟨p, 0, none⟩), .func (.func 33) #[] #[.pointer (some ⟨bi, 0, none⟩), .pointer (some ⟨bp, 0, none⟩), .pointer (some ⟨bf, 0, none⟩)]] w
      (DoPost p l F (fun _ => False) (X30 p l (modL l (opsOf zs len)) F pan fail) (pan = true) w) :=
  do_any p l F (fun _ => False) 33 #[.pointer (some ⟨bi, 0, none⟩), .pointer (some ⟨bp, 0, none⟩), .pointer (some ⟨bf, 0, none⟩)] _ _ w h (fun _ e => e.elim) Try.call33
    fun W hW => fn30 p l F bi bp bf a len cap zs pan fail w0 W (h.up hW) hE hc1 hc2 (hu.trans hW) hF (hi.grow hW) (hp.grow hW) (hf.grow hW) ni np nf
theorem chg_ff {F : Nat → Prop} {w w' : World} (h : Chg (fun k => F k ∨ False) w w') : Chg F w w' := h.mono fun _ _ e => e.resolve_right id
theorem do30_err (pan fail : Bool) (hpf : pan = true ∨ fail = true) (h : TxR w p l [] F) (hE : Elems w0 a len zs) (hc1 : len ≤ cap) (hc2 : cap ≤ 9223372036854775807) (hu : Up w0 w) (hF : ∀ k, F k → w0.heap.size ≤ k)
    (hi : At w bi 0 (.slice a len cap)) (hp : At w bp 0 (.bool pan)) (hf : At w bf 0 (.bool fail)) (ni : ¬ F bi) (np : ¬ F bp) (nf : ¬ F bf) :
    Calls Try.prog 29 #[.pointer (some ⟨p, 0, none⟩), .func (.func 33) #[] #[.pointer (some ⟨bi, 0, none⟩), .pointer (some ⟨bp, 0, none⟩), .pointer (some ⟨bf, 0, none⟩)]] w
      fun e w' => e = .returned (.int .i64 (if pan = true then 15 else 7)) ∧ TxR w' p l [] (Fx F w w') ∧ Chg F w w' := by
  refine (do30 p l F bi bp bf a len cap zs w0 w pan fail h hE hc1 hc2 hu hF hi hp hf ni np nf).mono ?_
  rintro e w' (⟨W, w1, rfl, _, ⟨hx1, hx2, _⟩, _⟩ | ⟨⟨r, rfl, hr, hx⟩, h1, h2⟩)
  · rcases hpf with e | e
    · rw [hx1] at e; cases e
    · rw [if_pos e] at hx2; omega
  · rcases hx with ⟨W, w1, hx1, hx2, _⟩ | ⟨hy, rfl⟩
    · rcases hpf with e | e
      · rw [hx1] at e; cases e
      · rw [if_pos e] at hx2; subst hx2; rw [hx1]; exact ⟨rfl, h1, chg_ff h2⟩
    · rw [if_pos hy]; exact ⟨rfl, h1, chg_ff h2⟩
theorem do30_ok (h : TxR w p l [] F) (hE : Elems w0 a len zs) (hc1 : len ≤ cap) (hc2 : cap ≤ 9223372036854775807) (hu : Up w0 w) (hF : ∀ k, F k → w0.heap.size ≤ k)
    (hi : At w bi 0 (.slice a len cap)) (hp : At w bp 0 (.bool false)) (hf : At w bf 0 (.bool false)) (ni : ¬ F bi) (np : ¬ F bp) (nf : ¬ F bf) :
    Calls Try.prog 29 #[.pointer (some ⟨p, 0, none⟩), .func (.func 33) #[] #[.pointer (some ⟨bi, 0, none⟩), .pointer (some ⟨bp, 0, none⟩), .pointer (some ⟨bf, 0, none⟩)]] w
      fun e w' => e = .returned (.int .i64 0) ∧ TxR w' p (modL l (opsOf zs len)) [l] (Fx F w w') ∧ Chg F w w' := by
  refine (do30 p l F bi bp bf a len cap zs w0 w false false h hE hc1 hc2 hu hF hi hp hf ni np nf).mono ?_
  rintro e w' (⟨W, w1, rfl, hUW, ⟨_, _, hT, hC⟩, _, hC2⟩ | ⟨⟨r, rfl, hr, hx⟩, h1, h2⟩)
  · have hz := hC.size
    have hz2 := hC2.size
    have hzW := hUW.size
    refine ⟨rfl, (hT.chg hC2 fun k hk e => ?_).mono (fun k hk => ?_) (fx_lt h.lt (by omega)), ((hUW.chg F).trans hC fun _ _ e => e).trans hC2 fun k hk e => by omega⟩
    · rcases hk with hk | hk
      · have := h.lt k hk; omega
      · omega
    · rcases hk with hk | hk
      · exact .inl hk
      · exact .inr ⟨by omega, by omega⟩
  · rcases hx with ⟨W, w1, _, hx2, _⟩ | ⟨hy, _⟩
    · exact absurd hx2 hr
    · cases hy
end
end Go.Proofs.Ytoelcnfgjfccgaa.Sp
