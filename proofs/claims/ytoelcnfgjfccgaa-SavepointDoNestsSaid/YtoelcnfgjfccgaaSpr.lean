/- (*Tx).Do at a workspace without savepoints. -/
import Derived.Test.YtoelcnfgjfccgaaSpq
import Derived.Test.YtoelcnfgjfccgaaRi
import Derived.Deep.DeepCutAuto
import Derived.Deep.CutRange
import Derived.Deep.RegionHeld3
namespace Go.Proofs.Ytoelcnfgjfccgaa.Sp
open Go Go.RowKit Hp So
set_option linter.unusedVariables false

theorem bcell {W w1 : World} (hb : Up W w1) : (∀ b o, b < W.heap.size → w1.cell? ⟨b, o, none⟩ = W.cell? ⟨b, o, none⟩) ∧ (∀ b o, b < W.heap.size → w1.frozen? ⟨b, o, none⟩ = W.frozen? ⟨b, o, none⟩) :=
  ⟨fun b o h => hb.cell (p := ⟨b, o, none⟩) h, fun b o h => hb.frozen (p := ⟨b, o, none⟩) h⟩
/-- What Do's first statement leaves. -/
def DoCut (w W0 : World) (l : Ws) (ys : List Value) (s5 s6 : Value) (wx : World) : Prop :=
  ∃ b5 b6 v5 v6, s5 = .pointer (some ⟨b5, 0, none⟩) ∧ s6 = .pointer (some ⟨b6, 0, none⟩) ∧ W0.heap.size ≤ b5 ∧ W0.heap.size ≤ b6 ∧ Blk wx b5 [v5] 45 ∧ Blk wx b6 [v6] 76 ∧ Up W0 wx ∧ wx.ownsRow w.heap.size 48 2 v5 l.length (ec l) ∧ wx.ownsRow w.heap.size 45 1 v6 0 ys
/-- What each operation of the region leaves. -/
def DoS (p : Nat) (w W0 : World) (l : Ws) (ys : List Value) (ev sv : Value) (W : World) (s : Nat → Value) : Nat → Prop
  | 0 => s 8 = .pointer (some ⟨p, 0, none⟩)
  | 1 => s 9 = .pointer (some ⟨p, 0, none⟩)
  | 2 => s 10 = .pointer (some ⟨p, 0, none⟩)
  | 3 => s 11 = ev
  | 4 => W.ownsRow w.heap.size 48 2 (s 12) l.length (ec l)
  | 5 => s 13 = .pointer (some ⟨p, 0, none⟩)
  | 6 => s 14 = .pointer (some ⟨p, 0, none⟩)
  | 7 => s 15 = .pointer (some ⟨p, 1, none⟩)
  | 8 => s 16 = sv
  | 9 => W.ownsRow w.heap.size 45 1 (s 17) 0 ys
  | 10 => ∃ b x, s 5 = .pointer (some ⟨b, 0, none⟩) ∧ W0.heap.size ≤ b ∧ Blk W b [x] 45
  | 11 => ∃ b x, s 6 = .pointer (some ⟨b, 0, none⟩) ∧ W0.heap.size ≤ b ∧ Blk W b [x] 76
  | 12 => ∃ b, s 5 = .pointer (some ⟨b, 0, none⟩) ∧ Blk W b [s 12] 45
  | 13 => ∃ b, s 6 = .pointer (some ⟨b, 0, none⟩) ∧ Blk W b [s 17] 76
  | _ => True
theorem DoS.up {p : Nat} {w W0 W W' : World} {l : Ws} {ys : List Value} {ev sv : Value} {s : Nat → Value} {i : Nat} (h : DoS p w W0 l ys ev sv W s i) (hu : Up W W') : DoS p w W0 l ys ev sv W' s i := by
  unfold DoS at *
  split <;> simp only at h <;> first
    | exact h
    | exact own_up h hu
    | (obtain ⟨b, x, h1, h2, h3⟩ := h; exact ⟨b, x, h1, h2, h3.up hu⟩)
    | (obtain ⟨b, h1, h3⟩ := h; exact ⟨b, h1, h3.up hu⟩)
def doFrame (c0 c1 c2 c4 : Value) (s : Nat → Value) : Act := { tmps := #[c0, c1, c2, undef, c4, s 5, s 6, undef, s 8, s 9, s 10, s 11, s 12, s 13, s 14, s 15, s 16, s 17, undef, undef, undef, undef, undef], defers := [] }
structure DoI (p : Nat) (w W0 : World) (l : Ws) (ys : List Value) (ev sv : Value) (L : Array Bool) (W : World) (s : Nat → Value) : Prop where
  up : Up W0 W
  st : ∀ i, L.getD i false = true → DoS p w W0 l ys ev sv W s i
  far : L.getD 9 false = true → L.getD 10 false = true → ∀ b, s 5 = .pointer (some ⟨b, 0, none⟩) → (s 17).ownBlock ≠ some b
  c12 : L.getD 12 false = true → L.getD 10 false = true ∧ L.getD 4 false = true
  c13 : L.getD 13 false = true → L.getD 11 false = true ∧ L.getD 9 false = true
theorem set_true {L : Array Bool} (i : Nat) {j : Nat} (h : L.getD j false = true) : (L.setIfInBounds i true).getD j false = true := by
  by_cases e : i = j
  · subst e
    have : i < L.size := by
      rcases Nat.lt_or_ge i L.size with h' | h'
      · exact h'
      · simp [Array.getD, Nat.not_lt.2 h'] at h
    exact getD_set_self this _ _
  · rw [getD_set_other e]; exact h
/-- A slot is written; the world grows. -/
theorem DoI.put {p : Nat} {w W0 W W' : World} {l : Ws} {ys : List Value} {ev sv : Value} {L : Array Bool} {s : Nat → Value} {i t : Nat} {v : Value} (h : DoI p w W0 l ys ev sv L W s) (hL : L.size = 14) (hi : L.getD i true = false) (hu : Up W W')
    (ht : (i, t) ∈ [(0, 8), (1, 9), (2, 10), (3, 11), (4, 12), (5, 13), (6, 14), (7, 15), (8, 16), (9, 17), (10, 5), (11, 6)]) (hn : DoS p w W0 l ys ev sv W' (fun k => if k = t then v else s k) i)
    (hf9 : i = 9 → ∀ b, W0.heap.size ≤ b → b < W.heap.size → v.ownBlock ≠ some b) (hf10 : i = 10 → ∀ b, v = .pointer (some ⟨b, 0, none⟩) → W.heap.size ≤ b) :
    DoI p w W0 l ys ev sv (L.setIfInBounds i true) W' (fun k => if k = t then v else s k) := by
  have hi14 : i < 14 := by simp at ht; omega
  have hif : L.getD i false = false := by rw [getD_dd (by omega) false true]; exact hi
  have up' := fun j (hj : (L.setIfInBounds i true).getD j false = true) (hne : j ≠ i) => by rw [getD_set_other (Ne.symm hne)] at hj; exact hj
  refine ⟨h.up.trans hu, fun j hj => ?_, fun h9 h10 b hb => ?_, fun h12 => ?_, fun h13 => ?_⟩
  · by_cases e : j = i
    · subst e; exact hn
    · have hs := (h.st j (up' j hj e)).up hu
      have hj' := up' j hj e
      have k12 : j = 12 → i ≠ 10 ∧ i ≠ 4 := fun e2 => by subst e2; have := h.c12 hj'; constructor <;> (intro e3; subst e3; simp_all)
      have k13 : j = 13 → i ≠ 11 ∧ i ≠ 9 := fun e2 => by subst e2; have := h.c13 hj'; constructor <;> (intro e3; subst e3; simp_all)
      simp only [List.mem_cons, Prod.mk.injEq, List.not_mem_nil, or_false] at ht
      unfold DoS at hs ⊢
      split <;> simp only at hs <;> rcases ht with ⟨rfl, rfl⟩ | ⟨rfl, rfl⟩ | ⟨rfl, rfl⟩ | ⟨rfl, rfl⟩ | ⟨rfl, rfl⟩ | ⟨rfl, rfl⟩ | ⟨rfl, rfl⟩ | ⟨rfl, rfl⟩ | ⟨rfl, rfl⟩ | ⟨rfl, rfl⟩ | ⟨rfl, rfl⟩ | ⟨rfl, rfl⟩ <;> first | exact hs | exact absurd rfl e | exact absurd rfl (k12 rfl).1 | exact absurd rfl (k12 rfl).2 | exact absurd rfl (k13 rfl).1 | exact absurd rfl (k13 rfl).2
  · by_cases e9 : i = 9
    · subst e9
      have e : t = 17 := by simp at ht; exact ht
      subst e
      have h10' := up' 10 h10 (by omega)
      obtain ⟨b', x, q1, q2, q3⟩ := h.st 10 h10'
      simp only [show ¬ (5 : Nat) = 17 by omega, if_false] at hb
      rw [q1] at hb
      cases hb
      simp only [if_true]
      exact hf9 rfl _ q2 q3.lt
    · by_cases e10 : i = 10
      · subst e10
        have e : t = 5 := by simp at ht; exact ht
        subst e
        have h9' := up' 9 h9 (by omega)
        have ho : W.ownsRow w.heap.size 45 1 (s 17) 0 ys := h.st 9 h9'
        simp only [if_true] at hb
        simp only [show ¬ (17 : Nat) = 5 by omega, if_false]
        intro e
        have := hf10 rfl b hb
        have := own_lt ho _ e
        omega
      · have h9' := up' 9 h9 (Ne.symm e9)
        have h10' := up' 10 h10 (Ne.symm e10)
        have n5 : ¬ 5 = t := fun e => by subst e; simp at ht; omega
        have n17 : ¬ 17 = t := fun e => by subst e; simp at ht; omega
        simp only [n5, if_false] at hb
        simp only [n17, if_false]
        exact h.far h9' h10' b hb
  · have := h.c12 (up' 12 h12 (fun e => by subst e; simp at ht))
    exact ⟨set_true _ this.1, set_true _ this.2⟩
  · have := h.c13 (up' 13 h13 (fun e => by subst e; simp at ht))
    exact ⟨set_true _ this.1, set_true _ this.2⟩
theorem DoI.st12 {p : Nat} {w W0 W : World} {l : Ws} {ys : List Value} {ev sv : Value} {L : Array Bool} {s : Nat → Value} {b : Nat} (h : DoI p w W0 l ys ev sv L W s) (hL : L.size = 14) (hi : L.getD 12 true = false) (h10 : L.getD 10 false = true) (h4 : L.getD 4 false = true) (hb : s 5 = .pointer (some ⟨b, 0, none⟩)) :
    DoI p w W0 l ys ev sv (L.setIfInBounds 12 true) (W.setCell ⟨b, 0, none⟩ (s 12)) s := by
  obtain ⟨b', x, q1, q2, q3⟩ := h.st 10 h10
  rw [hb] at q1
  cases q1
  have up' := fun j (hj : (L.setIfInBounds 12 true).getD j false = true) (hne : j ≠ 12) => by rw [getD_set_other (Ne.symm hne)] at hj; exact hj
  refine ⟨h.up.set q2 _ _ _, fun j hj => ?_, fun h9 h10' => h.far (up' 9 h9 (by omega)) h10, fun _ => ⟨set_true _ h10, set_true _ h4⟩, fun h13 => ?_⟩
  · by_cases e : j = 12
    · subst e; exact ⟨b, hb, q3.set 0 _⟩
    · have hj' := up' j hj e
      have hs := h.st j hj'
      have nb : ∀ b2 y E, Blk W b2 [y] E → 45 ≠ E → b2 ≠ b := fun b2 y E hB hE e2 => by subst e2; exact (blk_ty q3).ne hE (blk_ty hB)
      have h9 : j = 9 → (s 17).ownBlock ≠ some b := fun e2 => by subst e2; exact h.far hj' h10 b hb
      unfold DoS at hs ⊢
      split <;> simp only at hs <;> first
        | exact hs
        | exact absurd rfl e
        | exact own_chg hs (chg_set _ _ _ _ _) fun k hk e2 => by subst e2; exact h9 rfl hk
        | exact own_chg hs (chg_set _ _ _ _ _) fun k hk e2 => by subst e2; exact (((own_ty hs) _ hk).1).ne (by decide) (blk_ty q3)
        | (obtain ⟨b2, y, z1, z2, z3⟩ := hs; rw [hb] at z1; cases z1; exact ⟨b, _, hb, q2, z3.set 0 _⟩)
        | (obtain ⟨b2, y, z1, z2, z3⟩ := hs; exact ⟨b2, y, z1, z2, z3.other (nb _ _ _ z3 (by decide)) _ _ _⟩)
        | (obtain ⟨b2, z1, z3⟩ := hs; exact ⟨b2, z1, z3.other (nb _ _ _ z3 (by decide)) _ _ _⟩)
  · have := h.c13 (up' 13 h13 (by omega))
    exact ⟨set_true _ this.1, set_true _ this.2⟩
theorem DoI.st13 {p : Nat} {w W0 W : World} {l : Ws} {ys : List Value} {ev sv : Value} {L : Array Bool} {s : Nat → Value} {b : Nat} (h : DoI p w W0 l ys ev sv L W s) (hL : L.size = 14) (hi : L.getD 13 true = false) (h11 : L.getD 11 false = true) (h9 : L.getD 9 false = true) (hb : s 6 = .pointer (some ⟨b, 0, none⟩)) :
    DoI p w W0 l ys ev sv (L.setIfInBounds 13 true) (W.setCell ⟨b, 0, none⟩ (s 17)) s := by
  obtain ⟨b', x, q1, q2, q3⟩ := h.st 11 h11
  rw [hb] at q1
  cases q1
  have up' := fun j (hj : (L.setIfInBounds 13 true).getD j false = true) (hne : j ≠ 13) => by rw [getD_set_other (Ne.symm hne)] at hj; exact hj
  refine ⟨h.up.set q2 _ _ _, fun j hj => ?_, fun h9' h10 => h.far h9 (up' 10 h10 (by omega)), fun h12 => ?_, fun _ => ⟨set_true _ h11, set_true _ h9⟩⟩
  · by_cases e : j = 13
    · subst e; exact ⟨b, hb, q3.set 0 _⟩
    · have hj' := up' j hj e
      have hs := h.st j hj'
      have nb : ∀ b2 y E, Blk W b2 [y] E → 76 ≠ E → b2 ≠ b := fun b2 y E hB hE e2 => by subst e2; exact (blk_ty q3).ne hE (blk_ty hB)
      unfold DoS at hs ⊢
      split <;> simp only at hs <;> first
        | exact hs
        | exact absurd rfl e
        | exact own_chg hs (chg_set _ _ _ _ _) fun k hk e2 => by subst e2; exact (((own_ty hs) _ hk).1).ne (by decide) (blk_ty q3)
        | (obtain ⟨b2, y, z1, z2, z3⟩ := hs; rw [hb] at z1; cases z1; exact ⟨b, _, hb, q2, z3.set 0 _⟩)
        | (obtain ⟨b2, y, z1, z2, z3⟩ := hs; exact ⟨b2, y, z1, z2, z3.other (nb _ _ _ z3 (by decide)) _ _ _⟩)
        | (obtain ⟨b2, z1, z3⟩ := hs; exact ⟨b2, z1, z3.other (nb _ _ _ z3 (by decide)) _ _ _⟩)
  · have := h.c12 (up' 12 h12 (by omega))
    exact ⟨set_true _ this.1, set_true _ this.2⟩

/-- The result, read out of its variable. -/
theorem do_res {W : World} {b : Nat} {tmps : Array Value} {r : Int} {l : List Value} (c0 : W.cell? ⟨b, 0, none⟩ = l[0]?) (e0 : l = [.int .i64 r] := by rfl) (h4 : tmps[4]? = some (.pointer (some ⟨b, 0, none⟩)) := by rfl) :
    (results Try.f29 tmps).run Try.prog W = .ok (.int .i64 r) W := by
  subst e0
  simp [results, Try.f29, go_sem, c0, h4]
/-- The workspace, given back. -/
theorem undo_tx {w wd : World} {p : Nat} {l : Ws} {F S : Nat → Prop} {ev sv v5 v6 o0 o1 : Value} {ys : List Value} (h : TxP w p l [] F ev sv ys) (hB : Blk wd p [o0, o1] 78) (h5 : wd.ownsRow w.heap.size 48 2 v5 l.length (ec l)) (h6 : wd.ownsRow w.heap.size 45 1 v6 0 ys) (hC : Chg (fun k => F k ∨ S k) w wd) :
    TxR ((wd.setCell ⟨p, 0, none⟩ v5).setCell ⟨p, 1, none⟩ v6) p l [] (Fx F w ((wd.setCell ⟨p, 0, none⟩ v5).setCell ⟨p, 1, none⟩ v6)) ∧ Chg (fun k => F k ∨ S k) w ((wd.setCell ⟨p, 0, none⟩ v5).setCell ⟨p, 1, none⟩ v6) := by
  have hz : ((wd.setCell ⟨p, 0, none⟩ v5).setCell ⟨p, 1, none⟩ v6).heap.size = wd.heap.size := by simp [World.setCell]
  have C1 : Chg (fun j => j = p) wd ((wd.setCell ⟨p, 0, none⟩ v5).setCell ⟨p, 1, none⟩ v6) := ((Chg.refl (fun j => j = p) wd).set (b := p) (.inl rfl) _ _ _).set (b := p) (.inl rfl) _ _ _
  have far : ∀ k T, Ty wd k T → T ≠ 78 → ¬ k = p := fun k T ht hT e => by subst e; exact ht.ne hT (blk_ty hB)
  have hy : ys = [] := List.eq_nil_of_length_eq_zero h.sl'.1
  subst hy
  have hC2 : Chg (fun k => F k ∨ S k) w ((wd.setCell ⟨p, 0, none⟩ v5).setCell ⟨p, 1, none⟩ v6) := hC.trans C1 fun k _ e => by subst e; exact .inl h.fp
  refine ⟨⟨v5, v6, [], h.ok, (fun s hs => by cases hs), Nat.zero_le _, fx_lt h.lt hC2.size, .inl h.fp, (hB.set 0 v5).set 1 v6, own_base' (own_chg h5 C1 fun k hk => far k _ ((own_ty h5) k hk).1 (by decide)) (fun _ _ => Nat.zero_le _), fun k hk => .inr ⟨((own_ty h5) k hk).2, by rw [hz]; exact own_lt h5 k hk⟩,
    own_base' (own_chg h6 C1 fun k hk => far k _ ((own_ty h6) k hk).1 (by decide)) (fun _ _ => Nat.zero_le _), fun k hk => .inr ⟨((own_ty h6) k hk).2, by rw [hz]; exact own_lt h6 k hk⟩, ⟨rfl, fun i hi => by cases hi⟩⟩, hC2⟩
/-- What the function that is handed to Do leaves. -/
def FnPost (p : Nat) (F S : Nat → Prop) (X : Int → World → World → Prop) (Y : Prop) (W : World) (e : Ending) (w' : World) : Prop :=
  ((∃ r, e = .returned (.int .i64 r) ∧ X r W w') ∨ (Y ∧ ∃ u pv, e = .panicked [{ v := .iface u pv, recovered := false }])) ∧ (∃ l' sp', TxR w' p l' sp' (Fx F W w')) ∧ Chg (fun k => F k ∨ S k) W w'
/-- What Do leaves. -/
def DoPost (p : Nat) (l : Ws) (F S : Nat → Prop) (X : Int → World → World → Prop) (Y : Prop) (w : World) (e : Ending) (w' : World) : Prop :=
  (∃ W w1, e = .returned (.int .i64 0) ∧ Up w W ∧ X 0 W w1 ∧ Chg (fun k => F k ∨ S k) W w1 ∧ Chg (fun k => w.heap.size ≤ k ∧ k < W.heap.size) w1 w') ∨
  ((∃ r, e = .returned (.int .i64 r) ∧ r ≠ 0 ∧ ((∃ W w1, X r W w1) ∨ (Y ∧ r = 15))) ∧ TxR w' p l [] (Fx F w w') ∧ Chg (fun k => F k ∨ S k) w w')
set_option maxRecDepth 100000 in
set_option maxHeartbeats 4000000 in
theorem do_any (p : Nat) (l : Ws) (F S : Nat → Prop) (g : FuncId) (caps : Array Value) (X : Int → World → World → Prop) (Y : Prop) (w : World) (h : TxR w p l [] F) (hS : ∀ k, S k → k < w.heap.size)
    (eg : ∀ args w, (callFunc g args).run Try.prog w = .ok (.enter g args) w)
    (hf : ∀ W, Up w W → Calls Try.prog g (#[.pointer (some ⟨p, 0, none⟩)] ++ caps) W (FnPost p F S X Y W)) :
    Calls Try.prog 29 #[.pointer (some ⟨p, 0, none⟩), .func (.func g) #[] caps] w (DoPost p l F S X Y w) := by
  have hmf : ∀ (fn : Fn) (first cap : Array Value) (w : World), (Instr.makeFunc fn first cap).run Try.prog w = .ok (.func fn first cap) w := fun _ _ _ _ => rfl
  have HR := Lib.hid h
  have HF := Lib.hid hf
  obtain ⟨ev, sv, ys, h⟩ := h
  have hlen := h.ok.len
  have HS0 := Lib.hid h
  have c0 := h.blk.cell 0
  rw [show ([ev, sv])[0]? = some ev from rfl] at c0
  have c1 := h.blk.cell 1
  rw [show ([ev, sv])[1]? = some sv from rfl] at c1
  have hpl := h.blk.lt
  have HC : Hid (∀ W, Up w W → Calls Try.prog 47 #[ev] W fun e w' => ∃ v, e = .returned v ∧ w'.ownsRow W.heap.size 48 2 v l.length (ec l) ∧ Up W w') := fun W hu => cloneE ev l.length (ec l) W ((own_src HS0.out.ent).up hu) (ec_one l) (by omega)
  have HC2 : Hid (∀ W, Up w W → Calls Try.prog 49 #[sv] W fun e w' => ∃ v, e = .returned v ∧ w'.ownsRow W.heap.size 45 1 v 0 ys ∧ Up W w') := fun W hu => cloneS sv 0 ys W ((own_src HS0.out.sav).up hu) HS0.out.sl'.one (by omega)
  clear hf h
  go_enter_defers Try.func29, Try.ntmps29
  go_upto_region 1 with fail
  obtain ⟨W0, hW0⟩ : ∃ W, W = (w.alloc (.cells #[.pointer (some ⟨p, 0, none⟩)] 41)).alloc (.cells #[.int .i64 0] 25) := ⟨_, rfl⟩
  have q1 : W0.cell? ⟨w.heap.size, 0, none⟩ = some (.pointer (some ⟨p, 0, none⟩)) := by rw [hW0]; exact ((At.new w _ _ 0 _ rfl).grow ((Up.refl _).alloc _)).2
  have hU0 : Up w W0 := by rw [hW0]; exact ((Up.refl w).alloc _).alloc _
  have hz0 : W0.heap.size = w.heap.size + 2 := by rw [hW0]; simp
  have q2 := (hU0.cell (p := ⟨p, 0, none⟩) hpl).trans c0
  have q3 := (hU0.cell (p := ⟨p, 1, none⟩) hpl).trans c1
  have BT : Hid (Blk W0 w.heap.size [.pointer (some ⟨p, 0, none⟩)] 41) := by rw [hW0]; exact (Blk.new w _ _).up ((Up.refl _).alloc _)
  have BE : Hid (Blk W0 (w.heap.size + 1) [.int .i64 0] 25) := by rw [hW0]; have h := Blk.new (w.alloc (.cells #[.pointer (some ⟨p, 0, none⟩)] 41)) #[.int .i64 0] 25; rw [World.size_alloc] at h; exact h
  have HU0 := Lib.hid hU0
  have HZ0 := Lib.hid hz0
  rw [← hW0]
  clear hW0 hU0 hz0 c0 c1
  go_cut [5, 6] from 8 to 17 (fun s5 s6 wx => DoCut w W0 l ys s5 s6 wx)
  case first =>
    refine wp_region_inv (I := fun L a W => ∃ s, a = doFrame (.pointer (some ⟨p, 0, none⟩)) (.func (.func g) #[] caps) (.pointer (some ⟨w.heap.size, 0, none⟩)) (.pointer (some ⟨w.heap.size + 1, 0, none⟩)) s ∧ DoI p w W0 l ys ev sv L W s) (by kernel_rfl) ?h0 ?hs ?he
    case h0 => exact ⟨fun _ => undef, rfl, (Up.refl W0).drew, (fun i hi => by simp [Array.getD] at hi), (fun hi => by simp [Array.getD] at hi), (fun hi => by simp [Array.getD] at hi), fun hi => by simp [Array.getD] at hi⟩
    case hs =>
      rintro L _ W i o ⟨s, rfl, hI⟩ hsz ho hu hall
      have hL : L.size = 14 := hsz
      have k1 := (hI.up.cell (p := ⟨w.heap.size, 0, none⟩) (by show w.heap.size < _; rw [HZ0.out]; omega)).trans q1
      have k2 := (hI.up.cell (p := ⟨p, 0, none⟩) (by show p < _; rw [HZ0.out]; omega)).trans q2
      have k3 := (hI.up.cell (p := ⟨p, 1, none⟩) (by show p < _; rw [HZ0.out]; omega)).trans q3
      rcases i with _ | _ | _ | _ | _ | _ | _ | _ | _ | _ | _ | _ | _ | _ | i
      · simp only [List.getElem?_toArray, List.getElem?_cons_zero, Option.some.injEq] at ho
        subst ho
        refine wpOp_of rfl rfl ?_
        unfold Oper.wp
        simp [execOp, doFrame, Act.eval, go_sem, k1]
        exact ⟨fun k => if k = 8 then Value.pointer (some ⟨p, 0, none⟩) else s k, by simp, hI.put hL hu (Up.refl _) (t := 8) (v := Value.pointer (some ⟨p, 0, none⟩)) (by simp) (by simp [DoS]) (fun e => by cases e) (fun e => by cases e)⟩
      · simp only [List.getElem?_toArray, List.getElem?_cons_zero, List.getElem?_cons_succ, Option.some.injEq] at ho
        subst ho
        have d0 : s 8 = Value.pointer (some ⟨p, 0, none⟩) := hI.st 0 (hall ⟨0, .data⟩ (by simp) rfl)
        refine wpOp_of rfl rfl ?_
        unfold Oper.wp
        simp [execOp, doFrame, Act.eval, go_sem, d0]
        exact ⟨fun k => if k = 9 then Value.pointer (some ⟨p, 0, none⟩) else s k, by simp [d0], hI.put hL hu (Up.refl _) (t := 9) (v := Value.pointer (some ⟨p, 0, none⟩)) (by simp) (by simp [DoS]) (fun e => by cases e) (fun e => by cases e)⟩
      · simp only [List.getElem?_toArray, List.getElem?_cons_zero, List.getElem?_cons_succ, Option.some.injEq] at ho
        subst ho
        have d1 : s 9 = Value.pointer (some ⟨p, 0, none⟩) := hI.st 1 (hall ⟨1, .data⟩ (by simp) rfl)
        refine wpOp_of rfl rfl ?_
        unfold Oper.wp
        simp [execOp, doFrame, Act.eval, go_sem, d1]
        exact ⟨fun k => if k = 10 then Value.pointer (some ⟨p, 0, none⟩) else s k, by simp [d1], hI.put hL hu (Up.refl _) (t := 10) (v := Value.pointer (some ⟨p, 0, none⟩)) (by simp) (by simp [DoS]) (fun e => by cases e) (fun e => by cases e)⟩
      · simp only [List.getElem?_toArray, List.getElem?_cons_zero, List.getElem?_cons_succ, Option.some.injEq] at ho
        subst ho
        have d2 : s 10 = Value.pointer (some ⟨p, 0, none⟩) := hI.st 2 (hall ⟨2, .data⟩ (by simp) rfl)
        refine wpOp_of rfl rfl ?_
        unfold Oper.wp
        simp [execOp, doFrame, Act.eval, go_sem, d2, k2]
        exact ⟨fun k => if k = 11 then ev else s k, by simp [d2], hI.put hL hu (Up.refl _) (t := 11) (v := ev) (by simp) (by simp [DoS]) (fun e => by cases e) (fun e => by cases e)⟩
      · simp only [List.getElem?_toArray, List.getElem?_cons_zero, List.getElem?_cons_succ, Option.some.injEq] at ho
        subst ho
        have d3 : s 11 = ev := hI.st 3 (hall ⟨3, .data⟩ (by simp) rfl)
        refine wpOp_of rfl rfl (wp_go Try.call47 #[ev] (by simp [doFrame, Act.eval, d3]) (HC.out W (HU0.out.trans hI.up)) ?_)
        rintro e W' ⟨v, rfl, g1, g2⟩
        refine ⟨v, rfl, fun k => if k = 12 then v else s k, by simp [doFrame, Act.put], hI.put hL hu g2 (t := 12) (v := v) (by simp) (by simp only [DoS, if_true]; exact own_base' g1 fun k hk => by have := ((own_ty g1) k hk).2; have := (HU0.out.trans hI.up).size; omega) (fun e => by cases e) (fun e => by cases e)⟩
      · simp only [List.getElem?_toArray, List.getElem?_cons_zero, List.getElem?_cons_succ, Option.some.injEq] at ho
        subst ho
        refine wpOp_of rfl rfl ?_
        unfold Oper.wp
        simp [execOp, doFrame, Act.eval, go_sem, k1]
        exact ⟨fun k => if k = 13 then Value.pointer (some ⟨p, 0, none⟩) else s k, by simp, hI.put hL hu (Up.refl _) (t := 13) (v := Value.pointer (some ⟨p, 0, none⟩)) (by simp) (by simp [DoS]) (fun e => by cases e) (fun e => by cases e)⟩
      · simp only [List.getElem?_toArray, List.getElem?_cons_zero, List.getElem?_cons_succ, Option.some.injEq] at ho
        subst ho
        have d5 : s 13 = Value.pointer (some ⟨p, 0, none⟩) := hI.st 5 (hall ⟨5, .data⟩ (by simp) rfl)
        refine wpOp_of rfl rfl ?_
        unfold Oper.wp
        simp [execOp, doFrame, Act.eval, go_sem, d5]
        exact ⟨fun k => if k = 14 then Value.pointer (some ⟨p, 0, none⟩) else s k, by simp [d5], hI.put hL hu (Up.refl _) (t := 14) (v := Value.pointer (some ⟨p, 0, none⟩)) (by simp) (by simp [DoS]) (fun e => by cases e) (fun e => by cases e)⟩
      · simp only [List.getElem?_toArray, List.getElem?_cons_zero, List.getElem?_cons_succ, Option.some.injEq] at ho
        subst ho
        have d6 : s 14 = Value.pointer (some ⟨p, 0, none⟩) := hI.st 6 (hall ⟨6, .data⟩ (by simp) rfl)
        refine wpOp_of rfl rfl ?_
        unfold Oper.wp
        simp [execOp, doFrame, Act.eval, go_sem, d6]
        exact ⟨fun k => if k = 15 then Value.pointer (some ⟨p, 1, none⟩) else s k, by simp [d6], hI.put hL hu (Up.refl _) (t := 15) (v := Value.pointer (some ⟨p, 1, none⟩)) (by simp) (by simp [DoS]) (fun e => by cases e) (fun e => by cases e)⟩
      · simp only [List.getElem?_toArray, List.getElem?_cons_zero, List.getElem?_cons_succ, Option.some.injEq] at ho
        subst ho
        have d7 : s 15 = Value.pointer (some ⟨p, 1, none⟩) := hI.st 7 (hall ⟨7, .data⟩ (by simp) rfl)
        refine wpOp_of rfl rfl ?_
        unfold Oper.wp
        simp [execOp, doFrame, Act.eval, go_sem, d7, k3]
        exact ⟨fun k => if k = 16 then sv else s k, by simp [d7], hI.put hL hu (Up.refl _) (t := 16) (v := sv) (by simp) (by simp [DoS]) (fun e => by cases e) (fun e => by cases e)⟩
      · simp only [List.getElem?_toArray, List.getElem?_cons_zero, List.getElem?_cons_succ, Option.some.injEq] at ho
        subst ho
        have d8 : s 16 = sv := hI.st 8 (hall ⟨8, .data⟩ (by simp) rfl)
        refine wpOp_of rfl rfl (wp_go Try.call49 #[sv] (by simp [doFrame, Act.eval, d8]) (HC2.out W (HU0.out.trans hI.up)) ?_)
        rintro e W' ⟨v, rfl, g1, g2⟩
        refine ⟨v, rfl, fun k => if k = 17 then v else s k, by simp [doFrame, Act.put], hI.put hL hu g2 (t := 17) (v := v) (by simp) (by simp only [DoS, if_true]; exact own_base' g1 fun k hk => by have := ((own_ty g1) k hk).2; have := (HU0.out.trans hI.up).size; omega) (fun _ b hb1 hb2 e => by have := ((own_ty g1) b e).2; omega) (fun e => by cases e)⟩
      · simp only [List.getElem?_toArray, List.getElem?_cons_zero, List.getElem?_cons_succ, Option.some.injEq] at ho
        subst ho
        refine wpOp_of rfl rfl ?_
        unfold Oper.wp
        simp [execOp, doFrame, go_sem]
        exact ⟨fun k => if k = 5 then .pointer (some ⟨W.heap.size, 0, none⟩) else s k, by simp, hI.put hL hu ((Up.refl W).alloc _) (t := 5) (v := .pointer (some ⟨W.heap.size, 0, none⟩)) (by simp) (by simp only [DoS, if_true]; exact ⟨_, _, rfl, hI.up.size, Blk.new W #[.slice none 0 0] _⟩) (fun e => by cases e) (fun _ b hb => by cases hb; exact Nat.le_refl _)⟩
      · simp only [List.getElem?_toArray, List.getElem?_cons_zero, List.getElem?_cons_succ, Option.some.injEq] at ho
        subst ho
        refine wpOp_of rfl rfl ?_
        unfold Oper.wp
        simp [execOp, doFrame, go_sem]
        exact ⟨fun k => if k = 6 then .pointer (some ⟨W.heap.size, 0, none⟩) else s k, by simp, hI.put hL hu ((Up.refl W).alloc _) (t := 6) (v := .pointer (some ⟨W.heap.size, 0, none⟩)) (by simp) (by simp only [DoS, if_true]; exact ⟨_, _, rfl, hI.up.size, Blk.new W #[.slice none 0 0] _⟩) (fun e => by cases e) (fun _ b hb => by cases hb; exact Nat.le_refl _)⟩
      · simp only [List.getElem?_toArray, List.getElem?_cons_zero, List.getElem?_cons_succ, Option.some.injEq] at ho
        subst ho
        have e1 := hall ⟨10, .data⟩ (by simp) rfl
        have e2 := hall ⟨4, .data⟩ (by simp) rfl
        obtain ⟨bb, x, d1, d2, d3⟩ := hI.st 10 e1
        obtain ⟨va, vc, d4, _⟩ := own_form (show W.ownsRow w.heap.size _ _ (s 12) _ _ from hI.st 4 e2)
        have d5 := d3.cell 0
        rw [show ([x])[0]? = some x from rfl] at d5
        have d6 := d3.free 0
        have hA := hI.st12 hL hu e1 e2 d1
        refine wpOp_of rfl rfl ?_
        unfold Oper.wp
        rw [d4] at hA
        simp [execOp, doFrame, Act.eval, go_sem, d1, d4, d5, d6]
        exact ⟨s, by simp [d1, d4], hA⟩
      · simp only [List.getElem?_toArray, List.getElem?_cons_zero, List.getElem?_cons_succ, Option.some.injEq] at ho
        subst ho
        have e1 := hall ⟨11, .data⟩ (by simp) rfl
        have e2 := hall ⟨9, .data⟩ (by simp) rfl
        obtain ⟨bb, x, d1, d2, d3⟩ := hI.st 11 e1
        obtain ⟨va, vc, d4, _⟩ := own_form (show W.ownsRow w.heap.size _ _ (s 17) _ _ from hI.st 9 e2)
        have d5 := d3.cell 0
        rw [show ([x])[0]? = some x from rfl] at d5
        have d6 := d3.free 0
        have hA := hI.st13 hL hu e1 e2 d1
        refine wpOp_of rfl rfl ?_
        unfold Oper.wp
        rw [d4] at hA
        simp [execOp, doFrame, Act.eval, go_sem, d1, d4, d5, d6]
        exact ⟨s, by simp [d1, d4], hA⟩
      · simp at ho
    case he =>
      rintro L _ W ⟨s, rfl, hI⟩ hsz hr2
      have hd := all_done (lex_of (by kernel_rfl)) hsz hr2
      obtain ⟨b5, z1, z2⟩ := hI.st 12 (hd 12 (by decide))
      obtain ⟨b6, z3, z4⟩ := hI.st 13 (hd 13 (by decide))
      obtain ⟨b5', x5, z5, z6, _⟩ := hI.st 10 (hd 10 (by decide))
      obtain ⟨b6', x6, z7, z8, _⟩ := hI.st 11 (hd 11 (by decide))
      rw [z1] at z5
      cases z5
      rw [z3] at z7
      cases z7
      have hcut : DoCut w W0 l ys (s 5) (s 6) W := ⟨b5, b6, s 12, s 17, z1, z3, z6, z8, z2, z4, hI.up, hI.st 4 (hd 4 (by decide)), hI.st 9 (hd 9 (by decide))⟩
      have HCUT := Lib.hid hcut
      unfold doFrame
      clear hcut hd
      go_wp2_with fail
      go_meet
      exact HCUT.out
  case rest =>
    obtain ⟨b5, b6, v5, v6, rfl, rfl, z1, z2, z3, z4, z5, z6, z7⟩ := hcut
    obtain ⟨a5, c5, rfl, _, _, _⟩ := own_form z6
    obtain ⟨a6, c6, rfl, _, _, _⟩ := own_form z7
    obtain ⟨W2, hW2⟩ : ∃ W, W = wc.alloc (.cells #[.bool false] 4) := ⟨_, rfl⟩
    have U2 : Hid (Up wc W2) := by rw [hW2]; exact (Up.refl _).alloc _
    have BR2 : Hid (Blk W2 wc.heap.size [.bool false] 4) := by rw [hW2]; exact Blk.new _ _ _
    have BT2 := Lib.hid ((BT.out.up z5).up U2.out)
    have BE2 := Lib.hid ((BE.out.up z5).up U2.out)
    have B52 := Lib.hid (z3.up U2.out)
    have B62 := Lib.hid (z4.up U2.out)
    have O52 := Lib.hid (own_up z6 U2.out)
    have O62 := Lib.hid (own_up z7 U2.out)
    have HUW : Hid (Up w W2) := (HU0.out.trans z5).trans U2.out
    have t2 := BT2.out.cell 0
    rw [show ([Value.pointer (some ⟨p, 0, none⟩)])[0]? = some (.pointer (some ⟨p, 0, none⟩)) from rfl, hW2] at t2
    have hzc : W0.heap.size ≤ wc.heap.size := z5.size
    have Z1 := Lib.hid z1
    have Z2 := Lib.hid z2
    clear z1 z2 z3 z4 z5 z6 z7
    go_wp2_with fail
    rw [← hW2]
    have hcw : wc.heap.size < W2.heap.size := BR2.out.lt
    have hwc : w.heap.size + 2 ≤ wc.heap.size := by have := HZ0.out; omega
    clear hW2 t2
    refine (HF.out W2 HUW.out).mono ?_
    rintro e w1 ⟨hcase, ⟨l', sp', hT⟩, hC⟩
    have NF : ∀ k, w.heap.size ≤ k → ¬ (F k ∨ S k) := fun k hk e => by
      rcases e with e | e
      · have := HS0.out.lt k e; omega
      · have := hS k e; omega
    have n5 : w.heap.size + 2 ≤ b5 := by have := HZ0.out; have := Z1.out; omega
    have n6 : w.heap.size + 2 ≤ b6 := by have := HZ0.out; have := Z2.out; omega
    have l5 : b5 < W2.heap.size := B52.out.lt
    have l6 : b6 < W2.heap.size := B62.out.lt
    have BT1 := BT2.out.chg hC (NF _ (Nat.le_refl _))
    have BE1 := BE2.out.chg hC (NF _ (by omega))
    have B51 := B52.out.chg hC (NF _ (by omega))
    have B61 := B62.out.chg hC (NF _ (by omega))
    have BR1 := BR2.out.chg hC (NF _ (by omega))
    have O51 := own_chg O52.out hC fun k hk => NF k ((own_ty O52.out) k hk).2
    have O61 := own_chg O62.out hC fun k hk => NF k ((own_ty O62.out) k hk).2
    obtain ⟨nev, nsv, nys, hTP⟩ := hT
    have BP1 := hTP.blk
    have hp5 : p < w.heap.size := hpl
    have hC0 : Chg (fun k => F k ∨ S k) w w1 := (HUW.out.chg fun k => F k ∨ S k).trans hC fun _ _ e => e
    have nRB5 : b5 ≠ wc.heap.size := fun e => by subst e; exact (blk_ty BR2.out).ne (by decide) (blk_ty B52.out)
    have nRB6 : b6 ≠ wc.heap.size := fun e => by subst e; exact (blk_ty BR2.out).ne (by decide) (blk_ty B62.out)
    rcases hcase with ⟨r, rfl, hX⟩ | ⟨hY, u, pv, rfl⟩
    · -- it has returned
      have e0 := BE1.cell 0
      rw [show ([Value.int .i64 0])[0]? = some (.int .i64 0) from rfl] at e0
      have e1 := BE1.free 0
      have r0 := BR1.cell 0
      rw [show ([Value.bool false])[0]? = some (.bool false) from rfl] at r0
      have r1 := BR1.free 0
      have D1 := ((BE1.set 0 (.int .i64 r)).other (b' := wc.heap.size) (by omega) 0 none (.bool true)).set 0 (.int .i64 r)
      have D2 := ((BR1.other (b' := w.heap.size + 1) (by omega) 0 none (.int .i64 r)).set 0 (.bool true)).other (b' := w.heap.size + 1) (by omega) 0 none (.int .i64 r)
      have D3 := ((BT1.other (b' := w.heap.size + 1) (by omega) 0 none (.int .i64 r)).other (b' := wc.heap.size) (by omega) 0 none (.bool true)).other (b' := w.heap.size + 1) (by omega) 0 none (.int .i64 r)
      have D5 := ((B51.other (b' := w.heap.size + 1) (by omega) 0 none (.int .i64 r)).other (b' := wc.heap.size) nRB5 0 none (.bool true)).other (b' := w.heap.size + 1) (by omega) 0 none (.int .i64 r)
      have D6 := ((B61.other (b' := w.heap.size + 1) (by omega) 0 none (.int .i64 r)).other (b' := wc.heap.size) nRB6 0 none (.bool true)).other (b' := w.heap.size + 1) (by omega) 0 none (.int .i64 r)
      have DP := ((BP1.other (b' := w.heap.size + 1) (by omega) 0 none (.int .i64 r)).other (b' := wc.heap.size) (by omega) 0 none (.bool true)).other (b' := w.heap.size + 1) (by omega) 0 none (.int .i64 r)
      have CD : Chg (fun k => k = w.heap.size + 1 ∨ k = wc.heap.size) w1 (((w1.setCell ⟨w.heap.size + 1, 0, none⟩ (.int .i64 r)).setCell ⟨wc.heap.size, 0, none⟩ (.bool true)).setCell ⟨w.heap.size + 1, 0, none⟩ (.int .i64 r)) := (((Chg.refl _ w1).set (.inl (.inl rfl)) _ _ _).set (.inl (.inr rfl)) _ _ _).set (.inl (.inl rfl)) _ _ _
      have OD5 := own_chg O51 CD fun k hk e => by
        have ht := ((own_ty O51) k hk).1
        rcases e with e | e
        · subst e; exact ht.ne (by decide) (blk_ty BE1)
        · subst e; exact ht.ne (by decide) (blk_ty BR1)
      have OD6 := own_chg O61 CD fun k hk e => by
        have ht := ((own_ty O61) k hk).1
        rcases e with e | e
        · subst e; exact ht.ne (by decide) (blk_ty BE1)
        · subst e; exact ht.ne (by decide) (blk_ty BR1)
      have HD1 := Lib.hid D1
      have HD2 := Lib.hid D2
      have HD3 := Lib.hid D3
      have HD5 := Lib.hid D5
      have HD6 := Lib.hid D6
      have HDP := Lib.hid DP
      clear D1 D2 D3 D5 D6 DP hTP BT1 B51 B61 BP1
      go_wp2_with fail
      obtain ⟨wd, hwd⟩ : ∃ wd, wd = (((w1.setCell ⟨w.heap.size + 1, 0, none⟩ (.int .i64 r)).setCell ⟨wc.heap.size, 0, none⟩ (.bool true)).setCell ⟨w.heap.size + 1, 0, none⟩ (.int .i64 r)) := ⟨_, rfl⟩
      rw [← hwd] at HD1 HD2 HD3 HD5 HD6 HDP CD OD5 OD6 ⊢
      clear hwd
      have hV : DoVars wd wc.heap.size (w.heap.size + 1) b5 b6 w.heap.size p true r (.slice a5 l.length c5) (.slice a6 0 c6) := ⟨HD2.out.cell 0, HD1.out.cell 0, HD5.out.cell 0, HD6.out.cell 0, HD3.out.cell 0⟩
      refine leaves_cons (f := 50) (args := #[.pointer (some ⟨wc.heap.size, 0, none⟩), .pointer (some ⟨w.heap.size + 1, 0, none⟩), .pointer (some ⟨b5, 0, none⟩), .pointer (some ⟨b6, 0, none⟩), .pointer (some ⟨w.heap.size, 0, none⟩)]) (by simp) (by simp [go_sem]) ?_
      by_cases hr : r = 0
      · subst hr
        refine (undo_ok _ _ _ _ _ p _ _ wd hV).mono ?_
        rintro e u' w'' ⟨rfl, rfl, rfl⟩
        refine ⟨.int .i64 0, ?_, .inl ⟨W2, w1, rfl, HUW.out, hX, hC, CD.mono fun k _ e => ?_⟩⟩
        · exact do_res (HD1.out.cell 0)
        · rcases e with e | e <;> omega
      · refine (undo_err _ _ _ _ _ p r _ _ _ _ _ _ _ _ wd hV hr HDP.out).mono ?_
        rintro e u' w'' ⟨rfl, rfl, rfl⟩
        have hA := undo_tx HS0.out HDP.out OD5 OD6 (hC0.trans CD fun k hk e => by rcases e with e | e <;> omega)
        refine ⟨.int .i64 r, ?_, .inr ⟨⟨r, rfl, hr, .inl ⟨W2, w1, hX⟩⟩, hA.1, hA.2⟩⟩
        refine do_res ?_
        exact (((HD1.out.other (b' := p) (by omega) 0 none _).other (b' := p) (by omega) 1 none _).cell 0)
    · -- it has panicked
      have hV : DoVars w1 wc.heap.size (w.heap.size + 1) b5 b6 w.heap.size p false 0 (.slice a5 l.length c5) (.slice a6 0 c6) := ⟨BR1.cell 0, BE1.cell 0, B51.cell 0, B61.cell 0, BT1.cell 0⟩
      refine leaves_cons (f := 50) (args := #[.pointer (some ⟨wc.heap.size, 0, none⟩), .pointer (some ⟨w.heap.size + 1, 0, none⟩), .pointer (some ⟨b5, 0, none⟩), .pointer (some ⟨b6, 0, none⟩), .pointer (some ⟨w.heap.size, 0, none⟩)]) (by simp) (by simp [go_sem]) ?_
      refine (undo_panic _ _ _ _ _ p 0 _ _ _ _ _ _ _ _ w1 u pv [] hV (BE1.free 0) (by omega) (by omega) (by omega) (by omega) BP1).mono ?_
      rintro e u' w'' ⟨rfl, rfl, rfl⟩
      have E15 := BE1.set 0 (.int .i64 15)
      have CE := chg_set w1 (w.heap.size + 1) 0 none (.int .i64 15)
      have P15 := BP1.other (b' := w.heap.size + 1) (by omega) 0 none (.int .i64 15)
      have hA := undo_tx HS0.out P15 (own_chg O51 CE fun k hk e => by subst e; exact (((own_ty O51) _ hk).1).ne (by decide) (blk_ty BE1)) (own_chg O61 CE fun k hk e => by subst e; exact (((own_ty O61) _ hk).1).ne (by decide) (blk_ty BE1)) (hC0.trans CE fun k hk e => by omega)
      refine ⟨.int .i64 15, ?_, .inr ⟨⟨15, rfl, by decide, .inr ⟨hY, rfl⟩⟩, hA.1, hA.2⟩⟩
      refine do_res ?_
      exact (((E15.other (b' := p) (by omega) 0 none _).other (b' := p) (by omega) 1 none _).cell 0)

end Go.Proofs.Ytoelcnfgjfccgaa.Sp
