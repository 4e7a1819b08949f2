/- The workspace's RollbackTo, Release. -/
import Derived.Test.YtoelcnfgjfccgaaSph
namespace Go.Proofs.Ytoelcnfgjfccgaa.Sp
open Go Go.RowKit Hp So
set_option linter.unusedVariables false

theorem sp_any (p : Nat) (l : Ws) (sp : List Ws) (F : Nat → Prop) (w : World) (h : TxR w p l sp F) :
    Calls Try.prog 27 #[.pointer (some ⟨p, 0, none⟩)] w fun e w' => e = .returned (.tuple #[.int .i64 (spP l sp).2.1, .int .i64 (spP l sp).2.2]) ∧ TxR w' p l (spP l sp).1 (Fx F w w') ∧ Chg F w w' := by
  by_cases hf : sp.length = 20
  · exact sp_full p l sp F w h hf
  · exact sp_new p l sp F w h hf

set_option maxRecDepth 100000 in
set_option maxHeartbeats 1000000 in
theorem rb_no (p : Nat) (l : Ws) (sp : List Ws) (F : Nat → Prop) (k : Int) (w : World) (h : TxR w p l sp F) (hk : ¬ (1 ≤ k ∧ k ≤ sp.length)) :
    Calls Try.prog 28 #[.pointer (some ⟨p, 0, none⟩), .int .i64 k] w fun e w' => e = .returned (.int .i64 4) ∧ TxR w' p l sp (Fx F w w') ∧ Chg F w w' := by
  have HR := Lib.hid h
  obtain ⟨ev, sv, ys, h⟩ := h
  obtain ⟨a, cap, rfl, _, _, _⟩ := own_form h.sav
  have c1 := h.blk.cell 1
  rw [show ([ev, Value.slice a sp.length cap])[1]? = some (.slice a sp.length cap) from rfl] at c1
  clear h
  by_cases h1 : k < 1
  · go_enter Try.func28, Try.ntmps28
    go_wp2
    go_ret
    exact ⟨rfl, HR.out.upP (Up.refl w)⟩
  · have h2 : (sp.length : Int) < k := by omega
    have h3 : 1 ≤ k := by omega
    clear hk
    go_enter Try.func28, Try.ntmps28
    go_wp2
    go_ret
    exact ⟨rfl, HR.out.upP (Up.refl w)⟩

set_option maxRecDepth 100000 in
set_option maxHeartbeats 1000000 in
theorem rl_no (p : Nat) (l : Ws) (sp : List Ws) (F : Nat → Prop) (k : Int) (w : World) (h : TxR w p l sp F) (hk : ¬ (1 ≤ k ∧ k ≤ sp.length)) :
    Calls Try.prog 32 #[.pointer (some ⟨p, 0, none⟩), .int .i64 k] w fun e w' => e = .returned (.int .i64 4) ∧ TxR w' p l sp (Fx F w w') ∧ Chg F w w' := by
  have HR := Lib.hid h
  obtain ⟨ev, sv, ys, h⟩ := h
  obtain ⟨a, cap, rfl, _, _, _⟩ := own_form h.sav
  have c1 := h.blk.cell 1
  rw [show ([ev, Value.slice a sp.length cap])[1]? = some (.slice a sp.length cap) from rfl] at c1
  clear h
  by_cases h1 : k < 1
  · go_enter Try.func32, Try.ntmps32
    go_wp2
    go_ret
    exact ⟨rfl, HR.out.upP (Up.refl w)⟩
  · have h2 : (sp.length : Int) < k := by omega
    have h3 : 1 ≤ k := by omega
    clear hk
    go_enter Try.func32, Try.ntmps32
    go_wp2
    go_ret
    exact ⟨rfl, HR.out.upP (Up.refl w)⟩

/-- One step behind another. -/
theorem TxR.two {w a b : World} {p : Nat} {l : Ws} {sp : List Ws} {F : Nat → Prop} (hl : ∀ k, F k → k < w.heap.size) (h1 : Chg F w a) (h : TxR b p l sp (Fx (Fx F w a) a b) ∧ Chg (Fx F w a) a b) : TxR b p l sp (Fx F w b) ∧ Chg F w b := by
  have s1 := h1.size
  have s2 := h.2.size
  refine ⟨h.1.mono (fun k hk => ?_) (fx_lt hl (by omega)), h1.trans h.2 fun k hk e => ?_⟩
  · rcases hk with (hk | hk) | hk
    · exact .inl hk
    · exact .inr ⟨hk.1, by omega⟩
    · exact .inr ⟨by omega, hk.2⟩
  · rcases e with e | e
    · exact e
    · omega
theorem src_take {w : World} {g n cap j : Nat} {size : Nat} {xs : List Value} (h : Src w size (.slice (some ⟨g, 0, none⟩) n cap) n xs) (hj : j ≤ n) : Src w size (.slice (some ⟨g, 0, none⟩) j cap) j (xs.take (j * size)) := by
  obtain ⟨hx, h⟩ := h
  refine ⟨by rw [List.length_take, hx]; exact Nat.min_eq_left (Nat.mul_le_mul_right _ hj), .inr ?_⟩
  rcases h with ⟨h, _⟩ | ⟨b, off, c, hv, h1, h2, h3⟩
  · cases h
  · simp only [Value.slice.injEq, Option.some.injEq, Addr.mk.injEq] at hv
    obtain ⟨⟨rfl, rfl, _⟩, _, rfl⟩ := hv
    refine ⟨g, 0, cap, rfl, by omega, h2, fun i u hi => h3 i u ?_⟩
    rw [List.getElem?_take] at hi
    split at hi
    · exact hi
    · cases hi
theorem SavL.take {w : World} {F : Nat → Prop} {ev : Value} {ys : List Value} {sp : List Ws} (h : SavL w F ev ys sp) (j : Nat) : SavL w F ev (ys.take j) (sp.take j) :=
  ⟨by rw [List.length_take, List.length_take, h.1], fun i hi => by
    rw [List.length_take] at hi
    have hi1 : i < j := Nat.lt_of_lt_of_le hi (Nat.min_le_left _ _)
    have hi2 : i < sp.length := Nat.lt_of_lt_of_le hi (Nat.min_le_right _ _)
    obtain ⟨y, h1, h2, h3⟩ := h.2 i hi2
    refine ⟨y, by rw [List.getElem?_take, if_pos hi1]; exact h1, ?_, h3⟩
    rw [List.getElem_take]; exact h2⟩
theorem SavL.one {w : World} {F : Nat → Prop} {ev : Value} {ys : List Value} {sp : List Ws} (h : SavL w F ev ys sp) : ∀ u ∈ ys, u.oneCell' = true := fun u hu => by
  obtain ⟨i, hi, rfl⟩ := List.getElem_of_mem hu
  obtain ⟨y, h1, h2, _⟩ := h.2 i (by rw [← h.1]; exact hi)
  rw [List.getElem?_eq_getElem hi] at h1
  cases h1
  rcases h2.2 with ⟨e, _⟩ | ⟨b, off, c, e, _⟩ <;> rw [e] <;> rfl
/-- The first j savepoints, in a row of their own. -/
theorem rl_step {w w1 : World} {p j : Nat} {l : Ws} {sp : List Ws} {F : Nat → Prop} {ev sv v : Value} {ys : List Value} (h : TxP w p l sp F ev sv ys) (hU : Up w w1) (h1 : w1.ownsRow w.heap.size 45 1 v j (ys.take j)) (hj : j ≤ sp.length) :
    TxR (w1.setCell ⟨p, 1, none⟩ v) p l (sp.take j) (Fx F w (w1.setCell ⟨p, 1, none⟩ v)) ∧ Chg F w (w1.setCell ⟨p, 1, none⟩ v) := by
  have hl : (sp.take j).length = j := by rw [List.length_take]; exact Nat.min_eq_left hj
  obtain ⟨a1, a2⟩ := h.setSav (sp' := sp.take j) (ys' := ys.take j) (sv' := v) (Below.chg _ hU) (by rw [hl]; exact own_base' h1 fun _ _ => Nat.zero_le _) (fun k hk => .inr ((own_ty h1) k hk).2) (fun s hs => h.oks s (List.mem_of_mem_take hs)) (by have := h.sl; omega)
    ((h.sl'.chg (F' := fun k => F k ∨ (w.heap.size ≤ k ∧ k < w1.heap.size)) (ev' := ev) (Below.chg (fun _ => False) hU) fun k hk hn _ => ⟨fun e => e, .inl hk, hn⟩).take j)
  exact ⟨⟨_, _, _, a1⟩, a2⟩

set_option maxRecDepth 100000 in
set_option maxHeartbeats 1000000 in
theorem rl_ok (p : Nat) (l : Ws) (sp : List Ws) (F : Nat → Prop) (k : Int) (j : Nat) (w : World) (h : TxR w p l sp F) (hk : k = j + 1) (h2 : j < sp.length) :
    Calls Try.prog 32 #[.pointer (some ⟨p, 0, none⟩), .int .i64 k] w fun e w' => e = .returned (.int .i64 0) ∧ TxR w' p l (sp.take j) (Fx F w w') ∧ Chg F w w' := by
  obtain ⟨ev, sv, ys, h⟩ := h
  have hsl := h.sl
  have HS := Lib.hid h
  have hlb := own_lt h.sav
  obtain ⟨g, cap, rfl, hc1, hc2, _⟩ := own_some h.sav (by omega)
  have hc := cloneS (.slice (some ⟨g, 0, none⟩) j cap) j (ys.take j) w (by have := src_take (j := j) (own_src h.sav) (by omega); rw [Nat.mul_one] at this; exact this) (fun u hu => h.sl'.one u (List.mem_of_mem_take hu)) (by omega)
  have c1 := h.blk.cell 1
  rw [show ([ev, Value.slice (some ⟨g, 0, none⟩) sp.length cap])[1]? = some (.slice (some ⟨g, 0, none⟩) sp.length cap) from rfl] at c1
  have q0 := h.blk.free 1
  have hpl := h.blk.lt
  clear h
  have b0 : ¬ k < 1 := by omega
  have b1 : ¬ (sp.length : Int) < k := by omega
  have b2 : (0 : Int) ≤ k - 1 := by omega
  have b3 : k - 1 ≤ (cap : Int) := by omega
  have b4 : k.toNat - 1 = j := by omega
  go_enter Try.func32, Try.ntmps32
  go_wp2_with (go_at_call 49; refine hc.mono ?_; rintro e w1 ⟨v, rfl, h1, h2⟩; obtain ⟨a', c', rfl, _, _, _⟩ := own_form h1; have c1' := (h2.cell (p := ⟨p, 1, none⟩) hpl).trans c1; have q0' := (h2.frozen (p := ⟨p, 1, none⟩) hpl).trans q0; have H1 := Lib.hid h1; have H2 := Lib.hid h2; clear h1 h2)
  go_ret
  exact ⟨rfl, rl_step HS.out H2.out H1.out (by omega)⟩

set_option maxRecDepth 100000 in
set_option maxHeartbeats 1000000 in
theorem rb_ok (p : Nat) (l : Ws) (sp : List Ws) (F : Nat → Prop) (k : Int) (j : Nat) (w : World) (h : TxR w p l sp F) (hk : k = j + 1) (h2 : j < sp.length) :
    Calls Try.prog 28 #[.pointer (some ⟨p, 0, none⟩), .int .i64 k] w fun e w' => e = .returned (.int .i64 0) ∧ TxR w' p sp[j] (sp.take (j + 1)) (Fx F w w') ∧ Chg F w w' := by
  obtain ⟨ev, sv, ys, h⟩ := h
  have hsl := h.sl
  have HS := Lib.hid h
  have hok := h.oks _ (List.getElem_mem h2)
  have hlb := own_lt h.sav
  obtain ⟨g, cap, rfl, hc1, hc2, hgl, hcl, _⟩ := own_some h.sav (by omega)
  obtain ⟨y, y1, y2, y3⟩ := h.sl'.2 j h2
  have e1 := hcl _ _ y1
  have hc := cloneE y sp[j].length (ec sp[j]) w y2 (ec_one _) (by have := hok.len; omega)
  have c1 := h.blk.cell 1
  rw [show ([ev, Value.slice (some ⟨g, 0, none⟩) sp.length cap])[1]? = some (.slice (some ⟨g, 0, none⟩) sp.length cap) from rfl] at c1
  have c0 := h.blk.cell 0
  rw [show ([ev, Value.slice (some ⟨g, 0, none⟩) sp.length cap])[0]? = some ev from rfl] at c0
  have q0 := h.blk.free 0
  have q1 := h.blk.free 1
  have hpl := h.blk.lt
  obtain ⟨a0, c0', n0, rfl⟩ : ∃ a0 c0 n0, y = .slice a0 n0 c0 := by
    rcases y2.2 with ⟨e, _⟩ | ⟨b, off, c, e, _⟩
    · exact ⟨_, _, _, e⟩
    · exact ⟨_, _, _, e⟩
  clear h hcl y1 y2 y3
  have b0 : ¬ k < 1 := by omega
  have b1 : ¬ (sp.length : Int) < k := by omega
  have b2 : (0 : Int) ≤ k - 1 := by omega
  have b3 : k - 1 < (sp.length : Int) := by omega
  have b4 : k.toNat - 1 = j := by omega
  go_enter Try.func28, Try.ntmps28
  have b5 : k ≤ (cap : Int) := by omega
  have b6 : (0 : Int) ≤ k := by omega
  have b7 : k.toNat = j + 1 := by omega
  go_wp2_with (first
    | (go_at_call 47; refine hc.mono ?_; rintro e w1 ⟨v, rfl, h1, h2⟩; obtain ⟨a', c', rfl, _, _, _⟩ := own_form h1; have c0' := (h2.cell (p := ⟨p, 0, none⟩) hpl).trans c0; have q0' := (h2.frozen (p := ⟨p, 0, none⟩) hpl).trans q0; have c1' := (h2.cell (p := ⟨p, 1, none⟩) hpl).trans c1; have S1 := Lib.hid (HS.out.setEnt (Below.chg _ h2) (own_base' h1 fun _ _ => Nat.zero_le _) (fun k hk => .inr ((own_ty h1) k hk).2) hok); clear h1 h2)
    | (go_at_call 49; refine (cloneS (.slice (some ⟨g, 0, none⟩) (j + 1) cap) (j + 1) (ys.take (j + 1)) _ (by have := src_take (j := j + 1) (own_src S1.out.1.sav) (by omega); rw [Nat.mul_one] at this; exact this) (fun u hu => S1.out.1.sl'.one u (List.mem_of_mem_take hu)) (by omega)).mono ?_; rintro e w2 ⟨v, rfl, h1, h2⟩; obtain ⟨a2, c2, rfl, _, _, _⟩ := own_form h1; have r1 := (h2.cell (p := ⟨p, 1, none⟩) S1.out.1.blk.lt).trans (show _ = some (.slice (some ⟨g, 0, none⟩) sp.length cap) from S1.out.1.blk.cell 1); have r2 := (h2.frozen (p := ⟨p, 1, none⟩) S1.out.1.blk.lt).trans (S1.out.1.blk.free 1); have H1 := Lib.hid h1; have H2 := Lib.hid h2; clear h1 h2))
  go_ret
  exact ⟨rfl, TxR.two HS.out.lt S1.out.2 (rl_step S1.out.1 H2.out H1.out (by omega))⟩

end Go.Proofs.Ytoelcnfgjfccgaa.Sp
