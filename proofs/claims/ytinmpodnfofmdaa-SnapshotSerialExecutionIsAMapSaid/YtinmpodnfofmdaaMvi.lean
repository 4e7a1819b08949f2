/- The multi-version store: add, where nothing is added. -/
import Derived.Test.YtinmpodnfofmdaaMvh
namespace Go.Proofs.Ytinmpodnfofmdaa.Mv
open Go Go.RowKit Hp So
set_option linter.unusedVariables false

def AddPost (p : Nat) (l' : List PC) (r : Int) (hz : Int) (F : Nat → Prop) (w : World) (e : Ending) (w' : World) : Prop := e = .returned (.int .i64 r) ∧ StR w' p l' hz (Fx F w w') ∧ Chg F w w'
section
variable (p : Nat) (l : List PC) (hz : Int) (F : Nat → Prop) (t : ByteArray) (ts : Int) (tb : Bool) (ra : Option Addr) (rc : Nat) (row : List Val) (w : World)
set_option maxRecDepth 100000 in
set_option maxHeartbeats 1000000 in
theorem add_l1 (h : StR w p l hz F) (hk : 24 < t.size) : Calls Try.prog 47 #[.pointer (some ⟨p, 0, none⟩), .string t, .agg #[.int .i64 ts, .bool tb, .slice ra row.length rc]] w (AddPost p (addL l hz t ⟨ts, tb, row⟩).1 (addL l hz t ⟨ts, tb, row⟩).2 hz F w) := by
  have hk2 : (24 : Int) < (t.size : Int) := by omega
  have HP : Hid (addL l hz t ⟨ts, tb, row⟩ = (l, 2)) := by unfold Hid addL; rw [if_pos (.inl hk)]
  go_enter Try.func47, Try.ntmps47
  go_wp2
  go_ret
  rw [HP.out]
  exact ⟨rfl, h.upP ((Up.refl w).alloc _)⟩
set_option maxRecDepth 100000 in
set_option maxHeartbeats 1000000 in
theorem add_l2 (h : StR w p l hz F) (hk : ¬ 24 < t.size) (hr : 6 < row.length) : Calls Try.prog 47 #[.pointer (some ⟨p, 0, none⟩), .string t, .agg #[.int .i64 ts, .bool tb, .slice ra row.length rc]] w (AddPost p (addL l hz t ⟨ts, tb, row⟩).1 (addL l hz t ⟨ts, tb, row⟩).2 hz F w) := by
  have hk2 : ¬ (24 : Int) < (t.size : Int) := by omega
  have hr2 : (6 : Int) < (row.length : Int) := by omega
  have HP : Hid (addL l hz t ⟨ts, tb, row⟩ = (l, 2)) := by unfold Hid addL; rw [if_pos (.inr hr)]
  go_enter Try.func47, Try.ntmps47
  go_wp2
  go_ret
  rw [HP.out]
  exact ⟨rfl, h.upP ((Up.refl w).alloc _)⟩
set_option maxRecDepth 100000 in
set_option maxHeartbeats 1000000 in
theorem add_a (h : StR w p l hz F) (hk : ¬ 24 < t.size) (hr : ¬ 6 < row.length) (ht : ts < 1 ∨ 1099511627776 < ts) : Calls Try.prog 47 #[.pointer (some ⟨p, 0, none⟩), .string t, .agg #[.int .i64 ts, .bool tb, .slice ra row.length rc]] w (AddPost p (addL l hz t ⟨ts, tb, row⟩).1 (addL l hz t ⟨ts, tb, row⟩).2 hz F w) := by
  have hk2 : ¬ (24 : Int) < (t.size : Int) := by omega
  have hr2 : ¬ (6 : Int) < (row.length : Int) := by omega
  have HP : Hid (addL l hz t ⟨ts, tb, row⟩ = (l, 1)) := by unfold Hid addL; rw [if_neg (show ¬ (24 < t.size ∨ 6 < row.length) by omega), if_pos ht]
  rcases Int.lt_or_le ts 1 with h1 | h1
  · clear ht
    go_enter Try.func47, Try.ntmps47
    go_wp2
    go_ret
    rw [HP.out]
    exact ⟨rfl, h.upP ((Up.refl w).alloc _)⟩
  · have h2 : ¬ ts < 1 := by omega
    have h3 : 1099511627776 < ts := by omega
    clear ht
    go_enter Try.func47, Try.ntmps47
    go_wp2
    go_ret
    rw [HP.out]
    exact ⟨rfl, h.upP ((Up.refl w).alloc _)⟩
set_option maxRecDepth 100000 in
set_option maxHeartbeats 1000000 in
theorem add_g (h : StR w p l hz F) (hk : ¬ 24 < t.size) (hr : ¬ 6 < row.length) (ht : ¬ ts < 1) (ht2 : ¬ 1099511627776 < ts) (hg : ts ≤ hz) : Calls Try.prog 47 #[.pointer (some ⟨p, 0, none⟩), .string t, .agg #[.int .i64 ts, .bool tb, .slice ra row.length rc]] w (AddPost p (addL l hz t ⟨ts, tb, row⟩).1 (addL l hz t ⟨ts, tb, row⟩).2 hz F w) := by
  have hk2 : ¬ (24 : Int) < (t.size : Int) := by omega
  have hr2 : ¬ (6 : Int) < (row.length : Int) := by omega
  have HP : Hid (addL l hz t ⟨ts, tb, row⟩ = (l, 21)) := by unfold Hid addL; rw [if_neg (show ¬ (24 < t.size ∨ 6 < row.length) by omega), if_neg (show ¬ (ts < 1 ∨ 1099511627776 < ts) by omega), if_pos hg]
  have HH := Lib.hid h
  obtain ⟨cv, cs, h, _⟩ := h
  have c1 := h.blk.cell 1
  rw [show ([cv, .int .i64 hz])[1]? = some (.int .i64 hz) from rfl] at c1
  have hpl := h.blk.lt
  have c1' := ((Up.refl w).alloc (.cells #[.int .i64 ts, .bool tb, .slice ra row.length rc] 82)).cell (p := ⟨p, 1, none⟩) hpl
  rw [c1] at c1'
  clear h
  go_enter Try.func47, Try.ntmps47
  go_wp2
  go_quiet (fail)
  go_wp2
  go_ret
  rw [HP.out]
  exact ⟨rfl, HH.out.upP (((Up.refl w).alloc _).drewN _)⟩
set_option maxRecDepth 100000 in
set_option maxHeartbeats 2000000 in
theorem add_o (h : StR w p l hz F) (hk : ¬ 24 < t.size) (hr : ¬ 6 < row.length) (ht : ¬ ts < 1) (ht2 : ¬ 1099511627776 < ts) (hg : ¬ ts ≤ hz) (hh : has l t = true) (hl : ts ≤ lastTs (l.getD (pos l t) (t, [])).2) : Calls Try.prog 47 #[.pointer (some ⟨p, 0, none⟩), .string t, .agg #[.int .i64 ts, .bool tb, .slice ra row.length rc]] w (AddPost p (addL l hz t ⟨ts, tb, row⟩).1 (addL l hz t ⟨ts, tb, row⟩).2 hz F w) := by
  have hk2 : ¬ (24 : Int) < (t.size : Int) := by omega
  have hr2 : ¬ (6 : Int) < (row.length : Int) := by omega
  have HP : Hid (addL l hz t ⟨ts, tb, row⟩ = (l, 6)) := by unfold Hid addL; rw [if_neg (show ¬ (24 < t.size ∨ 6 < row.length) by omega), if_neg (show ¬ (ts < 1 ∨ 1099511627776 < ts) by omega), if_neg hg, if_pos ⟨hh, hl⟩]
  have HH := Lib.hid h
  have HSC : Hid (∀ W, Up w W → Calls Try.prog 46 #[.pointer (some ⟨p, 0, none⟩), .string t] W fun e w' => e = .returned (.tuple #[.int .i64 (pos l t : Nat), .bool true]) ∧ Up W w') := fun W hu => by have := search_any p l hz F t W (h.up hu); rwa [hh] at this
  obtain ⟨cv, cs, h, rfl, ok⟩ := h
  obtain ⟨hp, _⟩ := has_pos hh
  rw [List.length_map] at hp
  obtain ⟨g, cap, g1, cap1, m, x, rfl, hm0, hm1, hm2, hm3, _, hcap, k0, e1, e2, hx⟩ := h.at_ ok (i := pos (cs.map erC) t) hp
  have hlx : ts ≤ x := by
    rw [hx]
    simpa [List.getD, hp, erC] using hl
  have c1 := h.blk.cell 1
  rw [show ([Value.slice (some ⟨g, 0, none⟩) cs.length cap, .int .i64 hz])[1]? = some (.int .i64 hz) from rfl] at c1
  have c0 := h.blk.cell 0
  rw [show ([Value.slice (some ⟨g, 0, none⟩) cs.length cap, .int .i64 hz])[0]? = some (.slice (some ⟨g, 0, none⟩) cs.length cap) from rfl] at c0
  have hpl := h.blk.lt
  have c1' := ((Up.refl w).alloc (.cells #[.int .i64 ts, .bool tb, .slice ra row.length rc] 82)).cell (p := ⟨p, 1, none⟩) hpl
  rw [c1] at c1'
  have C0 : Hid (At w p 0 (.slice (some ⟨g, 0, none⟩) cs.length cap)) := ⟨hpl, c0⟩
  have E1 := Lib.hid e1
  have E2 := Lib.hid e2
  have b0 : (0 : Int) ≤ (m : Int) - 1 := by omega
  have b1 : (m : Int) - 1 < (m : Int) := by omega
  have b2 : ((m : Int) - 1).toNat = m - 1 := by omega
  have b3 : ((pos (cs.map erC) t : Nat) : Int) < (cs.length : Int) := by omega
  have B4 : Hid (IntKind.i64.wrap ((m : Int) - 1) = (m : Int) - 1) := IntWalk.i64_in _ (by omega)
  generalize pos (cs.map erC) t = ps at *
  have W1 : Hid (At (w.alloc (.cells #[.int .i64 ts, .bool tb, .slice ra row.length rc] 82)) w.heap.size 0 (.int .i64 ts)) := At.new _ _ _ _ _ rfl
  clear h ok c0 c1 k0 e1 e2 hx hl hh
  go_enter Try.func47, Try.ntmps47
  go_wp2
  go_quiet (fail)
  go_wp2_with (go_at_call 46; refine (HSC.out _ (((Up.refl w).alloc _).drewN _)).mono ?_; rintro e w1 ⟨rfl, h4⟩; have H4 := Lib.hid ((((Up.refl w).alloc _).drewN _).trans h4); have c0 := (C0.out.grow H4.out).2; have e1 := (E1.out.grow H4.out).2; have e2 := (E2.out.grow H4.out).2; have x1 := ((W1.out.grow ((Up.refl _).drewN _)).grow h4).2; clear h4)
  have B4' := B4.out
  go_quiet (fail)
  clear B4'
  go_wp2
  go_ret
  rw [HP.out]
  exact ⟨rfl, HH.out.upP (H4.out.drewN _)⟩
end
end Go.Proofs.Ytinmpodnfofmdaa.Mv
