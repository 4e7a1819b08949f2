/- The multi-version store: add, Put, Delete, New, whole. -/
import Derived.Test.YtnbhdpmhgamjfaaMvl
namespace Go.Proofs.Ytnbhdpmhgamjfaa.Mv
open Go Go.RowKit Hp So
set_option linter.unusedVariables false

theorem add_any (p : Nat) (l : List PC) (hz : Int) (F : Nat → Prop) (t : ByteArray) (ts : Int) (tb : Bool) (ra : Option Addr) (rc : Nat) (row : List Val) (w : World) (h : StR w p l hz F) (hrow : RowIn w F (.slice ra row.length rc) row) :
    Calls Try.prog 41 #[.pointer (some ⟨p, 0, none⟩), .string t, .agg #[.int .i64 ts, .bool tb, .slice ra row.length rc]] w (AddPost p (addL l hz t ⟨ts, tb, row⟩).1 (addL l hz t ⟨ts, tb, row⟩).2 hz F w) := by
  by_cases hk : 24 < t.size
  · exact add_l1 p l hz F t ts tb ra rc row w h hk
  by_cases hr : 6 < row.length
  · exact add_l2 p l hz F t ts tb ra rc row w h hk hr
  by_cases ht : ts < 1
  · exact add_a p l hz F t ts tb ra rc row w h hk hr (.inl ht)
  by_cases ht2 : 1099511627776 < ts
  · exact add_a p l hz F t ts tb ra rc row w h hk hr (.inr ht2)
  by_cases hg : ts ≤ hz
  · exact add_g p l hz F t ts tb ra rc row w h hk hr ht ht2 hg
  cases hh : has l t with
  | true =>
    by_cases hl : ts ≤ lastTs (l.getD (pos l t) (t, [])).2
    · exact add_o p l hz F t ts tb ra rc row w h hk hr ht ht2 hg hh hl
    · by_cases hc : cnt l = 400
      · exact add_f1 p l hz F t ts tb ra rc row w h hk hr ht ht2 hg hh hl hc
      · exact add_old p l hz F t ts tb ra rc row w h hk hr ht ht2 hg hh hl hc hrow
  | false =>
    by_cases hc : cnt l = 400
    · exact add_f0 p l hz F t ts tb ra rc row w h hk hr ht ht2 hg hh hc
    · exact add_new p l hz F t ts tb ra rc row w h hk hr ht ht2 hg hh hc hrow

theorem src_rn {w : World} {v : Value} {n : Nat} {xs : List Value} {size : Nat} (h : Src w size v n xs) : ∃ a c, v = .slice a n c := by
  rcases h.2 with ⟨rfl, rfl⟩ | ⟨b, off, cap, rfl, _⟩
  · exact ⟨none, 0, rfl⟩
  · exact ⟨_, cap, rfl⟩
set_option maxRecDepth 100000 in
set_option maxHeartbeats 1000000 in
theorem put_any (p : Nat) (l : List PC) (hz : Int) (F : Nat → Prop) (t : ByteArray) (ts : Int) (rv : Value) (row : List Val) (w : World) (h : StR w p l hz F) (hrow : Src w 3 rv row.length (rowC row)) (hr : row.length ≤ 1000000) :
    Calls Try.prog 28 #[.pointer (some ⟨p, 0, none⟩), .string t, .int .i64 ts, rv] w (AddPost p (addL l hz t ⟨ts, false, row⟩).1 (addL l hz t ⟨ts, false, row⟩).2 hz F w) := by
  have hc := cloneR rv _ _ w hrow (rowC_one _) (by omega)
  go_enter Try.func28, Try.ntmps28
  go_wp2_with (first
    | (go_at_call 24; refine hc.mono ?_; rintro e w1 ⟨nv, rfl, h1, h2⟩; obtain ⟨a, c, rfl, _, _, _⟩ := own_form h1; have H1 := Lib.hid h1; have H2 := Lib.hid h2; have HF := Lib.hid ((h.up h2).mono (F' := Fx F w w1) (fun k hk => .inl hk) (fx_lt h.lt h2.size)); clear h1 h2)
    | (go_at_call 41; refine (add_any p l hz (Fx F w w1) t ts false a c row w1 HF.out ⟨own_src H1.out, fun x n c' e => by cases e; exact ⟨.inr ⟨((own_ty H1.out) _ rfl).2, own_lt H1.out _ rfl⟩, ((own_ty H1.out) _ rfl).1⟩⟩).mono ?_; rintro e w2 ⟨rfl, h3⟩; have H3 := Lib.hid h3; clear h3))
  go_ret
  have hC : Chg F w w1 := Below.chg F H2.out
  exact ⟨rfl, StR.two h.lt hC H3.out⟩
set_option maxRecDepth 100000 in
set_option maxHeartbeats 1000000 in
theorem del_any (p : Nat) (l : List PC) (hz : Int) (F : Nat → Prop) (t : ByteArray) (ts : Int) (w : World) (h : StR w p l hz F) :
    Calls Try.prog 27 #[.pointer (some ⟨p, 0, none⟩), .string t, .int .i64 ts] w (AddPost p (addL l hz t ⟨ts, true, []⟩).1 (addL l hz t ⟨ts, true, []⟩).2 hz F w) := by
  go_enter Try.func27, Try.ntmps27
  go_wp2_with (go_at_call 41; refine (add_any p l hz F t ts true none 0 [] w h ⟨⟨rfl, .inl ⟨rfl, rfl⟩⟩, fun x n c' e => by cases e⟩).mono ?_; rintro e w2 ⟨rfl, h3⟩; have H3 := Lib.hid h3; clear h3)
  go_ret
  exact ⟨rfl, H3.out⟩
theorem st_new (w : World) : StR (w.alloc (.cells #[.slice none 0 0, .int .i64 0] 83)) w.heap.size [] 0 (fun j => j = w.heap.size) :=
  ⟨.slice none 0 0, [], ⟨fun k hk => by subst hk; simp, rfl, Blk.new _ _ _, World.ownsRow_nil _ _ _ _, (fun k hk => by cases hk), (fun c hc => by cases hc), (fun c hc => by cases hc), List.Pairwise.nil, fun c hc => by cases hc⟩, rfl,
    ⟨List.Pairwise.nil, (fun c hc => by cases hc), by simp [cnt], (fun c hc => by cases hc), (fun c hc => by cases hc), (fun c hc => by cases hc), fun c hc => by cases hc⟩⟩
set_option maxRecDepth 100000 in
set_option maxHeartbeats 1000000 in
theorem new_any (w : World) : Calls Try.prog 15 #[] w fun e w' => e = .returned (.pointer (some ⟨w.heap.size, 0, none⟩)) ∧ StR w' w.heap.size [] 0 (fun j => j = w.heap.size) ∧ Up w w' ∧ w'.heap.size = w.heap.size + 1 := by
  go_enter Try.func15, Try.ntmps15
  go_wp2
  go_ret
  exact ⟨rfl, st_new w, (Up.refl w).alloc _, by simp⟩
end Go.Proofs.Ytnbhdpmhgamjfaa.Mv
