/- slices.Clone of bytes; the simulated disk: Read. -/
import Derived.Test.YtmaeeidaegigcaaDke
import Derived.Laws.OwnMore
import Derived.Sort.QuietIn
import Derived.Sort.QuietTacIn
namespace Go.Proofs.Ytmaeeidaegigcaa.Dk
open Go Go.RowKit Go.Shelf Hp
set_option linter.unusedVariables false
attribute [local go_sem] Oper.semAt_some

/-- What a slice value leads to, as cells: nil and nothing, or a row. -/
def Src (w : World) (size : Nat) (v : Value) (n : Nat) (xs : List Value) : Prop :=
  xs.length = n * size ∧ ((v = .slice none 0 0 ∧ n = 0) ∨ ∃ b off cap, v = .slice (some ⟨b, off, none⟩) n cap ∧ n ≤ cap ∧ cap ≤ 9223372036854775807 ∧ ∀ j u, xs[j]? = some u → At w b (off + j) u)
theorem Src.up {w w' : World} {size : Nat} {v : Value} {n : Nat} {xs : List Value} (h : Src w size v n xs) (hu : Up w w') : Src w' size v n xs :=
  ⟨h.1, h.2.imp id fun ⟨b, off, cap, hv, h1, h2, h3⟩ => ⟨b, off, cap, hv, h1, h2, fun j u hj => (h3 j u hj).grow hu⟩⟩
theorem own_src {w : World} {base : Nat} {E : TypeId} {size : Nat} {v : Value} {n : Nat} {xs : List Value} (h : w.ownsRow base E size v n xs) : Src w size v n xs := by
  obtain ⟨hx, h⟩ := h
  refine ⟨hx, ?_⟩
  rcases h with h | ⟨g, cap, cur, rfl, hb, hg, hn, hc, hs, ht⟩
  · exact .inl h
  · refine .inr ⟨g, 0, cap, rfl, hn, by unfold maxLen at hc; exact hc, fun j u hj => ⟨Ty.lt ⟨cur, (0, 0), hg⟩, ?_⟩⟩
    unfold World.cell?
    simp only [hg, Nat.zero_add]
    rw [← ht, List.getElem?_take] at hj
    split at hj
    · simpa using hj
    · cases hj
theorem own_empty (w : World) (E : TypeId) (size : Nat) : (w.alloc (.cells #[] E)).ownsRow w.heap.size E size (.slice (some ⟨w.heap.size, 0, none⟩) 0 0) 0 [] :=
  ⟨by simp, .inr ⟨w.heap.size, 0, #[], rfl, Nat.le_refl _, heap_alloc_new w _, Nat.le_refl _, by unfold maxLen; omega, by simp, by simp⟩⟩
theorem bc_one (l : List Int) : ∀ u ∈ bc l, u.oneCell' = true := fun u hu => by obtain ⟨x, _, rfl⟩ := List.mem_map.1 hu; rfl

set_option maxRecDepth 100000 in
set_option maxHeartbeats 1000000 in
theorem cloneB_any (v : Value) (n : Nat) (xs : List Value) (w : World) (h : Src w 1 v n xs) (h1 : ∀ u ∈ xs, u.oneCell' = true) (hn : n * 1 ≤ 140737488355328) :
    Calls Try.prog 43 #[v] w fun e w' => ∃ v', e = .returned v' ∧ w'.ownsRow w.heap.size 5 1 v' n xs ∧ Up w w' ∧ (v = .slice none 0 0 ↔ v' = .slice none 0 0) := by
  obtain ⟨i0, hi, hz0, hz1, hz2⟩ := info_parts Try.infoB
  obtain ⟨hx, h⟩ := h
  have hq := fun (a : Option Addr) (n c n' c' : Nat) (w : World) => Lib.run_eql_slice_nil (P := Try.prog) w 28 5 a n c n' c' Try.underlying28
  rcases h with ⟨rfl, rfl⟩ | ⟨b, off, cap, rfl, hc1, hc2, hc3⟩
  · obtain rfl : xs = [] := List.eq_nil_of_length_eq_zero (by simpa using hx)
    go_enter Try.func43, Try.ntmps43
    go_wp2
    go_ret
    exact ⟨_, rfl, World.ownsRow_nil _ _ _ _, Up.refl _, by simp⟩
  · have HX := Lib.hid hx
    have H1 := Lib.hid h1
    have H3 : Hid (∀ j u, xs[j]? = some u → (w.alloc (.cells #[] 5)).cell? ((⟨b, off, none⟩ : Addr).add j) = some u) := fun j u hj => by
      rw [Addr.add_lit]; exact ((hc3 j u hj).grow ((Up.refl w).alloc _)).2
    clear hx hc3 h1
    go_enter Try.func43, Try.ntmps43
    go_wp2_with (at_builtin; refine wpList_append_own _ rfl (.tmp 5) (.tmp 6) 28 rfl w.heap.size 5 i0 (.int .u8 0) 1 1 Try.underlying28 hi hz0 hz1 hz2 rfl (by decide) _ _ _ rfl (own_empty w 5 1) ⟨b, off, none⟩ n cap xs rfl HX.out H3.out H1.out (by unfold maxLen; omega) (by omega) (by simp) ?_)
    intro v' w2 hown hg hnil
    have hnil := Lib.hid hnil
    have hu : Up w w2 := Below.grown ((Up.refl w).alloc (.cells #[] 5)) hg (by simp) fun j hj => by simp [Value.ownBlock] at hj; omega
    clear hg
    go_wp2
    go_ret
    exact ⟨_, rfl, by simpa using hown, hu, by simp [hnil.out]⟩

set_option maxRecDepth 100000 in
set_option maxHeartbeats 2000000 in
theorem backward_any (a : Option Addr) (n c : Nat) (w : World) :
    Calls Try.prog 42 #[.slice a n c] w fun e w' => e = .returned (.func (.func 63) #[] #[.pointer (some ⟨w.heap.size, 0, none⟩)]) ∧ w.alloc (.cells #[.slice a n c] 72) = w' := by
  go_enter Try.func42, Try.ntmps42
  go_wp2
  go_ret
  exact ⟨rfl, rfl⟩

theorem blk_noncells {w w' : World} {b : Nat} {xs : List Value} {E : TypeId} {row : Option Nat} (h : Blk w b xs E) (hg : w.grownBy w' row) (hr : ∀ r, row = some r → ∃ o : Obj, w.heap[r]? = some o ∧ o.isCells = false) : Blk w' b xs E :=
  (hg.block b h.lt fun e => by obtain ⟨o, ho, hc⟩ := hr b e.symm; unfold Blk at h; rw [h] at ho; cases ho; cases hc).trans h
theorem blk_src {w : World} {b : Nat} {xs : List Value} {E : TypeId} {n cap : Nat} (h : Blk w b xs E) (hn : xs.length = n) (hc : n ≤ cap) (hc2 : cap ≤ 9223372036854775807) : Src w 1 (.slice (some ⟨b, 0, none⟩) n cap) n xs :=
  ⟨by rw [hn, Nat.mul_one], .inr ⟨b, 0, cap, rfl, hc, hc2, fun j u hj => by rw [Nat.zero_add]; exact h.at hj⟩⟩
theorem boxed_below {B' : Nat} {w w' : World} {B : Nat} {t : TypeId} {v : Value} (h : Boxed w B t v) (hb : Below B' w w') (hB : B < B') : Boxed w' B t v := (hb.block B hB).trans h
theorem boxed_stored {w : World} {B : Nat} {t : TypeId} {v : Value} (h : Boxed w B t v) (u : Value) : Boxed (w.setCell ⟨B, 0, none⟩ u) B t u := by
  have h' : Blk w B [v] t := h
  exact h'.set 0 u
theorem keeps_up {w w' : World} (h : Up w w') (B : Nat) : KeepsFrom B w w' := ⟨h.size, fun k o _ hk _ => (h.block k (Array.getElem?_eq_some_iff.1 hk).1).trans hk⟩
def sec (d : Dsk) (j : Nat) : Nat := (d.pend.getD j (0, [])).1
def rowOf (d : Dsk) (j : Nat) : List Int := (d.pend.getD j (0, [])).2
theorem read_hit {d : Dsk} {s i : Nat} (hs : s < d.dur.length) (hi : i < d.pend.length) (h : sec d i = s) (hl : ∀ j, i < j → j < d.pend.length → sec d j ≠ s) : d.read s = rowOf d i := by
  have e : d.pend = d.pend.take i ++ (s, rowOf d i) :: d.pend.drop (i + 1) := by
    have h1 : d.pend.getD i (0, []) = d.pend[i] := by simp [List.getD, hi]
    have h2 : (s, rowOf d i) = d.pend[i] := by rw [← h1, ← h]; rfl
    rw [h2, ← List.drop_eq_getElem_cons hi, List.take_append_drop]
  unfold Dsk.read
  rw [e]
  refine applyW_hit _ _ _ _ _ hs fun y hy => ?_
  obtain ⟨j, hj, rfl⟩ := List.mem_iff_getElem.1 hy
  rw [List.length_drop] at hj
  have := hl (i + 1 + j) (by omega) (by omega)
  rw [List.getElem_drop]
  simpa [sec, List.getD, show i + 1 + j < d.pend.length by omega] using this
theorem read_miss {d : Dsk} {s : Nat} (h : ∀ j, j < d.pend.length → sec d j ≠ s) : d.read s = d.dur.getD s [] := applyW_miss _ _ _ fun y hy => by
  obtain ⟨j, hj, rfl⟩ := List.mem_iff_getElem.1 hy
  simpa [sec, List.getD, hj] using h j hj
theorem row_len {d : Dsk} (ok : DOk d) {j : Nat} (hj : j < d.pend.length) : (rowOf d j).length = 32 := by
  have := (ok.pend _ (List.getElem_mem hj)).2
  simpa [rowOf, List.getD, hj] using this
def blkOf (v : Value) : Nat := match v with | .slice (some a) _ _ => a.block | _ => 0
set_option maxRecDepth 100000 in
set_option maxHeartbeats 4000000 in
theorem read_any (p s : Nat) (d : Dsk) (F : Nat → Prop) (w : World) (h : DiskR w p d F) (hs : s < d.dur.length) (hm : d.dur.length ≤ 1000000) (hm2 : d.pend.length ≤ 1000000) :
    Calls Try.prog 17 #[.pointer (some ⟨p, 0, none⟩), .int .i64 s] w fun e w' => ∃ v, e = .returned (.tuple #[v, .int .i64 0]) ∧ w'.ownsRow w.heap.size 5 1 v 32 (bc (d.read s)) ∧ Up w w' := by
  have HD := Lib.hid h
  obtain ⟨ok, lt, dv, pv, xs, ys, hp, hb, hd, hdF, hq, hqF, hDu, hPe⟩ := h
  obtain ⟨ad, cd, rfl, hc1, hc2, hc3⟩ := own_form hd
  obtain ⟨aq, cq, rfl, hc4, hc5, hc6⟩ := own_form hq
  have c0 := hb.cell 0
  have c1 := hb.cell 1
  rw [show ([Value.slice ad d.dur.length cd, Value.slice aq d.pend.length cq])[0]? = some (.slice ad d.dur.length cd) from rfl] at c0
  rw [show ([Value.slice ad d.dur.length cd, Value.slice aq d.pend.length cq])[1]? = some (.slice aq d.pend.length cq) from rfl] at c1
  have c0' : ∀ o1 o2 o3, (((w.alloc o1).alloc o2).alloc o3).cell? ⟨p, 0, none⟩ = some (.slice ad d.dur.length cd) := fun o1 o2 o3 => (((((Up.refl w).alloc o1).alloc o2).alloc o3).cell (p := ⟨p, 0, none⟩) hb.lt).trans c0
  have c1' : ∀ o1 o2 o3, (((w.alloc o1).alloc o2).alloc o3).cell? ⟨p, 1, none⟩ = some (.slice aq d.pend.length cq) := fun o1 o2 o3 => (((((Up.refl w).alloc o1).alloc o2).alloc o3).cell (p := ⟨p, 1, none⟩) hb.lt).trans c1
  have d1 : decide ((s : Int) < 0) = false := decide_eq_false (by omega)
  have d2 : decide ((d.dur.length : Int) ≤ (s : Int)) = false := decide_eq_false (by omega)
  have hpl := hb.lt
  have HQ := Lib.hid hq
  have HPE := Lib.hid hPe
  have HDQ := Lib.hid hd
  have HDU := Lib.hid hDu
  have HB := Lib.hid hb
  clear hc3 hc6 hd hdF hq hqF hDu hPe hb lt
  refine (callsIn_wide (n := 3)).1 ?_
  refine callsIn_of_wp_marks Try.func17 rfl trivial ?_ rfl
  simp only [Try.ntmps17, List.size_toArray, List.length_cons, List.length_nil, Nat.reduceAdd, Nat.reduceSub, Array.replicate_succ, Array.replicate_zero, List.push_toArray, List.append_toArray, List.nil_append, List.cons_append]
  gi_wp2

  refine wpIn_region_quiet_lit rfl (by kernel_rfl) (by kernel_rfl) ?_
  repeat (refine wpQuietIn_step (by quiet_asked_in) (fun K hK => ?_); go_simp; refine hK _ ?_; clear hK K)
  refine wpQuietIn_nil ?_
  intro _ hw'
  obtain ⟨nq, hw''⟩ := hw'
  subst hw''
  gi_wp2
  refine ⟨trivial, ?_⟩
  refine (callsIn_wide.2 (backward_any _ _ _ _)).mono ?_
  rintro e w1 ⟨rfl, rfl⟩
  gi_wp2
  have hU0 : Up w ((((w.alloc (.cells #[.int .i64 (s : Int)] 3)).alloc (.cells #[.slice none 0 0] 28)).alloc (.cells #[.int .i64 0] 24)).drewN nq) := ((((Up.refl w).alloc _).alloc _).alloc _).drewN nq
  obtain ⟨w0, hw0⟩ : ∃ w0, w0 = ((((w.alloc (.cells #[.int .i64 (s : Int)] 3)).alloc (.cells #[.slice none 0 0] 28)).alloc (.cells #[.int .i64 0] 24)).drewN nq).alloc (.cells #[.slice aq d.pend.length cq] 72) := ⟨_, rfl⟩
  have hz0 : w0.heap.size = w.heap.size + 4 := by rw [hw0]; simp
  have hUw : Up w w0 := by rw [hw0]; exact hU0.alloc _
  have B0 : Boxed w0 w.heap.size 3 (.int .i64 (s : Int)) := by rw [hw0]; exact (((Boxed.new w _ _).alloc _).alloc _).alloc _
  have B1 : Boxed w0 (w.heap.size + 1) 28 (.slice none 0 0) := by
    rw [hw0]; have h := ((Boxed.new (w.alloc (.cells #[.int .i64 (s : Int)] 3)) 28 (.slice none 0 0)).alloc (.cells #[.int .i64 0] 24)); rw [World.size_alloc] at h; exact h.alloc _
  have B2 : Boxed w0 (w.heap.size + 1 + 1) 24 (.int .i64 0) := by
    rw [hw0]; have h := (Boxed.new ((w.alloc (.cells #[.int .i64 (s : Int)] 3)).alloc (.cells #[.slice none 0 0] 28)) 24 (.int .i64 0)); rw [World.size_alloc, World.size_alloc] at h; exact h.alloc _
  have B3 : Boxed w0 (w.heap.size + 1 + 1 + 1) 72 (.slice aq d.pend.length cq) := by
    rw [hw0]; have h := (Boxed.new ((((w.alloc (.cells #[.int .i64 (s : Int)] 3)).alloc (.cells #[.slice none 0 0] 28)).alloc (.cells #[.int .i64 0] 24)).drewN nq) 72 (.slice aq d.pend.length cq)); simpa using h
  rw [← hw0]
  clear hw0 hU0 c0 c1 c0' c1'
  have HU := Lib.hid hUw
  have HD0 := Lib.hid (HD.out.up hUw)
  -- the pending writes, each with its row's block
  obtain ⟨G, hG⟩ : ∃ G : Nat → Nat, ∀ j, j < d.pend.length → ∃ b off, aq = some ⟨b, off, none⟩ ∧ b < w0.heap.size ∧ w0.cell? ⟨b, off + j * 2, none⟩ = some (.int .i64 (sec d j : Int)) ∧ w0.cell? ⟨b, off + j * 2 + 1, none⟩ = some (.slice (some ⟨G j, 0, none⟩) 32 32) ∧ Blk w0 (G j) (bc (rowOf d j)) 5 := by
    refine ⟨fun j => blkOf (ys.getD (j * 2 + 1) undef), fun j hj => ?_⟩
    obtain ⟨gq, cq', hvq, _, _, hgl, hcq, _⟩ := own_some (own_up HQ.out hUw) (by omega)
    simp only [Value.slice.injEq] at hvq
    obtain ⟨rfl, _, rfl⟩ := hvq
    obtain ⟨v, y1, y2, g, rfl, _, hbk⟩ := HPE.out.2 j hj
    have e : ys.getD (j * 2 + 1) undef = .slice (some ⟨g, 0, none⟩) 32 32 := by simp [List.getD, y2]
    have e2 : d.pend.getD j (0, []) = d.pend[j] := by simp [List.getD, hj]
    dsimp only [sec, rowOf]
    rw [e, e2]
    exact ⟨gq, 0, rfl, hgl, by rw [Nat.zero_add]; exact hcq _ _ y1, by rw [Nat.zero_add]; exact hcq _ _ y2, hbk.up hUw⟩
  have HG := Lib.hid hG
  clear hG
  refine wpIn_rangeFunc_ownH rfl (by decide) (gf := 63) (lb := #[.pointer (some ⟨w.heap.size + 1 + 1 + 1, 0, none⟩)]) rfl trivial (enters_of Try.func63 (by kernel_rfl) rfl)
    (back_stops Fence.wide 2 trivial rfl (by decide) (w.heap.size + 1 + 1 + 1) d.pend.length cq aq (fun j => .int .i64 (sec d j : Int)) (fun j => .slice (some ⟨G j, 0, none⟩) 32 32) hc4 hc5 w0 (by omega) B3.cell
      (fun j hj => by obtain ⟨b, off, h1, h2, h3, h4, _⟩ := HG.out j hj; exact ⟨b, off, h1, h2, h3, h4⟩)) belowK_t (belowK_b (Nat.le_refl _)) (Below.refl _ _) (fun _ => rfl)
    (fun pre W => (∀ x ∈ pre, sec d x.1 ≠ s) ∧ Below w0.heap.size w0 W)
    (fun c pre W => (c = .ret ∧ ∃ ini last, pre = ini ++ [last] ∧ (∀ x ∈ ini, sec d x.1 ≠ s) ∧ sec d last.1 = s ∧ ∃ v, Boxed W (w.heap.size + 1) 28 v ∧ Boxed W (w.heap.size + 1 + 1) 24 (.int .i64 0) ∧ W.ownsRow w0.heap.size 5 1 v 32 (bc (rowOf d last.1))) ∧ Below w.heap.size w W)
    (OwnFrom.and (ownFrom_pure _ _) (ownFrom_below (Nat.le_refl _) (Nat.le_refl _)))
    (fun c => OwnFrom.and (Own.from (fun st A B row hs hg hr => by
        obtain ⟨hc, ini, last, e1, e2, e3, v, b1, b2, ow⟩ := hs
        exact ⟨hc, ini, last, e1, e2, e3, v, boxed_own _ _ (fun _ : Unit => v) () A B row b1 hg hr, boxed_own _ _ (fun _ : Unit => .int .i64 0) () A B row b2 hg hr, own_noncells ow hg hr⟩) _) (ownFrom_below (Nat.le_refl _) (by omega)))
    ⟨(fun x hx => by cases hx), Below.refl _ _⟩
    (fun x a' W => ∃ Bx, w0.heap.size ≤ Bx ∧ Blk W Bx [.int .i64 (sec d x.1 : Int), .slice (some ⟨G x.1, 0, none⟩) 32 32] 76 ∧ a' = { tmps := #[.pointer (some ⟨p, 0, none⟩), .int .i64 s, undef, .pointer (some ⟨w.heap.size, 0, none⟩), .pointer (some ⟨w.heap.size + 1, 0, none⟩), .pointer (some ⟨w.heap.size + 1 + 1, 0, none⟩), undef, .pointer (some ⟨Bx, 0, none⟩), .int .i64 s, .bool false, .bool false, .int .i64 s, .pointer (some ⟨p, 0, none⟩), .pointer (some ⟨p, 0, none⟩), .pointer (some ⟨p, 0, none⟩), .slice ad d.dur.length cd, .int .i64 d.dur.length, .bool false, .bool false, .pointer (some ⟨p, 0, none⟩), .pointer (some ⟨p, 0, none⟩), .pointer (some ⟨p, 1, none⟩), .slice aq d.pend.length cq, .func (.func 63) #[] #[.pointer (some ⟨w.heap.size + 1 + 1 + 1, 0, none⟩)], .int .i64 (x.1 : Int), .agg #[.int .i64 (sec d x.1 : Int), .slice (some ⟨G x.1, 0, none⟩) 32 32], undef, undef, undef, undef, undef, undef, undef, undef, undef, undef, undef, undef, undef, undef, undef], defers := [] })
    (fun x a' st A B row hs hg hr => by obtain ⟨Bx, h1, h2, h3⟩ := hs; exact ⟨Bx, h1, blk_noncells h2 hg fun r e => (hr r e).2, h3⟩) ?assign ?body ?done ?stop
  case assign =>
    rintro l pre x W K ⟨hi1, hi2⟩ hK
    gi_wp2
    refine hK _ _ ((KeepsOthers.alloc _ _).from _) ((Below.refl _ W).alloc hi2.size _) ⟨hi1, hi2.alloc hi2.size _⟩ ⟨W.heap.size, hi2.size, Blk.new W _ _, rfl⟩
  case body =>
    rintro l pre x a' W hl ⟨r, hr⟩ ⟨hp1, hB⟩ ⟨Bx, hBx, bX, rfl⟩ hlt
    have e0 := bX.cell 0
    have e1 := bX.cell 1
    rw [show ([Value.int .i64 (sec d x.1 : Int), .slice (some ⟨G x.1, 0, none⟩) 32 32])[0]? = some (.int .i64 (sec d x.1 : Int)) from rfl] at e0
    rw [show ([Value.int .i64 (sec d x.1 : Int), .slice (some ⟨G x.1, 0, none⟩) 32 32])[1]? = some (.slice (some ⟨G x.1, 0, none⟩) 32 32) from rfl] at e1
    have e2 := (hB.cell (p := ⟨w.heap.size, 0, none⟩) (by show w.heap.size < w0.heap.size; omega)).trans B0.cell
    have HP1 := Lib.hid hp1
    obtain ⟨_, _, _, _, _, _, hgr⟩ := HG.out x.1 x.2
    have GR := Lib.hid (hgr.below hB hgr.lt)
    clear hgr hp1
    obtain ⟨t, ht⟩ : ∃ t, t = sec d x.1 := ⟨_, rfl⟩
    rw [← ht] at e0 ⊢
    have HT := Lib.hid ht
    clear ht
    by_cases hq : t = s
    · have hqq : ((t : Int) == (s : Int)) = true := by simp [hq]
      have HQQ := Lib.hid hq
      clear hq
      have HB2 := Lib.hid hB
      have HL := Lib.hid hl
      have q1 := (hB.cell (p := ⟨w.heap.size + 1, 0, none⟩) (by show w.heap.size + 1 < w0.heap.size; omega)).trans B1.cell
      have q2 := (hB.cell (p := ⟨w.heap.size + 1 + 1, 0, none⟩) (by show w.heap.size + 1 + 1 < w0.heap.size; omega)).trans B2.cell
      have q3 := (hB.frozen (p := ⟨w.heap.size + 1, 0, none⟩) (by show w.heap.size + 1 < w0.heap.size; omega)).trans B1.frozen
      have q4 := (hB.frozen (p := ⟨w.heap.size + 1 + 1, 0, none⟩) (by show w.heap.size + 1 + 1 < w0.heap.size; omega)).trans B2.frozen
      have SR : Hid (Src W 1 (.slice (some ⟨G x.1, 0, none⟩) 32 32) 32 (bc (rowOf d x.1))) := blk_src GR.out (by rw [List.length_map]; exact row_len ok x.2) (by omega) (by omega)
      gi_wp2
      refine ⟨trivial, ?_⟩
      refine (CallsIn.inRound l (callsIn_wide.2 (cloneB_any _ _ _ _ SR.out (bc_one _) (by omega)))).mono ?_
      rintro e w2 ⟨v', rfl, hown, hu, _⟩
      obtain ⟨a', c', rfl, _, _, _⟩ := own_form hown
      have HOWN := Lib.hid hown
      have HU2 := Lib.hid hu
      have z1 : w.heap.size + 1 + 1 < W.heap.size := by have := HB2.out.size; omega
      have r1 := (hu.cell (p := ⟨w.heap.size + 1, 0, none⟩) (by show w.heap.size + 1 < W.heap.size; omega)).trans q1
      have r2 := (hu.cell (p := ⟨w.heap.size + 1 + 1, 0, none⟩) z1).trans q2
      have r3 := (hu.frozen (p := ⟨w.heap.size + 1, 0, none⟩) (by show w.heap.size + 1 < W.heap.size; omega)).trans q3
      have r4 := (hu.frozen (p := ⟨w.heap.size + 1 + 1, 0, none⟩) z1).trans q4
      clear hu hown hB hl
      gi_wp2
      have x1 : Boxed w2 (w.heap.size + 1) 28 (.slice none 0 0) := boxed_below (boxed_below B1 HB2.out (by omega)) HU2.out (by have := HB2.out.size; omega)
      have x2 : Boxed w2 (w.heap.size + 1 + 1) 24 (.int .i64 0) := boxed_below (boxed_below B2 HB2.out (by omega)) HU2.out (by have := HB2.out.size; omega)
      have hzw := HB2.out.size
      have hzu := HU2.out.size
      have how : w2.ownsRow w0.heap.size 5 1 (.slice a' 32 c') 32 (bc (rowOf d x.1)) := own_base' HOWN.out fun k hk => by have := ((own_ty HOWN.out) k hk).2; omega
      have C : Chg (fun j => j = w.heap.size + 1 ∨ j = w.heap.size + 1 + 1) w2 ((w2.setCell ⟨w.heap.size + 1, 0, none⟩ (.slice a' 32 c')).setCell ⟨w.heap.size + 1 + 1, 0, none⟩ (.int .i64 0)) := ((Chg.refl _ w2).set (.inl (.inl rfl)) _ _ _).set (.inl (.inr rfl)) _ _ _
      refine ⟨?_, ⟨rfl, pre, x, rfl, HP1.out, by rw [← HT.out]; exact HQQ.out, _, (boxed_stored x1 _).other (by omega) _, boxed_stored (x2.other (by omega) _) _, own_chg how C fun k hk e => by have := ((own_ty how) k hk).2; omega⟩, ?_⟩
      · exact (keeps_up HU2.out _).trans (((KeepsOthers.setCell _ _ _).trans (KeepsOthers.setCell _ _ _)).from _)
      · exact Below.trans (Up.trans (Up.trans HU.out HB2.out) HU2.out) (C.below (by omega) fun j hj e => by omega)
    · have hqq : ((t : Int) == (s : Int)) = false := by simp; omega
      gi_wp2
      exact ⟨KeepsFrom.refl _ _, Below.refl _ _, fun y hy => by
        rcases List.mem_append.1 hy with h | h
        · exact HP1.out y h
        · rw [List.mem_singleton.1 h, ← HT.out]; exact hq, hB⟩
  case stop =>
    rintro D c pre W hD ⟨k, hk, rfl⟩ ⟨⟨rfl, ini, last, e1, e2, e3, v, b1, b2, ow⟩, hBw⟩ hK
    gi_wp2
    refine ⟨by simp, .inl ⟨_, _, rfl, run_takeDeferred hK, ?_⟩⟩
    have c1 := cell_kept b1.cell (grownBy_putObj' _ D (.deferred none)) (fun r e => by cases e; exact ⟨_, hK, rfl⟩)
    have c2 := cell_kept b2.cell (grownBy_putObj' _ D (.deferred none)) (fun r e => by cases e; exact ⟨_, hK, rfl⟩)
    obtain ⟨k', rfl⟩ : ∃ k', k = k' + 1 := by
      cases k with
      | zero => simp [dn] at e1
      | succ k' => exact ⟨k', rfl⟩
    rw [dn_succ (by omega)] at e1
    obtain ⟨rfl, e5⟩ := List.append_inj' e1 rfl
    have hlv : last.1 = d.pend.length - 1 - k' := by have := congrArg (fun l => l.map Fin.val) e5; simpa using this.symm
    obtain ⟨lv, hlp⟩ := last
    dsimp only at hlv e3 ow
    subst hlv
    clear e5
    have RH := read_hit (d := d) (s := s) (i := d.pend.length - 1 - k') hs (by omega) e3 (fun j h1 h2 => e2 ⟨j, h2⟩ ((mem_dn (by omega)).2 (by show d.pend.length - k' ≤ j; omega)))
    have hDw : w.heap.size ≤ D := by omega
    refine ⟨.tuple #[v, .int .i64 0], ?_, v, rfl, ?_, hBw.trans (belowK_b (w := w) (Nat.le_refl _) W D _ _ hDw hK rfl rfl)⟩
    · simp [results, Try.f17, go_sem, c1, c2]
    · rw [RH]
      exact own_base' (own_noncells ow (grownBy_putObj' _ D (.deferred none)) (fun r e => by cases e; exact ⟨_, hK, rfl⟩)) fun k hk => by have := ((own_ty ow) k hk).2; omega
  case done =>
    rintro D ys' W hD rfl ⟨hp1, hB⟩ hK
    have RM := Lib.hid (read_miss (d := d) (s := s) fun j hj => hp1 ⟨j, hj⟩ ((mem_dn (Nat.le_refl _)).2 (by omega)))
    have HB2 := Lib.hid hB
    have HK := Lib.hid hK
    have hUW : Up w W := Up.trans HU.out hB
    obtain ⟨gd, cd', hvd, _, _, hgl, hcd, _⟩ := own_some (own_up HDQ.out hUW) (by omega)
    simp only [Value.slice.injEq] at hvd
    obtain ⟨rfl, _, rfl⟩ := hvd
    obtain ⟨v, x1, g, rfl, _, hbk⟩ := HDU.out.2 s hs
    have e0 := ((HB.out.up hUW).cell 0).trans rfl
    have e1 := hcd _ _ x1
    have GR := Lib.hid (hbk.up hUW)
    have e2 := (hB.cell (p := ⟨w.heap.size, 0, none⟩) (by show w.heap.size < w0.heap.size; omega)).trans B0.cell
    have q1 := (hB.cell (p := ⟨w.heap.size + 1, 0, none⟩) (by show w.heap.size + 1 < w0.heap.size; omega)).trans B1.cell
    have q2 := (hB.cell (p := ⟨w.heap.size + 1 + 1, 0, none⟩) (by show w.heap.size + 1 + 1 < w0.heap.size; omega)).trans B2.cell
    have q3 := (hB.frozen (p := ⟨w.heap.size + 1, 0, none⟩) (by show w.heap.size + 1 < w0.heap.size; omega)).trans B1.frozen
    have q4 := (hB.frozen (p := ⟨w.heap.size + 1 + 1, 0, none⟩) (by show w.heap.size + 1 + 1 < w0.heap.size; omega)).trans B2.frozen
    have SR : Hid (∀ w', Up W w' → Src w' 1 (.slice (some ⟨g, 0, none⟩) 32 32) 32 (bc d.dur[s])) := fun w' hw' => (blk_src GR.out (by simpa using ok.dur _ (List.getElem_mem hs)) (by omega) (by omega)).up hw'
    have z1 : w.heap.size + 1 + 1 < W.heap.size := by have := HB2.out.size; omega
    have b1 : (0 : Int) ≤ (s : Int) := by omega
    have b2 : (s : Int) < (d.dur.length : Int) := by omega
    have DE : Hid (d.dur.getD s [] = d.dur[s]) := by unfold Hid; simp [List.getD, hs]
    clear hB hK hp1 hcd hbk x1 hUW
    gi_wp2
    refine Code.wpIn_mono NoPanic.imp ?_
    gi_region_with (refine ⟨trivial, ?_⟩; gi_at_call 43; refine (callsIn_wide.2 (cloneB_any _ _ _ _ (SR.out _ (Up.drewN (Up.refl W) 1)) (bc_one _) (by omega))).mono ?_; rintro e w2 ⟨v', rfl, hown, hu, _⟩; obtain ⟨a', c', rfl, _, _, _⟩ := own_form hown; have r1 : w2.cell? ⟨w.heap.size + 1, 0, none⟩ = some (.slice none 0 0) := (hu.cell (p := ⟨w.heap.size + 1, 0, none⟩) (by show w.heap.size + 1 < W.heap.size; omega)).trans q1; have r2 : w2.cell? ⟨w.heap.size + 1 + 1, 0, none⟩ = some (.int .i64 0) := (hu.cell (p := ⟨w.heap.size + 1 + 1, 0, none⟩) z1).trans q2; have r3 : w2.frozen? ⟨w.heap.size + 1, 0, none⟩ = false := (hu.frozen (p := ⟨w.heap.size + 1, 0, none⟩) (by show w.heap.size + 1 < W.heap.size; omega)).trans q3; have r4 : w2.frozen? ⟨w.heap.size + 1 + 1, 0, none⟩ = false := (hu.frozen (p := ⟨w.heap.size + 1 + 1, 0, none⟩) z1).trans q4; have HOWN := Lib.hid hown; have HU2 := Lib.hid hu; clear hown hu)
    all_goals
      refine NoPanic.normal ?_
      have HU2 : Hid (Up W w2) := ⟨HU2.out.os, HU2.out.tape, HU2.out.output, HU2.out.size, HU2.out.block⟩
      gi_wp2
      have hzw := HB2.out.size
      have hzu : W.heap.size ≤ w2.heap.size := HU2.out.size
      have x1 : Boxed w2 (w.heap.size + 1) 28 (.slice none 0 0) := boxed_below (boxed_below B1 HB2.out (by omega)) HU2.out (by show w.heap.size + 1 < W.heap.size; omega)
      have x2 : Boxed w2 (w.heap.size + 1 + 1) 24 (.int .i64 0) := boxed_below (boxed_below B2 HB2.out (by omega)) HU2.out z1
      have how : w2.ownsRow w.heap.size 5 1 (.slice a' 32 c') 32 (bc d.dur[s]) := own_base' HOWN.out fun k hk => by have : W.heap.size ≤ k := ((own_ty HOWN.out) k hk).2; omega
      have how2 : ∀ k, (Value.slice a' 32 c').ownBlock = some k → W.heap.size ≤ k := fun k hk => ((own_ty HOWN.out) k hk).2
      have C : Chg (fun j => j = w.heap.size + 1 ∨ j = w.heap.size + 1 + 1) w2 ((w2.setCell ⟨w.heap.size + 1, 0, none⟩ (.slice a' 32 c')).setCell ⟨w.heap.size + 1 + 1, 0, none⟩ (.int .i64 0)) := ((Chg.refl _ w2).set (.inl (.inl rfl)) _ _ _).set (.inl (.inr rfl)) _ _ _
      have y1 := (boxed_stored x1 (.slice a' 32 c')).other (B' := w.heap.size + 1 + 1) (by omega) (.int .i64 0)
      have y2 := boxed_stored (x2.other (B' := w.heap.size + 1) (by omega) (.slice a' 32 c')) (.int .i64 0)
      have hK2 : ((w2.setCell ⟨w.heap.size + 1, 0, none⟩ (.slice a' 32 c')).setCell ⟨w.heap.size + 1 + 1, 0, none⟩ (.int .i64 0)).heap[D]? = some (.deferred (some [])) := by
        have hDW : D < W.heap.size := (Array.getElem?_eq_some_iff.1 HK.out).1
        rw [C.block D (by omega) (by omega)]
        exact (HU2.out.block D hDW).trans HK.out
      refine ⟨by simp, .inl ⟨_, _, rfl, run_takeDeferred hK2, ?_⟩⟩
      have c1 := cell_kept y1.cell (grownBy_putObj' _ D (.deferred none)) (fun r e => by cases e; exact ⟨_, hK2, rfl⟩)
      have c2 := cell_kept y2.cell (grownBy_putObj' _ D (.deferred none)) (fun r e => by cases e; exact ⟨_, hK2, rfl⟩)
      have hDw : w.heap.size ≤ D := by omega
      refine ⟨.tuple #[.slice a' 32 c', .int .i64 0], ?_, .slice a' 32 c', rfl, ?_, Below.trans (Below.trans (Up.trans (Up.trans HU.out HB2.out) HU2.out) (C.below (by omega) fun j hj e => by omega)) (belowK_b (w := w) (Nat.le_refl _) _ D _ _ hDw hK2 rfl rfl)⟩
      · simp [results, Try.f17, go_sem, c1, c2]
      · rw [RM.out, DE.out]
        exact own_noncells (own_chg how C fun k hk e => by have := how2 k hk; omega) (grownBy_putObj' _ D (.deferred none)) (fun r e => by cases e; exact ⟨_, hK2, rfl⟩)
end Go.Proofs.Ytmaeeidaegigcaa.Dk
