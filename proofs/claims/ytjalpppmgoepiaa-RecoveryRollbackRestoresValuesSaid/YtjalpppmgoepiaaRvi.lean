/- Recovery: undo. -/
import Derived.Test.YtjalpppmgoepiaaRvh
import Derived.Laws.OwnMore
import Derived.Sort.QuietIn
import Derived.Sort.QuietTacIn
namespace Go.Proofs.Ytjalpppmgoepiaa.Rv
open Go Go.RowKit Go.Shelf Hp
set_option linter.unusedVariables false
attribute [local go_sem] Oper.semAt_some

def us (t : Nat) (E : Eng) (log : List Rec) (pre : List (Fin log.length)) : Nat × Eng := (pre.map fun x => log[x.1]).foldl (ustep t) (0, E)
theorem us_snoc (t : Nat) (E : Eng) (log : List Rec) (pre : List (Fin log.length)) (x : Fin log.length) : us t E log (pre ++ [x]) = ustep t (us t E log pre) log[x.1] := by
  unfold us
  rw [List.map_append, List.foldl_append]
  rfl
theorem dn_map (log : List Rec) : (dn log.length log.length).map (fun x => log[x.1]) = log.reverse := by
  unfold dn
  rw [List.take_of_length_le (by simp), List.map_reverse]
  congr 1
  exact List.ext_getElem (by simp) fun i h1 h2 => by simp
theorem us_all (t : Nat) (E : Eng) : (us t E E.log (dn E.log.length E.log.length)).2 = undoE E t := by
  unfold us undoE
  rw [dn_map]
/-- What the loop keeps. -/
structure UI (p : Nat) (F : Nat → Prop) (w w0 : World) (A0 A1 A2 t : Nat) (S : Nat × Eng) (W : World) : Prop where
  er : EngR W p S.2 (Fx F w0 W)
  ch : Chg F w W
  b0 : Blk W A0 [.pointer (some ⟨p, 0, none⟩)] 24
  b1 : Blk W A1 [.int .i64 (t : Int)] 3
  b2 : Blk W A2 [.int .i64 (S.1 : Int)] 3
  sz : w0.heap.size ≤ W.heap.size
theorem UI.own {p : Nat} {F : Nat → Prop} {w w0 : World} {A0 A1 A2 t : Nat} {S : Nat × Eng} {W W' : World} {row : Option Nat} (hw : w.heap.size ≤ w0.heap.size) (h : UI p F w w0 A0 A1 A2 t S W) (hg : W.grownBy W' row) (hr : ∀ r, row = some r → w0.heap.size ≤ r ∧ ∃ o : Obj, W.heap[r]? = some o ∧ o.isCells = false) : UI p F w w0 A0 A1 A2 t S W' := by
  have hr2 := fun r e => (hr r e).2
  obtain ⟨⟨bv, dv, lv, av, wv, h1⟩, h2, h3, h4, h5, h6⟩ := h
  refine ⟨⟨bv, dv, lv, av, wv, (h1.noncells hg hr2).mono (fun k hk => fx_mono hg.size hk) fun k hk => ?_⟩, h2.grown hg fun k e => .inr (Nat.le_trans hw (hr k e).1), blk_noncells h3 hg hr2, blk_noncells h4 hg hr2, blk_noncells h5 hg hr2, Nat.le_trans h6 hg.size⟩
  rcases hk with q | q
  · exact Nat.lt_of_lt_of_le (h1.lt k (.inl q)) hg.size
  · exact q.2
theorem UI.up {p : Nat} {F : Nat → Prop} {w w0 : World} {A0 A1 A2 t : Nat} {S : Nat × Eng} {W W' : World} (h : UI p F w w0 A0 A1 A2 t S W) (hu : Up W W') : UI p F w w0 A0 A1 A2 t S W' := by
  obtain ⟨⟨bv, dv, lv, av, wv, h1⟩, h2, h3, h4, h5, h6⟩ := h
  refine ⟨⟨bv, dv, lv, av, wv, (h1.up hu).mono (fun k hk => fx_mono hu.size hk) fun k hk => ?_⟩, h2.trans (Below.chg (fun _ => False) hu) fun _ _ e => e.elim, h3.up hu, h4.up hu, h5.up hu, Nat.le_trans h6 hu.size⟩
  rcases hk with q | q
  · exact Nat.lt_of_lt_of_le (h1.lt k (.inl q)) hu.size
  · exact q.2
/-- The footprint's cells. -/
def Cl (W : World) (F : Nat → Prop) (k : Nat) : Prop := F k ∧ ∃ c E fz, W.heap[k]? = some (.cells c E fz)
theorem EngP.narrow {w : World} {p : Nat} {F : Nat → Prop} {E : Eng} {bv dv lv av wv : Value} (h : EngP w p F E bv dv lv av wv) : EngP w p (Cl w F) E bv dv lv av wv := by
  have o : ∀ {E' : TypeId} {s n : Nat} {v : Value} {xs : List Value}, w.ownsRow 0 E' s v n xs → ∀ k, v.ownBlock = some k → ∃ c E fz, w.heap[k]? = some (.cells c E fz) := fun hv k hk => by
    obtain ⟨c, fz, e⟩ := ((own_ty hv) k hk).1
    exact ⟨c, _, fz, e⟩
  exact ⟨fun k hk => h.lt k hk.1, ⟨h.fp, _, _, _, h.blk⟩, h.blk, h.bo, fun k hk => ⟨h.bF k hk, o h.bo k hk⟩, h.do_, fun k hk => ⟨h.dF k hk, o h.do_ k hk⟩, h.lo, fun k hk => ⟨h.lF k hk, o h.lo k hk⟩, h.ao, fun k hk => ⟨h.aF k hk, o h.ao k hk⟩, h.wo, fun k hk => ⟨h.wF k hk, o h.wo k hk⟩, h.bd, h.aw⟩
theorem keeps_cl {W W' : World} {F : Nat → Prop} (h : Chg (Cl W F) W W') (B : Nat) : KeepsFrom B W W' := ⟨h.size, fun k o _ hk ho => (h.block k (Array.getElem?_eq_some_iff.1 hk).1 fun e => by
    obtain ⟨_, c, E, fz, e2⟩ := e
    rw [hk] at e2
    cases e2
    cases ho).trans hk⟩
/-- An engine that has been handed on to a call inside the loop. -/
theorem UI.call {p : Nat} {F : Nat → Prop} {w w0 W W' : World} {A0 A1 A2 t n : Nat} {S : Nat × Eng} {E' : Eng} (hl : ∀ k, F k → k < w.heap.size) (hw : w.heap.size ≤ w0.heap.size) (h : UI p F w w0 A0 A1 A2 t S W) (h2 : EngPost p E' (Cl W (Fx F w0 W)) W W') (hn : n = S.1)
    (hA : ∀ k, k = A0 ∨ k = A1 ∨ k = A2 → w.heap.size ≤ k ∧ k < w0.heap.size) : UI p F w w0 A0 A1 A2 t (n, E') W' := by
  subst hn
  obtain ⟨⟨bv, dv, lv, av, wv, h1⟩, c2⟩ := h2
  have hz : ∀ k, k = A0 ∨ k = A1 ∨ k = A2 → ¬ Cl W (Fx F w0 W) k := fun k hk e => by
    have h3 := hA k hk
    rcases e.1 with q | q
    · have := hl k q; omega
    · omega
  refine ⟨⟨bv, dv, lv, av, wv, h1.mono (fun k hk => ?_) fun k hk => ?_⟩, h.ch.trans c2 fun k hk e => ?_, h.b0.chg c2 (hz _ (.inl rfl)), h.b1.chg c2 (hz _ (.inr (.inl rfl))), h.b2.chg c2 (hz _ (.inr (.inr rfl))), Nat.le_trans h.sz c2.size⟩
  · rcases hk with q | q
    · exact fx_mono c2.size q.1
    · exact .inr ⟨Nat.le_trans h.sz q.1, q.2⟩
  · have hs := c2.size
    rcases hk with q | q
    · have := hl k q; have := h.ch.size; omega
    · exact q.2
  · rcases e.1 with q | q
    · exact q
    · omega
theorem appE_buf (E : Eng) (r : Rec) : (appE E r).buf.length = E.buf.length := by
  unfold appE
  show (if r.kind = 3 then E.buf else E.buf.set r.page (r.after, E.log.length + 1)).length = _
  split
  · rfl
  · rw [List.length_set]
theorem appE_log (E : Eng) (r : Rec) : (appE E r).log.length = E.log.length + 1 := by
  show (E.log ++ [r]).length = _
  simp
theorem ustep_sz (t : Nat) (S : Nat × Eng) (r : Rec) : (ustep t S r).1 ≤ S.1 + 1 ∧ (ustep t S r).2.buf.length = S.2.buf.length ∧ (ustep t S r).2.log.length ≤ S.2.log.length + 1 := by
  unfold ustep
  split
  · exact ⟨by omega, rfl, by omega⟩
  · split
    · exact ⟨Nat.le_refl _, rfl, by simp⟩
    · split
      · split
        · exact ⟨by simp; omega, rfl, by simp⟩
        · exact ⟨by simp, appE_buf _ _, by rw [appE_log]; exact Nat.le_refl _⟩
      · exact ⟨by omega, rfl, by omega⟩
theorem us_sz (t : Nat) (E : Eng) (log : List Rec) (pre : List (Fin log.length)) : (us t E log pre).1 ≤ pre.length ∧ (us t E log pre).2.buf.length = E.buf.length ∧ (us t E log pre).2.log.length ≤ E.log.length + pre.length := by
  suffices ∀ (l : List Rec) (S : Nat × Eng), (l.foldl (ustep t) S).1 ≤ S.1 + l.length ∧ (l.foldl (ustep t) S).2.buf.length = S.2.buf.length ∧ (l.foldl (ustep t) S).2.log.length ≤ S.2.log.length + l.length by
    have := this (pre.map fun x => log[x.1]) (0, E)
    rw [List.length_map] at this
    unfold us
    exact ⟨by have := this.1; simp at this; omega, this.2.1, this.2.2⟩
  intro l
  induction l with
  | nil => intro S; exact ⟨by simp, rfl, by simp⟩
  | cons r l ih =>
    intro S
    obtain ⟨a1, a2, a3⟩ := ih (ustep t S r)
    obtain ⟨b1, b2, b3⟩ := ustep_sz t S r
    simp only [List.foldl_cons, List.length_cons]
    exact ⟨by omega, a2.trans b2, by omega⟩
/-- The fields of the record at place j. -/
def rgK (l : List Rec) (j : Nat) : Nat := (l.getD j ⟨0, 0, 0, 0, 0⟩).kind
def rgT (l : List Rec) (j : Nat) : Nat := (l.getD j ⟨0, 0, 0, 0, 0⟩).tx
def rgP (l : List Rec) (j : Nat) : Nat := (l.getD j ⟨0, 0, 0, 0, 0⟩).page
def rgB (l : List Rec) (j : Nat) : Int := (l.getD j ⟨0, 0, 0, 0, 0⟩).before
def rgA (l : List Rec) (j : Nat) : Int := (l.getD j ⟨0, 0, 0, 0, 0⟩).after
theorem rg_at (l : List Rec) (j : Nat) (h : j < l.length) : l[j] = ⟨rgK l j, rgT l j, rgP l j, rgB l j, rgA l j⟩ := by
  have e : l.getD j ⟨0, 0, 0, 0, 0⟩ = l[j] := by simp [List.getD, h]
  unfold rgK rgT rgP rgB rgA
  rw [e]
theorem rg_cells (l : List Rec) (j : Nat) (h : j < l.length) : (reC l)[j * 5]? = some (.int .i64 (rgK l j : Int)) ∧ (reC l)[j * 5 + 1]? = some (.int .i64 (rgT l j : Int)) ∧ (reC l)[j * 5 + 2]? = some (.int .i64 (rgP l j : Int)) ∧ (reC l)[j * 5 + 3]? = some (.int .i64 (rgB l j)) ∧ (reC l)[j * 5 + 4]? = some (.int .i64 (rgA l j)) := by
  have h2 := reC_get l j h
  rw [rg_at l j h] at h2
  exact h2
theorem UI.skip {p : Nat} {F : Nat → Prop} {w w0 W : World} {A0 A1 A2 t : Nat} {S : Nat × Eng} (h : UI p F w w0 A0 A1 A2 t S W) {m : Int} {n : Nat} (hm : m = (n : Int)) (hA : A2 < w0.heap.size) (hA2 : w.heap.size ≤ A2) (hF : ¬ F A2) (h0 : A0 ≠ A2) (h1 : A1 ≠ A2) : UI p F w w0 A0 A1 A2 t (n, S.2) (W.setCell ⟨A2, 0, none⟩ (.int .i64 m)) := by
  subst hm
  obtain ⟨⟨bv, dv, lv, av, wv, g1⟩, g2, h3, h4, h5, h6⟩ := h
  have C := chg_set W A2 0 none (.int .i64 (n : Int))
  have hn : ∀ k, Fx F w0 W k → ¬ k = A2 := fun k hk e => by
    subst e
    rcases hk with q | q
    · exact hF q
    · omega
  exact ⟨⟨bv, dv, lv, av, wv, (g1.chg C hn).mono (fun k hk => fx_mono C.size hk) fun k hk => by
    rcases hk with q | q
    · exact Nat.lt_of_lt_of_le (g1.lt k (.inl q)) C.size
    · exact q.2⟩, g2.set (.inr hA2) _ _ _, h3.other h0 _ _ _, h4.other h1 _ _ _, h5.set 0 _, Nat.le_trans h6 C.size⟩
set_option maxRecDepth 100000 in
set_option maxHeartbeats 4000000 in
theorem undo_any (p : Nat) (E : Eng) (F : Nat → Prop) (t : Nat) (w : World) (h : EngR w p E F) (hl : E.log.length ≤ 40000) (hpg : ∀ r ∈ E.log, r.kind = 1 → r.page < E.buf.length) :
    Calls Try.prog 22 #[.pointer (some ⟨p, 0, none⟩), .int .i64 (t : Int)] w fun e w' => e = .returned (.tuple #[]) ∧ EngPost p (undoE E t) F w w' := by
  have HL := Lib.hid h.lt
  have HR := Lib.hid h
  obtain ⟨bv, dv, lv, av, wv, hP⟩ := h
  obtain ⟨la, lc, rfl, hg1, hg2, _⟩ := own_form hP.lo
  have c2 := (hP.blk.at (i := 2) rfl).2
  have hpl := hP.blk.lt
  have LO := Lib.hid hP.lo
  have c2' : ∀ o1 o2 o3, (((w.alloc o1).alloc o2).alloc o3).cell? ⟨p, 2, none⟩ = some (.slice la E.log.length lc) := fun o1 o2 o3 => (((((Up.refl w).alloc o1).alloc o2).alloc o3).cell (p := ⟨p, 2, none⟩) hpl).trans c2
  clear hP
  refine (callsIn_wide (n := 3)).1 ?_
  refine callsIn_of_wp_marks Try.func22 rfl trivial ?_ rfl
  simp only [Try.ntmps22, List.size_toArray, List.length_cons, List.length_nil, Nat.reduceAdd, Nat.reduceSub, Array.replicate_succ, Array.replicate_zero, List.push_toArray, List.append_toArray, List.nil_append, List.cons_append]
  gi_wp2
  refine ⟨trivial, ?_⟩
  have U1 : Up w (((w.alloc (.cells #[.pointer (some ⟨p, 0, none⟩)] 24)).alloc (.cells #[.int .i64 (t : Int)] 3)).alloc (.cells #[.int .i64 0] 3)) := (((Up.refl w).alloc _).alloc _).alloc _
  refine (callsIn_wide.2 (cloneR (.slice la E.log.length lc) E.log.length (reC E.log) _ (own_src (own_up LO.out U1)) (reC_one _) (by omega))).mono ?_
  rintro e w2 ⟨v2, rfl, ho2, hu2⟩
  obtain ⟨ra, rc, rfl, hc1, hc2, _⟩ := own_form ho2
  gi_wp2
  refine ⟨trivial, ?_⟩
  refine (callsIn_wide.2 (backward_any _ _ _ _)).mono ?_
  rintro e w3 ⟨rfl, rfl⟩
  gi_wp2
  have hs1 : (((w.alloc (.cells #[.pointer (some ⟨p, 0, none⟩)] 24)).alloc (.cells #[.int .i64 (t : Int)] 3)).alloc (.cells #[.int .i64 0] 3)).heap.size = w.heap.size + 3 := by simp
  have B0 := (((Blk.new w #[.pointer (some ⟨p, 0, none⟩)] 24).up ((Up.refl _).alloc (.cells #[.int .i64 (t : Int)] 3))).up ((Up.refl _).alloc (.cells #[.int .i64 0] 3)))
  have B1 := ((Blk.new (w.alloc (.cells #[.pointer (some ⟨p, 0, none⟩)] 24)) #[.int .i64 (t : Int)] 3).up ((Up.refl _).alloc (.cells #[.int .i64 0] 3)))
  have B2 := Blk.new ((w.alloc (.cells #[.pointer (some ⟨p, 0, none⟩)] 24)).alloc (.cells #[.int .i64 (t : Int)] 3)) #[.int .i64 0] 3
  rw [World.size_alloc] at B1
  rw [World.size_alloc, World.size_alloc] at B2
  have hu3 := hu2.alloc (.cells #[.slice ra E.log.length rc] 42)
  have BS := Blk.new w2 #[.slice ra E.log.length rc] 42
  have ho3 := own_up ho2 ((Up.refl w2).alloc (.cells #[.slice ra E.log.length rc] 42))
  have hs2 := hu2.size
  obtain ⟨w0, hw0⟩ : ∃ w0, w0 = w2.alloc (.cells #[.slice ra E.log.length rc] 42) := ⟨_, rfl⟩
  have hs0 : w0.heap.size = w2.heap.size + 1 := by rw [hw0]; simp
  rw [← hw0] at hu3 BS ho3 ⊢
  have B0' := B0.up hu3
  have B1' := B1.up hu3
  have B2' := B2.up hu3
  have U0 : Up w w0 := U1.trans hu3
  rw [hs1] at ho3 hs2
  have hgb : ∀ k, (Value.slice ra E.log.length rc).ownBlock = some k → w.heap.size + 3 ≤ k ∧ k < w0.heap.size := fun k hk => ⟨((own_ty ho3) k hk).2, own_lt ho3 k hk⟩
  clear hw0 c2 c2' hs1 B0 B1 B2 ho2 hu2 hu3 U1
  have HPG := Lib.hid hpg
  have UI0 : Hid (UI p F w w0 w.heap.size (w.heap.size + 1) (w.heap.size + 1 + 1) t (0, E) w0) := by
    refine ⟨?_, Below.chg F U0, B0', B1', B2', Nat.le_refl _⟩
    obtain ⟨bv, dv, lv, av, wv, h1⟩ := HR.out
    exact ⟨bv, dv, lv, av, wv, (h1.up U0).mono (fun k hk => .inl hk) fun k hk => by
      rcases hk with q | q
      · exact Nat.lt_of_lt_of_le (HL.out k q) U0.size
      · exact q.2⟩
  have HGB := Lib.hid hgb
  have HO3 := Lib.hid ho3
  have HS0 : Hid (w.heap.size + 3 < w0.heap.size) := by unfold Hid; omega
  clear hgb B0' B1' B2' hpg
  refine wpIn_rangeFunc_ownH rfl (by decide) (gf := 30) (lb := #[.pointer (some ⟨w2.heap.size, 0, none⟩)]) rfl trivial (enters_of Try.func30 (by kernel_rfl) rfl)
    (back_stops Fence.wide 2 trivial rfl (by decide) (fun k => (Value.slice ra E.log.length rc).ownBlock = some k ∨ k = w2.heap.size) w2.heap.size E.log.length rc ra (fun j => .int .i64 (rgK E.log j : Int)) (fun j => .int .i64 (rgT E.log j : Int)) (fun j => .int .i64 (rgP E.log j : Int)) (fun j => .int .i64 (rgB E.log j)) (fun j => .int .i64 (rgA E.log j)) hc1 hc2 w0 (.inr rfl) (by omega) (BS.cell 0)
      (fun j hj => by
        obtain ⟨g, c, hv, _, _, hgl, hat, _⟩ := own_some HO3.out (by omega)
        obtain ⟨e0, e1, e2, e3, e4⟩ := rg_cells E.log j hj
        simp only [Value.slice.injEq] at hv
        obtain ⟨rfl, _, rfl⟩ := hv
        exact ⟨g, 0, rfl, .inl rfl, hgl, by rw [Nat.zero_add]; exact hat _ _ e0, by rw [Nat.zero_add]; exact hat _ _ e1, by rw [Nat.zero_add]; exact hat _ _ e2, by rw [Nat.zero_add]; exact hat _ _ e3, by rw [Nat.zero_add]; exact hat _ _ e4⟩))
    KpT.trans (kpT_b (fun k hk => by rcases hk with q | q; exact (HGB.out k q).2; omega)) (Below.refl _ _) (fun _ => rfl)
    (fun pre W => UI p F w w0 w.heap.size (w.heap.size + 1) (w.heap.size + 1 + 1) t (us t E E.log pre) W)
    (fun c pre W => False)
    (fun pre W W' row h hg hr => UI.own (by omega) h hg hr)
    (fun c => fun _ _ _ _ h _ _ => h)
    UI0.out
    (fun x a' W => ∃ Bx, w0.heap.size ≤ Bx ∧ Blk W Bx [.int .i64 (rgK E.log x.1 : Int), .int .i64 (rgT E.log x.1 : Int), .int .i64 (rgP E.log x.1 : Int), .int .i64 (rgB E.log x.1), .int .i64 (rgA E.log x.1)] 50 ∧ a' = { tmps := #[.pointer (some ⟨p, 0, none⟩), .int .i64 (t : Int), .pointer (some ⟨w.heap.size, 0, none⟩), .pointer (some ⟨w.heap.size + 1, 0, none⟩), .pointer (some ⟨w.heap.size + 1 + 1, 0, none⟩), undef, .pointer (some ⟨Bx, 0, none⟩), .pointer (some ⟨p, 0, none⟩), .pointer (some ⟨p, 0, none⟩), .pointer (some ⟨p, 2, none⟩), .slice la E.log.length lc, .slice ra E.log.length rc, .func (.func 30) #[] #[.pointer (some ⟨w2.heap.size, 0, none⟩)], .int .i64 (x.1 : Int), .agg #[.int .i64 (rgK E.log x.1 : Int), .int .i64 (rgT E.log x.1 : Int), .int .i64 (rgP E.log x.1 : Int), .int .i64 (rgB E.log x.1), .int .i64 (rgA E.log x.1)], undef, undef, undef, undef, undef, undef, undef, undef, undef, undef, undef, undef, undef, undef, undef, undef, undef, undef, undef, undef, undef, undef, undef, undef, undef, undef, undef, undef, undef, undef, undef, undef, undef, undef], defers := [] })
    (fun x a' st A B row hs hg hr => by obtain ⟨Bx, h1, h2, h3⟩ := hs; exact ⟨Bx, h1, blk_noncells h2 hg fun r e => (hr r e).2, h3⟩) ?assign ?body ?done ?stop
  case assign =>
    rintro l pre x W K hi hK
    gi_wp2
    refine hK _ _ ((KeepsOthers.alloc _ _).from _) ⟨by simp, fun k hk => ?_⟩ (hi.up ((Up.refl W).alloc _)) ⟨W.heap.size, hi.sz, Blk.new W _ _, rfl⟩
    refine ((Up.refl W).alloc _).block k ?_
    have := hi.sz
    rcases hk with q | q
    · have := (HGB.out k q).2; omega
    · omega
  case body =>
    rintro l pre x a' W hl ⟨r, hr⟩ hi ⟨Bx, hBx, bX, rfl⟩ hlt
    have US := us_snoc t E E.log pre x
    have SZ := us_sz t E E.log pre
    have hpl' : pre.length ≤ 40000 := by omega
    have PGB : rgK E.log x.1 = 1 → rgP E.log x.1 < E.buf.length := fun e => by
      have h1 := HPG.out _ (List.getElem_mem x.2)
      rw [rg_at E.log x.1 x.2] at h1
      exact h1 e
    rw [rg_at E.log x.1 x.2] at US
    have x0 := (bX.at (i := 0) rfl).2
    have x1 := (bX.at (i := 1) rfl).2
    have x2 := (bX.at (i := 2) rfl).2
    have x3 := (bX.at (i := 3) rfl).2
    have x4 := (bX.at (i := 4) rfl).2
    have xl := bX.lt
    have a0 := (hi.b0.at (i := 0) rfl).2
    have a1 := (hi.b1.at (i := 0) rfl).2
    have a2 := (hi.b2.at (i := 0) rfl).2
    have af := hi.b2.free 0
    have al0 := hi.b0.lt
    have al1 := hi.b1.lt
    have al2 := hi.b2.lt
    have HI := Lib.hid hi
    generalize hSE : us t E E.log (pre ++ [x]) = S' at US
    have HSE := Lib.hid hSE
    clear hSE
    generalize us t E E.log pre = S at *
    generalize rgK E.log x.1 = K at *
    generalize rgT E.log x.1 = T at *
    generalize rgP E.log x.1 = P at *
    generalize rgB E.log x.1 = B at *
    generalize rgA E.log x.1 = A at *
    have HUS := Lib.hid US
    obtain ⟨sz1, sz2, sz3⟩ := SZ
    have HS2 := Lib.hid sz2
    have HBX := Lib.hid bX
    have hs5 : S.1 ≤ 40000 := by omega
    have hs6 : S.2.log.length ≤ 80000 := by omega
    have HNF : Hid (¬ F (w.heap.size + 1 + 1)) := fun e => by have := HL.out _ e; omega
    clear US hi bX sz1 sz2 sz3 hl hpl'
    by_cases hT : T = t
    · subst hT
      by_cases hK2 : K = 2
      · subst hK2
        have hU : Hid (S' = (S.1 + 1, S.2)) := by unfold Hid; rw [HUS.out]; unfold ustep; simp
        have hwr : IntKind.i64.wrap ((S.1 : Int) + 1) = (S.1 : Int) + 1 := IntWalk.i64_in _ (by omega)
        gi_wp2
        refine ⟨(KeepsOthers.setCell _ _ _).from _, KpT.of_chg (chg_set W (w.heap.size + 1 + 1) 0 none _) (fun k hk => ?_), ?_⟩
        · have hz := HS0.out
          have hy := HI.out.sz
          rcases hk with q | q
          · have := HGB.out k q; omega
          · omega
        · show UI _ _ _ _ _ _ _ _ (us _ E E.log (pre ++ [x])) _
          rw [HSE.out, hU.out]
          exact HI.out.skip (by omega) (by have := HS0.out; omega) (by omega) HNF.out (by omega) (by omega)
      · have hK2i : ¬ (K : Int) = 2 := by omega
        have hK2b : ((K : Int) == 2) = false := beq_eq_false_iff_ne.2 hK2i
        by_cases hK1 : K = 1
        · subst hK1
          by_cases hS : 0 < S.1
          · have hU : Hid (S' = (S.1 - 1, S.2)) := by unfold Hid; rw [HUS.out]; unfold ustep; simp [hS]
            have hSi : (0 : Int) < (S.1 : Int) := by omega
            have hwr : IntKind.i64.wrap ((S.1 : Int) - 1) = (S.1 : Int) - 1 := IntWalk.i64_in _ (by omega)
            gi_wp2
            refine ⟨(KeepsOthers.setCell _ _ _).from _, KpT.of_chg (chg_set W (w.heap.size + 1 + 1) 0 none _) (fun k hk => ?_), ?_⟩
            · have hz := HS0.out
              have hy := HI.out.sz
              rcases hk with q | q
              · have := HGB.out k q; omega
              · omega
            · show UI _ _ _ _ _ _ _ _ (us _ E E.log (pre ++ [x])) _
              rw [HSE.out, hU.out]
              exact HI.out.skip (by omega) (by have := HS0.out; omega) (by omega) HNF.out (by omega) (by omega)
          · have hS0 : S.1 = 0 := by omega
            have hU : Hid (S' = (0, appE S.2 ⟨2, T, P, A, B⟩)) := by unfold Hid; rw [HUS.out]; unfold ustep; simp [hS]
            have hSi : ¬ (0 : Int) < (S.1 : Int) := by omega
            have HAP : Hid (Calls Try.prog 23 #[.pointer (some ⟨p, 0, none⟩), .agg #[.int .i64 2, .int .i64 (T : Int), .int .i64 (P : Int), .int .i64 A, .int .i64 B]] W fun e w' => e = .returned (.tuple #[]) ∧ EngPost p (appE S.2 ⟨2, T, P, A, B⟩) (Cl W (Fx F w0 W)) W w') := by
              obtain ⟨bv, dv, lv, av, wv, h1⟩ := HI.out.er
              exact append_any p S.2 _ ⟨2, T, P, A, B⟩ W ⟨bv, dv, lv, av, wv, h1.narrow⟩ (by omega) (fun _ => by rw [HS2.out]; exact PGB rfl)
            have HS0N := Lib.hid hS0
            clear hS hS0
            gi_wp2
            refine ⟨trivial, ?_⟩
            refine (CallsIn.inRound l (callsIn_wide.2 HAP.out)).mono ?_
            rintro e w5 ⟨rfl, h5⟩
            have H5 := Lib.hid h5
            clear h5
            gi_wp2
            refine ⟨keeps_cl H5.out.2 _, KpT.of_chg H5.out.2 (fun k hk => ?_), ?_⟩
            · have hz := HS0.out
              have hy := HI.out.sz
              have : w.heap.size + 3 ≤ k ∧ k < w0.heap.size := by
                rcases hk with q | q
                · exact HGB.out k q
                · omega
              refine ⟨by omega, fun e => ?_⟩
              rcases e.1 with q | q
              · have := HL.out k q; omega
              · omega
            · show UI _ _ _ _ _ _ _ _ (us _ E E.log (pre ++ [x])) _
              rw [HSE.out, hU.out]
              exact UI.call HL.out (by omega) HI.out H5.out HS0N.out.symm (fun k hk => by have := HS0.out; omega)
        · have hK1i : ¬ (K : Int) = 1 := by omega
          have hK1b : ((K : Int) == 1) = false := beq_eq_false_iff_ne.2 hK1i
          have hU : Hid (S' = S) := by unfold Hid; rw [HUS.out]; unfold ustep; simp [hK2, hK1]
          gi_wp2
          exact ⟨KeepsFrom.refl _ _, KpT.refl _ _, by show UI _ _ _ _ _ _ _ _ (us _ E E.log (pre ++ [x])) _; rw [HSE.out, hU.out]; exact HI.out⟩
    · have hTi : ¬ (T : Int) = (t : Int) := by omega
      have hTb : ((T : Int) == (t : Int)) = false := beq_eq_false_iff_ne.2 hTi
      have hTn : ((T : Int) != (t : Int)) = true := by simp [bne, hTb]
      have hU : Hid (S' = S) := by unfold Hid; rw [HUS.out]; unfold ustep; simp [hT]
      gi_wp2
      exact ⟨KeepsFrom.refl _ _, KpT.refl _ _, by show UI _ _ _ _ _ _ _ _ (us _ E E.log (pre ++ [x])) _; rw [HSE.out, hU.out]; exact HI.out⟩
  case stop =>
    rintro D c pre W hD _ hf
    exact hf.elim
  case done =>
    rintro D ys' W hD rfl hi hK
    gi_wp2
    refine ⟨by simp, .inl ⟨_, _, rfl, run_takeDeferred hK, ?_⟩⟩
    refine ⟨.tuple #[], by simp [results, Try.f22, go_sem], rfl, ?_⟩
    have h2 := UI.own (by omega) hi (grownBy_putObj' W D (.deferred none)) (fun r e => by cases e; exact ⟨hD, _, hK, rfl⟩)
    obtain ⟨⟨bv, dv, lv, av, wv, h1⟩, h3, _, _, _, _⟩ := h2
    rw [us_all] at h1
    refine EngP.fx h1 h3 HL.out fun k hk => ?_
    rcases hk with q | q
    · exact .inl q
    · exact .inr ⟨by omega, q.2⟩
end Go.Proofs.Ytjalpppmgoepiaa.Rv
