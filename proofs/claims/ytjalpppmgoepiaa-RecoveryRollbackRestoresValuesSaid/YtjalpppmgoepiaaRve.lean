/- Recovery: New, Begin, finish, Write, Commit. -/
import Derived.Test.YtjalpppmgoepiaaRvd
import Derived.Laws.OwnMore
namespace Go.Proofs.Ytjalpppmgoepiaa.Rv
open Go Go.RowKit Hp
set_option linter.unusedVariables false

theorem made2 (a b : Value) : ∀ n : Nat, (madeCells #[a, b] (n * 2)).toList = (List.replicate n ()).flatMap fun _ => [a, b]
  | 0 => by simp [madeCells]
  | n + 1 => by
    have ih := made2 a b n
    unfold madeCells at *
    rw [Nat.add_mul, Nat.one_mul]
    simp only [Array.toList_map, Array.toList_range] at *
    rw [List.range_succ, List.range_succ, List.map_append, List.map_append, ih, List.replicate_succ', List.flatMap_append]
    have e1 : n * 2 % 2 = 0 := by omega
    have e2 : (n * 2 + 1) % 2 = 1 := by omega
    simp [e1, e2]
def pg0 (n : Nat) : List (Int × Nat) := List.replicate n (0, 0)
def na0 (n : Nat) : List Nat := List.replicate n 0
theorem pg0_len (n : Nat) : (pg0 n).length = n := by simp [pg0]
theorem na0_len (n : Nat) : (na0 n).length = n := by simp [na0]
theorem made_pg (n : Nat) : madeCells #[.int .i64 0, .int .i64 0] (n * 2) = (pgC (pg0 n)).toArray := by
  apply Array.toList_inj.1
  rw [made2]
  unfold pgC pg0
  induction n with
  | zero => rfl
  | succ n ih => rw [List.replicate_succ, List.replicate_succ, List.flatMap_cons, List.flatMap_cons, ih]; rfl
theorem made_na (n : Nat) : madeCells #[.int .i64 0] n = (naC (na0 n)).toArray := by
  apply Array.toList_inj.1
  rw [toList_madeCells_one]
  unfold naC na0
  induction n with
  | zero => rfl
  | succ n ih => rw [List.replicate_succ, List.replicate_succ, List.flatMap_cons, ih]; rfl
def newE (n : Nat) : Eng := ⟨pg0 n, pg0 n, [], 0, 0, [], na0 n⟩
theorem mkP (n : Nat) (h2 : n ≤ 16) (w : World) : (Instr.makeSlice 41 (.int .i64 (n : Int)) (.int .i64 (n : Int))).run Try.prog w = .ok (.slice (some ⟨w.heap.size, 0, none⟩) n n) (w.alloc (.cells (pgC (pg0 n)).toArray 53)) := by
  obtain ⟨i0, hi, hz0, hz1, hz2⟩ := info_parts Try.infoP
  have h := run_make (P := Try.prog) w 41 53 i0 (.agg #[.int .i64 0, .int .i64 0]) Try.underlying41 hi hz0 .i64 .i64 (n : Int) (n : Int) (by omega) (Int.le_refl _) (by rw [hz2]; omega) (by omega)
  rw [hz1, Int.toNat_natCast, show (Value.agg #[.int .i64 0, .int .i64 0]).cells = #[.int .i64 0, .int .i64 0] from rfl, made_pg] at h
  exact h
theorem mkI (n : Nat) (h2 : n ≤ 16) (w : World) : (Instr.makeSlice 22 (.int .i64 (n : Int)) (.int .i64 (n : Int))).run Try.prog w = .ok (.slice (some ⟨w.heap.size, 0, none⟩) n n) (w.alloc (.cells (naC (na0 n)).toArray 3)) := by
  obtain ⟨i0, hi, hz0, hz1, hz2⟩ := info_parts Try.infoI
  have h := run_make (P := Try.prog) w 22 3 i0 (.int .i64 0) Try.underlying22 hi hz0 .i64 .i64 (n : Int) (n : Int) (by omega) (Int.le_refl _) (by rw [hz2]; omega) (by omega)
  rw [hz1, Int.toNat_natCast, Nat.mul_one, show (Value.int .i64 0).cells = #[.int .i64 0] from rfl, made_na] at h
  exact h
theorem own_new {w : World} {g : Nat} {E : TypeId} {size n : Nat} {xs : List Value} (h : Blk w g xs E) (hl : xs.length = n * size) (hn : n ≤ 1000) (hs : 0 < size) : w.ownsRow 0 E size (.slice (some ⟨g, 0, none⟩) n n) n xs :=
  ⟨hl, .inr ⟨g, n, xs.toArray, rfl, Nat.zero_le _, h, Nat.le_refl _, by unfold maxLen; omega, by simpa using hl, by simp [← hl]⟩⟩
theorem al_at (w : World) (o0 o1 o2 o3 : Obj) : ((((w.alloc o0).alloc o1).alloc o2).alloc o3).heap[w.heap.size]? = some o0 ∧ ((((w.alloc o0).alloc o1).alloc o2).alloc o3).heap[w.heap.size + 1]? = some o1 ∧ ((((w.alloc o0).alloc o1).alloc o2).alloc o3).heap[w.heap.size + 1 + 1]? = some o2 ∧ ((((w.alloc o0).alloc o1).alloc o2).alloc o3).heap[w.heap.size + 1 + 1 + 1]? = some o3 := by
  have h (W : World) (o : Obj) : (W.alloc o).heap[W.heap.size]? = some o := heap_alloc_new W o
  have k (W : World) (o : Obj) (i : Nat) (hi : i < W.heap.size) : (W.alloc o).heap[i]? = W.heap[i]? := ((Up.refl W).alloc o).block i hi
  have z (W : World) (o : Obj) : (W.alloc o).heap.size = W.heap.size + 1 := World.size_alloc W o
  refine ⟨?_, ?_, ?_, ?_⟩
  · rw [k _ _ _ (by simp only [z]; omega), k _ _ _ (by simp only [z]; omega), k _ _ _ (by simp only [z]; omega), h]
  · rw [k _ _ _ (by simp only [z]; omega), k _ _ _ (by simp only [z]; omega)]
    have := h (w.alloc o0) o1
    rwa [z] at this
  · rw [k _ _ _ (by simp only [z]; omega)]
    have := h ((w.alloc o0).alloc o1) o2
    rwa [z, z] at this
  · have := h (((w.alloc o0).alloc o1).alloc o2) o3
    rwa [z, z, z] at this
theorem new_fin {w w' : World} {b d g p n : Nat} (hn : n ≤ 16) (hb : Blk w' b (pgC (pg0 n)) 53) (hd : Blk w' d (pgC (pg0 n)) 53) (hg : Blk w' g (naC (na0 n)) 3)
    (hp : Blk w' p [.slice (some ⟨b, 0, none⟩) n n, .slice (some ⟨d, 0, none⟩) n n, .slice none 0 0, .int .i64 0, .int .i64 0, .slice none 0 0, .slice (some ⟨g, 0, none⟩) n n] 44) (hbd : b ≠ d) (z : w.heap.size ≤ b ∧ w.heap.size ≤ d ∧ w.heap.size ≤ g ∧ w.heap.size ≤ p) (hu : Up w w') :
    ∃ F, EngR w' p (newE n) F ∧ (∀ k, F k → w.heap.size ≤ k) ∧ Up w w' := by
  refine ⟨fun k => k = b ∨ k = d ∨ k = g ∨ k = p, ⟨_, _, _, _, _, fun k hk => ?_, .inr (.inr (.inr rfl)), hp, ?_, fun k hk => ?_, ?_, fun k hk => ?_, World.ownsRow_nil _ _ _ _, fun k hk => (by cases hk), World.ownsRow_nil _ _ _ _, fun k hk => (by cases hk), ?_, fun k hk => ?_, fun k h1 h2 => ?_, fun k h1 => (by cases h1)⟩, fun k hk => ?_, hu⟩
  · rcases hk with rfl | rfl | rfl | rfl
    · exact hb.lt
    · exact hd.lt
    · exact hg.lt
    · exact hp.lt
  · rw [show (newE n).buf = pg0 n from rfl, pg0_len]; exact own_new hb (by rw [pgC_len, pg0_len]) (by omega) (by omega)
  · exact .inl (by simpa [Value.ownBlock] using hk.symm)
  · rw [show (newE n).dsk = pg0 n from rfl, pg0_len]; exact own_new hd (by rw [pgC_len, pg0_len]) (by omega) (by omega)
  · exact .inr (.inl (by simpa [Value.ownBlock] using hk.symm))
  · rw [show (newE n).wri = na0 n from rfl, na0_len]; exact own_new hg (by rw [naC_len, na0_len]) (by omega) (by omega)
  · exact .inr (.inr (.inl (by simpa [Value.ownBlock] using hk.symm)))
  · simp only [Value.ownBlock, Option.some.injEq] at h1 h2
    omega
  · rcases hk with rfl | rfl | rfl | rfl <;> omega
set_option maxRecDepth 100000 in
set_option maxHeartbeats 2000000 in
theorem new_any (n : Nat) (h1 : 1 ≤ n) (h2 : n ≤ 16) (w : World) :
    Calls Try.prog 7 #[.int .i64 n] w fun e w' => ∃ p, e = .returned (.tuple #[.pointer (some ⟨p, 0, none⟩), .int .i64 0]) ∧ ∃ F, EngR w' p (newE n) F ∧ (∀ k, F k → w.heap.size ≤ k) ∧ Up w w' := by
  have a1 : ¬ (n : Int) < 1 := by omega
  have a2 : ¬ (16 : Int) < (n : Int) := by omega
  have hmp := mkP n h2
  have hmi := mkI n h2
  have HN := Lib.hid h2
  go_enter Try.func7, Try.ntmps7
  go_wp2
  go_region_law (fail)
  all_goals
    go_wp2
    go_ret2
    refine ⟨_, rfl, new_fin HN.out (by first | exact (al_at w _ _ _ _).1 | exact (al_at w _ _ _ _).2.1 | exact (al_at w _ _ _ _).2.2.1) (by first | exact (al_at w _ _ _ _).1 | exact (al_at w _ _ _ _).2.1 | exact (al_at w _ _ _ _).2.2.1) (by first | exact (al_at w _ _ _ _).1 | exact (al_at w _ _ _ _).2.1 | exact (al_at w _ _ _ _).2.2.1) (al_at w _ _ _ _).2.2.2 (by omega) ⟨by omega, by omega, by omega, by omega⟩ ?_⟩
    exact (((((Up.refl w).alloc _).alloc _).alloc _).alloc _).drew
section
variable {w w' wr W1 w2 : World} {p : Nat} {F F' : Nat → Prop} {E : Eng} {bv dv lv av wv : Value}
theorem EngP.setW {g c i : Nat} {m : Nat} (h : EngP w p F E bv dv lv av (.slice (some ⟨g, 0, none⟩) E.wri.length c)) (hi : i < E.wri.length) :
    EngP (w.setCell ⟨g, i, none⟩ (.int .i64 (m : Int))) p F { E with wri := E.wri.set i m } bv dv lv av (.slice (some ⟨g, 0, none⟩) E.wri.length c) ∧ Chg F w (w.setCell ⟨g, i, none⟩ (.int .i64 (m : Int))) := by
  have hgt := ((own_ty h.wo) g rfl).1
  have C1 := chg_set w g i none (.int .i64 (m : Int))
  have hne : p ≠ g := fun e => by subst e; exact hgt.ne (E' := 44) (by decide) (blk_ty h.blk)
  have o1 := own_set h.wo i (by rw [naC_len]; omega) (.int .i64 (m : Int))
  rw [naC_set _ _ hi] at o1
  exact ⟨h.putW (C1.mono fun j _ e => .inl (by rw [e]; rfl)) (h.blk.other hne _ _ _) (by rw [List.length_set]; exact o1) (fun k hk => hk) (fun k hk => Nat.lt_of_lt_of_le (h.lt k hk) C1.size) (fun k hk => h.wF k hk) (fun k hk => .inl hk),
    C1.mono fun j _ e => by rw [e]; exact h.wF g rfl⟩
/-- A list of the active ones that a call has shortened in place is stored back. -/
theorem EngP.storeA {v' : Value} {l' : List Nat} (h : EngP w p F E bv dv lv av wv) (C : Chg (fun j => av.ownBlock = some j) w w2) (hown : w2.ownsRow 0 3 1 v' l'.length (naC l')) (hs : ∀ k, v'.ownBlock = some k → av.ownBlock = some k) :
    EngP (w2.setCell ⟨p, 5, none⟩ v') p F { E with act := l' } bv dv lv v' wv ∧ Chg F w (w2.setCell ⟨p, 5, none⟩ v') := by
  have hap : ∀ k, av.ownBlock = some k → k ≠ p := fun k hk e => by subst e; exact ((own_ty h.ao) _ hk).1.ne (E' := 44) (by decide) (blk_ty h.blk)
  have B2 := (h.blk.chg C fun e => hap p e rfl)
  have C2 : Chg (fun j => av.ownBlock = some j ∨ j = p) w (w2.setCell ⟨p, 5, none⟩ v') := (C.mono (S' := fun j => av.ownBlock = some j ∨ j = p) fun j _ e => .inl e).set (.inl (.inr rfl)) _ _ _
  refine ⟨h.putA C2 (B2.set 5 v') (own_chg hown (chg_set _ _ _ _ _) fun k hk e => hap k (hs k hk) e) (fun k hk => hk) (fun k hk => Nat.lt_of_lt_of_le (h.lt k hk) C2.size) (fun k hk => h.aF k (hs k hk)) (fun k hk => .inl (hs k hk)), C2.mono fun j _ e => ?_⟩
  rcases e with e | e
  · exact h.aF j e
  · subst e; exact h.fp
theorem EngP.appA {g c H : Nat} {x : Nat} (h : EngP wr p F E bv dv lv av wv) (hU : Up wr W1) (hown : w2.ownsRow 0 3 1 (.slice (some ⟨g, 0, none⟩) (E.act.length + 1) c) (E.act.length + 1) (naC E.act ++ naC1 x)) (hg : W1.grownBy w2 av.ownBlock) (hat : av.ownBlock = some g ∨ g = H) (hH : wr.heap.size ≤ H) :
    EngP (w2.setCell ⟨p, 5, none⟩ (.slice (some ⟨g, 0, none⟩) (E.act.length + 1) c)) p (Fx F wr (w2.setCell ⟨p, 5, none⟩ (.slice (some ⟨g, 0, none⟩) (E.act.length + 1) c))) { E with act := E.act ++ [x] } bv dv lv (.slice (some ⟨g, 0, none⟩) (E.act.length + 1) c) wv ∧
    Chg F wr (w2.setCell ⟨p, 5, none⟩ (.slice (some ⟨g, 0, none⟩) (E.act.length + 1) c)) := by
  obtain ⟨q1, q2, q3, q4, q5, q6, q7⟩ := fld_append (i := 5) h.blk (by decide) h.ao hU hown hg hat hH
  have hgo : ∀ k, (Value.slice (some ⟨g, 0, none⟩) (E.act.length + 1) c).ownBlock = some k → g = k := fun k hk => by simpa [Value.ownBlock] using hk
  refine ⟨h.putA q4 q1 (by simpa [naC] using q2) (fun k hk => .inl hk) (fun k hk => fx_ltp h.lt q4.size hk) (fun k hk => ?_) fun k hk => ?_, q4.mono fun j _ e => ?_⟩
  · obtain rfl := hgo k hk
    rcases q5 with e | e
    · exact .inl (h.aF _ e)
    · exact .inr ⟨e, q6⟩
  · obtain rfl := hgo k hk
    rcases q5 with e | e
    · exact .inl e
    · exact .inr fun e2 => by have := h.lt _ e2; omega
  · rcases e with e | e
    · exact h.aF j e
    · subst e; exact h.fp
end
end Go.Proofs.Ytjalpppmgoepiaa.Rv
