/- Replication: New. -/
import Derived.Test.YthhkekmeginooaaRpu
import Derived.Laws.OwnMore
namespace Go.Proofs.Ythhkekmeginooaa.Rp
open Go Go.RowKit Hp
set_option linter.unusedVariables false

theorem made4 (a b c d : Value) : ∀ n : Nat, (madeCells #[a, b, c, d] (n * 4)).toList = (List.replicate n ()).flatMap fun _ => [a, b, c, d]
  | 0 => by simp [madeCells]
  | n + 1 => by
    have ih := made4 a b c d n
    unfold madeCells at *
    rw [Nat.add_mul, Nat.one_mul]
    simp only [Array.toList_map, Array.toList_range] at *
    rw [List.range_succ, List.range_succ, List.range_succ, List.range_succ, List.map_append, List.map_append, List.map_append, List.map_append, ih, List.replicate_succ', List.flatMap_append]
    have e1 : n * 4 % 4 = 0 := by omega
    have e2 : (n * 4 + 1) % 4 = 1 := by omega
    have e3 : (n * 4 + 2) % 4 = 2 := by omega
    have e4 : (n * 4 + 3) % 4 = 3 := by omega
    simp [e1, e2, e3, e4]
def m0 : MS := ⟨0, 0, .slice none 0 0, [], .slice none 0 0, []⟩
def m1 : MS := ⟨1, 0, .slice none 0 0, [], .slice none 0 0, []⟩
def ssK (n k : Nat) : List MS := List.replicate k m1 ++ List.replicate (n - k) m0
theorem ssK_len {n k : Nat} (h : k ≤ n) : (ssK n k).length = n := by unfold ssK; rw [List.length_append, List.length_replicate, List.length_replicate]; omega
theorem ssK_set {n k : Nat} (h : k < n) : (ssK n k).set k m1 = ssK n (k + 1) := by
  unfold ssK
  rw [List.set_append_right _ _ (by rw [List.length_replicate]; exact Nat.le_refl _), List.length_replicate, Nat.sub_self, show n - k = (n - (k + 1)) + 1 by omega, List.replicate_succ, List.set_cons_zero, List.replicate_succ', List.append_assoc]
  rfl
theorem ssK_get {n k : Nat} (h : k < n) : (ssK n k)[k]'(by rw [ssK_len (by omega)]; exact h) = m0 := by
  unfold ssK
  rw [List.getElem_append_right (by rw [List.length_replicate]; exact Nat.le_refl _)]
  simp
theorem made_ms (n : Nat) : madeCells #[.int .i64 0, .int .i64 0, .slice none 0 0, .slice none 0 0] (n * 4) = (msC (ssK n 0)).toArray := by
  apply Array.toList_inj.1
  rw [made4]
  unfold msC ssK
  rw [List.replicate_zero, List.nil_append, Nat.sub_zero]
  induction n with
  | zero => rfl
  | succ n ih => rw [List.replicate_succ, List.replicate_succ, List.flatMap_cons, List.flatMap_cons, ih]; rfl
theorem Try.infoS : (Try.prog.info? 53).map (fun i => (i.zero, i.size, i.bytes)) = some (some (.agg #[.int .i64 0, .int .i64 0, .slice none 0 0, .slice none 0 0]), 4, 64) := by kernel_rfl
theorem mkS (n : Nat) (h2 : n ≤ 16) (w : World) : (Instr.makeSlice 49 (.int .i64 (n : Int)) (.int .i64 (n : Int))).run Try.prog w = .ok (.slice (some ⟨w.heap.size, 0, none⟩) n n) (w.alloc (.cells (msC (ssK n 0)).toArray 53)) := by
  obtain ⟨i0, hi, hz0, hz1, hz2⟩ := info_parts Try.infoS
  have h := run_make (P := Try.prog) w 49 53 i0 (.agg #[.int .i64 0, .int .i64 0, .slice none 0 0, .slice none 0 0]) Try.underlying49 hi hz0 .i64 .i64 (n : Int) (n : Int) (by omega) (Int.le_refl _) (by rw [hz2]; omega) (by omega)
  rw [hz1, Int.toNat_natCast, show (Value.agg #[.int .i64 0, .int .i64 0, .slice none 0 0, .slice none 0 0]).cells = #[.int .i64 0, .int .i64 0, .slice none 0 0, .slice none 0 0] from rfl, made_ms] at h
  exact h
theorem al3 (w : World) (o0 o1 o2 : Obj) : (((w.alloc o0).alloc o1).alloc o2).heap[w.heap.size]? = some o0 ∧ (((w.alloc o0).alloc o1).alloc o2).heap[w.heap.size + 1]? = some o1 ∧ (((w.alloc o0).alloc o1).alloc o2).heap[w.heap.size + 1 + 1]? = some o2 := by
  have h (W : World) (o : Obj) : (W.alloc o).heap[W.heap.size]? = some o := heap_alloc_new W o
  have k (W : World) (o : Obj) (i : Nat) (hi : i < W.heap.size) : (W.alloc o).heap[i]? = W.heap[i]? := ((Up.refl W).alloc o).block i hi
  have z (W : World) (o : Obj) : (W.alloc o).heap.size = W.heap.size + 1 := World.size_alloc W o
  refine ⟨?_, ?_, ?_⟩
  · rw [k _ _ _ (by simp only [z]; omega), k _ _ _ (by simp only [z]; omega), h]
  · rw [k _ _ _ (by simp only [z]; omega)]
    have := h (w.alloc o0) o1
    rwa [z] at this
  · have := h ((w.alloc o0).alloc o1) o2
    rwa [z, z] at this
/-- The three blocks of a new cluster. -/
def NewB (w wr : World) (a b p n k : Nat) : Prop :=
  Blk wr a (msC (ssK n k)) 53 ∧ Blk wr b [nv 0, nv 0] 3 ∧ Blk wr p [.slice (some ⟨a, 0, none⟩) n n, .slice (some ⟨b, 0, none⟩) 2 2, .slice none 0 0] 51 ∧ (w.heap.size ≤ a ∧ w.heap.size ≤ b ∧ w.heap.size ≤ p) ∧ Up w wr
def newC0 (n : Nat) : Clu := ⟨List.replicate n ⟨1, 0, [], []⟩, [0, 0], []⟩
theorem newC0_n (n : Nat) : (newC0 n).srv.length = n := List.length_replicate
theorem newC0_put (n : Nat) (h : 1 ≤ n) : (newC0 n).put 0 { (newC0 n).s 0 with mat := List.replicate n 0 } = newC n := by
  obtain ⟨m, rfl⟩ : ∃ m, n = m + 1 := ⟨n - 1, by omega⟩
  unfold Clu.put newC Clu.s newC0
  rw [List.replicate_succ]
  rfl
def NewF (a b p k : Nat) : Prop := k = a ∨ k = b ∨ k = p
theorem NewB.fin {w wr : World} {a b p n : Nat} (h : NewB w wr a b p n n) (hn : n ≤ 5) : CluP wr p (newC0 n) (NewF a b p) (.slice (some ⟨a, 0, none⟩) n n) (.slice (some ⟨b, 0, none⟩) 2 2) (.slice none 0 0) (List.replicate n m1) [] := by
  obtain ⟨h1, h2, h3, h4, h5⟩ := h
  have e : ssK n n = List.replicate n m1 := by unfold ssK; rw [Nat.sub_self, List.replicate_zero, List.append_nil]
  rw [e] at h1
  have hm : ∀ s ∈ List.replicate n m1, s = m1 := fun s hs => List.eq_of_mem_replicate hs
  have nb : ∀ {s}, s ∈ List.replicate n m1 → s.lv.ownBlock = none ∧ s.mv.ownBlock = none := fun hs => by rw [hm _ hs]; exact ⟨rfl, rfl⟩
  exact {
    er := by rw [List.map_replicate]; rfl
    em := rfl
    lt := fun k hk => by
      rcases hk with rfl | rfl | rfl
      · exact h1.lt
      · exact h2.lt
      · exact h3.lt
    fp := .inr (.inr rfl)
    blk := h3
    srv := own_base' (by rw [List.length_replicate]; exact own_of_blk h1 (by rw [msC_len, List.length_replicate]) (by omega)) fun _ _ => Nat.zero_le _
    srvF := fun k hk => .inl (by simpa [Value.ownBlock] using hk.symm)
    lead := own_base' (own_of_blk (n := 2) (size := 1) h2 rfl (by omega)) fun _ _ => Nat.zero_le _
    leadF := fun k hk => .inr (.inl (by simpa [Value.ownBlock] using hk.symm))
    net := World.ownsRow_nil _ _ _ _
    netF := fun k hk => by cases hk
    logs := fun s hs => by rw [hm s hs]; exact World.ownsRow_nil _ _ _ _
    logF := fun s hs k hk => by rw [(nb hs).1] at hk; cases hk
    logd := fun i j hi hj _ k hk => by rw [(nb (List.getElem_mem hi)).1] at hk; cases hk
    mats := fun s hs => by rw [hm s hs]; exact World.ownsRow_nil _ _ _ _
    matF := fun s hs k hk => by rw [(nb hs).2] at hk; cases hk
    matd := fun i j hi hj _ k hk => by rw [(nb (List.getElem_mem hi)).2] at hk; cases hk
    matl := fun s hs k hk => by rw [(nb hs).2] at hk; cases hk
    ents := fun m hm => by cases hm
    entF := fun m hm => by cases hm
    entl := fun m hm => by cases hm }
theorem NewB.next {w wr : World} {a b p n k : Nat} (h : NewB w wr a b p n k) (hk : k < n) : NewB w (wr.setCell ⟨a, k * 4, none⟩ (nv 1)) a b p n (k + 1) := by
  obtain ⟨h1, h2, h3, h4, h5⟩ := h
  have hba : b ≠ a := fun e => by subst e; exact (blk_ty h2).ne (E' := 53) (by decide) (blk_ty h1)
  have hpa : p ≠ a := fun e => by subst e; exact (blk_ty h3).ne (E' := 53) (by decide) (blk_ty h1)
  refine ⟨?_, h2.other hba _ _ _, h3.other hpa _ _ _, h4, Up.set h5 h4.1 _ _ _⟩
  have := h1.set (k * 4) (nv 1)
  rw [show (msC (ssK n k)).set (k * 4) (nv 1) = msC (ssK n (k + 1)) from (fm_set (k := 4) (f := msC1) (fun _ => rfl) (ssK n k) k 0 (by rw [ssK_len (by omega)]; exact hk) (by decide) (nv 1) m1 (by rw [ssK_get hk]; rfl)).trans (by rw [ssK_set hk]; rfl)] at this
  exact this
theorem NewB.cells {w wr : World} {a b p n k : Nat} (h : NewB w wr a b p n k) (hk : k < n) : wr.cell? ⟨p, 0, none⟩ = some (.slice (some ⟨a, 0, none⟩) n n) ∧ p < wr.heap.size ∧ wr.cell? ⟨a, k * 4, none⟩ = some (nv 0) ∧ a < wr.heap.size ∧ wr.frozen? ⟨a, k * 4, none⟩ = false := by
  obtain ⟨h1, h2, h3, h4, h5⟩ := h
  have hg : (msC (ssK n k))[k * 4]? = some (nv 0) := by
    have := fm_get (k := 4) (f := msC1) (fun _ => rfl) (ssK n k) k 0 (by rw [ssK_len (by omega)]; exact hk) (by decide)
    rw [ssK_get hk] at this
    exact this
  exact ⟨(h3.at (i := 0) rfl).2, h3.lt, (h1.at hg).2, h1.lt, h1.free _⟩
/-- A cluster of the law's own. -/
structure OwnC (w w' : World) (p : Nat) (C : Clu) (F : Nat → Prop) : Prop where
  clu : CluR w' p C F
  base : ∀ k, F k → w.heap.size ≤ k
  up : Up w w'
theorem OwnC.step {w w1 w2 : World} {p : Nat} {C C' : Clu} {F : Nat → Prop} (h : OwnC w w1 p C F) (k : CluPost p C' F w1 w2) : OwnC w w2 p C' (Fx F w1 w2) := by
  have hz := h.up.size
  refine ⟨k.1, fun j hj => ?_, Below.trans h.up (k.2.below hz fun j hj e => by have := h.base j e; omega)⟩
  rcases hj with e | e
  · exact h.base j e
  · omega
theorem OwnC.grow {w w1 w2 : World} {p : Nat} {C : Clu} {F : Nat → Prop} (h : OwnC w w1 p C F) (hu : Up w1 w2) : OwnC w w2 p C F := ⟨h.clu.up hu, h.base, h.up.trans hu⟩
theorem OwnC.behind {w0 w w1 : World} {p : Nat} {C : Clu} {F : Nat → Prop} (h : OwnC w w1 p C F) (hu : Up w0 w) : OwnC w0 w1 p C F := ⟨h.clu, fun k hk => Nat.le_trans hu.size (h.base k hk), hu.trans h.up⟩
set_option maxRecDepth 100000 in
set_option maxHeartbeats 2000000 in
theorem new_any (n : Nat) (h1 : 1 ≤ n) (h5 : n ≤ 5) (w : World) :
    Calls Try.prog 10 #[.int .i64 (n : Int)] w fun e w' => ∃ p F, e = .returned (.tuple #[.pointer (some ⟨p, 0, none⟩), .int .i64 0]) ∧ OwnC w w' p (newC n) F := by
  have a1 : ¬ (n : Int) < 1 := by omega
  have a2 : ¬ (5 : Int) < (n : Int) := by omega
  have hms := mkS n (by omega)
  have hmi := mkI n (by omega)
  have HN1 := Lib.hid h1
  have HN5 := Lib.hid h5
  go_enter Try.func10, Try.ntmps10
  go_upto_region 4 with fail
  have hz0 : Hid (NewB w (((w.alloc (.cells (msC (ssK n 0)).toArray 53)).alloc (.cells #[nv 0, nv 0] 3)).alloc (.cells #[.slice (some ⟨w.heap.size, 0, none⟩) n n, .slice (some ⟨w.heap.size + 1, 0, none⟩) 2 2, .slice none 0 0] 51)) w.heap.size (w.heap.size + 1) (w.heap.size + 1 + 1) n 0) :=
    ⟨(al3 w _ _ _).1, (al3 w _ _ _).2.1, (al3 w _ _ _).2.2, ⟨by omega, by omega, by omega⟩, (((Up.refl w).alloc _).alloc _).alloc _⟩
  generalize (((w.alloc (.cells (msC (ssK n 0)).toArray 53)).alloc (.cells #[nv 0, nv 0] 3)).alloc (.cells #[.slice (some ⟨w.heap.size, 0, none⟩) n n, .slice (some ⟨w.heap.size + 1, 0, none⟩) 2 2, .slice none 0 0] 51)) = W0 at hz0 ⊢
  generalize w.heap.size + 1 + 1 = p at hz0 ⊢
  generalize w.heap.size + 1 = b at hz0 ⊢
  generalize w.heap.size = a at hz0 ⊢
  have g0 := (hz0.out.cells (by omega)).1
  have g1 := (hz0.out.cells (by omega)).2.1
  go_wp2
  go_loopw [22] (fun iv wr => ∃ k : Nat, k ≤ n ∧ iv = .int .i64 k ∧ Hid (NewB w wr a b p n k)) (fun iv _ => n - (intOf iv).toNat)
  case atStart => exact ⟨0, by omega, rfl, hz0.out⟩
  case round =>
    obtain ⟨k, hk, rfl, HB⟩ := hrel
    obtain ⟨wl, hwl⟩ : ∃ wl : World, wl = wr := ⟨_, rfl⟩
    rw [← hwl] at HB ⊢
    clear hwl g0 g1
    by_cases hlt : k < n
    · obtain ⟨e0, e1, e2, e3, e4⟩ := HB.out.cells hlt
      have hki : (k : Int) < (n : Int) := by omega
      go_wp2
      go_roundw
      case rel => exact ⟨k + 1, by omega, by go_num, HB.out.next hlt⟩
      case measure => simp [intOf]; omega
    · obtain rfl : k = n := by omega
      have HP := Lib.hid (HB.out.fin HN5.out)
      have HL := Lib.hid HP.out.lt
      have HU := Lib.hid HB.out.2.2.2.2
      have HBS := Lib.hid HB.out.2.2.2.1
      have HST : Hid (St wl wl p (newC0 k) (NewF a b p) a k k (.slice (some ⟨b, 0, none⟩) 2 2) (.slice none 0 0) []) :=
        ⟨_, HP.out.mono (fun k hk => .inl hk) (fx_lt HL.out (Nat.le_refl _)), Chg.refl _ _, Chg.refl _ _⟩
      obtain ⟨_, u3, _, xc, xff, hgl⟩ := HP.out.cellx 0 (by rw [newC0_n]; exact HN1.out)
      have xf := xff 3
      have xc : wl.cell? ⟨a, 3, none⟩ = some u3 := xc
      have e0 := (HP.out.blk.at (i := 0) rfl).2
      have e1 := HP.out.blk.lt
      have hk1 : 0 < k := HN1.out
      clear xff hz0
      go_upto_region 9 with fail
      go_region_law (fail)
      all_goals
        go_wp2
        go_ret2
        have key := HST.out.setM 0 (by rw [newC0_n]; exact HN1.out) (List.replicate k 0) (by rw [List.length_replicate]; have := HN5.out; omega) HL.out
        rw [List.length_replicate, newC0_put k HN1.out] at key
        have own : OwnC w wl p (newC0 k) (NewF a b p) := ⟨⟨_, _, _, _, _, HP.out⟩, fun j hj => by
          obtain ⟨h1, h2, h3⟩ := HBS.out
          rcases hj with rfl | rfl | rfl <;> assumption, HU.out⟩
        exact ⟨p, _, rfl, own.step key⟩
end Go.Proofs.Ythhkekmeginooaa.Rp
