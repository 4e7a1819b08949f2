/- The simulated disk: New, Write. -/
import Derived.Test.YtmaeeidaegigcaaDka
namespace Go.Proofs.Ytmaeeidaegigcaa.Dk
open Go Go.RowKit Hp
set_option linter.unusedVariables false

theorem Try.infoBs : (Try.prog.info? 28).map (fun i => (i.zero, i.size, i.bytes)) = some (some (.slice none 0 0), 1, 24) := by kernel_rfl
theorem Try.infoPw : (Try.prog.info? 76).map (fun i => (i.zero, i.size, i.bytes)) = some (some (.agg #[.int .i64 0, .slice none 0 0]), 2, 32) := by kernel_rfl
theorem Try.infoB : (Try.prog.info? 5).map (fun i => (i.zero, i.size, i.bytes)) = some (some (.int .u8 0), 1, 1) := by kernel_rfl
theorem cell_one_at (w : World) (g : Nat) (hg : w.heap.size = g) (v : Value) (E : TypeId) : ∀ (j : Nat) u, [v][j]? = some u → (w.alloc (.cells #[v] E)).cell? ((⟨g, 0, none⟩ : Addr).add j) = some u := by
  subst hg
  intro j u hj
  match j, hj with
  | 0, hj =>
    simp at hj; subst hj
    rw [show (⟨w.heap.size, 0, none⟩ : Addr).add 0 = ⟨w.heap.size, 0, none⟩ by simp [Addr.add], World.cell?_alloc_new]; rfl
/-- 32 zeros. -/
def zrow : List Value := bc (List.replicate 32 0)
def z32 : Array Value := zrow.toArray
theorem made32 : madeCells #[.int .u8 0] 32 = z32 := by
  unfold z32 zrow
  apply Array.toList_inj.1
  rw [toList_madeCells_one]; simp

/-- A sector more, and its slice stored. -/
theorem new_step {w wr w2 : World} {k g2 c2 : Nat} {dv pv : Value} {xs ys : List Value} (hp : w.heap.size < wr.heap.size) (hb : Blk wr w.heap.size [dv, pv] 74) (hd : wr.ownsRow 0 28 1 dv (Dsk.new k).dur.length xs)
    (hdF : ∀ j, dv.ownBlock = some j → w.heap.size ≤ j ∧ j < wr.heap.size) (hq : wr.ownsRow 0 76 2 pv (Dsk.new k).pend.length ys) (hqF : ∀ j, pv.ownBlock = some j → w.heap.size ≤ j ∧ j < wr.heap.size)
    (hDu : DurR wr (fun j => w.heap.size ≤ j ∧ j < wr.heap.size) xs (Dsk.new k).dur) (hu : Up w wr)
    (hown : w2.ownsRow 0 28 1 (.slice (some ⟨g2, 0, none⟩) ((Dsk.new k).dur.length + 1) c2) ((Dsk.new k).dur.length + 1) (xs ++ [.slice (some ⟨wr.heap.size, 0, none⟩) 32 32]))
    (hg : ((wr.alloc (.cells z32 5)).alloc (.cells #[.slice (some ⟨wr.heap.size, 0, none⟩) 32 32] 28)).drew.grownBy w2 dv.ownBlock) (hat : dv.ownBlock = some g2 ∨ g2 = wr.heap.size + 2) :
    DiskR (w2.setCell ⟨w.heap.size, 0, none⟩ (.slice (some ⟨g2, 0, none⟩) ((Dsk.new k).dur.length + 1) c2)) w.heap.size (.new (k + 1)) (fun j => w.heap.size ≤ j ∧ j < (w2.setCell ⟨w.heap.size, 0, none⟩ (.slice (some ⟨g2, 0, none⟩) ((Dsk.new k).dur.length + 1) c2)).heap.size) ∧
      Up w (w2.setCell ⟨w.heap.size, 0, none⟩ (.slice (some ⟨g2, 0, none⟩) ((Dsk.new k).dur.length + 1) c2)) := by
  have hsz := hu.size
  have hlt := (own_ty hown) g2 rfl
  have tyD : ∀ j, dv.ownBlock = some j → Ty wr j 28 := fun j hj => ((own_ty hd) j hj).1
  have tyQ : ∀ j, pv.ownBlock = some j → Ty wr j 76 := fun j hj => ((own_ty hq) j hj).1
  have hz : w2.heap.size ≥ wr.heap.size + 2 := by have := hg.size; simp at this; omega
  have A : Chg (fun j => dv.ownBlock = some j) wr w2 := (((Chg.refl _ wr).alloc _).alloc _).drew.grown hg fun j hj => .inl hj
  have hp1 : dv.ownBlock ≠ some w.heap.size := fun e => (tyD _ e).ne (E' := 74) (by decide) (blk_ty hb)
  have hb2 := hb.chg A fun e => hp1 e
  have B : Chg (fun j => j = w.heap.size) w2 (w2.setCell ⟨w.heap.size, 0, none⟩ (.slice (some ⟨g2, 0, none⟩) ((Dsk.new k).dur.length + 1) c2)) := chg_set _ _ _ _ _
  have C := A.or B
  have hp2 : g2 ≠ w.heap.size := fun e => hlt.1.ne (E' := 74) (by decide) (e ▸ blk_ty hb2)
  have hs3 : (w2.setCell ⟨w.heap.size, 0, none⟩ (.slice (some ⟨g2, 0, none⟩) ((Dsk.new k).dur.length + 1) c2)).heap.size = w2.heap.size := by simp [World.setCell]
  have hrow : RowR (w2.setCell ⟨w.heap.size, 0, none⟩ (.slice (some ⟨g2, 0, none⟩) ((Dsk.new k).dur.length + 1) c2)) (fun j => w.heap.size ≤ j ∧ j < w2.heap.size) (.slice (some ⟨wr.heap.size, 0, none⟩) 32 32) (List.replicate 32 0) := by
    refine ⟨wr.heap.size, rfl, by omega, ?_⟩
    have h0 : Blk (wr.alloc (.cells z32 5)) wr.heap.size (bc (List.replicate 32 0)) 5 := Blk.new wr z32 5
    have h1 := h0.up ((Up.refl _).alloc (.cells #[.slice (some ⟨wr.heap.size, 0, none⟩) 32 32] 28)).drew
    have h2 := h1.chg ((Chg.refl (fun j => dv.ownBlock = some j) _).grown hg fun j hj => .inl hj) fun e => by have := (tyD _ e).lt; omega
    exact h2.chg B (by omega)
  have hR : ∀ v r, RowR wr (fun j => w.heap.size ≤ j ∧ j < wr.heap.size) v r → RowR (w2.setCell ⟨w.heap.size, 0, none⟩ (.slice (some ⟨g2, 0, none⟩) ((Dsk.new k).dur.length + 1) c2)) (fun j => w.heap.size ≤ j ∧ j < w2.heap.size) v r := fun v r hr =>
    (hr.chg C fun j _ e => by
      rcases e with e | e
      · exact (tyD j e).ne (by decide)
      · subst e; exact (blk_ty hb).ne (by decide)).mono fun j _ hj => ⟨hj.1, by omega⟩
  have hdl : (Dsk.new (k + 1)).dur = (Dsk.new k).dur ++ [List.replicate 32 0] := by simp [Dsk.new, List.replicate_succ']
  refine ⟨⟨DOk.new _, fun j hj => hj.2, .slice (some ⟨g2, 0, none⟩) ((Dsk.new k).dur.length + 1) c2, pv, xs ++ [.slice (some ⟨wr.heap.size, 0, none⟩) 32 32], ys, ⟨Nat.le_refl _, by omega⟩, hb2.set 0 _, ?_, fun j hj => ?_, ?_, fun j hj => ?_, ?_, ⟨?_, fun i hi => by simp [Dsk.new] at hi⟩⟩, ?_⟩
  · rw [hdl, List.length_append]
    exact own_chg hown B fun j hj => by cases hj; exact hp2
  · obtain rfl : g2 = j := by simpa [Value.ownBlock] using hj
    have := hlt.1.lt
    rcases hat with e | e
    · have := hdF _ e; omega
    · omega
  · exact own_chg hq C fun j hj e => by
      rcases e with e | e
      · exact (tyD j e).ne (by decide) (tyQ j hj)
      · subst e; exact (tyQ _ hj).ne (by decide) (blk_ty hb)
  · have := hqF j hj; omega
  · rw [hs3, hdl]
    exact (hDu.same hR).snoc hrow
  · have := hq.1; simpa [Dsk.new] using this
  · exact (hu.chg fun _ => False).or C |>.up fun j hj e => by
      rcases e with e | e | e
      · exact e
      · have := hdF _ e; omega
      · omega
set_option maxRecDepth 100000 in
set_option maxHeartbeats 2000000 in
theorem new_any (n : Nat) (w : World) (h1 : 1 ≤ n) (h2 : n ≤ 256) :
    Calls Try.prog 13 #[.int .i64 n] w fun e w' => ∃ p, e = .returned (.tuple #[.pointer (some ⟨p, 0, none⟩), .int .i64 0]) ∧ DiskR w' p (.new n) (fun k => w.heap.size ≤ k ∧ k < w'.heap.size) ∧ Up w w' := by
  obtain ⟨i0, hi, hz0, hz1, hz2⟩ := info_parts Try.infoB
  have hmk : ∀ w : World, (Instr.makeSlice 28 (.int .i64 32) (.int .i64 32)).run Try.prog w = .ok (.slice (some ⟨w.heap.size, 0, none⟩) 32 32) (w.alloc (.cells z32 5)) := fun w => by
    have h := run_make (P := Try.prog) w 28 5 i0 (.int .u8 0) Try.underlying28 hi hz0 .i64 .i64 32 32 (by omega) (Int.le_refl _) (by rw [hz2]; omega) (by omega)
    rw [hz1] at h
    rw [← made32]
    exact h
  clear hi hz0 hz1 hz2
  obtain ⟨i1, hj, hj0, hj1, hj2⟩ := info_parts Try.infoBs
  have d1 : decide ((n : Int) < 1) = false := decide_eq_false (by omega)
  have d2 : decide ((256 : Int) < (n : Int)) = false := decide_eq_false (by omega)
  go_enter Try.func13, Try.ntmps13
  go_wp2
  have hb0 := Blk.new w #[.slice none 0 0, .slice none 0 0] 74
  go_loopw [14] (fun iv wr => ∃ k : Nat, k ≤ n ∧ iv = .int .i64 k ∧ DiskR wr w.heap.size (.new k) (fun j => w.heap.size ≤ j ∧ j < wr.heap.size) ∧ Up w wr) (fun iv _ => n - (intOf iv).toNat)
  case atStart =>
    refine ⟨0, by omega, rfl, ⟨DOk.new 0, fun k hk => hk.2, _, _, [], [], ⟨Nat.le_refl _, by simp⟩, hb0, World.ownsRow_nil _ _ _ _, fun k hk => (by cases hk), World.ownsRow_nil _ _ _ _, fun k hk => (by cases hk), ⟨rfl, fun i hi => by simp [Dsk.new] at hi⟩, ⟨rfl, fun i hi => by simp [Dsk.new] at hi⟩⟩, (Up.refl _).alloc _⟩
  case round =>
    clear hb0
    obtain ⟨k, hk, rfl, hD, hu⟩ := hrel
    by_cases hlt : k < n
    · obtain ⟨ok, lt, dv, pv, xs, ys, hp, hb, hd, hdF, hq, hqF, hDu, hPe⟩ := hD
      obtain ⟨ad, cd, rfl, _, _, _⟩ := own_form hd
      have hsz := hu.size
      have hlb := hb.lt
      have c0 := hb.cell 0
      have c1 := hb.free 0
      rw [show ([Value.slice ad (Dsk.new k).dur.length cd, pv])[0]? = some (.slice ad (Dsk.new k).dur.length cd) from rfl] at c0
      go_wp2
      have OWN : Hid (((wr.alloc (.cells z32 5)).alloc (.cells #[.slice (some ⟨wr.heap.size, 0, none⟩) 32 32] 28)).drew.ownsRow 0 28 1 (.slice ad (Dsk.new k).dur.length cd) (Dsk.new k).dur.length xs) := own_up hd (((Up.refl wr).alloc _).alloc _).drew
      have NEWS := Lib.hid (cell_one_at (wr.alloc (.cells z32 5)) (wr.heap.size + 1) (by simp) (.slice (some ⟨wr.heap.size, 0, none⟩) 32 32) 28)
      have hkl : (Dsk.new k).dur.length ≤ 256 := by simp [Dsk.new]; omega
      have FAR : Hid (∀ w2, ((wr.alloc (.cells z32 5)).alloc (.cells #[.slice (some ⟨wr.heap.size, 0, none⟩) 32 32] 28)).drew.grownBy w2 (Value.slice ad (Dsk.new k).dur.length cd).ownBlock → Blk w2 w.heap.size [.slice ad (Dsk.new k).dur.length cd, pv] 74) := fun w2 hg =>
        hb.chg ((((Chg.refl _ wr).alloc _).alloc _).drew.grown hg fun j hj => .inl hj) fun e => (((own_ty hd) _ e).1).ne (E' := 74) (by decide) (blk_ty hb)
      have hb' := Lib.hid hb
      clear hb
      go_region_law ((refine step_append_lies _ (by rfl) (.tmp 20) (.tmp 22) 48 (by rfl) 0 28 i1 (.slice none 0 0) 1 24 Try.underlying48 hj hj0 hj1 hj2 rfl (by decide) (.slice ad (Dsk.new k).dur.length cd) _ xs (by simp [Act.eval]) OWN.out ⟨wr.heap.size + 1, 0, none⟩ 1 1 [.slice (some ⟨wr.heap.size, 0, none⟩) 32 32] (by simp [Act.eval]) rfl NEWS.out (by intro u hu; rw [List.mem_singleton.1 hu]; rfl) (by decide) (by unfold maxLen; omega) (by omega) (by omega) (wr.heap.size + 2) (by simp) ?_; intro g2 c2 w2 hown2 hgrow2 hat2 hlt2; have q0 := FAR.out w2 hgrow2; have q1 := q0.cell 0; have q2 := q0.free 0; clear q0; have hown2 := Lib.hid hown2; have hgrow2 := Lib.hid hgrow2; have hat2 := Lib.hid hat2))
      all_goals
        go_wp2
        go_roundw
        case rel =>
          have h := new_step hlb hb'.out hd hdF hq hqF hDu hu hown2.out hgrow2.out hat2.out
          exact ⟨k + 1, by omega, by go_num, h.1, h.2⟩
        case measure => simp [intOf]; omega
    · obtain rfl : k = n := by omega
      go_wp2
      go_ret2
      exact ⟨_, rfl, hD, hu⟩
end Go.Proofs.Ytmaeeidaegigcaa.Dk
