/- finalWriters; EqualFunc. -/
import Derived.Test.YtfpegnlmpicekaaC30
namespace Go.Proofs.Ytfpegnlmpicekaa.C
open Go Go.RowKit Hp
set_option linter.unusedVariables false

def kq (q : Nat) : ByteArray := one (119 + (q : Int))
def fw (l : List Hop) (q : Nat) : Int := lastw l (kq q)
def fwc (l : List Hop) : List Value := [.int .i64 (fw l 0), .int .i64 (fw l 1), .int .i64 (fw l 2), .int .i64 (fw l 3)]
theorem kq_lit : ∀ q : Fin 4, kq q.val = ⟨#[UInt8.ofNat (119 + q.val)]⟩ := by decide
theorem kq_ne : ∀ p q : Fin 4, p ≠ q → ((kq p.val).toList == (kq q.val).toList) = false := by decide +kernel
theorem fw_skip (l : List Hop) (x : Hop) (q : Nat) (h : x.kind ≠ 2) : fw (l ++ [x]) q = fw l q := by
  unfold fw; rw [lastw_snoc, if_neg]; simp [wrk, h]
theorem fw_hit (l : List Hop) (tx : Nat) (p q : Nat) (hp : p < 4) (hq : q < 4) : fw (l ++ [⟨tx, 2, kq p⟩]) q = if p = q then (tx : Int) else fw l q := by
  unfold fw; rw [lastw_snoc]
  by_cases e : p = q
  · subst e; rw [if_pos rfl, if_pos (by simp [wrk])]
  · have := kq_ne ⟨p, hp⟩ ⟨q, hq⟩ (fun h => e (by simpa using h))
    rw [if_neg e, if_neg (by simp only [wrk, this]; simp)]
theorem fwc_skip (l : List Hop) (x : Hop) (h : x.kind ≠ 2) : fwc (l ++ [x]) = fwc l := by unfold fwc; simp only [fw_skip l x _ h]
theorem fwc_hit (l : List Hop) (tx : Nat) (p : Nat) (hp : p < 4) : fwc (l ++ [⟨tx, 2, kq p⟩]) = (fwc l).set p (.int .i64 (tx : Int)) := by
  unfold fwc
  simp only [fw_hit l tx p _ hp (show 0 < 4 by omega), fw_hit l tx p _ hp (show 1 < 4 by omega), fw_hit l tx p _ hp (show 2 < 4 by omega), fw_hit l tx p _ hp (show 3 < 4 by omega)]
  rcases (show p = 0 ∨ p = 1 ∨ p = 2 ∨ p = 3 by omega) with rfl | rfl | rfl | rfl <;> rfl

theorem modq0 (W : World) : Calls Try.prog 15 #[.int .i64 0, .int .i64 4] W fun e w' => e = .returned (.int .i64 0) ∧ W = w' := (mod_any 0 4 W (by decide) (by decide)).mono fun _ _ h => ⟨h.1.trans (by rw [show modV 0 4 = 0 by decide]), h.2⟩
theorem modq1 (W : World) : Calls Try.prog 15 #[.int .i64 1, .int .i64 4] W fun e w' => e = .returned (.int .i64 1) ∧ W = w' := (mod_any 1 4 W (by decide) (by decide)).mono fun _ _ h => ⟨h.1.trans (by rw [show modV 1 4 = 1 by decide]), h.2⟩
theorem modq2 (W : World) : Calls Try.prog 15 #[.int .i64 2, .int .i64 4] W fun e w' => e = .returned (.int .i64 2) ∧ W = w' := (mod_any 2 4 W (by decide) (by decide)).mono fun _ _ h => ⟨h.1.trans (by rw [show modV 2 4 = 2 by decide]), h.2⟩
theorem modq3 (W : World) : Calls Try.prog 15 #[.int .i64 3, .int .i64 4] W fun e w' => e = .returned (.int .i64 3) ∧ W = w' := (mod_any 3 4 W (by decide) (by decide)).mono fun _ _ h => ⟨h.1.trans (by rw [show modV 3 4 = 3 by decide]), h.2⟩
set_option maxRecDepth 100000 in
set_option maxHeartbeats 4000000 in
theorem finalw_any (vt : Value) (l : List Hop) (w : World) (ht : Hops w vt l) (hok : ∀ x ∈ l, HOk x) (hl60 : l.length ≤ 60) :
    Calls Try.prog 29 #[vt] w fun e w' => e = .returned (.agg (fwc l).toArray) ∧ Up w w' := by
  have OK := Lib.hid hok
  obtain ⟨a, cap, rfl, h1, h2, _, h3⟩ := ht
  have H3 := Lib.hid h3
  clear h3 hok
  go_enter Try.func29, Try.ntmps29
  go_wp2
  have hb0 : Blk ((w.alloc (.cells #[.int .i64 0, .int .i64 0, .int .i64 0, .int .i64 0] 60)).alloc (.cells #[.int .i64 (-1), .int .i64 (-1), .int .i64 (-1), .int .i64 (-1)] 60)) w.heap.size [.int .i64 0, .int .i64 0, .int .i64 0, .int .i64 0] 60 := (Blk.new w _ _).up ((Up.refl _).alloc _)
  have hb1 : Blk ((w.alloc (.cells #[.int .i64 0, .int .i64 0, .int .i64 0, .int .i64 0] 60)).alloc (.cells #[.int .i64 (-1), .int .i64 (-1), .int .i64 (-1), .int .i64 (-1)] 60)) (w.heap.size + 1) (fwc []) 60 := by
    have := Blk.new (w.alloc (.cells #[.int .i64 0, .int .i64 0, .int .i64 0, .int .i64 0] 60)) #[.int .i64 (-1), .int .i64 (-1), .int .i64 (-1), .int .i64 (-1)] 60
    simpa [fwc, fw, lastw] using this
  go_loopw [9] (fun kv wr => ∃ k : Nat, k ≤ l.length ∧ kv = .int .i64 k ∧ Blk wr w.heap.size [.int .i64 0, .int .i64 0, .int .i64 0, .int .i64 0] 60 ∧ Blk wr (w.heap.size + 1) (fwc (l.take k)) 60 ∧ Up w wr) (fun kv _ => l.length - (intOf kv).toNat)
  case atStart => exact ⟨0, by omega, rfl, hb0, hb1, ((Up.refl _).alloc _).alloc _⟩
  case round =>
    clear hb0 hb1
    obtain ⟨k, hk, rfl, hb0, hb1, hu⟩ := hrel
    have B0 := Lib.hid hb0
    have B1 := Lib.hid hb1
    have hlb := hb1.lt
    clear hb0 hb1
    by_cases hlt : k < l.length
    · obtain ⟨b, off, rfl, h4⟩ := arr_at (n := 0) (cap := 0) h0 H3.out (by omega)
      obtain ⟨_, ⟨hbs, c0⟩, ⟨_, c1⟩, ⟨_, c2⟩⟩ := hopR_grows _ _ _ _ _ (h4 k (by omega)) hu
      have TK : Hid (l.take (k + 1) = l.take k ++ [l.getD k h0]) := by unfold Hid; rw [List.take_succ_eq_append_getElem hlt, ← hgetD l hlt]
      have HK := OK.out (l.getD k h0) (by rw [hgetD l hlt]; exact List.getElem_mem _)
      generalize l.getD k h0 = x at *
      clear h4
      obtain ⟨tx, kd, ky⟩ := x
      obtain ⟨h5, hkd, q, hq, hky⟩ := HK
      dsimp only at *
      rcases hkd with rfl | rfl
      · have F : Hid (fwc (l.take (k + 1)) = fwc (l.take k)) := by unfold Hid; rw [TK.out, fwc_skip _ _ (by simp)]
        clear hky
        go_wp2
        go_roundw
        case rel => exact ⟨k + 1, by omega, by go_num, B0.out.up ((Up.refl _).alloc _), by rw [F.out]; exact B1.out.up ((Up.refl _).alloc _), hu.alloc _⟩
        case measure => simp [intOf]; omega
      · have hky' : ky = kq q := hky
        have F : Hid (fwc (l.take (k + 1)) = (fwc (l.take k)).set q (.int .i64 (tx : Int))) := by unfold Hid; rw [TK.out, hky', fwc_hit _ _ _ hq]
        subst hky'
        clear hky
        have M0 : modV 0 4 = 0 := by decide
        have M1 : modV 1 4 = 1 := by decide
        have M2 : modV 2 4 = 2 := by decide
        have M3 : modV 3 4 = 3 := by decide
        have hfl : (fwc (l.take k)).length = 4 := rfl
        rcases (show q = 0 ∨ q = 1 ∨ q = 2 ∨ q = 3 by omega) with rfl | rfl | rfl | rfl
        · rw [show kq 0 = ⟨#[119]⟩ by decide] at c2
          have g1 : wr.cell? ⟨w.heap.size + 1, 0, none⟩ = some (.int .i64 (fw (l.take k) 0)) := B1.out.cell 0
          have g2 := B1.out.free 0
          clear hfl
          go_wp2
          go_region_with (go_at_call 15; refine (modq0 _).mono ?_; rintro e w' ⟨rfl, rfl⟩)
          all_goals
            go_wp2
            go_roundw
            case rel => exact ⟨k + 1, by omega, by go_num, ((B0.out.other (b' := w.heap.size + 1) (by omega) _ _ _).up ((Up.refl _).alloc _)).drew, by rw [F.out]; exact ((B1.out.set _ _).up ((Up.refl _).alloc _)).drew, ((hu.set (b := w.heap.size + 1) (by omega) _ _ _).alloc _).drew⟩
            case measure => simp [intOf]; omega
        · rw [show kq 1 = ⟨#[120]⟩ by decide] at c2
          have g1 : wr.cell? ⟨w.heap.size + 1, 1, none⟩ = some (.int .i64 (fw (l.take k) 1)) := B1.out.cell 1
          have g2 := B1.out.free 1
          clear hfl
          go_wp2
          go_region_with (go_at_call 15; refine (modq1 _).mono ?_; rintro e w' ⟨rfl, rfl⟩)
          all_goals
            go_wp2
            go_roundw
            case rel => exact ⟨k + 1, by omega, by go_num, ((B0.out.other (b' := w.heap.size + 1) (by omega) _ _ _).up ((Up.refl _).alloc _)).drew, by rw [F.out]; exact ((B1.out.set _ _).up ((Up.refl _).alloc _)).drew, ((hu.set (b := w.heap.size + 1) (by omega) _ _ _).alloc _).drew⟩
            case measure => simp [intOf]; omega
        · rw [show kq 2 = ⟨#[121]⟩ by decide] at c2
          have g1 : wr.cell? ⟨w.heap.size + 1, 2, none⟩ = some (.int .i64 (fw (l.take k) 2)) := B1.out.cell 2
          have g2 := B1.out.free 2
          clear hfl
          go_wp2
          go_region_with (go_at_call 15; refine (modq2 _).mono ?_; rintro e w' ⟨rfl, rfl⟩)
          all_goals
            go_wp2
            go_roundw
            case rel => exact ⟨k + 1, by omega, by go_num, ((B0.out.other (b' := w.heap.size + 1) (by omega) _ _ _).up ((Up.refl _).alloc _)).drew, by rw [F.out]; exact ((B1.out.set _ _).up ((Up.refl _).alloc _)).drew, ((hu.set (b := w.heap.size + 1) (by omega) _ _ _).alloc _).drew⟩
            case measure => simp [intOf]; omega
        · rw [show kq 3 = ⟨#[122]⟩ by decide] at c2
          have g1 : wr.cell? ⟨w.heap.size + 1, 3, none⟩ = some (.int .i64 (fw (l.take k) 3)) := B1.out.cell 3
          have g2 := B1.out.free 3
          clear hfl
          go_wp2
          go_region_with (go_at_call 15; refine (modq3 _).mono ?_; rintro e w' ⟨rfl, rfl⟩)
          all_goals
            go_wp2
            go_roundw
            case rel => exact ⟨k + 1, by omega, by go_num, ((B0.out.other (b' := w.heap.size + 1) (by omega) _ _ _).up ((Up.refl _).alloc _)).drew, by rw [F.out]; exact ((B1.out.set _ _).up ((Up.refl _).alloc _)).drew, ((hu.set (b := w.heap.size + 1) (by omega) _ _ _).alloc _).drew⟩
            case measure => simp [intOf]; omega
    · obtain rfl : k = l.length := by omega
      have TK : Hid (l.take l.length = l) := by simp [Hid]
      rw [TK.out] at B1
      have u60 : Hid (Try.prog.underlying 60 = some (.array 4 3)) := by unfold Hid; kernel_rfl
      have s60 : Hid ((Try.prog.info? 60).map (·.size) = some (fwc l).toArray.size) := by unfold Hid fwc; kernel_rfl
      have HB : Hid (wr.heap[w.heap.size + 1]? = some (.cells (fwc l).toArray 60 (0, 0))) := B1.out
      have HA : Hid ((fwc l).toArray.all (·.oneCell') = true) := all_oneCell_toArray fun v hv => by simp [fwc] at hv; rcases hv with rfl | rfl | rfl | rfl <;> rfl
      have HT : Hid (wr.there w.heap.size 0 (fwc l).toArray.size) := fun i hi => by
        have hi4 : i < 4 := hi
        have h := B0.out.cell i
        rw [Nat.zero_add, h]
        refine ⟨?_, B0.out.free i⟩
        rcases (show i = 0 ∨ i = 1 ∨ i = 2 ∨ i = 3 by omega) with rfl | rfl | rfl | rfl <;> rfl
      go_wp2_with (first | (refine wpList_load_row rfl 60 _ rfl (w.heap.size + 1) rfl 60 _ (0, 0) _ HB.out u60.out rfl s60.out ?_) | (refine wpList_store_mid rfl 60 _ _ rfl w.heap.size 0 (fwc l).toArray rfl rfl HT.out s60.out HA.out ?_))
      have hend : Hid ((wr.setCells w.heap.size 0 (fwc l)).heap[w.heap.size]? = some (.cells (fwc l).toArray 60 (0, 0))) := blk_setCells B0.out rfl
      refine bodyPost_ret (results_cell_row rfl _ _ w.heap.size 60 (fwc l).toArray (0, 0) (.array 4 3) rfl hend.out u60.out rfl s60.out) rfl ?_
      exact ⟨rfl, up_setCells hu (by omega) _ _⟩
end Go.Proofs.Ytfpegnlmpicekaa.C
