/- DiskReadReturnsLatestWrite: the walk. -/
import Derived.Test.YtmaeeidaegigcaaDkg
namespace Go.Proofs.Ytmaeeidaegigcaa.Dk
open Go Go.RowKit Hp
set_option linter.unusedVariables false

def upd4 (f : Nat → Int) (a : Nat) (x : Int) : Nat → Int := fun v => if v = a then x else f v
abbrev l4 (f : Nat → Int) : List Value := [.int .u8 (f 0), .int .u8 (f 1), .int .u8 (f 2), .int .u8 (f 3)]
theorem l4_set (f : Nat → Int) {m : Nat} (hm : m < 4) (x : Int) : (l4 f).set m (.int .u8 x) = l4 (upd4 f m x) := by
  rcases (show m = 0 ∨ m = 1 ∨ m = 2 ∨ m = 3 by omega) with rfl | rfl | rfl | rfl <;> rfl
theorem l4_at (f : Nat → Int) {m : Nat} (hm : m < 4) : (l4 f)[m]? = some (.int .u8 (f m)) := by
  rcases (show m = 0 ∨ m = 1 ∨ m = 2 ∨ m = 3 by omega) with rfl | rfl | rfl | rfl <;> rfl
/-- What the loop over the writes keeps. -/
structure Kept4 (w wr : World) (p L k : Nat) (lt : Nat → Int) (d : Dsk) (F : Nat → Prop) : Prop where
  disk : DiskR wr p d F
  lat : Blk wr L (l4 lt) 29
  out : ¬ F L
  new : ∀ j, F j → w.heap.size ≤ j
  newL : w.heap.size ≤ L
  dur : d.dur.length = 4
  pend : d.pend.length ≤ k + 1
  rd : ∀ s, s < 4 → d.read s = pad [lt s]
  up : Up w wr
theorem Kept4.fx {w wr wr' : World} {p L k : Nat} {lt : Nat → Int} {d d' : Dsk} {F : Nat → Prop} (h : Kept4 w wr p L k lt d F) (hd : DiskR wr' p d' (Fx F wr wr')) (hc : Chg F wr wr') {lt' : Nat → Int} (hl : Blk wr' L (l4 lt') 29) (h1 : d'.dur.length = 4) (h2 : d'.pend.length ≤ k + 2) (h3 : ∀ s, s < 4 → d'.read s = pad [lt' s]) :
    Kept4 w wr' p L (k + 1) lt' d' (Fx F wr wr') :=
  ⟨hd, hl, fun e => by rcases e with e | e; exact h.out e; have := h.lat.lt; omega, fun j e => by rcases e with e | e; exact h.new j e; have := h.up.size; omega, h.newL, h1, h2, h3,
    ((h.up.chg fun j => False).trans hc fun j hj e => absurd (h.new j e) (by omega)).up fun _ _ e => e⟩

def zs31 : List Int := List.replicate 31 0
theorem zs31_len : zs31.length = 31 := by simp [zs31]
theorem zs31_get (j : Nat) (h : j < zs31.length) : zs31[j] = 0 := by unfold zs31; exact List.getElem_replicate ..
theorem pad_tail (x : Int) (j : Nat) (h : j < 31) : (bc (pad [x]))[1 + j]? = some (.int .u8 0) := by
  rw [List.getElem?_map, show pad [x] = x :: zs31 from rfl, Nat.add_comm, List.getElem?_cons_succ, List.getElem?_eq_getElem (by rw [zs31_len]; exact h), zs31_get]
  rfl
theorem pad_head (x : Int) : (bc (pad [x]))[0]? = some (.int .u8 x) := rfl
def z31 : Array Value := (bc zs31).toArray
theorem mk31 (w : World) : (Instr.makeSlice 28 (.int .i64 31) (.int .i64 31)).run Try.prog w = .ok (.slice (some ⟨w.heap.size, 0, none⟩) 31 31) (w.alloc (.cells z31 5)) := by
  obtain ⟨i0, hi, hz0, hz1, hz2⟩ := info_parts Try.infoB
  have h := run_make (P := Try.prog) w 28 5 i0 (.int .u8 0) Try.underlying28 hi hz0 .i64 .i64 31 31 (by omega) (Int.le_refl _) (by rw [hz2]; omega) (by omega)
  rw [hz1] at h
  have e : madeCells #[.int .u8 0] 31 = z31 := by
    unfold z31 zs31
    apply Array.toList_inj.1
    rw [toList_madeCells_one]; simp
  rw [← e]
  exact h
theorem Try.under8 : ∃ d, Try.prog.underlying 5 = some d ∧ d.isRow = false := ⟨.int .u8, by kernel_rfl, rfl⟩
theorem Try.size8 : (Try.prog.info? 5).map (·.size) = some 1 := by kernel_rfl
theorem Try.under4u8 : Try.prog.underlying 29 = some (.array 4 5) := by kernel_rfl
set_option maxRecDepth 100000 in
set_option maxHeartbeats 4000000 in
theorem walk4 (a2 : Option Addr) (len2 cap2 : Nat) (z2 : List Int) (w : World) (hE : Elems w a2 len2 z2) (hl : len2 ≤ cap2) (hm : cap2 ≤ 9223372036854775807) :
    Calls Try.prog 3 #[.slice a2 len2 cap2] w fun e w' => e = .returned (.bool true) ∧ Up w w' := by
  have HE := Lib.hid hE
  clear hE
  obtain ⟨m, hmin', hm1, hm2⟩ := min_len 100 len2
  have hmin : (if (100 : Int) < (len2 : Int) then (100 : Int) else (len2 : Int)) = (m : Int) := hmin'
  clear hmin'
  go_enter Try.func3, Try.ntmps3
  go_wp2_with fail
  refine (new_any 4 _ (by omega) (by omega)).mono ?_
  rintro e w1 ⟨p, rfl, hD, hu⟩
  have hv1 := bytes_new w1 [9] (by simp)
  have u1 : Up w1 (w1.alloc (.cells #[.int .u8 9] 5)) := (Up.refl w1).alloc _
  have hdd : (Dsk.new 4).dur.length = 4 := by simp [Dsk.new]
  have D1 := Lib.hid (hD.up u1)
  go_wp2_with fail
  refine (write_any p 0 (.new 4) _ _ [9] _ D1.out (by omega) hv1 (by simp) (by simp [Dsk.new])).mono ?_
  rintro e w2 ⟨rfl, hD2, hC2⟩
  have hu2 : Up w w2 := (((hu.chg fun j => False).trans (Below.chg (fun _ => False) u1) fun _ _ e => e).trans hC2 fun j hj e => by have := e.1; omega).up fun _ _ e => e
  have hw2 := hC2.size
  rw [World.size_alloc] at hw2
  clear hv1 u1 hD hu
  have K0 : Kept4 w (w2.alloc (.cells #[.int .u8 9, .int .u8 0, .int .u8 0, .int .u8 0] 29)) p w2.heap.size 0 (fun v => if v = 0 then 9 else 0) ((Dsk.new 4).write 0 [9]) (Fx (fun k => w.heap.size ≤ k ∧ k < w1.heap.size) (w1.alloc (.cells #[.int .u8 9] 5)) w2) := by
    refine ⟨hD2.up ((Up.refl _).alloc _), Blk.new w2 _ _, fun e => ?_, fun j e => ?_, hu2.size, hdd, by simp [Dsk.write, Dsk.new], fun s hs => ?_, hu2.alloc _⟩
    · rcases e with e | e <;> omega
    · rcases e with e | e
      · exact e.1
      · have h := e.1; rw [World.size_alloc] at h
        have := D1.out.lt
        have h0 : w.heap.size ≤ w1.heap.size := by
          obtain ⟨_, _, _, _, hp, hb, _⟩ := D1.out.at'
          omega
        omega
    · rw [read_write _ _ _ _ (by omega)]
      rcases (show s = 0 ∨ s = 1 ∨ s = 2 ∨ s = 3 by omega) with rfl | rfl | rfl | rfl <;> rfl
  clear hD2 hC2 D1 hdd
  go_wp2
  obtain ⟨L, hL⟩ : ∃ L, L = w2.heap.size := ⟨_, rfl⟩
  rw [← hL] at K0
  have HL := Lib.hid hL
  rw [← hL]
  clear hL hmin hw2 hu2
  go_loopw [35] (fun iv wr => ∃ (k : Nat) (lt : Nat → Int) (d : Dsk) (F : Nat → Prop), k ≤ m ∧ iv = .int .i64 k ∧ Kept4 w wr p L k lt d F) (fun iv _ => m - (intOf iv).toNat)
  case atStart => exact ⟨0, _, _, _, by omega, rfl, K0⟩
  case round =>
    clear K0
    obtain ⟨k, lt, d, F, hk, rfl, hK⟩ := hrel
    have KK := Lib.hid hK
    clear hK
    by_cases hlt : k < m
    · obtain ⟨b, off, rfl, hbl, hc⟩ := HE.out k (by omega)
      have hc' := (KK.out.up.cell (p := ⟨b, off + k, none⟩) hbl).trans hc
      clear hc
      generalize z2.getD k 0 = x at *
      obtain ⟨y, hy⟩ : ∃ y, y = modV x 8 := ⟨_, rfl⟩
      have HY := Lib.hid hy
      clear hy
      by_cases hy0 : y = 0
      · have hyy : (y == 0) = true := by simp [hy0]
        clear hy0
        go_wp2_with (go_at_call 15; refine (mod_any _ _ _ (by decide) (by decide)).mono ?_; rintro e w' ⟨rfl, rfl⟩; rw [← HY.out])
        refine (flush_any p d F _ KK.out.disk).mono ?_
        rintro e w3 ⟨rfl, hD3, hC3⟩
        have K3 := Lib.hid (KK.out.fx hD3 hC3 (lt' := lt) (KK.out.lat.chg hC3 KK.out.out) (by show (applyW d.dur d.pend).length = 4; rw [applyW_len]; exact KK.out.dur) (by simp [Dsk.flush]) (fun s hs => by rw [read_flush]; exact KK.out.rd s hs))
        clear hD3 hC3
        go_wp2
        go_roundw
        case rel => exact ⟨k + 1, lt, _, _, by omega, by go_num, K3.out⟩
        case measure => simp [intOf]; omega
      · have hyy : (y == 0) = false := by simpa using hy0
        clear hy0
        go_wp2_with (go_at_call 15; refine (mod_any _ _ _ (by decide) (by decide)).mono ?_; rintro e w' ⟨rfl, rfl⟩; rw [← HY.out])
        obtain ⟨q, hq⟩ := Int.eq_ofNat_of_zero_le (modV_nonneg (wrap64 (x.tdiv 8)) 4 (by decide))
        have hq4 : q < 4 := by have := modV_lt (wrap64 (x.tdiv 8)) 4 (by decide); omega
        have HQ := Lib.hid hq
        clear hq
        have cl := KK.out.lat.cell q
        rw [l4_at lt hq4] at cl
        have fl := KK.out.lat.free q
        refine (mod_any _ _ _ (by decide) (by decide)).mono ?_
        rintro e w' ⟨rfl, rfl⟩
        rw [HQ.out]
        go_wp2_with fail
        refine (mod_any _ _ _ (by decide) (by decide)).mono ?_
        rintro e w' ⟨rfl, rfl⟩
        rw [HQ.out]
        go_wp2_with fail
        have hz : (wr.setCell ⟨L, q, none⟩ (.int .u8 (x / 32 % 256))).heap.size = wr.heap.size := by simp [World.setCell]
        have C1 : Chg (fun j => j = L) wr ((wr.setCell ⟨L, q, none⟩ (.int .u8 (x / 32 % 256))).alloc (.cells #[.int .u8 (x / 32 % 256)] 5)) := (chg_set wr L q none _).alloc _
        have D1 := Lib.hid (KK.out.disk.chg C1 fun j hj e => KK.out.out (e ▸ hj))
        have hv1 := bytes_new (wr.setCell ⟨L, q, none⟩ (.int .u8 (x / 32 % 256))) [x / 32 % 256] (by simp)
        have LA : Hid (Blk ((wr.setCell ⟨L, q, none⟩ (.int .u8 (x / 32 % 256))).alloc (.cells #[.int .u8 (x / 32 % 256)] 5)) L (l4 (upd4 lt q (x / 32 % 256))) 29) := by
          have h := (KK.out.lat.set q (.int .u8 (x / 32 % 256))).up ((Up.refl _).alloc (.cells #[.int .u8 (x / 32 % 256)] 5))
          rw [l4_set lt hq4] at h
          exact h
        rw [hz] at hv1
        refine (write_any p q d F _ [x / 32 % 256] _ D1.out (by rw [KK.out.dur]; exact hq4) hv1 (by simp) (by have := KK.out.pend; omega)).mono ?_
        rintro e w3 ⟨rfl, hD3, hC3⟩
        have K3 : Hid (Kept4 w w3 p L (k + 1) (upd4 lt q (x / 32 % 256)) (d.write q [x / 32 % 256]) (Fx F ((wr.setCell ⟨L, q, none⟩ (.int .u8 (x / 32 % 256))).alloc (.cells #[.int .u8 (x / 32 % 256)] 5)) w3)) := by
          have hz1 := C1.size
          have hlw := KK.out.lat.lt
          have huw := KK.out.up.size
          refine ⟨hD3, LA.out.chg hC3 KK.out.out, fun e => ?_, fun j e => ?_, KK.out.newL, KK.out.dur, ?_, fun s hs => ?_, ?_⟩
          · rcases e with e | e
            · exact KK.out.out e
            · omega
          · rcases e with e | e
            · exact KK.out.new j e
            · omega
          · have := KK.out.pend; simp [Dsk.write]; omega
          · rw [read_write _ _ _ _ (by rw [KK.out.dur]; exact hq4), KK.out.rd s hs]
            unfold upd4
            by_cases e : q = s
            · rw [if_pos e, if_pos e.symm]
            · rw [if_neg e, if_neg (fun h => e h.symm)]
          · exact ((KK.out.up.chg fun j => w.heap.size ≤ j).trans C1 fun j hj e => by have := KK.out.newL; omega).trans hC3 (fun j hj e => KK.out.new j e) |>.up fun j hj e => by omega
        clear hD3 hC3 hv1 C1
        go_wp2
        go_roundw
        case rel => exact ⟨k + 1, _, _, _, by omega, by go_num, K3.out⟩
        case measure => simp [intOf]; omega
    · obtain rfl : k = m := by omega
      have HLT := KK.out.lat
      have e0 := (HLT.cell 0).trans rfl
      have e1 := (HLT.cell 1).trans rfl
      have e2 := (HLT.cell 2).trans rfl
      have e3 := (HLT.cell 3).trans rfl
      have HK := Lib.hid hk
      clear HLT
      obtain ⟨d8, hu8, hd8⟩ := Try.under8
      have H8 := Lib.hid hu8
      have HS8 := Lib.hid Try.size8
      have HA4 := Lib.hid Try.under4u8
      clear hu8
      have hmk : ∀ w : World, (Instr.makeSlice 28 (.int .i64 31) (.int .i64 31)).run Try.prog w = .ok (.slice (some ⟨w.heap.size, 0, none⟩) 31 31) (w.alloc (.cells z31 5)) := mk31
      go_wp2
      obtain ⟨wo, hwo⟩ : ∃ wo : World, wo = wr := ⟨_, rfl⟩
      have HWO := Lib.hid hwo
      go_loopw [63] (fun iv wi => ∃ i : Nat, i ≤ 4 ∧ iv = .int .i64 i ∧ Up wo wi) (fun iv _ => 4 - (intOf iv).toNat)
      case atStart => exact ⟨0, by omega, rfl, by rw [hwo]; exact Up.refl _⟩
      case round =>
        clear e0 e1 e2 e3
        subst hwo
        obtain ⟨i, hi4, rfl, hui⟩ := hrel
        have HUI := Lib.hid hui
        clear hui
        by_cases hil : i < 4
        · have hx := l4_at lt hil
          go_wp2_with (with_reducible refine wl_index_one rfl 29 _ _ rfl (l4 lt) i _ 4 5 _ rfl rfl HA4.out hil H8.out hd8 HS8.out hx ?_)
          refine (read_any p i d F _ (KK.out.disk.up HUI.out) (by rw [KK.out.dur]; exact hil) (by rw [KK.out.dur]; decide) (by have := KK.out.pend; omega)).mono ?_
          rintro e w3 ⟨v, rfl, hv, hu3⟩
          rw [KK.out.rd i hil] at hv
          obtain ⟨g, c, rfl, hc32, hcm, hgl, hcell, hfr⟩ := own_some hv (by omega)
          have c0 := hcell 0 (.int .u8 (lt i)) (pad_head _)
          have BY : Hid (∀ w', Up w3 w' → Bytes w' (.slice (some ⟨g, 1, none⟩) 31 (c - 1)) zs31) := fun w' hw' =>
            ⟨_, c - 1, by rw [zs31_len], by rw [zs31_len]; omega, by omega, (fun h => by cases h), fun j hj => ⟨g, 1, rfl, by
              rw [zs31_get j hj, Nat.mul_one]
              exact At.grow ⟨hgl, hcell (1 + j) _ (pad_tail _ j (by rw [zs31_len] at hj; exact hj))⟩ hw'⟩⟩
          have ZE : Hid (∀ w', Up (w3.alloc (.cells z31 5)) w' → Bytes w' (.slice (some ⟨w3.heap.size, 0, none⟩) 31 31) zs31) := fun w' hw' => by
            have h := (bytes_new w3 zs31 (by rw [zs31_len]; decide)).grow byteR_grows hw'
            rw [zs31_len] at h
            exact h
          have HU3 := Lib.hid hu3
          have nq : (lt i != lt i) = false := by simp
          have nq2 : ((32 : Int) != 32) = false := by decide
          have cc1 : ((1 : Nat) : Int) ≤ (c : Int) := by omega
          clear hcell hfr hv hu3
          go_wp2
          go_region_held3 (fun w' => w'.cell? ⟨g, 0, none⟩ = some (.int .u8 (lt i))) (go_keep) ((go_at_call 18; rw [if_neg (show ¬ c = 1 by omega)]; refine (equalB_same _ _ zs31 _ (BY.out _ ((Up.refl w3).alloc _).drew) (ZE.out _ (Up.refl _).drew)).mono ?_; rintro e w' ⟨rfl, rfl⟩))
          all_goals
            go_wp2
            go_roundw
            case rel => exact ⟨i + 1, by omega, by go_num, (HUI.out.trans HU3.out).trans (((Up.refl w3).alloc _).drew)⟩
            case measure => simp [intOf]; omega
        · obtain rfl : i = 4 := by omega
          go_wp2
          go_ret
          exact ⟨rfl, KK.out.up.trans HUI.out⟩
end Go.Proofs.Ytmaeeidaegigcaa.Dk
