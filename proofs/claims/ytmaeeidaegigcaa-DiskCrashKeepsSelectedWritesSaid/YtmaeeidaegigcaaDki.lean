/- DiskFlushedDataSurvives: the walk. -/
import Derived.Test.YtmaeeidaegigcaaDkh
namespace Go.Proofs.Ytmaeeidaegigcaa.Dk
open Go Go.RowKit Hp
set_option linter.unusedVariables false

/-- A disk of this call's own. -/
structure KeptD (w wr : World) (p : Nat) (d : Dsk) (F : Nat → Prop) : Prop where
  disk : DiskR wr p d F
  new : ∀ j, F j → w.heap.size ≤ j
  up : Up w wr
theorem KeptD.fx {w wr wr' : World} {p : Nat} {d d' : Dsk} {F : Nat → Prop} (h : KeptD w wr p d F) (hd : DiskR wr' p d' (Fx F wr wr')) (hc : Chg F wr wr') : KeptD w wr' p d' (Fx F wr wr') :=
  ⟨hd, fun j e => by rcases e with e | e; exact h.new j e; have := h.up.size; omega, ((h.up.chg fun j => False).trans hc fun j hj e => absurd (h.new j e) (by omega)).up fun _ _ e => e⟩
theorem KeptD.grow {w wr wr' : World} {p : Nat} {d : Dsk} {F : Nat → Prop} (h : KeptD w wr p d F) (hu : Up wr wr') : KeptD w wr' p d F := ⟨h.disk.up hu, h.new, h.up.trans hu⟩
theorem KeptD.of_new {w wr : World} {p : Nat} {d : Dsk} (h : DiskR wr p d fun k => w.heap.size ≤ k ∧ k < wr.heap.size) (hu : Up w wr) : KeptD w wr p d fun k => w.heap.size ≤ k ∧ k < wr.heap.size := ⟨h, fun _ e => e.1, hu⟩
/-- Rows that were read, in an array of their own. -/
structure Bef (wr : World) (B i : Nat) (vs : List Value) (rows : Nat → List Int) (F : Nat → Prop) : Prop where
  blk : Blk wr B vs 37
  len : vs.length = 8
  out : ¬ F B
  row : ∀ j, j < i → ∃ v, vs[j]? = some v ∧ wr.ownsRow 0 5 1 v 32 (bc (rows j)) ∧ ∀ k, v.ownBlock = some k → ¬ F k
theorem Bef.chg {wr wr' : World} {B i : Nat} {vs : List Value} {rows : Nat → List Int} {F : Nat → Prop} (h : Bef wr B i vs rows F) (hc : Chg F wr wr') : Bef wr' B i vs rows (Fx F wr wr') :=
  ⟨h.blk.chg hc h.out, h.len, fun e => by rcases e with e | e; exact h.out e; have := h.blk.lt; omega, fun j hj => by
    obtain ⟨v, h1, h2, h3⟩ := h.row j hj
    exact ⟨v, h1, own_chg h2 hc h3, fun k hk e => by rcases e with e | e; exact h3 k hk e; have := own_lt h2 k hk; omega⟩⟩
theorem Bef.up {wr wr' : World} {B i : Nat} {vs : List Value} {rows : Nat → List Int} {F : Nat → Prop} (h : Bef wr B i vs rows F) (hu : Up wr wr') : Bef wr' B i vs rows F :=
  ⟨h.blk.up hu, h.len, h.out, fun j hj => by obtain ⟨v, h1, h2, h3⟩ := h.row j hj; exact ⟨v, h1, own_up h2 hu, h3⟩⟩
theorem Bef.step {wr : World} {B i : Nat} {vs : List Value} {rows : Nat → List Int} {F : Nat → Prop} (h : Bef wr B i vs rows F) (hi : i < 8) {v : Value} (hv : wr.ownsRow 0 5 1 v 32 (bc (rows i))) (hn : ∀ k, v.ownBlock = some k → ¬ F k) :
    Bef (wr.setCell ⟨B, i, none⟩ v) B (i + 1) (vs.set i v) rows F := by
  have ne : ∀ {u : Value} {r : List Int}, wr.ownsRow 0 5 1 u 32 (bc r) → ∀ k, u.ownBlock = some k → k ≠ B := fun hu k hk e => by
    subst e; exact ((own_ty hu) _ hk).1.ne (E' := 37) (by decide) (blk_ty h.blk)
  refine ⟨h.blk.set i v, by simp [h.len], h.out, fun j hj => ?_⟩
  by_cases e : i = j
  · subst e
    exact ⟨v, by rw [List.getElem?_set_self (by rw [h.len]; exact hi)], own_chg hv (chg_set _ _ _ _ _) (ne hv), hn⟩
  · obtain ⟨u, h1, h2, h3⟩ := h.row j (by omega)
    exact ⟨u, by rw [List.getElem?_set_ne e]; exact h1, own_chg h2 (chg_set _ _ _ _ _) (ne h2), h3⟩
theorem crash_nil (d : Dsk) : d.crash [] = ⟨d.dur, []⟩ := by
  have : surv [] d.pend d.pend.length = [] := by
    unfold surv
    rw [List.filter_eq_nil_iff.2 (fun i _ => by simp [List.getD])]; rfl
  unfold Dsk.crash; rw [this]; rfl
theorem own_bytes {w : World} {v : Value} {l : List Int} {base : Nat} (h : w.ownsRow base 5 1 v 32 (bc l)) : Bytes w v l := by
  have hl : l.length = 32 := by have := h.1; simpa using this
  rw [← hl] at h
  exact bytes_own h

set_option maxRecDepth 100000 in
set_option maxHeartbeats 4000000 in
theorem walk5 (a2 : Option Addr) (len2 cap2 : Nat) (z2 : List Int) (a3 : Option Addr) (len3 cap3 : Nat) (z3 : List Int) (w : World) (hE : Elems w a2 len2 z2) (hl : len2 ≤ cap2) (hm : cap2 ≤ 9223372036854775807)
    (hE3 : Elems w a3 len3 z3) (hl3 : len3 ≤ cap3) (hm3 : cap3 ≤ 9223372036854775807) :
    Calls Try.prog 4 #[.slice a2 len2 cap2, .slice a3 len3 cap3] w fun e w' => e = .returned (.bool true) ∧ Up w w' := by
  have HE := Lib.hid hE
  have HE3 := Lib.hid hE3
  clear hE hE3
  obtain ⟨m, hmin', hm1, hm2⟩ := min_len 100 len2
  have hmin : (if (100 : Int) < (len2 : Int) then (100 : Int) else (len2 : Int)) = (m : Int) := hmin'
  clear hmin'
  obtain ⟨m3, hmin', hm4, hm5⟩ := min_len 100 len3
  have HMIN3 : Hid ((if (100 : Int) < (len3 : Int) then (100 : Int) else (len3 : Int)) = (m3 : Int)) := hmin'
  clear hmin'
  go_enter Try.func4, Try.ntmps4
  go_wp2_with fail
  refine (new_any 8 _ (by omega) (by omega)).mono ?_
  rintro e w1 ⟨p, rfl, hD, hu⟩
  go_wp2_with fail
  have K0 := KeptD.of_new hD hu
  have u1 : Up w1 (w1.alloc (.cells #[.int .u8 1] 5)) := (Up.refl w1).alloc _
  have hdd : (Dsk.new 8).dur.length = 8 := by simp [Dsk.new]
  have K1 := K0.grow u1
  refine (write_any p 7 (.new 8) _ _ [1] _ K1.disk (by omega) (bytes_new w1 [1] (by simp)) (by simp) (by simp [Dsk.new])).mono ?_
  rintro e w2 ⟨rfl, hD2, hC2⟩
  have K2 := K1.fx hD2 hC2
  clear hD2 hC2 K0 K1 hD hu u1
  go_wp2_with fail
  refine (pending_any p _ _ _ K2.disk).mono ?_
  rintro e w2' ⟨rfl, rfl⟩
  rw [show (((Dsk.new 8).write 7 [1]).pend.length : Int) = 1 by simp [Dsk.write, Dsk.new]]
  have hd1 : ((Dsk.new 8).write 7 [1]).dur.length ≤ 8 ∧ 8 ≤ ((Dsk.new 8).write 7 [1]).dur.length ∧ ((Dsk.new 8).write 7 [1]).pend.length ≤ 1 := by simp [Dsk.write, Dsk.new]
  generalize (Dsk.new 8).write 7 [1] = d0 at *
  generalize Fx _ _ _ = F0 at *
  clear hdd
  go_wp2
  clear hmin
  go_loopw [45] (fun iv wr => ∃ (k : Nat) (d : Dsk) (F : Nat → Prop), k ≤ m ∧ iv = .int .i64 k ∧ KeptD w wr p d F ∧ d.dur.length = 8 ∧ d.pend.length ≤ k + 1) (fun iv _ => m - (intOf iv).toNat)
  case atStart => exact ⟨0, d0, F0, by omega, rfl, K2, by omega, by omega⟩
  case round =>
    clear K2 hd1
    obtain ⟨k, d, F, hk, rfl, hK, hdl, hpl⟩ := hrel
    have KK := Lib.hid hK
    have DL := Lib.hid hdl
    clear hK hdl
    by_cases hlt : k < m
    · obtain ⟨b, off, rfl, hbl, hc⟩ := HE.out k (by omega)
      have hc' := (KK.out.up.cell (p := ⟨b, off + k, none⟩) hbl).trans hc
      clear hc
      generalize z2.getD k 0 = x at *
      obtain ⟨q, hq⟩ := Int.eq_ofNat_of_zero_le (modV_nonneg x 8 (by decide))
      have hq8 : q < 8 := by have := modV_lt x 8 (by decide); omega
      have HQ := Lib.hid hq
      clear hq
      go_wp2_with (go_at_call 15; refine (mod_any _ _ _ (by decide) (by decide)).mono ?_; rintro e w' ⟨rfl, rfl⟩; rw [HQ.out])
      have K3 := KK.out.grow ((Up.refl wr).alloc (.cells #[.int .u8 (x / 256 % 256), .int .u8 (x / 65536 % 256)] 5))
      refine (write_any p q d F _ [x / 256 % 256, x / 65536 % 256] _ K3.disk (by rw [DL.out]; exact hq8) (bytes_new wr [x / 256 % 256, x / 65536 % 256] (by simp)) (by simp) (by omega)).mono ?_
      rintro e w3 ⟨rfl, hD3, hC3⟩
      have K4 := Lib.hid (K3.fx hD3 hC3)
      clear hD3 hC3 K3
      go_wp2
      go_roundw
      case rel => exact ⟨k + 1, _, _, by omega, by go_num, K4.out, DL.out, by simp [Dsk.write]; omega⟩
      case measure => simp [intOf]; omega
    · obtain rfl : k = m := by omega
      go_wp2_with fail
      refine (flush_any p d F _ KK.out.disk).mono ?_
      rintro e w3 ⟨rfl, hD3, hC3⟩
      have K3 := KK.out.fx hD3 hC3
      have DL3 : Hid (d.flush.dur.length = 8) := by unfold Hid; show (applyW d.dur d.pend).length = 8; rw [applyW_len]; exact DL.out
      have PL3 : Hid (d.flush.pend = []) := rfl
      clear hD3 hC3 KK DL hpl
      generalize d.flush = df at *
      generalize Fx _ _ _ = F3 at *
      go_wp2
      obtain ⟨B, hB⟩ : ∃ B, B = w3.heap.size := ⟨_, rfl⟩
      have K4 := K3.grow ((Up.refl w3).alloc (.cells #[.slice none 0 0, .slice none 0 0, .slice none 0 0, .slice none 0 0, .slice none 0 0, .slice none 0 0, .slice none 0 0, .slice none 0 0] 37))
      have BF : Bef (w3.alloc (.cells #[.slice none 0 0, .slice none 0 0, .slice none 0 0, .slice none 0 0, .slice none 0 0, .slice none 0 0, .slice none 0 0, .slice none 0 0] 37)) B 0 [.slice none 0 0, .slice none 0 0, .slice none 0 0, .slice none 0 0, .slice none 0 0, .slice none 0 0, .slice none 0 0, .slice none 0 0] df.read F3 :=
        ⟨by rw [hB]; exact Blk.new w3 _ _, rfl, fun e => by have := K3.disk.lt B e; omega, fun j hj => by omega⟩
      have BN : Hid (w.heap.size ≤ B) := by unfold Hid; rw [hB]; exact K3.up.size
      rw [← hB]
      clear hB K3
      go_loopw [64] (fun iv wr => ∃ (i : Nat) (vs : List Value), i ≤ 8 ∧ iv = .int .i64 i ∧ KeptD w wr p df F3 ∧ Bef wr B i vs df.read F3) (fun iv _ => 8 - (intOf iv).toNat)
      case atStart => exact ⟨0, _, by omega, rfl, K4, BF⟩
      case round =>
        clear K4 BF
        obtain ⟨i, vs, hi, rfl, hK, hBf⟩ := hrel
        have KK := Lib.hid hK
        have BB := Lib.hid hBf
        clear hK hBf
        by_cases hil : i < 8
        · go_wp2_with fail
          refine (read_any p i df F3 _ KK.out.disk (by rw [DL3.out]; exact hil) (by rw [DL3.out]; decide) (by rw [PL3.out]; simp)).mono ?_
          rintro e w4 ⟨v, rfl, hv, hu4⟩
          obtain ⟨av, cv, rfl, hcv1, hcv2, _⟩ := own_form hv
          have K5 := Lib.hid (KK.out.grow hu4)
          have B5 := Lib.hid (BB.out.up hu4)
          have cb := B5.out.blk.cell i
          rw [show vs[i]? = some (vs.getD i undef) by simp [List.getD, B5.out.len, hil]] at cb
          have fb := B5.out.blk.free i
          have HV := Lib.hid (own_base' (base' := 0) hv fun _ _ => Nat.zero_le _)
          have HN : Hid (∀ k, (Value.slice av 32 cv).ownBlock = some k → ¬ F3 k) := fun k hk e => by have := ((own_ty hv) k hk).2; have := KK.out.disk.lt k e; omega
          clear hv hu4
          go_wp2
          go_roundw
          case rel => exact ⟨i + 1, _, by omega, by go_num, ⟨K5.out.disk.chg (chg_set _ _ _ _ _) (fun k hk e => B5.out.out (e ▸ hk)), K5.out.new, K5.out.up.set (by exact BN.out) _ _ _⟩, B5.out.step hil HV.out HN.out⟩
          case measure => simp [intOf]; omega
        · have hi8 : 8 ≤ i := by omega
          have BB : Hid (Bef wr B 8 vs df.read F3) := by
            have h := BB.out
            rw [show i = 8 by omega] at h
            exact h
          have hmin3 := HMIN3.out
          go_wp2
          clear hmin3
          go_loopw [90] (fun iv wr => ∃ (k : Nat) (d : Dsk) (F : Nat → Prop), k ≤ m3 ∧ iv = .int .i64 k ∧ KeptD w wr p d F ∧ Bef wr B 8 vs df.read F ∧ d.dur = df.dur ∧ d.pend.length ≤ k) (fun iv _ => m3 - (intOf iv).toNat)
          case atStart => exact ⟨0, df, F3, by omega, rfl, KK.out, BB.out, rfl, by rw [PL3.out]; simp⟩
          case round =>
            clear KK BB
            obtain ⟨k3, d3, F4, hk3, rfl, hK, hBf, hdd, hpl3⟩ := hrel
            have KK := Lib.hid hK
            have BB := Lib.hid hBf
            have DD := Lib.hid hdd
            clear hK hBf hdd
            by_cases hlt3 : k3 < m3
            · obtain ⟨b, off, rfl, hbl, hc⟩ := HE3.out k3 (by omega)
              have hc' := (KK.out.up.cell (p := ⟨b, off + k3, none⟩) hbl).trans hc
              clear hc
              generalize z3.getD k3 0 = x at *
              obtain ⟨q, hq⟩ := Int.eq_ofNat_of_zero_le (modV_nonneg x 8 (by decide))
              have hq8 : q < 8 := by have := modV_lt x 8 (by decide); omega
              have HQ := Lib.hid hq
              clear hq
              go_wp2_with (go_at_call 15; refine (mod_any _ _ _ (by decide) (by decide)).mono ?_; rintro e w' ⟨rfl, rfl⟩; rw [HQ.out])
              have K6 := KK.out.grow ((Up.refl wr).alloc (.cells #[.int .u8 (x / 256 % 256)] 5))
              have B6 := BB.out.up ((Up.refl wr).alloc (.cells #[.int .u8 (x / 256 % 256)] 5))
              refine (write_any p q d3 F4 _ [x / 256 % 256] _ K6.disk (by rw [DD.out, DL3.out]; exact hq8) (bytes_new wr [x / 256 % 256] (by simp)) (by simp) (by omega)).mono ?_
              rintro e w5 ⟨rfl, hD5, hC5⟩
              have K7 := Lib.hid (K6.fx hD5 hC5)
              have B7 := Lib.hid (B6.chg hC5)
              clear hD5 hC5 K6 B6
              go_wp2
              go_roundw
              case rel => exact ⟨k3 + 1, _, _, by omega, by go_num, K7.out, B7.out, DD.out, by simp [Dsk.write]; omega⟩
              case measure => simp [intOf]; omega
            · obtain rfl : k3 = m3 := by omega
              go_wp2_with fail
              refine (crash_any p d3 F4 [] _ _ KK.out.disk (Arr.nil _ _ _) (fun a n c h => by cases h)).mono ?_
              rintro e w6 ⟨rfl, hD6, hC6⟩
              have K8 := KK.out.fx hD6 hC6
              have B8 := BB.out.chg hC6
              have CN : d3.crash [] = df := by
                rw [crash_nil, DD.out]
                have := PL3.out
                cases df
                simp only at this
                rw [this]
              rw [CN] at K8
              clear hD6 hC6 KK BB CN DD
              generalize Fx _ _ _ = F5 at *
              go_wp2
              go_loopw [106] (fun iv wr => ∃ i : Nat, i ≤ 8 ∧ iv = .int .i64 i ∧ KeptD w wr p df F5 ∧ Bef wr B 8 vs df.read F5) (fun iv _ => 8 - (intOf iv).toNat)
              case atStart => exact ⟨0, by omega, rfl, K8, B8⟩
              case round =>
                clear K8 B8
                obtain ⟨i, hi8, rfl, hK, hBf⟩ := hrel
                have KK := Lib.hid hK
                have BB := Lib.hid hBf
                clear hK hBf
                by_cases hil : i < 8
                · go_wp2_with fail
                  refine (read_any p i df F5 _ KK.out.disk (by rw [DL3.out]; exact hil) (by rw [DL3.out]; decide) (by rw [PL3.out]; simp)).mono ?_
                  rintro e w7 ⟨v, rfl, hv, hu7⟩
                  obtain ⟨av, cv, rfl, hcv1, hcv2, _⟩ := own_form hv
                  have K9 := Lib.hid (KK.out.grow hu7)
                  have B9 := Lib.hid (BB.out.up hu7)
                  obtain ⟨u, hu1, hu2, _⟩ := B9.out.row i hil
                  obtain ⟨au, cu, rfl, _, _, _⟩ := own_form hu2
                  have cb := (B9.out.blk.cell i).trans hu1
                  have Y1 := Lib.hid (own_bytes hv)
                  have Y2 := Lib.hid (own_bytes hu2)
                  clear hv hu1 hu2 hu7
                  go_wp2_with fail
                  refine (equalB_same _ _ (df.read i) _ Y1.out Y2.out).mono ?_
                  rintro e w8 ⟨rfl, rfl⟩
                  go_wp2
                  go_roundw
                  case rel => exact ⟨i + 1, by omega, by go_num, K9.out, B9.out⟩
                  case measure => simp [intOf]; omega
                · obtain rfl : i = 8 := by omega
                  go_wp2_with fail
                  refine (pending_any p df F5 _ KK.out.disk).mono ?_
                  rintro e w8 ⟨rfl, rfl⟩
                  rw [PL3.out]
                  go_wp2
                  go_ret
                  exact ⟨by simp, KK.out.up⟩
end Go.Proofs.Ytmaeeidaegigcaa.Dk
