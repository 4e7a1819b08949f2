/- The simulated disk: Flush, Crash. -/
import Derived.Test.YtmaeeidaegigcaaDkc
namespace Go.Proofs.Ytmaeeidaegigcaa.Dk
open Go Go.RowKit Hp
set_option linter.unusedVariables false

/-- A sector's row is another one. -/
theorem dur_set {w : World} {p s gd cd : Nat} {d : Dsk} {F : Nat → Prop} {pv v : Value} {xs ys : List Value} {row : List Int} (ok : DOk d) (lt : ∀ k, F k → k < w.heap.size) (hp : F p) (hb : Blk w p [.slice (some ⟨gd, 0, none⟩) d.dur.length cd, pv] 74)
    (hd : w.ownsRow 0 28 1 (.slice (some ⟨gd, 0, none⟩) d.dur.length cd) d.dur.length xs) (hdF : F gd) (hq : w.ownsRow 0 76 2 pv d.pend.length ys) (hqF : ∀ k, pv.ownBlock = some k → F k) (hD : DurR w F xs d.dur) (hP : PendR w F ys d.pend)
    (hrow : RowR w F v row) (hrl : row.length = 32) (hs : s < d.dur.length) :
    DiskR (w.setCell ⟨gd, s, none⟩ v) p ⟨d.dur.set s row, d.pend⟩ F ∧ Chg F w (w.setCell ⟨gd, s, none⟩ v) ∧ (w.setCell ⟨gd, s, none⟩ v).cell? ⟨p, 1, none⟩ = some pv := by
  have tg := ((own_ty hd) gd rfl).1
  have C := chg_set w gd s none v
  have hb3 := hb.chg C fun e => tg.ne (E' := 74) (by decide) (e ▸ blk_ty hb)
  have hz : (w.setCell ⟨gd, s, none⟩ v).heap.size = w.heap.size := by simp [World.setCell]
  have hR : ∀ u r, RowR w F u r → RowR (w.setCell ⟨gd, s, none⟩ v) F u r := fun u r hr => hr.chg C fun j _ e => by subst e; exact tg.ne (by decide)
  refine ⟨⟨⟨fun r hr => ?_, fun x hx => by simpa using ok.pend x hx⟩, fun k hk => by rw [hz]; exact lt k hk, _, pv, _, ys, hp, hb3, ?_, fun k hk => ?_, own_chg hq C fun j hj e => ?_, hqF, (hD.same hR).set s (hR _ _ hrow), hP.same hR⟩, C.mono fun j _ e => e ▸ hdF, (hb3.cell 1).trans rfl⟩
  · rcases List.mem_or_eq_of_mem_set hr with hr | rfl
    · exact ok.dur r hr
    · exact hrl
  · show (w.setCell ⟨gd, s, none⟩ v).ownsRow 0 28 1 (.slice (some ⟨gd, 0, none⟩) d.dur.length cd) (d.dur.set s row).length _
    rw [List.length_set]
    exact own_set hd s (by rw [hD.1]; exact hs) v
  · obtain rfl : gd = k := by simpa [Value.ownBlock] using hk
    exact hdF
  · subst e; exact tg.ne (by decide) ((own_ty hq) _ hj).1
/-- No write is pending any more. -/
theorem pend_nil {w : World} {p : Nat} {d : Dsk} {F : Nat → Prop} (h : DiskR w p d F) : DiskR (w.setCell ⟨p, 1, none⟩ (.slice none 0 0)) p ⟨d.dur, []⟩ F ∧ Chg F w (w.setCell ⟨p, 1, none⟩ (.slice none 0 0)) := by
  obtain ⟨ok, lt, dv, pv, xs, ys, hp, hb, hd, hdF, hq, hqF, hD, hP⟩ := h
  have C := chg_set w p 1 none (.slice none 0 0)
  have hz : (w.setCell ⟨p, 1, none⟩ (.slice none 0 0)).heap.size = w.heap.size := by simp [World.setCell]
  have hR : ∀ u r, RowR w F u r → RowR (w.setCell ⟨p, 1, none⟩ (.slice none 0 0)) F u r := fun u r hr => hr.chg C fun j _ e => by subst e; exact (blk_ty hb).ne (by decide)
  exact ⟨⟨⟨ok.dur, fun x hx => by cases hx⟩, fun k hk => by rw [hz]; exact lt k hk, dv, .slice none 0 0, xs, [], hp, hb.set 1 _, own_chg hd C fun j hj e => by subst e; exact (blk_ty hb).ne (by decide) ((own_ty hd) _ hj).1, hdF, World.ownsRow_nil _ _ _ _, fun k hk => (by cases hk), hD.same hR, ⟨rfl, fun i hi => by simp at hi⟩⟩, C.mono fun j _ e => e ▸ hp⟩

theorem Bools.chg {S : Nat → Prop} {w w' : World} {v : Value} {l : List Bool} (h : Bools w v l) (hc : Chg S w w') (hS : ∀ a n c, v = .slice (some a) n c → ¬ S a.block) : Bools w' v l := by
  obtain ⟨a, cap, hv, h1, h2, h2', h3⟩ := h
  refine ⟨a, cap, hv, h1, h2, h2', fun i hi => ?_⟩
  obtain ⟨b, off, ha, hr⟩ := h3 i hi
  exact ⟨b, off, ha, At.chg hr hc (hS ⟨b, off, none⟩ _ _ (by rw [hv, ha]))⟩
set_option maxRecDepth 100000 in
set_option maxHeartbeats 2000000 in
theorem flush_any (p : Nat) (d : Dsk) (F : Nat → Prop) (w : World) (h : DiskR w p d F) :
    Calls Try.prog 16 #[.pointer (some ⟨p, 0, none⟩)] w fun e w' => e = .returned (.tuple #[]) ∧ DiskR w' p d.flush (Fx F w w') ∧ Chg F w w' := by
  have HD := Lib.hid h
  obtain ⟨ok, lt, dv, pv, xs, ys, hp, hb, hd, hdF, hq, hqF, hDu, hPe⟩ := h
  obtain ⟨aq, cq, rfl, hc4, hc5, hc6⟩ := own_form hq
  have c1 := hb.cell 1
  rw [show ([dv, Value.slice aq d.pend.length cq])[1]? = some (.slice aq d.pend.length cq) from rfl] at c1
  have C1 := Lib.hid c1
  clear hc6 hd hdF hqF hDu hPe hb lt hq
  go_enter Try.func16, Try.ntmps16
  go_wp2
  clear c1
  go_loopw [9] (fun iv wr => ∃ k : Nat, k ≤ d.pend.length ∧ iv = .int .i64 k ∧ DiskR wr p ⟨applyW d.dur (d.pend.take k), d.pend⟩ (Fx F w wr) ∧ Chg F w wr ∧ wr.cell? ⟨p, 1, none⟩ = some (.slice aq d.pend.length cq)) (fun iv _ => d.pend.length - (intOf iv).toNat)
  case atStart => exact ⟨0, by omega, rfl, HD.out.mono (fun k hk => .inl hk) (fun k hk => by rcases hk with hk | hk; exact HD.out.lt k hk; exact hk.2), Chg.refl _ _, C1.out⟩
  case round =>
    obtain ⟨k, hk, rfl, hD, hC, hc1⟩ := hrel
    by_cases hlt : k < d.pend.length
    · obtain ⟨ok2, lt2, dv2, pv2, xs2, ys2, hp2, hb2, hd2, hdF2, hq2, hqF2, hDu2, hPe2⟩ := hD
      obtain rfl : pv2 = .slice aq d.pend.length cq := by have := (hb2.cell 1).symm.trans hc1; simpa using this
      obtain ⟨v, y1, y2, hrow⟩ := hPe2.2 k hlt
      have hsb := ok.pend d.pend[k] (List.getElem_mem _)
      have hal := applyW_len d.dur (d.pend.take k)
      have AS : Hid (applyW d.dur (d.pend.take (k + 1)) = (applyW d.dur (d.pend.take k)).set d.pend[k].1 d.pend[k].2) := by
        unfold Hid; rw [List.take_succ_eq_append_getElem hlt, applyW_snoc]
      obtain ⟨gq, cq', hvq, _, _, _, hcq, _⟩ := own_some hq2 (by show 0 < d.pend.length; omega)
      simp only [Value.slice.injEq] at hvq
      obtain ⟨rfl, _, rfl⟩ := hvq
      obtain ⟨gd, cd, rfl, hd3, hd4, hd5, hcd, hfd⟩ := own_some hd2 (by show 0 < (applyW d.dur (d.pend.take k)).length; omega)
      have e1 := hcq _ _ y1
      have e2 := hcq _ _ y2
      obtain ⟨s, hs⟩ : ∃ s, s = d.pend[k].1 := ⟨_, rfl⟩
      obtain ⟨r, hr⟩ : ∃ r, r = d.pend[k].2 := ⟨_, rfl⟩
      have e3 := hcd s (xs2.getD s undef) (by have := hDu2.1; simp only [List.getD]; rw [List.getElem?_eq_getElem (by rw [this]; show s < (applyW d.dur (d.pend.take k)).length; omega)]; rfl)
      rw [← hs] at e1 hsb AS y1
      rw [← hr] at hrow hsb AS
      clear hs hr
      obtain ⟨gv, rfl, _, _⟩ := id hrow
      have ST := Lib.hid (dur_set (s := s) ok2 lt2 hp2 hb2 hd2 (hdF2 gd rfl) hq2 hqF2 hDu2 hPe2 hrow hsb.2 (by show s < (applyW d.dur (d.pend.take k)).length; omega))
      have c0 := hb2.cell 0
      rw [show ([Value.slice (some ⟨gd, 0, none⟩) (applyW d.dur (d.pend.take k)).length cd, .slice (some ⟨gq, 0, none⟩) d.pend.length cq])[0]? = some (.slice (some ⟨gd, 0, none⟩) (applyW d.dur (d.pend.take k)).length cd) from rfl] at c0
      have q0 := hfd s
      have b1 : (0 : Int) ≤ (s : Int) := by omega
      have b2 : (s : Int) < ((applyW d.dur (d.pend.take k)).length : Int) := by omega
      have hlp := hb2.lt
      have AL := Lib.hid hal
      have CC := Lib.hid hC
      clear hal hd2 hq2 hqF2 hdF2 hDu2 hPe2 hb2 hrow y1 y2 hC lt2 ok2 hcd hcq hfd
      go_wp2
      go_region
      go_wp2
      go_roundw
      case rel =>
        obtain ⟨S1, S2, S3⟩ := ST.out
        have U := (((Up.refl (wr.setCell ⟨gd, s, none⟩ (.slice (some ⟨gv, 0, none⟩) 32 32))).alloc (.cells #[.int .i64 (s : Int), .slice (some ⟨gv, 0, none⟩) 32 32] 76)).drew)
        have hz : ∀ v : Value, (wr.setCell ⟨gd, s, none⟩ v).heap.size = wr.heap.size := fun v => by simp [World.setCell]
        have U2 := U.size
        rw [hz] at U2
        refine ⟨k + 1, by omega, by go_num, ?_, ?_, (U.cell (p := ⟨p, 1, none⟩) (by rw [hz]; exact hlp)).trans S3⟩
        · rw [AS.out]
          exact (S1.up U).mono (fun j hj => by rcases hj with hj | hj; exact .inl hj; exact .inr ⟨hj.1, by omega⟩) (fun j hj => by rcases hj with hj | hj; exact Nat.lt_of_lt_of_le (S1.lt j (.inl hj)) U.size; exact hj.2)
        · exact (CC.out.trans S2 fun j hj e => by rcases e with e | e; exact e; omega).trans (Below.chg F U) fun _ _ e => e
      case measure => simp [intOf]; omega
    · obtain rfl : k = d.pend.length := by omega
      have P := Lib.hid (pend_nil hD)
      obtain ⟨ok2, lt2, dv2, pv2, xs2, ys2, hp2, hb2, _⟩ := hD
      have q0 := hb2.free 1
      have CC := Lib.hid hC
      clear hC hb2
      go_wp2
      go_end0
      have TA : d.pend.take d.pend.length = d.pend := List.take_length
      rw [TA] at P
      have hz : (wr.setCell ⟨p, 1, none⟩ (.slice none 0 0)).heap.size = wr.heap.size := by simp [World.setCell]
      refine ⟨rfl, P.out.1.mono (fun j hj => ?_) (fun j hj => ?_), CC.out.trans P.out.2 fun j hj e => ?_⟩
      · unfold Fx at *; rw [hz]; exact hj
      · rcases hj with hj | hj
        · have := HD.out.lt j hj; have := CC.out.size; omega
        · exact hj.2
      · rcases e with e | e
        · exact e
        · omega
set_option maxRecDepth 100000 in
set_option maxHeartbeats 2000000 in
theorem crash_any (p : Nat) (d : Dsk) (F : Nat → Prop) (sv : List Bool) (vs : Value) (w : World) (h : DiskR w p d F) (hvs : Bools w vs sv) (hvF : sv ≠ [] → ∀ a n c, vs = .slice (some a) n c → ¬ F a.block) :
    Calls Try.prog 20 #[.pointer (some ⟨p, 0, none⟩), vs] w fun e w' => e = .returned (.tuple #[]) ∧ DiskR w' p (d.crash sv) (Fx F w w') ∧ Chg F w w' := by
  have HD := Lib.hid h
  obtain ⟨ok, lt, dv, pv, xs, ys, hp, hb, hd, hdF, hq, hqF, hDu, hPe⟩ := h
  obtain ⟨aq, cq, rfl, hc4, hc5, hc6⟩ := own_form hq
  have c1 := hb.cell 1
  rw [show ([dv, Value.slice aq d.pend.length cq])[1]? = some (.slice aq d.pend.length cq) from rfl] at c1
  have C1 := Lib.hid c1
  clear hc6 hd hdF hqF hDu hPe hb lt hq
  have CR : Hid (∀ wr, Chg F w wr → Bools wr vs sv) := fun wr hC => by
    cases sv with
    | nil =>
      obtain ⟨a, cap, e, h1, h2, h3, _⟩ := hvs
      exact ⟨a, cap, e, h1, h2, h3, fun i hi => absurd hi (Nat.not_lt_zero _)⟩
    | cons x sv => exact Bools.chg hvs hC (hvF (List.cons_ne_nil _ _))
  obtain ⟨av, cv, rfl, hv1, hv2, hv3, hv4⟩ := hvs
  clear hv3 hv4 hvF
  go_enter Try.func20, Try.ntmps20
  go_wp2
  clear c1
  go_loopw [11] (fun iv wr => ∃ k : Nat, k ≤ d.pend.length ∧ iv = .int .i64 k ∧ DiskR wr p ⟨applyW d.dur (surv sv d.pend k), d.pend⟩ (Fx F w wr) ∧ Chg F w wr ∧ wr.cell? ⟨p, 1, none⟩ = some (.slice aq d.pend.length cq)) (fun iv _ => d.pend.length - (intOf iv).toNat)
  case atStart => exact ⟨0, by omega, rfl, by rw [show surv sv d.pend 0 = [] from rfl]; exact HD.out.mono (fun k hk => .inl hk) (fun k hk => by rcases hk with hk | hk; exact HD.out.lt k hk; exact hk.2), Chg.refl _ _, C1.out⟩
  case round =>
    obtain ⟨k, hk, rfl, hD, hC, hc1⟩ := hrel
    by_cases hlt : k < d.pend.length
    · have D1 := Lib.hid hD
      have C1' := Lib.hid hc1
      obtain ⟨ok2, lt2, dv2, pv2, xs2, ys2, hp2, hb2, hd2, hdF2, hq2, hqF2, hDu2, hPe2⟩ := hD
      obtain rfl : pv2 = .slice aq d.pend.length cq := by have := (hb2.cell 1).symm.trans hc1; simpa using this
      obtain ⟨v, y1, y2, hrow⟩ := hPe2.2 k hlt
      have hsb := ok.pend d.pend[k] (List.getElem_mem _)
      have hal := applyW_len d.dur (surv sv d.pend k)
      have AS : Hid (applyW d.dur (surv sv d.pend (k + 1)) = if sv.getD k false then (applyW d.dur (surv sv d.pend k)).set d.pend[k].1 d.pend[k].2 else applyW d.dur (surv sv d.pend k)) := by
        unfold Hid; rw [surv_succ]
        rw [show d.pend.getD k (0, []) = d.pend[k] by simp [List.getD, hlt]]
        split
        · rw [applyW_snoc]
        · rw [List.append_nil]
      obtain ⟨gq, cq', hvq, _, _, _, hcq, _⟩ := own_some hq2 (by show 0 < d.pend.length; omega)
      simp only [Value.slice.injEq] at hvq
      obtain ⟨rfl, _, rfl⟩ := hvq
      obtain ⟨gd, cd, rfl, hd3, hd4, hd5, hcd, hfd⟩ := own_some hd2 (by show 0 < (applyW d.dur (surv sv d.pend k)).length; omega)
      have e1 := hcq _ _ y1
      have e2 := hcq _ _ y2
      obtain ⟨s, hs⟩ : ∃ s, s = d.pend[k].1 := ⟨_, rfl⟩
      obtain ⟨r, hr⟩ : ∃ r, r = d.pend[k].2 := ⟨_, rfl⟩
      have e3 := hcd s (xs2.getD s undef) (by have := hDu2.1; simp only [List.getD]; rw [List.getElem?_eq_getElem (by rw [this]; show s < (applyW d.dur (surv sv d.pend k)).length; omega)]; rfl)
      rw [← hs] at e1 hsb AS y1
      rw [← hr] at hrow hsb AS
      clear hs hr
      obtain ⟨gv, rfl, _, _⟩ := id hrow
      have ST := Lib.hid (dur_set (s := s) ok2 lt2 hp2 hb2 hd2 (hdF2 gd rfl) hq2 hqF2 hDu2 hPe2 hrow hsb.2 (by show s < (applyW d.dur (surv sv d.pend k)).length; omega))
      have c0 := hb2.cell 0
      rw [show ([Value.slice (some ⟨gd, 0, none⟩) (applyW d.dur (surv sv d.pend k)).length cd, .slice (some ⟨gq, 0, none⟩) d.pend.length cq])[0]? = some (.slice (some ⟨gd, 0, none⟩) (applyW d.dur (surv sv d.pend k)).length cd) from rfl] at c0
      have q0 := hfd s
      have b1 : (0 : Int) ≤ (s : Int) := by omega
      have b2 : (s : Int) < ((applyW d.dur (surv sv d.pend k)).length : Int) := by omega
      have hlp := hb2.lt
      have AL := Lib.hid hal
      have CC := Lib.hid hC
      clear hal hd2 hq2 hqF2 hdF2 hDu2 hPe2 hb2 hrow y1 y2 hC lt2 ok2 hcd hcq hfd
      have HR := Lib.hid (CR.out wr CC.out)
      by_cases hkv : k < sv.length
      · obtain ⟨av', cv', hve, _, _, _, hvx⟩ := HR.out
        simp only [Value.slice.injEq] at hve
        obtain ⟨rfl, _, rfl⟩ := hve
        obtain ⟨bv, ov, rfl, hbv, cb⟩ := hvx k hkv
        rw [Nat.mul_one] at cb
        have GD : Hid (sv.getD k false = sv[k]) := by unfold Hid; simp [List.getD, hkv]
        obtain ⟨z, hz⟩ : ∃ z, z = sv[k] := ⟨_, rfl⟩
        rw [← hz] at cb GD
        rw [GD.out] at AS
        clear hz hvx
        have dk : decide ((k : Int) < (sv.length : Int)) = true := decide_eq_true (by omega)
        cases z with
        | true =>
          rw [if_pos rfl] at AS
          go_wp2
          go_region
          go_wp2
          go_roundw
          case rel =>
            obtain ⟨S1, S2, S3⟩ := ST.out
            have U := (((Up.refl (wr.setCell ⟨gd, s, none⟩ (.slice (some ⟨gv, 0, none⟩) 32 32))).alloc (.cells #[.int .i64 (s : Int), .slice (some ⟨gv, 0, none⟩) 32 32] 76)).drew)
            have hz : ∀ v : Value, (wr.setCell ⟨gd, s, none⟩ v).heap.size = wr.heap.size := fun v => by simp [World.setCell]
            have U2 := U.size
            rw [hz] at U2
            refine ⟨k + 1, by omega, by go_num, ?_, ?_, (U.cell (p := ⟨p, 1, none⟩) (by rw [hz]; exact hlp)).trans S3⟩
            · rw [AS.out]
              exact (S1.up U).mono (fun j hj => by rcases hj with hj | hj; exact .inl hj; exact .inr ⟨hj.1, by omega⟩) (fun j hj => by rcases hj with hj | hj; exact Nat.lt_of_lt_of_le (S1.lt j (.inl hj)) U.size; exact hj.2)
            · exact (CC.out.trans S2 fun j hj e => by rcases e with e | e; exact e; omega).trans (Below.chg F U) fun _ _ e => e
          case measure => simp [intOf]; omega
        | false =>
          rw [if_neg (by decide)] at AS
          go_wp2
          go_roundw
          case rel =>
            have U := (Up.refl wr).alloc (.cells #[.int .i64 (s : Int), .slice (some ⟨gv, 0, none⟩) 32 32] 76)
            have U2 := U.size
            refine ⟨k + 1, by omega, by go_num, ?_, ?_, (U.cell (p := ⟨p, 1, none⟩) hlp).trans C1'.out⟩
            · rw [AS.out]
              exact (D1.out.up U).mono (fun j hj => by rcases hj with hj | hj; exact .inl hj; exact .inr ⟨hj.1, by omega⟩) (fun j hj => by rcases hj with hj | hj; exact Nat.lt_of_lt_of_le (D1.out.lt j (.inl hj)) U.size; exact hj.2)
            · exact CC.out.trans (Below.chg F U) fun _ _ e => e
          case measure => simp [intOf]; omega
      · have dk : decide ((k : Int) < (sv.length : Int)) = false := decide_eq_false (by omega)
        rw [if_neg (by simp [List.getD, Nat.le_of_not_lt hkv])] at AS
        go_wp2
        go_roundw
        case rel =>
          have U := (Up.refl wr).alloc (.cells #[.int .i64 (s : Int), .slice (some ⟨gv, 0, none⟩) 32 32] 76)
          have U2 := U.size
          refine ⟨k + 1, by omega, by go_num, ?_, ?_, (U.cell (p := ⟨p, 1, none⟩) hlp).trans C1'.out⟩
          · rw [AS.out]
            exact (D1.out.up U).mono (fun j hj => by rcases hj with hj | hj; exact .inl hj; exact .inr ⟨hj.1, by omega⟩) (fun j hj => by rcases hj with hj | hj; exact Nat.lt_of_lt_of_le (D1.out.lt j (.inl hj)) U.size; exact hj.2)
          · exact CC.out.trans (Below.chg F U) fun _ _ e => e
        case measure => simp [intOf]; omega
    · obtain rfl : k = d.pend.length := by omega
      have P := Lib.hid (pend_nil hD)
      obtain ⟨ok2, lt2, dv2, pv2, xs2, ys2, hp2, hb2, _⟩ := hD
      have q0 := hb2.free 1
      have CC := Lib.hid hC
      clear hC hb2
      go_wp2
      go_end0
      have hz : (wr.setCell ⟨p, 1, none⟩ (.slice none 0 0)).heap.size = wr.heap.size := by simp [World.setCell]
      refine ⟨rfl, P.out.1.mono (fun j hj => ?_) (fun j hj => ?_), CC.out.trans P.out.2 fun j hj e => ?_⟩
      · unfold Fx at *; rw [hz]; exact hj
      · rcases hj with hj | hj
        · have := HD.out.lt j hj; have := CC.out.size; omega
        · exact hj.2
      · rcases e with e | e
        · exact e
        · omega
end Go.Proofs.Ytmaeeidaegigcaa.Dk
