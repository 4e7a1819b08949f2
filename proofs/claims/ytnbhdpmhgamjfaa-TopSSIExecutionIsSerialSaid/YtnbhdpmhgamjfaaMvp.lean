/- The multi-version store: Vacuum. -/
import Derived.Test.YtnbhdpmhgamjfaaMvo
namespace Go.Proofs.Ytnbhdpmhgamjfaa.Mv
open Go Go.RowKit Hp So
set_option linter.unusedVariables false

def VacPost (p : Nat) (l' : List PC) (hz' r : Int) (F : Nat → Prop) (w : World) (e : Ending) (w' : World) : Prop := e = .returned (.int .i64 r) ∧ StR w' p l' hz' (Fx F w w') ∧ Chg F w w'
theorem Try.infoCh : (Try.prog.info? 97).map (fun i => (i.zero, i.size, i.bytes)) = some (some (.agg #[.string ByteArray.empty, .slice none 0 0]), 2, 40) := by kernel_rfl
set_option maxRecDepth 100000 in
set_option maxHeartbeats 1000000 in
theorem vac_arg (p : Nat) (l : List PC) (hz : Int) (F : Nat → Prop) (ts : Int) (w : World) (h : StR w p l hz F) (ht : ts < 0 ∨ 1099511627776 < ts) :
    Calls Try.prog 38 #[.pointer (some ⟨p, 0, none⟩), .int .i64 ts] w (VacPost p (vacuumL l hz ts).1 (vacuumL l hz ts).2.1 (vacuumL l hz ts).2.2 F w) := by
  have HP : Hid (vacuumL l hz ts = (l, hz, 1)) := by unfold Hid vacuumL; rw [if_pos ht]
  rcases Int.lt_or_le ts 0 with h1 | h1
  · clear ht
    go_enter Try.func38, Try.ntmps38
    go_wp2
    go_ret
    rw [HP.out]
    exact ⟨rfl, h.upP (Up.refl w)⟩
  · have h2 : ¬ ts < 0 := by omega
    have h3 : 1099511627776 < ts := by omega
    clear ht
    go_enter Try.func38, Try.ntmps38
    go_wp2
    go_ret
    rw [HP.out]
    exact ⟨rfl, h.upP (Up.refl w)⟩
set_option maxRecDepth 100000 in
set_option maxHeartbeats 1000000 in
theorem vac_same (p : Nat) (l : List PC) (hz : Int) (F : Nat → Prop) (ts : Int) (w : World) (h : StR w p l hz F) (h0 : ¬ ts < 0) (h1 : ¬ 1099511627776 < ts) (ht : ts ≤ hz) :
    Calls Try.prog 38 #[.pointer (some ⟨p, 0, none⟩), .int .i64 ts] w (VacPost p (vacuumL l hz ts).1 (vacuumL l hz ts).2.1 (vacuumL l hz ts).2.2 F w) := by
  have HP : Hid (vacuumL l hz ts = (l, hz, 0)) := by unfold Hid vacuumL; rw [if_neg (by omega), if_pos ht]
  have HH := Lib.hid h
  obtain ⟨cv, cs, h, _⟩ := h
  have c1 := h.blk.cell 1
  rw [show ([cv, .int .i64 hz])[1]? = some (.int .i64 hz) from rfl] at c1
  clear h
  go_enter Try.func38, Try.ntmps38
  go_wp2
  go_ret
  rw [HP.out]
  exact ⟨rfl, HH.out.upP (Up.refl w)⟩
theorem ver_at {w : World} {g m cap : Nat} {vs : List MV} (h : w.ownsRow 0 94 3 (.slice (some ⟨g, 0, none⟩) m cap) vs.length (mvC vs)) {j : Nat} (hj : j < vs.length) : At w g (j * 3) (.int .i64 (tsA vs j)) ∧ At w g (j * 3 + 1) (.bool (tbA vs j)) := by
  obtain ⟨g', cap', hv, _, _, hc⟩ := own_cell h (by omega)
  simp only [Value.slice.injEq, Option.some.injEq, Addr.mk.injEq, and_true] at hv
  obtain ⟨rfl, _⟩ := hv
  have gd : vs.getD j ⟨0, false, .slice none 0 0, []⟩ = vs[j] := by simp [List.getD, hj]
  unfold tsA tbA
  rw [gd]
  exact ⟨hc _ _ (mvC_get vs j hj).1, hc _ _ (mvC_get vs j hj).2.1⟩
theorem mvC_one {w : World} {F : Nat → Prop} {vs : List MV} (h : ∀ x ∈ vs, RowIn w F x.rv x.row) : ∀ u ∈ mvC vs, u.oneCell' = true := fun u hu => by
  obtain ⟨c, hc, hu⟩ := List.mem_flatMap.1 hu
  simp only [mvC1, List.mem_cons, List.not_mem_nil, or_false] at hu
  rcases hu with rfl | rfl | rfl
  · rfl
  · rfl
  · rw [slice_eq (h c hc)]; rfl
/-- What the loop makes of the first k chains. -/
def msOf (cs : List MC) (ts : Int) (k : Nat) (ms : List MC) : Prop := ms.map erC = vacL ((cs.take k).map erC) ts
theorem tsA_eq {vs : List MV} {j : Nat} (h : j < vs.length) : tsA vs j = vs[j].ts := by unfold tsA; simp [List.getD, h]
theorem tbA_eq {vs : List MV} {j : Nat} (h : j < vs.length) : tbA vs j = vs[j].tomb := by unfold tbA; simp [List.getD, h]
theorem vdrop_M {vs : List MV} {ts : Int} {f : Nat} (hs : (vs.map erV).Pairwise fun a b => a.ts < b.ts) (hf : f < vs.length) (h1 : ∀ j, 1 ≤ j → j ≤ f → tsA vs j ≤ ts) (h2 : f + 1 < vs.length → ts < tsA vs (f + 1)) : vdrop (vs.map erV) ts = if tsA vs f ≤ ts ∧ tbA vs f = true then f + 1 else f := by
  have hl : (vs.map erV).length = vs.length := List.length_map _
  have := vdrop_stop (l := vs.map erV) hs (ts := ts) (f := f) (by omega) (fun j h a b => by
    have := h1 j a b; rw [tsA_eq (by omega)] at this; simpa [erV] using this) (fun h => by
    have := h2 (by omega); rw [tsA_eq (by omega)] at this; simpa [erV] using this)
  rw [this, tsA_eq hf, tbA_eq hf]
  simp [erV]
theorem src_drop {w : World} {g n cap d size : Nat} {xs : List Value} (h : Src w size (.slice (some ⟨g, 0, none⟩) n cap) n xs) (hd : d ≤ n) : Src w size (.slice (some ⟨g, d * size, none⟩) (n - d) (cap - d)) (n - d) (xs.drop (d * size)) := by
  obtain ⟨hx, h⟩ := h
  refine ⟨by rw [List.length_drop, hx, Nat.sub_mul], .inr ?_⟩
  rcases h with ⟨e, _⟩ | ⟨b, off, cap', e, h1, h2, h3⟩
  · cases e
  · simp only [Value.slice.injEq, Option.some.injEq, Addr.mk.injEq, and_true, true_and] at e
    obtain ⟨⟨rfl, rfl⟩, rfl⟩ := e
    refine ⟨g, d * size, cap - d, rfl, by omega, by omega, fun j u hj => ?_⟩
    rw [List.getElem?_drop] at hj
    have := h3 _ _ hj
    rwa [Nat.zero_add] at this
theorem mvC_drop (l : List MV) (i : Nat) : (mvC l).drop (i * 3) = mvC (l.drop i) := fm_drop (f := mvC1) (k := 3) (fun _ => rfl) l i
theorem ms_step {cs ms : List MC} {ts : Int} {k d : Nat} {vv : Value} (hk : k < cs.length) (h : msOf cs ts k ms) (hd : vdrop (cs[k].vs.map erV) ts = d) (hlt : d < cs[k].vs.length) : msOf cs ts (k + 1) (ms ++ [⟨cs[k].key, vv, cs[k].vs.drop d⟩]) := by
  unfold msOf at *
  rw [List.map_take, vac_take _ _ _ (by rw [List.length_map]; exact hk), List.map_append, h, List.map_take]
  congr 1
  rw [List.getElem_map]
  unfold vac1
  rw [show (erC cs[k]).2 = cs[k].vs.map erV from rfl, hd, if_pos (by rw [List.length_map]; exact hlt)]
  simp [erC, List.map_drop]
theorem ms_len {cs ms : List MC} {ts : Int} {k : Nat} (h : msOf cs ts k ms) (hk : k ≤ cs.length) (hl : cs.length ≤ 400) : ms.length ≤ 400 := by
  unfold msOf at h
  have h1 := congrArg List.length h
  have h2 := vac_len ((cs.take k).map erC) ts
  rw [List.length_map] at h1
  rw [List.length_map, List.length_take] at h2
  have : min k cs.length ≤ k := Nat.min_le_left _ _
  omega
theorem ms_skip {cs ms : List MC} {ts : Int} {k d : Nat} (hk : k < cs.length) (h : msOf cs ts k ms) (hd : vdrop (cs[k].vs.map erV) ts = d) (hlt : ¬ d < cs[k].vs.length) : msOf cs ts (k + 1) ms := by
  unfold msOf at *
  rw [List.map_take, vac_take _ _ _ (by rw [List.length_map]; exact hk), h, List.map_take]
  rw [List.getElem_map]
  unfold vac1
  rw [show (erC cs[k]).2 = cs[k].vs.map erV from rfl, hd, if_neg (by rw [List.length_map]; exact hlt)]
  simp
set_option maxRecDepth 100000 in
set_option maxHeartbeats 8000000 in
theorem vac_main (p : Nat) (l : List PC) (hz : Int) (F : Nat → Prop) (ts : Int) (w : World) (h : StR w p l hz F) (h0 : ¬ ts < 0) (h1 : ¬ 1099511627776 < ts) (ht : ¬ ts ≤ hz) :
    Calls Try.prog 38 #[.pointer (some ⟨p, 0, none⟩), .int .i64 ts] w (VacPost p (vacuumL l hz ts).1 (vacuumL l hz ts).2.1 (vacuumL l hz ts).2.2 F w) := by
  obtain ⟨i0, hi0, hz0, hz1, hz2⟩ := info_parts Try.infoCh
  have HP : Hid (vacuumL l hz ts = (vacL l ts, ts, 0)) := by unfold Hid vacuumL; rw [if_neg (by omega), if_neg ht]
  obtain ⟨cv, cs, h, rfl, ok⟩ := h
  have hlen := ok.len
  rw [List.length_map] at hlen
  have HS := Lib.hid h
  have HOK := Lib.hid ok
  obtain ⟨a, cap, rfl, _, _, _⟩ := own_form h.chn
  have c1 := h.blk.cell 1
  rw [show ([Value.slice a cs.length cap, .int .i64 hz])[1]? = some (.int .i64 hz) from rfl] at c1
  have c0 := h.blk.cell 0
  rw [show ([Value.slice a cs.length cap, .int .i64 hz])[0]? = some (.slice a cs.length cap) from rfl] at c0
  have f1 := h.blk.free 1
  have hpl := h.blk.lt
  obtain ⟨w0, hw0⟩ : ∃ w0, w0 = w.setCell ⟨p, 1, none⟩ (.int .i64 ts) := ⟨_, rfl⟩
  have B0 : Blk w0 p [.slice a cs.length cap, .int .i64 ts] 83 := by rw [hw0]; exact h.blk.set 1 _
  have C0 : Chg (fun j => j = p) w w0 := by rw [hw0]; exact chg_set w p 1 none _
  have d0 : w0.cell? ⟨p, 0, none⟩ = some (.slice a cs.length cap) := B0.cell 0
  rw [hw0] at d0
  have HB0 := Lib.hid B0
  have HC0 := Lib.hid C0
  have HW0 := Lib.hid hw0
  have hz0' : w0.heap.size = w.heap.size := by rw [hw0]; simp [World.setCell]
  have HZ0 := Lib.hid hz0'
  clear h ok B0 C0 hw0 hz0'
  go_enter Try.func38, Try.ntmps38
  go_wp2
  have hw0 := HW0.out
  rw [← hw0]
  clear hw0 d0
  go_loopw [5, 30] (fun v i wr => ∃ k : Nat, k ≤ cs.length ∧ i = .int .i64 k ∧ Hid (∃ ms, VacP wr w.heap.size F v ms ∧ msOf cs ts k ms) ∧ Hid (Up w0 wr)) (fun _ i _ => cs.length - (intOf i).toNat)
  case atStart => exact ⟨0, by omega, rfl, ⟨[], VacP.nil _ _ _, rfl⟩, Up.refl _⟩
  case round =>
    obtain ⟨k, hk, rfl, HVc, HU⟩ := hrel
    by_cases hlt : k < cs.length
    · obtain ⟨wo, rfl⟩ : ∃ wo : World, wo = wr := ⟨_, rfl⟩
      have C : Hid (Chg (fun j => j = p) w wo) := HC0.out.trans (HU.out.chg fun j => j = p) fun _ _ e => e
      have NP : Hid (∀ k T, Ty w k T → T ≠ 83 → ¬ k = p) := fun k T ht hT e => by subst e; exact ht.ne hT (blk_ty HS.out.blk)
      have hckl : k < (cs.map erC).length := by rw [List.length_map]; exact hlt
      have hcm : erC cs[k] ∈ cs.map erC := List.mem_map.2 ⟨_, List.getElem_mem hlt, rfl⟩
      have hn0 : 0 < cs[k].vs.length := List.length_pos_iff.2 fun e => HOK.out.ne _ hcm (by simp [erC, e])
      have hn4 : cs[k].vs.length ≤ 400 := by
        have h1 := vs_len_le hckl
        have h2 := HOK.out.cnt
        have h3 : ((cs.map erC)[k]).2.length = cs[k].vs.length := by simp [erC]
        omega
      have hinc : Hid ((cs[k].vs.map erV).Pairwise fun a b => a.ts < b.ts) := HOK.out.inc _ hcm
      obtain ⟨g, cap', hgv, _, _, hcc⟩ := own_cell (own_chg HS.out.chn C.out fun j hj => NP.out j _ ((own_ty HS.out.chn) j hj).1 (by decide)) (by omega)
      simp only [Value.slice.injEq] at hgv
      obtain ⟨rfl, _, rfl⟩ := hgv
      have hvo := own_chg (HS.out.vrs _ (List.getElem_mem hlt)) C.out fun j hj => NP.out j _ ((own_ty (HS.out.vrs _ (List.getElem_mem hlt))) j hj).1 (by decide)
      have hrw : Hid (∀ x ∈ cs[k].vs, RowIn wo F x.rv x.row) := fun x hx => (HS.out.rws _ (List.getElem_mem hlt) x hx).chg C.out fun j hj hT => ⟨NP.out j _ hT (by decide), hj⟩
      obtain ⟨g1, cap1, hvv, hm1, hm2, _⟩ := own_cell hvo hn0
      have e0 := (hcc _ _ (mcC_get cs k hlt).1).2
      have e1 := (hcc _ _ (mcC_get cs k hlt).2).2
      rw [hvv] at e1 hvo
      have MS := Lib.hid (fun d vv ms (hm : msOf cs ts k ms) (hd : vdrop (cs[k].vs.map erV) ts = d) (hl : d < cs[k].vs.length) => ms_step (vv := vv) hlt hm hd hl)
      have MK := Lib.hid (fun d ms (hm : msOf cs ts k ms) (hd : vdrop (cs[k].vs.map erV) ts = d) (hl : ¬ d < cs[k].vs.length) => ms_skip hlt hm hd hl)
      generalize cs[k].vs = vs at *
      generalize cs[k].key = key at *
      obtain ⟨n, hn⟩ : ∃ n, n = vs.length := ⟨_, rfl⟩
      rw [← hn] at e1 hvo hn0 hn4 hm1
      have HN := Lib.hid hn
      have HVO := Lib.hid hvo
      clear hn hcc hvv hvo hcm hckl
      go_wp2
      obtain ⟨W, hW⟩ : ∃ W, W = wo.alloc (.cells #[.string key, .slice (some ⟨g1, 0, none⟩) n cap1] 97) := ⟨_, rfl⟩
      rw [← hW]
      have y0 : At W wo.heap.size 0 (.string key) := by rw [hW]; exact At.new _ _ _ 0 _ rfl
      have y1 : At W wo.heap.size 1 (.slice (some ⟨g1, 0, none⟩) n cap1) := by rw [hW]; exact At.new _ _ _ 1 _ rfl
      have UW : Hid (Up wo W) := by rw [hW]; exact (Up.refl _).alloc _
      have Y0 := Lib.hid y0
      have Y1 := Lib.hid y1
      have y0 := y0.2
      have y1 := y1.2
      have VA : Hid (∀ j, j < n → At W g1 (j * 3) (.int .i64 (tsA vs j)) ∧ At W g1 (j * 3 + 1) (.bool (tbA vs j))) := fun j hj => by
        have h := own_up HVO.out UW.out
        rw [HN.out] at h hj
        exact ver_at h hj
      clear hW e0 e1
      go_loopw [8] (fun fv wx => ∃ f : Nat, f < n ∧ fv = .int .i64 f ∧ Hid (∀ j, 1 ≤ j → j ≤ f → tsA vs j ≤ ts) ∧ wx = W) (fun fv _ => n - (intOf fv).toNat)
      case atStart => exact ⟨0, hn0, rfl, fun j h1 h2 => by omega, rfl⟩
      case round =>
        obtain ⟨f, hf, rfl, HF, hwx⟩ := hrel
        have hwx := hwx.symm
        subst hwx
        have v0 := (VA.out f hf).1.2
        have v1 := (VA.out f hf).2.2
        have b0 : (f : Int) < (n : Int) := by omega
        by_cases hgo : f + 1 < n ∧ tsA vs (f + 1) ≤ ts
        · obtain ⟨hf1, hf2⟩ := hgo
          have b1 : (f : Int) + 1 < (n : Int) := by omega
          have b2 : ((f : Int) + 1).toNat = f + 1 := by omega
          have b3 : (0 : Int) ≤ (f : Int) + 1 := by omega
          have v2 := (VA.out (f + 1) hf1).1.2
          have HF1 : Hid (∀ j, 1 ≤ j → j ≤ f + 1 → tsA vs j ≤ ts) := fun j h1 h2 => by
            rcases Nat.lt_or_ge j (f + 1) with h | h
            · exact HF.out j h1 (by omega)
            · obtain rfl : j = f + 1 := by omega
              exact hf2
          generalize tsA vs (f + 1) = t2 at *
          generalize tsA vs f = t1 at *
          generalize tbA vs f = tb1 at *
          go_wp2
          go_roundw
          case rel => exact ⟨f + 1, hf1, by go_num, HF1.out, by first | rfl | trivial⟩
          case measure => simp [intOf]; omega
        · have HD := Lib.hid (vdrop_M hinc.out (f := f) (by rw [← HN.out]; exact hf) HF.out (fun h => by rw [← HN.out] at h; by_cases e : tsA vs (f + 1) ≤ ts; exact absurd ⟨h, e⟩ hgo; omega))
          by_cases hx : f + 1 < n
          · have hgo2 : ¬ tsA vs (f + 1) ≤ ts := fun e => hgo ⟨hx, e⟩
            have b1 : (f : Int) + 1 < (n : Int) := by omega
            have b2 : ((f : Int) + 1).toNat = f + 1 := by omega
            have b3 : (0 : Int) ≤ (f : Int) + 1 := by omega
            have v2 := (VA.out (f + 1) hx).1.2
            clear hgo
            generalize tsA vs (f + 1) = t2 at *
            generalize tsA vs f = t1 at *
            generalize tbA vs f = tb1 at *
            by_cases hq : t1 ≤ ts
            · cases tb1 with
              | true =>
                rw [if_pos ⟨hq, rfl⟩] at HD
                have z1 : (0 : Int) ≤ (f : Int) + 1 := by omega
                have z2 : (f : Int) + 1 ≤ (n : Int) := by omega
                have z3 : (n : Int) ≤ (cap1 : Int) := by omega
                have z4 : (f : Int) + 1 ≤ (cap1 : Int) := by omega
                have z5 : ¬ cap1 = (f + 1) := by omega
                have z6 : ¬ (cap1 : Int) = (f : Int) + 1 := by omega
                have z7 : ¬ (cap1 - (f + 1) = 0) := by omega
                have HCLV : Hid (∀ W', Up W W' → Calls Try.prog 56 #[.slice (some ⟨g1, (f + 1) * 3, none⟩) (n - (f + 1)) (cap1 - (f + 1))] W' fun e w' => ∃ v', e = .returned v' ∧ w'.ownsRow W'.heap.size 94 3 v' (n - (f + 1)) (mvC (vs.drop (f + 1))) ∧ Up W' w') := fun W' hu => by
                  have h := src_drop (d := f + 1) (own_src (own_up HVO.out (UW.out.trans hu))) (by omega)
                  rw [mvC_drop] at h
                  exact cloneV _ _ _ W' h (mvC_one (fun x hx => hrw.out x (List.mem_of_mem_drop hx))) (by omega)
                have MS' := Lib.hid (fun vv ms hm => MS.out (f + 1) vv ms hm HD.out (by rw [← HN.out]; omega))
                have DL : Hid ((vs.drop (f + 1)).length = n - (f + 1)) := by unfold Hid; rw [List.length_drop, HN.out]
                obtain ⟨ms, hv, hms⟩ := HVc.out
                obtain ⟨av, cv', rfl, _, _, _⟩ := own_form hv.chn
                have HV := Lib.hid hv
                have HMS := Lib.hid hms
                have hmsl : ms.length ≤ 400 := ms_len hms hk hlen
                have hzw : w.heap.size ≤ wo.heap.size := by have := HU.out.size; have := HZ0.out; omega
                clear hv hms HF
                go_wp2
                go_region_held3 (fun w' => w'.cell? ⟨wo.heap.size, 0, none⟩ = some (.string key) ∧ w'.cell? ⟨wo.heap.size, 1, none⟩ = some (.slice (some ⟨g1, 0, none⟩) n cap1))
                  (first | exact ⟨s1, s2⟩ | exact ⟨r1, r2⟩ | go_keep)
                  (first
                    | (refine (HCLV.out _ (by first | exact Up.refl _ | exact (Up.refl _).drew)).mono ?_; rintro e w3 ⟨nv, rfl, h6, h7⟩; obtain ⟨an, cn, rfl, _, _, _⟩ := own_form h6; have h7' : Up W w3 := (by first | exact ((Up.refl W).drew).trans h7 | exact h7); have r1 := (Y0.out.grow h7').2; have r2 := (Y1.out.grow h7').2; have H8 := Lib.hid h6; have H9 := Lib.hid h7'; clear h6 h7 h7')
                    | (refine step_append_lies _ rfl (.tmp 76) (.tmp 85) 81 rfl w.heap.size 97 i0 (.agg #[.string ByteArray.empty, .slice none 0 0]) 2 40 Try.underlying81 hi0 hz0 hz1 hz2 rfl (by decide) (.slice av ms.length cv') ms.length (mcC ms) (by rfl) (by first | exact own_up HV.out.chn ((UW.out.trans H9.out).alloc _) | exact own_up HV.out.chn (((UW.out.trans H9.out).alloc _).drew)) ⟨w3.heap.size, 0, none⟩ 1 1 [.string key, .slice an (n - (f + 1)) cn] (by rfl) rfl (rcell w3 w3.heap.size rfl _ _ _) (by intro u hu; simp at hu; rcases hu with rfl | rfl <;> rfl) (by decide) (by unfold maxLen; omega) (by omega) (by have := (UW.out.trans H9.out).size; simp; omega) (w3.heap.size + 1) (by simp) ?_
                       intro g2 c2 w4 hown2 hgrow2 hat2 hlt2
                       have HC : Hid (Chg (fun j => (Value.slice av ms.length cv').ownBlock = some j) w3 w4) := ((Chg.refl _ w3).alloc _).grown hgrow2 fun k hk => .inl hk
                       have nv : ∀ j, (Value.slice av ms.length cv').ownBlock = some j → j < wo.heap.size ∧ w.heap.size ≤ j := fun j hj => ⟨own_lt HV.out.chn j hj, ((own_ty HV.out.chn) j hj).2⟩
                       have NV := Lib.hid nv
                       have s1 := (HC.out.cell (b := wo.heap.size) (o := 0) (Y0.out.grow H9.out).1 (fun e => by have := (NV.out _ e).1; omega)).trans r1
                       have s2 := (HC.out.cell (b := wo.heap.size) (o := 1) (Y1.out.grow H9.out).1 (fun e => by have := (NV.out _ e).1; omega)).trans r2
                       clear nv
                       have hown2 := Lib.hid hown2
                       have hgrow2 := Lib.hid hgrow2
                       have hat2 := Lib.hid hat2)
                       | fail)
                all_goals
                  go_wp2
                  go_roundw
                  case rel =>
                    refine ⟨k + 1, by omega, by go_num, ⟨_, VacP.snoc HV.out hzw UW.out (by rw [DL.out]; exact H8.out) H9.out hown2.out HC.out (fun x hx => (hrw.out x (List.mem_of_mem_drop hx)).chg (Below.chg (fun _ => False) UW.out) fun j hj _ => ⟨fun e => e, hj⟩), MS'.out _ ms HMS.out⟩, ?_⟩
                    exact (((HU.out.trans UW.out).trans H9.out).chg fun _ => False).trans HC.out (fun j hj e => by have := (NV.out j e).2; have := HZ0.out; omega) |>.up fun _ _ e => e
                  case measure => simp [intOf]; omega
              | false =>
                rw [if_neg (by simp)] at HD
                have z1 : (0 : Int) ≤ (f : Int) := by omega
                have z2 : (f : Int) ≤ (n : Int) := by omega
                have z3 : (n : Int) ≤ (cap1 : Int) := by omega
                have z4 : (f : Int) ≤ (cap1 : Int) := by omega
                have z5 : ¬ cap1 = f := by omega
                have z6 : ¬ (cap1 : Int) = (f : Int) := by omega
                have z7 : ¬ (cap1 - f = 0) := by omega
                have HCLV : Hid (∀ W', Up W W' → Calls Try.prog 56 #[.slice (some ⟨g1, f * 3, none⟩) (n - f) (cap1 - f)] W' fun e w' => ∃ v', e = .returned v' ∧ w'.ownsRow W'.heap.size 94 3 v' (n - f) (mvC (vs.drop f)) ∧ Up W' w') := fun W' hu => by
                  have h := src_drop (d := f) (own_src (own_up HVO.out (UW.out.trans hu))) (by omega)
                  rw [mvC_drop] at h
                  exact cloneV _ _ _ W' h (mvC_one (fun x hx => hrw.out x (List.mem_of_mem_drop hx))) (by omega)
                have MS' := Lib.hid (fun vv ms hm => MS.out f vv ms hm HD.out (by rw [← HN.out]; omega))
                have DL : Hid ((vs.drop f).length = n - f) := by unfold Hid; rw [List.length_drop, HN.out]
                obtain ⟨ms, hv, hms⟩ := HVc.out
                obtain ⟨av, cv', rfl, _, _, _⟩ := own_form hv.chn
                have HV := Lib.hid hv
                have HMS := Lib.hid hms
                have hmsl : ms.length ≤ 400 := ms_len hms hk hlen
                have hzw : w.heap.size ≤ wo.heap.size := by have := HU.out.size; have := HZ0.out; omega
                clear hv hms HF
                go_wp2
                go_region_held3 (fun w' => w'.cell? ⟨wo.heap.size, 0, none⟩ = some (.string key) ∧ w'.cell? ⟨wo.heap.size, 1, none⟩ = some (.slice (some ⟨g1, 0, none⟩) n cap1))
                  (first | exact ⟨s1, s2⟩ | exact ⟨r1, r2⟩ | go_keep)
                  (first
                    | (refine (HCLV.out _ (by first | exact Up.refl _ | exact (Up.refl _).drew)).mono ?_; rintro e w3 ⟨nv, rfl, h6, h7⟩; obtain ⟨an, cn, rfl, _, _, _⟩ := own_form h6; have h7' : Up W w3 := (by first | exact ((Up.refl W).drew).trans h7 | exact h7); have r1 := (Y0.out.grow h7').2; have r2 := (Y1.out.grow h7').2; have H8 := Lib.hid h6; have H9 := Lib.hid h7'; clear h6 h7 h7')
                    | (refine step_append_lies _ rfl (.tmp 76) (.tmp 85) 81 rfl w.heap.size 97 i0 (.agg #[.string ByteArray.empty, .slice none 0 0]) 2 40 Try.underlying81 hi0 hz0 hz1 hz2 rfl (by decide) (.slice av ms.length cv') ms.length (mcC ms) (by rfl) (by first | exact own_up HV.out.chn ((UW.out.trans H9.out).alloc _) | exact own_up HV.out.chn (((UW.out.trans H9.out).alloc _).drew)) ⟨w3.heap.size, 0, none⟩ 1 1 [.string key, .slice an (n - f) cn] (by rfl) rfl (rcell w3 w3.heap.size rfl _ _ _) (by intro u hu; simp at hu; rcases hu with rfl | rfl <;> rfl) (by decide) (by unfold maxLen; omega) (by omega) (by have := (UW.out.trans H9.out).size; simp; omega) (w3.heap.size + 1) (by simp) ?_
                       intro g2 c2 w4 hown2 hgrow2 hat2 hlt2
                       have HC : Hid (Chg (fun j => (Value.slice av ms.length cv').ownBlock = some j) w3 w4) := ((Chg.refl _ w3).alloc _).grown hgrow2 fun k hk => .inl hk
                       have nv : ∀ j, (Value.slice av ms.length cv').ownBlock = some j → j < wo.heap.size ∧ w.heap.size ≤ j := fun j hj => ⟨own_lt HV.out.chn j hj, ((own_ty HV.out.chn) j hj).2⟩
                       have NV := Lib.hid nv
                       have s1 := (HC.out.cell (b := wo.heap.size) (o := 0) (Y0.out.grow H9.out).1 (fun e => by have := (NV.out _ e).1; omega)).trans r1
                       have s2 := (HC.out.cell (b := wo.heap.size) (o := 1) (Y1.out.grow H9.out).1 (fun e => by have := (NV.out _ e).1; omega)).trans r2
                       clear nv
                       have hown2 := Lib.hid hown2
                       have hgrow2 := Lib.hid hgrow2
                       have hat2 := Lib.hid hat2)
                       | fail)
                all_goals
                  go_wp2
                  go_roundw
                  case rel =>
                    refine ⟨k + 1, by omega, by go_num, ⟨_, VacP.snoc HV.out hzw UW.out (by rw [DL.out]; exact H8.out) H9.out hown2.out HC.out (fun x hx => (hrw.out x (List.mem_of_mem_drop hx)).chg (Below.chg (fun _ => False) UW.out) fun j hj _ => ⟨fun e => e, hj⟩), MS'.out _ ms HMS.out⟩, ?_⟩
                    exact (((HU.out.trans UW.out).trans H9.out).chg fun _ => False).trans HC.out (fun j hj e => by have := (NV.out j e).2; have := HZ0.out; omega) |>.up fun _ _ e => e
                  case measure => simp [intOf]; omega
            · rw [if_neg (fun e => hq e.1)] at HD
              have z1 : (0 : Int) ≤ (f : Int) := by omega
              have z2 : (f : Int) ≤ (n : Int) := by omega
              have z3 : (n : Int) ≤ (cap1 : Int) := by omega
              have z4 : (f : Int) ≤ (cap1 : Int) := by omega
              have z5 : ¬ cap1 = f := by omega
              have z6 : ¬ (cap1 : Int) = (f : Int) := by omega
              have z7 : ¬ (cap1 - f = 0) := by omega
              have HCLV : Hid (∀ W', Up W W' → Calls Try.prog 56 #[.slice (some ⟨g1, f * 3, none⟩) (n - f) (cap1 - f)] W' fun e w' => ∃ v', e = .returned v' ∧ w'.ownsRow W'.heap.size 94 3 v' (n - f) (mvC (vs.drop f)) ∧ Up W' w') := fun W' hu => by
                have h := src_drop (d := f) (own_src (own_up HVO.out (UW.out.trans hu))) (by omega)
                rw [mvC_drop] at h
                exact cloneV _ _ _ W' h (mvC_one (fun x hx => hrw.out x (List.mem_of_mem_drop hx))) (by omega)
              have MS' := Lib.hid (fun vv ms hm => MS.out f vv ms hm HD.out (by rw [← HN.out]; omega))
              have DL : Hid ((vs.drop f).length = n - f) := by unfold Hid; rw [List.length_drop, HN.out]
              obtain ⟨ms, hv, hms⟩ := HVc.out
              obtain ⟨av, cv', rfl, _, _, _⟩ := own_form hv.chn
              have HV := Lib.hid hv
              have HMS := Lib.hid hms
              have hmsl : ms.length ≤ 400 := ms_len hms hk hlen
              have hzw : w.heap.size ≤ wo.heap.size := by have := HU.out.size; have := HZ0.out; omega
              clear hv hms HF
              go_wp2
              go_region_held3 (fun w' => w'.cell? ⟨wo.heap.size, 0, none⟩ = some (.string key) ∧ w'.cell? ⟨wo.heap.size, 1, none⟩ = some (.slice (some ⟨g1, 0, none⟩) n cap1))
                (first | exact ⟨s1, s2⟩ | exact ⟨r1, r2⟩ | go_keep)
                (first
                  | (refine (HCLV.out _ (by first | exact Up.refl _ | exact (Up.refl _).drew)).mono ?_; rintro e w3 ⟨nv, rfl, h6, h7⟩; obtain ⟨an, cn, rfl, _, _, _⟩ := own_form h6; have h7' : Up W w3 := (by first | exact ((Up.refl W).drew).trans h7 | exact h7); have r1 := (Y0.out.grow h7').2; have r2 := (Y1.out.grow h7').2; have H8 := Lib.hid h6; have H9 := Lib.hid h7'; clear h6 h7 h7')
                  | (refine step_append_lies _ rfl (.tmp 76) (.tmp 85) 81 rfl w.heap.size 97 i0 (.agg #[.string ByteArray.empty, .slice none 0 0]) 2 40 Try.underlying81 hi0 hz0 hz1 hz2 rfl (by decide) (.slice av ms.length cv') ms.length (mcC ms) (by rfl) (by first | exact own_up HV.out.chn ((UW.out.trans H9.out).alloc _) | exact own_up HV.out.chn (((UW.out.trans H9.out).alloc _).drew)) ⟨w3.heap.size, 0, none⟩ 1 1 [.string key, .slice an (n - f) cn] (by rfl) rfl (rcell w3 w3.heap.size rfl _ _ _) (by intro u hu; simp at hu; rcases hu with rfl | rfl <;> rfl) (by decide) (by unfold maxLen; omega) (by omega) (by have := (UW.out.trans H9.out).size; simp; omega) (w3.heap.size + 1) (by simp) ?_
                     intro g2 c2 w4 hown2 hgrow2 hat2 hlt2
                     have HC : Hid (Chg (fun j => (Value.slice av ms.length cv').ownBlock = some j) w3 w4) := ((Chg.refl _ w3).alloc _).grown hgrow2 fun k hk => .inl hk
                     have nv : ∀ j, (Value.slice av ms.length cv').ownBlock = some j → j < wo.heap.size ∧ w.heap.size ≤ j := fun j hj => ⟨own_lt HV.out.chn j hj, ((own_ty HV.out.chn) j hj).2⟩
                     have NV := Lib.hid nv
                     have s1 := (HC.out.cell (b := wo.heap.size) (o := 0) (Y0.out.grow H9.out).1 (fun e => by have := (NV.out _ e).1; omega)).trans r1
                     have s2 := (HC.out.cell (b := wo.heap.size) (o := 1) (Y1.out.grow H9.out).1 (fun e => by have := (NV.out _ e).1; omega)).trans r2
                     clear nv
                     have hown2 := Lib.hid hown2
                     have hgrow2 := Lib.hid hgrow2
                     have hat2 := Lib.hid hat2)
                     | fail)
              all_goals
                go_wp2
                go_roundw
                case rel =>
                  refine ⟨k + 1, by omega, by go_num, ⟨_, VacP.snoc HV.out hzw UW.out (by rw [DL.out]; exact H8.out) H9.out hown2.out HC.out (fun x hx => (hrw.out x (List.mem_of_mem_drop hx)).chg (Below.chg (fun _ => False) UW.out) fun j hj _ => ⟨fun e => e, hj⟩), MS'.out _ ms HMS.out⟩, ?_⟩
                  exact (((HU.out.trans UW.out).trans H9.out).chg fun _ => False).trans HC.out (fun j hj e => by have := (NV.out j e).2; have := HZ0.out; omega) |>.up fun _ _ e => e
                case measure => simp [intOf]; omega
          · have b1 : ¬ (f : Int) + 1 < (n : Int) := by omega
            clear hgo
            generalize tsA vs f = t1 at *
            generalize tbA vs f = tb1 at *
            by_cases hq : t1 ≤ ts
            · cases tb1 with
              | true =>
                rw [if_pos ⟨hq, rfl⟩] at HD
                have MK' := Lib.hid (fun ms hm => MK.out (f + 1) ms hm HD.out (by rw [← HN.out]; omega))
                obtain ⟨ms, hv, hms⟩ := HVc.out
                have HV := Lib.hid hv
                have HMS := Lib.hid hms
                clear hv hms HF
                go_wp2
                go_roundw
                case rel => exact ⟨k + 1, by omega, by go_num, ⟨ms, HV.out.up UW.out, MK'.out ms HMS.out⟩, HU.out.trans UW.out⟩
                case measure => simp [intOf]; omega
              | false =>
                rw [if_neg (by simp)] at HD
                have z1 : (0 : Int) ≤ (f : Int) := by omega
                have z2 : (f : Int) ≤ (n : Int) := by omega
                have z3 : (n : Int) ≤ (cap1 : Int) := by omega
                have z4 : (f : Int) ≤ (cap1 : Int) := by omega
                have z5 : ¬ cap1 = f := by omega
                have z6 : ¬ (cap1 : Int) = (f : Int) := by omega
                have z7 : ¬ (cap1 - f = 0) := by omega
                have HCLV : Hid (∀ W', Up W W' → Calls Try.prog 56 #[.slice (some ⟨g1, f * 3, none⟩) (n - f) (cap1 - f)] W' fun e w' => ∃ v', e = .returned v' ∧ w'.ownsRow W'.heap.size 94 3 v' (n - f) (mvC (vs.drop f)) ∧ Up W' w') := fun W' hu => by
                  have h := src_drop (d := f) (own_src (own_up HVO.out (UW.out.trans hu))) (by omega)
                  rw [mvC_drop] at h
                  exact cloneV _ _ _ W' h (mvC_one (fun x hx => hrw.out x (List.mem_of_mem_drop hx))) (by omega)
                have MS' := Lib.hid (fun vv ms hm => MS.out f vv ms hm HD.out (by rw [← HN.out]; omega))
                have DL : Hid ((vs.drop f).length = n - f) := by unfold Hid; rw [List.length_drop, HN.out]
                obtain ⟨ms, hv, hms⟩ := HVc.out
                obtain ⟨av, cv', rfl, _, _, _⟩ := own_form hv.chn
                have HV := Lib.hid hv
                have HMS := Lib.hid hms
                have hmsl : ms.length ≤ 400 := ms_len hms hk hlen
                have hzw : w.heap.size ≤ wo.heap.size := by have := HU.out.size; have := HZ0.out; omega
                clear hv hms HF
                go_wp2
                go_region_held3 (fun w' => w'.cell? ⟨wo.heap.size, 0, none⟩ = some (.string key) ∧ w'.cell? ⟨wo.heap.size, 1, none⟩ = some (.slice (some ⟨g1, 0, none⟩) n cap1))
                  (first | exact ⟨s1, s2⟩ | exact ⟨r1, r2⟩ | go_keep)
                  (first
                    | (refine (HCLV.out _ (by first | exact Up.refl _ | exact (Up.refl _).drew)).mono ?_; rintro e w3 ⟨nv, rfl, h6, h7⟩; obtain ⟨an, cn, rfl, _, _, _⟩ := own_form h6; have h7' : Up W w3 := (by first | exact ((Up.refl W).drew).trans h7 | exact h7); have r1 := (Y0.out.grow h7').2; have r2 := (Y1.out.grow h7').2; have H8 := Lib.hid h6; have H9 := Lib.hid h7'; clear h6 h7 h7')
                    | (refine step_append_lies _ rfl (.tmp 76) (.tmp 85) 81 rfl w.heap.size 97 i0 (.agg #[.string ByteArray.empty, .slice none 0 0]) 2 40 Try.underlying81 hi0 hz0 hz1 hz2 rfl (by decide) (.slice av ms.length cv') ms.length (mcC ms) (by rfl) (by first | exact own_up HV.out.chn ((UW.out.trans H9.out).alloc _) | exact own_up HV.out.chn (((UW.out.trans H9.out).alloc _).drew)) ⟨w3.heap.size, 0, none⟩ 1 1 [.string key, .slice an (n - f) cn] (by rfl) rfl (rcell w3 w3.heap.size rfl _ _ _) (by intro u hu; simp at hu; rcases hu with rfl | rfl <;> rfl) (by decide) (by unfold maxLen; omega) (by omega) (by have := (UW.out.trans H9.out).size; simp; omega) (w3.heap.size + 1) (by simp) ?_
                       intro g2 c2 w4 hown2 hgrow2 hat2 hlt2
                       have HC : Hid (Chg (fun j => (Value.slice av ms.length cv').ownBlock = some j) w3 w4) := ((Chg.refl _ w3).alloc _).grown hgrow2 fun k hk => .inl hk
                       have nv : ∀ j, (Value.slice av ms.length cv').ownBlock = some j → j < wo.heap.size ∧ w.heap.size ≤ j := fun j hj => ⟨own_lt HV.out.chn j hj, ((own_ty HV.out.chn) j hj).2⟩
                       have NV := Lib.hid nv
                       have s1 := (HC.out.cell (b := wo.heap.size) (o := 0) (Y0.out.grow H9.out).1 (fun e => by have := (NV.out _ e).1; omega)).trans r1
                       have s2 := (HC.out.cell (b := wo.heap.size) (o := 1) (Y1.out.grow H9.out).1 (fun e => by have := (NV.out _ e).1; omega)).trans r2
                       clear nv
                       have hown2 := Lib.hid hown2
                       have hgrow2 := Lib.hid hgrow2
                       have hat2 := Lib.hid hat2)
                       | fail)
                all_goals
                  go_wp2
                  go_roundw
                  case rel =>
                    refine ⟨k + 1, by omega, by go_num, ⟨_, VacP.snoc HV.out hzw UW.out (by rw [DL.out]; exact H8.out) H9.out hown2.out HC.out (fun x hx => (hrw.out x (List.mem_of_mem_drop hx)).chg (Below.chg (fun _ => False) UW.out) fun j hj _ => ⟨fun e => e, hj⟩), MS'.out _ ms HMS.out⟩, ?_⟩
                    exact (((HU.out.trans UW.out).trans H9.out).chg fun _ => False).trans HC.out (fun j hj e => by have := (NV.out j e).2; have := HZ0.out; omega) |>.up fun _ _ e => e
                  case measure => simp [intOf]; omega
            · rw [if_neg (fun e => hq e.1)] at HD
              have z1 : (0 : Int) ≤ (f : Int) := by omega
              have z2 : (f : Int) ≤ (n : Int) := by omega
              have z3 : (n : Int) ≤ (cap1 : Int) := by omega
              have z4 : (f : Int) ≤ (cap1 : Int) := by omega
              have z5 : ¬ cap1 = f := by omega
              have z6 : ¬ (cap1 : Int) = (f : Int) := by omega
              have z7 : ¬ (cap1 - f = 0) := by omega
              have HCLV : Hid (∀ W', Up W W' → Calls Try.prog 56 #[.slice (some ⟨g1, f * 3, none⟩) (n - f) (cap1 - f)] W' fun e w' => ∃ v', e = .returned v' ∧ w'.ownsRow W'.heap.size 94 3 v' (n - f) (mvC (vs.drop f)) ∧ Up W' w') := fun W' hu => by
                have h := src_drop (d := f) (own_src (own_up HVO.out (UW.out.trans hu))) (by omega)
                rw [mvC_drop] at h
                exact cloneV _ _ _ W' h (mvC_one (fun x hx => hrw.out x (List.mem_of_mem_drop hx))) (by omega)
              have MS' := Lib.hid (fun vv ms hm => MS.out f vv ms hm HD.out (by rw [← HN.out]; omega))
              have DL : Hid ((vs.drop f).length = n - f) := by unfold Hid; rw [List.length_drop, HN.out]
              obtain ⟨ms, hv, hms⟩ := HVc.out
              obtain ⟨av, cv', rfl, _, _, _⟩ := own_form hv.chn
              have HV := Lib.hid hv
              have HMS := Lib.hid hms
              have hmsl : ms.length ≤ 400 := ms_len hms hk hlen
              have hzw : w.heap.size ≤ wo.heap.size := by have := HU.out.size; have := HZ0.out; omega
              clear hv hms HF
              go_wp2
              go_region_held3 (fun w' => w'.cell? ⟨wo.heap.size, 0, none⟩ = some (.string key) ∧ w'.cell? ⟨wo.heap.size, 1, none⟩ = some (.slice (some ⟨g1, 0, none⟩) n cap1))
                (first | exact ⟨s1, s2⟩ | exact ⟨r1, r2⟩ | go_keep)
                (first
                  | (refine (HCLV.out _ (by first | exact Up.refl _ | exact (Up.refl _).drew)).mono ?_; rintro e w3 ⟨nv, rfl, h6, h7⟩; obtain ⟨an, cn, rfl, _, _, _⟩ := own_form h6; have h7' : Up W w3 := (by first | exact ((Up.refl W).drew).trans h7 | exact h7); have r1 := (Y0.out.grow h7').2; have r2 := (Y1.out.grow h7').2; have H8 := Lib.hid h6; have H9 := Lib.hid h7'; clear h6 h7 h7')
                  | (refine step_append_lies _ rfl (.tmp 76) (.tmp 85) 81 rfl w.heap.size 97 i0 (.agg #[.string ByteArray.empty, .slice none 0 0]) 2 40 Try.underlying81 hi0 hz0 hz1 hz2 rfl (by decide) (.slice av ms.length cv') ms.length (mcC ms) (by rfl) (by first | exact own_up HV.out.chn ((UW.out.trans H9.out).alloc _) | exact own_up HV.out.chn (((UW.out.trans H9.out).alloc _).drew)) ⟨w3.heap.size, 0, none⟩ 1 1 [.string key, .slice an (n - f) cn] (by rfl) rfl (rcell w3 w3.heap.size rfl _ _ _) (by intro u hu; simp at hu; rcases hu with rfl | rfl <;> rfl) (by decide) (by unfold maxLen; omega) (by omega) (by have := (UW.out.trans H9.out).size; simp; omega) (w3.heap.size + 1) (by simp) ?_
                     intro g2 c2 w4 hown2 hgrow2 hat2 hlt2
                     have HC : Hid (Chg (fun j => (Value.slice av ms.length cv').ownBlock = some j) w3 w4) := ((Chg.refl _ w3).alloc _).grown hgrow2 fun k hk => .inl hk
                     have nv : ∀ j, (Value.slice av ms.length cv').ownBlock = some j → j < wo.heap.size ∧ w.heap.size ≤ j := fun j hj => ⟨own_lt HV.out.chn j hj, ((own_ty HV.out.chn) j hj).2⟩
                     have NV := Lib.hid nv
                     have s1 := (HC.out.cell (b := wo.heap.size) (o := 0) (Y0.out.grow H9.out).1 (fun e => by have := (NV.out _ e).1; omega)).trans r1
                     have s2 := (HC.out.cell (b := wo.heap.size) (o := 1) (Y1.out.grow H9.out).1 (fun e => by have := (NV.out _ e).1; omega)).trans r2
                     clear nv
                     have hown2 := Lib.hid hown2
                     have hgrow2 := Lib.hid hgrow2
                     have hat2 := Lib.hid hat2)
                     | fail)
              all_goals
                go_wp2
                go_roundw
                case rel =>
                  refine ⟨k + 1, by omega, by go_num, ⟨_, VacP.snoc HV.out hzw UW.out (by rw [DL.out]; exact H8.out) H9.out hown2.out HC.out (fun x hx => (hrw.out x (List.mem_of_mem_drop hx)).chg (Below.chg (fun _ => False) UW.out) fun j hj _ => ⟨fun e => e, hj⟩), MS'.out _ ms HMS.out⟩, ?_⟩
                  exact (((HU.out.trans UW.out).trans H9.out).chg fun _ => False).trans HC.out (fun j hj e => by have := (NV.out j e).2; have := HZ0.out; omega) |>.up fun _ _ e => e
                case measure => simp [intOf]; omega
    · obtain rfl : k = cs.length := by omega
      obtain ⟨ms, hv, hms⟩ := HVc.out
      obtain ⟨av, cv', rfl, _, _, _⟩ := own_form hv.chn
      have e0 := (HB0.out.up HU.out).free 0
      have e1 := (HB0.out.up HU.out).cell 0
      rw [show ([Value.slice a cs.length cap, .int .i64 ts])[0]? = some (.slice a cs.length cap) from rfl] at e1
      have HV := Lib.hid hv
      have HM := Lib.hid hms
      clear hv hms
      go_wp2
      go_ret
      rw [HP.out]
      have hA := HV.out.done (ts := ts) (hz := hz) HS.out.lt HS.out.fp (HB0.out.up HU.out) (HC0.out.trans (HU.out.chg fun j => j = p) fun _ _ e => e)
      refine ⟨rfl, ⟨_, _, hA.1, ?_, HOK.out.vac ts⟩, hA.2⟩
      have := HM.out
      unfold msOf at this
      rwa [List.take_length] at this
end Go.Proofs.Ytnbhdpmhgamjfaa.Mv
