/- The checkpoint store: search, applied. -/
import Derived.Test.YtmaeeidaegigcaaCkb
import Derived.Test.YtmaeeidaegigcaaCkc
import Derived.Test.YtmaeeidaegigcaaCkd
import Derived.Test.YtmaeeidaegigcaaCke
import Derived.Deep.CutRange
import Derived.Deep.RegionHeld3
namespace Go.Proofs.Ytmaeeidaegigcaa.Ck
open Go Go.RowKit Hp So
set_option linter.unusedVariables false

set_option maxRecDepth 100000 in
set_option maxHeartbeats 1000000 in
theorem search_any (v : Value) (l : Ws) (t : ByteArray) (w : World) (h : w.ownsRow 0 62 2 v l.length (ec l)) (hs : Srt l) (hl : l.length ≤ 1000) :
    Calls Try.prog 69 #[v, .string t] w fun e w' => e = .returned (.tuple #[.int .i64 (pos l t : Nat), .bool (has l t)]) ∧ Up w w' := by
  have hc : Calls Try.prog 56 #[v, .string t, .func (.func 75) #[] #[]] w fun e w' => e = .returned (.tuple #[.int .i64 (pos l t : Nat), .bool (has l t)]) ∧ Up w w' := by
    refine (bs_any v l.length (ec l) (fun i => (l.getD i (t, ByteArray.empty)).1) (fun i => .string (l.getD i (t, ByteArray.empty)).2) t w h (by omega) (fun i hi => ?_) (mono_scmp hs t (t, ByteArray.empty))).mono ?_
    · have := ec_get l i hi
      rw [show l.getD i (t, ByteArray.empty) = l[i] by simp [List.getD, hi]]; exact this
    · rintro e w' ⟨i, h1, h2, h3, rfl, h4⟩
      obtain ⟨e1, e2⟩ := pos_get h1 h2 h3
      exact ⟨by rw [e1, ← e2], h4⟩
  clear h
  go_enter Try.func69, Try.ntmps69
  go_wp2_with (go_at_call 56; refine hc.mono ?_; rintro e w' ⟨rfl, h4⟩)
  go_ret2
  exact ⟨rfl, h4⟩
theorem clone_own (v : Value) (l : Ws) (w : World) (h : w.ownsRow 0 62 2 v l.length (ec l)) (hl : l.length ≤ 1000) :
    Calls Try.prog 54 #[v] w fun e w' => ∃ v', e = .returned v' ∧ Hid (w'.ownsRow w.heap.size 62 2 v' l.length (ec l)) ∧ Hid (Up w w') := by
  exact cloneE v l.length (ec l) w (own_src h) (ec_one l) (by omega)
theorem emp_no {s : ByteArray} (h : ¬ s = ByteArray.empty) : s.toList.isEmpty = false := by
  rw [tl]
  cases hb : s.data.toList.isEmpty with
  | false => rfl
  | true => exact absurd (ba_inj (List.isEmpty_iff.1 hb)) h
theorem emp_iff (s : ByteArray) : s = ByteArray.empty ↔ s.size = 0 := by
  constructor
  · intro h; rw [h]; rfl
  · intro h
    refine ba_inj ?_
    have : s.data.toList.length = 0 := by simpa using h
    rw [List.eq_nil_of_length_eq_zero this]
    rfl
set_option maxRecDepth 100000 in
set_option maxHeartbeats 4000000 in
theorem applied_any (v : Value) (l : Ws) (u : ByteArray × ByteArray) (w : World) (h : w.ownsRow 0 62 2 v l.length (ec l)) (hs : Srt l) (hl : l.length ≤ 1000) :
    Calls Try.prog 62 #[v, .agg #[.string u.1, .string u.2]] w fun e w' => ∃ v', e = .returned v' ∧ w'.ownsRow 0 62 2 v' (apL l u).length (ec (apL l u)) ∧ Up w w' ∧ ∀ k, v'.ownBlock = some k → v.ownBlock = some k ∨ w.heap.size ≤ k := by
  obtain ⟨k, x⟩ := u
  have HS := Lib.hid (fun W (hu : Up w W) => search_any v l k W (own_up h hu) hs hl)
  have HC := Lib.hid (fun W (hu : Up w W) => clone_own v l W (own_up h hu) hl)
  have HO := Lib.hid h
  obtain ⟨va, vc, rfl, _, _, _⟩ := own_form h
  clear h
  obtain ⟨ps, hps⟩ : ∃ ps, ps = pos l k := ⟨_, rfl⟩
  obtain ⟨hb, hhb⟩ : ∃ hb, hb = has l k := ⟨_, rfl⟩
  have hple := pos_le l k
  rw [← hps] at hple
  rw [← hps, ← hhb] at HS
  have HPS := Lib.hid hps
  have HHB := Lib.hid hhb
  have hpi0 : (ps : Int) ≤ (l.length : Int) := by omega
  have hpi9 : (l.length : Int) ≤ 1000 := by omega
  clear hps hhb
  go_enter Try.func62, Try.ntmps62
  go_upto_region 2 with (first
    | (go_at_call 69; refine (HS.out _ ((Up.refl w).alloc _)).mono ?_; rintro e w1 ⟨rfl, h1⟩; have U1 : Hid (Up w w1) := ((Up.refl w).alloc _).trans h1; have B1 := (Blk.new w #[.string k, .string x] 62).up h1; have y0 := B1.cell 0; have y1 := B1.cell 1; have yl := B1.lt; clear h1)
    | fail)
  rw [show (#[Value.string k, .string x].toList)[0]? = some (.string k) from rfl] at y0
  rw [show (#[Value.string k, .string x].toList)[1]? = some (.string x) from rfl] at y1
  have hgw : w.heap.size ≤ w.heap.size := Nat.le_refl _
  generalize hbx : w.heap.size = bx at *
  have HCL := Lib.hid (HC.out w1 U1.out)
  have hb1 : bx ≤ w1.heap.size := by rw [← hbx]; exact U1.out.size
  cases hb with
  | true =>
    obtain ⟨hp, he⟩ := has_pos HHB.out.symm
    rw [← HPS.out] at hp
    have hpi : (ps : Int) < (l.length : Int) := by omega
    by_cases hx : x = ByteArray.empty
    · have HA : Hid (apL l (k, x) = l.take ps ++ l.drop (ps + 1)) := by unfold Hid apL; rw [if_pos HHB.out.symm, if_pos hx, HPS.out]
      have HDEL : Hid (∀ W v2, Hid (W.ownsRow w1.heap.size 62 2 v2 l.length (ec l)) → Hid (Up w1 W) → Calls Try.prog 59 #[v2, .int .i64 (ps : Int), .int .i64 ((ps : Int) + 1)] W fun e w' => ∃ v3, e = .returned v3 ∧ Hid (w'.ownsRow 0 62 2 v3 (apL l (k, x)).length (ec (apL l (k, x)))) ∧ Hid (Up w w') ∧ Hid (∀ k, v3.ownBlock = some k → bx ≤ k)) := by
        intro W v2 hO hU
        refine (del_any v2 l.length ps (ec l) W (own_base' hO.out fun _ _ => Nat.zero_le _) hp (by omega) (ec_one l)).mono ?_
        rintro e w' ⟨v3, rfl, h1, h2, h3⟩
        have e0 : (apL l (k, x)).length = l.length - 1 := by rw [HA.out]; simp only [List.length_append, List.length_take, List.length_drop]; show min _ _ + _ = _; omega
        refine ⟨v3, rfl, ?_, ?_, fun j hj => ?_⟩
        · rw [e0, HA.out, ec_app]
          rw [ec_take, ec_drop] at h1
          exact h1
        · exact Below.grown (U1.out.trans hU.out) h2 (U1.out.trans hU.out).size fun j hj => by have := ((own_ty hO.out) j hj).2; omega
        · rw [h3] at hj
          have := ((own_ty hO.out) j hj).2
          omega
      go_wp2_with (first
        | (go_at_call 54; refine HCL.out.mono ?_; rintro e w2 ⟨v2, rfl, O2, U2⟩)
        | (go_at_call 59; refine (HDEL.out _ _ O2 U2).mono ?_; rintro e w3 ⟨v3, rfl, O3, U3, F3⟩)
        | fail)
      go_ret
      exact ⟨_, rfl, O3.out, U3.out, fun k hk => .inr (by rw [hbx]; exact F3.out k hk)⟩
    · have hxe := emp_no hx
      have HA : Hid (apL l (k, x) = l.set ps (k, x)) := by unfold Hid apL; rw [if_pos HHB.out.symm, if_neg hx, HPS.out]
      have he2 : l[ps].1 = k := by have h := HPS.out; subst h; exact he
      have EC := Lib.hid (ec_set l ps hp x)
      have EG := Lib.hid (ec_get l ps hp)
      have HE := Lib.hid he2
      clear he he2
      have hpi2 : (ps : Int) * 2 ≤ 2000 := by omega
      go_wp2_with (first
        | (go_at_call 54; refine HCL.out.mono ?_; rintro e w2 ⟨v2, rfl, O2, U2⟩
           obtain ⟨g2, c2, rfl, hg1, hg2, hgl, hgc, hgf⟩ := own_some O2.out (by omega)
           have x0 := hgc _ _ EG.out.1
           have x1 := hgc _ _ EG.out.2
           have f0 := hgf (ps * 2)
           have f1 := hgf (ps * 2 + 1)
           have z0 := (U2.out.cell (p := ⟨bx, 0, none⟩) yl).trans y0
           have z1 := (U2.out.cell (p := ⟨bx, 1, none⟩) yl).trans y1
           have zl := Nat.lt_of_lt_of_le yl U2.out.size
           clear hgc hgf)
        | fail)
      go_ret
      have hg2b := ((own_ty O2.out) g2 rfl).2
      have hxl : ps * 2 + 1 < (ec l).length := by rw [ec_len]; omega
      have o1 := own_set O2.out (ps * 2) (by omega) (.string k)
      have o2 := own_set o1 (ps * 2 + 1) (by rw [List.length_set]; exact hxl) (.string x)
      have hs0 : (ec l).set (ps * 2) (.string k) = ec l := by
        refine List.ext_getElem? fun j => ?_
        by_cases hj : ps * 2 = j
        · subst hj
          rw [List.getElem?_set_self (by omega), EG.out.1, HE.out]
        · rw [List.getElem?_set_ne hj]
      rw [hs0, EC.out, HE.out] at o2
      refine ⟨_, rfl, ?_, ?_, fun j hj => .inr ?_⟩
      · rw [HA.out, List.length_set]
        exact own_base' o2 fun _ _ => Nat.zero_le _
      · have hc : Chg (· = g2) w _ := ((Below.chg (· = g2) (U1.out.trans U2.out)).trans (chg_set w2 g2 (ps * 2) none (.string k)) fun _ _ e => e).trans (chg_set _ g2 (ps * 2 + 1) none (.string x)) fun _ _ e => e
        exact hc.up fun j hj e => by omega
      · obtain rfl : g2 = j := Option.some.inj hj
        omega
  | false =>
    by_cases hx : x = ByteArray.empty
    · have HA : Hid (apL l (k, x) = l) := by unfold Hid apL; rw [if_neg (by rw [← HHB.out]; decide), if_pos hx]
      go_wp2
      go_ret
      exact ⟨_, rfl, by rw [HA.out]; exact own_up HO.out U1.out, U1.out, fun k hk => .inl hk⟩
    · have hxe := emp_no hx
      have HA : Hid (apL l (k, x) = l.take ps ++ (k, x) :: l.drop ps) := by unfold Hid apL; rw [if_neg (by rw [← HHB.out]; decide), if_neg hx, HPS.out]
      have HINS : Hid (∀ W v2 vb, Hid (W.ownsRow w1.heap.size 62 2 v2 l.length (ec l)) → Hid (Up w1 W) → Blk W vb [.string k, .string x] 62 → v2.ownBlock ≠ some vb → Calls Try.prog 60 #[v2, .int .i64 (ps : Int), .slice (some ⟨vb, 0, none⟩) 1 1] W fun e w' => ∃ v3, e = .returned v3 ∧ Hid (w'.ownsRow 0 62 2 v3 (apL l (k, x)).length (ec (apL l (k, x)))) ∧ Hid (Up w1 w') ∧ Hid (∀ k, v3.ownBlock = some k → bx ≤ k)) := by
        intro W v2 vb hO hU hB hne
        refine (ins_any v2 l.length ps (ec l) [.string k, .string x] vb W (own_base' hO.out fun _ _ => Nat.zero_le _) hple (by omega) hB rfl hne (ec_one l) (ec_one [(k, x)])).mono ?_
        rintro e w' ⟨v3, rfl, h1, h2, h3⟩
        have e0 : (apL l (k, x)).length = l.length + 1 := by rw [HA.out]; simp only [List.length_append, List.length_take, List.length_cons, List.length_drop]; show min _ _ + _ = _; omega
        have hW := (U1.out.trans hU.out).size
        refine ⟨v3, rfl, ?_, ?_, fun j hj => ?_⟩
        · rw [e0, HA.out, ec_app, ec_cons]
          rw [ec_take, ec_drop] at h1
          show w'.ownsRow _ _ _ _ _ _
          simpa using h1
        · exact Below.grown hU.out h2 hU.out.size fun j hj => ((own_ty hO.out) j hj).2
        · rcases h3 with h3 | ⟨g, h3, h4⟩
          · rw [h3] at hj
            have := ((own_ty hO.out) j hj).2
            omega
          · rw [h3] at hj
            cases hj
            omega
      have HCL2 := Lib.hid (fun W (hu : Up w1 W) => HC.out W (U1.out.trans hu))
      go_upto_region 10 with fail
      go_region_held3 (fun w' => w'.cell? ⟨bx, 0, none⟩ = some (.string k) ∧ w'.cell? ⟨bx, 1, none⟩ = some (.string x)) (first | exact ⟨y0, y1⟩ | exact ⟨t0, t1⟩ | exact ⟨z0, z1⟩ | go_keep) (first
        | (go_at_call 60; refine (HINS.out _ v2 _ O2 U2 BB NE).mono ?_; rintro e w3 ⟨v3, rfl, O3, U3, F3⟩; have t0 := (U3.out.cell (p := ⟨bx, 0, none⟩) yl).trans y0; have t1 := (U3.out.cell (p := ⟨bx, 1, none⟩) yl).trans y1)
        | (go_at_call 60; refine (HINS.out _ v2 _ (own_up O2.out ((Up.refl _).alloc _)) (U2.out.alloc _) (Blk.new _ _ _) (fun e => by have := own_lt O2.out _ e; omega)).mono ?_; rintro e w3 ⟨v3, rfl, O3, U3, F3⟩; have t0 := (U3.out.cell (p := ⟨bx, 0, none⟩) yl).trans y0; have t1 := (U3.out.cell (p := ⟨bx, 1, none⟩) yl).trans y1)
        | (go_at_call 54; refine (HCL2.out _ ((Up.refl w1).drew)).mono ?_; rintro e w2 ⟨v2, rfl, O2', U2'⟩; have O2 : Hid (w2.ownsRow w1.heap.size 62 2 v2 l.length (ec l)) := O2'; have U2 : Hid (Up w1 w2) := ((Up.refl w1).drew).trans U2'.out; clear O2' U2'; have z0 := (U2.out.cell (p := ⟨bx, 0, none⟩) yl).trans y0; have z1 := (U2.out.cell (p := ⟨bx, 1, none⟩) yl).trans y1)
        | (go_at_call 54; refine (HCL2.out _ (((Up.refl w1).alloc _).drew)).mono ?_; rintro e w2 ⟨v2, rfl, O2', U2'⟩; have hsz : w1.heap.size < (w1.alloc (.cells #[.string k, .string x] 62)).drew.heap.size := (Blk.new w1 #[.string k, .string x] 62).lt; have NE : v2.ownBlock ≠ some w1.heap.size := (fun e => by have := ((own_ty O2'.out) _ e).2; omega); have O2 : Hid (w2.ownsRow w1.heap.size 62 2 v2 l.length (ec l)) := own_base' O2'.out (fun j hj => by have := ((own_ty O2'.out) j hj).2; omega); have U2 : Hid (Up w1 w2) := (((Up.refl w1).alloc _).drew).trans U2'.out; have BB : Blk w2 w1.heap.size [.string k, .string x] 62 := (Blk.new w1 #[.string k, .string x] 62).drew.up U2'.out; clear O2' U2' hsz; have z0 := (U2.out.cell (p := ⟨bx, 0, none⟩) yl).trans y0; have z1 := (U2.out.cell (p := ⟨bx, 1, none⟩) yl).trans y1)
        | fail)
      all_goals
        go_wp2
        go_ret
        exact ⟨_, rfl, O3.out, U1.out.trans U3.out, fun k hk => .inr (by rw [hbx]; exact F3.out k hk)⟩
end Go.Proofs.Ytmaeeidaegigcaa.Ck
