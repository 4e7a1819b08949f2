/- Replication: Log, Leader, InFlight, Drop. -/
import Derived.Test.YthhkekmeginooaaRpj
namespace Go.Proofs.Ythhkekmeginooaa.Rp
open Go Go.RowKit Hp
set_option linter.unusedVariables false

theorem mmC_one (ms : List MM) (h : ∀ m ∈ ms, m.ev.oneCell' = true) : ∀ u ∈ mmC ms, u.oneCell' = true := fun u hu => by
  obtain ⟨m, hm, hu⟩ := List.mem_flatMap.1 hu
  simp only [mmC1, List.mem_cons, List.not_mem_nil, or_false] at hu
  rcases hu with rfl | rfl | rfl | rfl | rfl | rfl | rfl | rfl
  all_goals first | rfl | exact h m hm
theorem mmC_take (l : List MM) (i : Nat) : (mmC l).take (i * 8) = mmC (l.take i) := fm_take (k := 8) (fun _ => rfl) l i
theorem mmC_drop (l : List MM) (i : Nat) : (mmC l).drop (i * 8) = mmC (l.drop i) := fm_drop (k := 8) (fun _ => rfl) l i
theorem mmC_app (a b : List MM) : mmC (a ++ b) = mmC a ++ mmC b := List.flatMap_append
section
variable {w : World} {p : Nat} {C : Clu} {F : Nat → Prop}
theorem CluP.mone {sv lv nw : Value} {ss : List MS} {ms : List MM} (h : CluP w p C F sv lv nw ss ms) : ∀ u ∈ mmC ms, u.oneCell' = true := mmC_one ms fun m hm => by
  obtain ⟨a, c, e, _⟩ := own_form (h.ents m hm)
  rw [e]; rfl
set_option maxRecDepth 100000 in
set_option maxHeartbeats 1000000 in
theorem log_any (h : CluR w p C F) (i : Nat) (hi : i < C.srv.length) (hl : (C.s i).log.length ≤ 60) :
    Calls Try.prog 15 #[.pointer (some ⟨p, 0, none⟩), .int .i64 (i : Int)] w fun e w' => ∃ v, e = .returned (.tuple #[v, .int .i64 ((C.s i).com : Int), .int .i64 0]) ∧ Hid (w'.ownsRow w.heap.size 44 2 v (C.s i).log.length (enC (C.s i).log)) ∧ Hid (Up w w') := by
  have HV := Lib.hid (valid_any h i hi)
  obtain ⟨sv, lv, nw, ss, ms, h⟩ := h
  rw [← h.slen] at hi
  obtain ⟨g, c, rfl, _, hgl, t0, t1, t2, t3, tf⟩ := h.cells i hi
  rw [h.s i hi] at hl ⊢
  have hll := h.logs _ (List.getElem_mem hi)
  obtain ⟨sm, hsm⟩ : ∃ sm, sm = ss[i] := ⟨_, rfl⟩
  rw [← hsm] at t0 t1 t2 t3 hl hll ⊢
  clear hsm
  obtain ⟨term, com, lgv, log, mtv, mat⟩ := sm
  simp only [erS] at hl hll t0 t1 t2 t3 ⊢
  obtain ⟨la, lc, rfl, _, _, _⟩ := own_form hll
  have c0 := (h.blk.at (i := 0) rfl).2
  have hpl := h.blk.lt
  have h1 : (i : Int) < (ss.length : Int) := by omega
  have HCL : Hid (∀ W, Up w W → Calls Try.prog 21 #[.slice la log.length lc] W fun e w' => ∃ v', e = .returned v' ∧ Hid (w'.ownsRow w.heap.size 44 2 v' log.length (enC log)) ∧ Hid (Up w w')) := fun W hW => by
    refine (cloneE _ log.length (enC log) W (own_src (own_up hll hW)) (enC_one log) (by omega)).mono ?_
    rintro e w' ⟨v', rfl, a1, a2⟩
    exact ⟨v', rfl, own_base' a1 fun j hj => Nat.le_trans hW.size ((own_ty a1) j hj).2, hW.trans a2⟩
  clear h hll
  go_enter Try.func15, Try.ntmps15
  go_upto_region 3 with (first
    | (go_at_call 23; refine HV.out.mono ?_; rintro e w' ⟨rfl, rfl⟩)
    | fail)
  go_region_held3 (fun w' => w'.cell? ⟨p, 0, none⟩ = some (.slice (some ⟨g, 0, none⟩) ss.length c) ∧ w'.cell? ⟨g, i * 4 + 1, none⟩ = some (nv com) ∧ w'.cell? ⟨g, i * 4 + 2, none⟩ = some (.slice la log.length lc)) (first | exact ⟨c0, t1, t2⟩ | exact ⟨z0, z1, z2⟩ | go_keep) (first
    | (go_at_call 21; refine (HCL.out _ (Up.refl w).drew).mono ?_; rintro e w2 ⟨v2, rfl, O2, U2⟩; have z0 := (U2.out.cell (p := ⟨p, 0, none⟩) hpl).trans c0; have z1 := (U2.out.cell (p := ⟨g, i * 4 + 1, none⟩) hgl).trans t1; have z2 := (U2.out.cell (p := ⟨g, i * 4 + 2, none⟩) hgl).trans t2)
    | fail)
  all_goals
    go_wp2
    (try simp only [Exit.inBlock, Exit.then])
    refine bodyPost_ret (results_tmp3 rfl _ _ _) rfl ?_
    exact ⟨v2, rfl, O2, U2⟩
theorem leader_any (h : CluR w p C F) (ht : 1 ≤ C.lead.length) (hl : C.lead.length ≤ 1000) :
    Calls Try.prog 18 #[.pointer (some ⟨p, 0, none⟩)] w fun e w' => e = .returned (.tuple #[.int .i64 (C.ld (C.lead.length - 1) : Int), .int .i64 ((C.lead.length - 1 : Nat) : Int)]) ∧ w = w' := by
  obtain ⟨sv, lv, nw, ss, ms, h⟩ := h
  obtain ⟨gl, cl, rfl, _, _, hll, hlc, _⟩ := own_some h.lead (by omega)
  have c1 := (h.blk.at (i := 1) rfl).2
  have hpl := h.blk.lt
  have l0 := hlc _ _ (icN_get C.lead (C.lead.length - 1) (by omega))
  have HD : Hid (C.ld (C.lead.length - 1) = C.lead[C.lead.length - 1]'(by omega)) := by
    unfold Hid Clu.ld
    simp [List.getD, show C.lead.length - 1 < C.lead.length by omega]
  rw [HD.out]
  generalize C.lead[C.lead.length - 1]'(by omega) = x at *
  obtain ⟨t, ht2⟩ : ∃ t, t = C.lead.length - 1 := ⟨_, rfl⟩
  rw [← ht2] at l0 ⊢
  have h1 : (C.lead.length : Int) - 1 = (t : Int) := by omega
  have h2 : (t : Int) < (C.lead.length : Int) := by omega
  clear h hlc ht2 HD
  go_enter Try.func18, Try.ntmps18
  go_wp2
  go_ret2
  exact ⟨rfl, rfl⟩
theorem msg_cells {sv lv nw : Value} {ss : List MS} {ms : List MM} (h : CluP w p C F sv lv nw ss ms) (k : Nat) (hk : k < ms.length) : ∃ g c, nw = .slice (some ⟨g, 0, none⟩) ms.length c ∧ ms.length ≤ c ∧ g < w.heap.size ∧ ∀ j u, (mmC1 ms[k])[j]? = some u → w.cell? ⟨g, k * 8 + j, none⟩ = some u := by
  obtain ⟨g, c, hv, h1, h2, h3, h4, h5⟩ := own_some h.net (by omega)
  refine ⟨g, c, hv, h1, h3, fun j u hj => h4 _ _ ?_⟩
  have hj8 : j < 8 := by
    have := (List.getElem?_eq_some_iff.1 hj).1
    simpa [mmC1] using this
  rw [show mmC ms = ms.flatMap mmC1 from rfl, fm_get (k := 8) (f := mmC1) (fun _ => rfl) ms k j hk hj8]
  exact hj
set_option maxRecDepth 100000 in
set_option maxHeartbeats 2000000 in
theorem drop_any (h : CluR w p C F) (k : Nat) (hk : k < C.net.length) (hn : C.net.length ≤ 100) :
    Calls Try.prog 29 #[.pointer (some ⟨p, 0, none⟩), .int .i64 (k : Int)] w fun e w' => e = .returned (.int .i64 0) ∧ CluPost p (C.drop k) F w w' := by
  obtain ⟨sv, lv, nw, ss, ms, h⟩ := h
  have H := Lib.hid h
  rw [← h.mlen] at hk hn
  obtain ⟨g, c, rfl, _, hgl, _⟩ := msg_cells h k hk
  have c2 := (h.blk.at (i := 2) rfl).2
  have hpl := h.blk.lt
  have h1 : (k : Int) < (ms.length : Int) := by omega
  have h2 : ¬ (k : Int) < 0 := by omega
  have hm1 : ms.length ≤ 100 := hn
  have HCL : Hid (Calls Try.prog 27 #[.slice (some ⟨g, 0, none⟩) ms.length c] w fun e w' => ∃ v', e = .returned v' ∧ Hid (w'.ownsRow w.heap.size 59 8 v' ms.length (mmC ms)) ∧ Hid (Up w w')) := cloneM _ ms.length (mmC ms) w (own_src h.net) h.mone (by omega)
  obtain ⟨ms2, hms2⟩ : ∃ ms2, ms2 = ms.take k ++ ms.drop (k + 1) := ⟨_, rfl⟩
  have HDEL : Hid (∀ v1 w1, Hid (w1.ownsRow w.heap.size 59 8 v1 ms.length (mmC ms)) → Hid (Up w w1) → Calls Try.prog 26 #[v1, .int .i64 (k : Int), .int .i64 ((k : Int) + 1)] w1 fun e w' => ∃ a2 c2, e = .returned (.slice a2 ms2.length c2) ∧ Hid (w'.ownsRow w.heap.size 59 8 (.slice a2 ms2.length c2) ms2.length (mmC ms2)) ∧ Hid (Up w w')) := fun v1 w1 o1 u1 => by
    refine (del_any v1 ms.length k (mmC ms) w1 (own_base' o1.out fun _ _ => Nat.zero_le _) hk (by omega) H.out.mone).mono ?_
    rintro e w' ⟨v', rfl, a1, a2, a3⟩
    have e1 : ms2.length = ms.length - 1 := by rw [hms2, List.length_append, List.length_take, List.length_drop]; omega
    rw [mmC_take, mmC_drop, ← mmC_app, ← hms2, ← e1] at a1
    obtain ⟨x, y, rfl, _, _, _⟩ := own_form a1
    have hb : ∀ j, (Value.slice x ms2.length y).ownBlock = some j → w.heap.size ≤ j := fun j hj => by
      rw [a3] at hj
      exact ((own_ty o1.out) j hj).2
    exact ⟨x, y, rfl, own_base' a1 hb, Below.grown u1.out a2 u1.out.size fun j hj => ((own_ty o1.out) j hj).2⟩
  have HM2 := Lib.hid hms2
  clear h hms2
  go_enter Try.func29, Try.ntmps29
  go_wp2_with (first
    | (go_at_call 26; refine (HDEL.out _ _ O1 U1).mono ?_; rintro e w2 ⟨a2, c2', rfl, O2, U2⟩; have B2 := (H.out.up U2.out).blk; have y2 := (B2.at (i := 2) rfl).2; have yf := B2.free 2; have yl := B2.lt; clear B2)
    | (go_at_call 27; refine HCL.out.mono ?_; rintro e w1 ⟨v1, rfl, O1, U1⟩)
    | fail)
  go_ret
  refine ⟨rfl, ?_⟩
  have H2 := H.out.up U2.out
  have hc2 := chg_set w2 p 2 none (.slice a2 ms2.length c2')
  have key := H.out.netw (nw' := .slice a2 ms2.length c2') (ms' := ms2) ((Below.chg (· = p) U2.out).trans hc2 fun _ _ e => e) (fun j _ e => .inl e) (H2.blk.set 2 _) (own_base' (own_chg O2.out hc2 fun j hj e => by
    subst e
    exact ((own_ty O2.out) _ hj).1.ne (E' := 51) (by decide) (blk_ty H2.blk)) fun _ _ => Nat.zero_le _) (fun j hj => .inr ((own_ty O2.out) j hj).2) (fun m hm => .inl (by
      rw [HM2.out] at hm
      rcases List.mem_append.1 hm with e | e
      · exact List.mem_of_mem_take e
      · exact List.mem_of_mem_drop e))
  have e1 : ({ C with net := ms2.map erM } : Clu) = C.drop k := by
    unfold Clu.drop cut
    rw [← H.out.em, HM2.out, List.map_append, List.map_take, List.map_drop]
  rw [e1] at key
  exact ⟨⟨_, _, _, _, _, key.1⟩, key.2⟩
end
end Go.Proofs.Ythhkekmeginooaa.Rp
