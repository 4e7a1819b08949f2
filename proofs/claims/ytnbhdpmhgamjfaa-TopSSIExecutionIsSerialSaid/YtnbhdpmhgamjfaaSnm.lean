/- The snapshot database: finish. -/
import Derived.Test.YtnbhdpmhgamjfaaSnk
namespace Go.Proofs.Ytnbhdpmhgamjfaa.Sn
open Go Go.RowKit Hp So
open Mv (Val PC PV rowC fm_len fm_take fm_drop fm_get fm_set fm_one RowIn StR Srt SOk pos has fx_lt fx_up ty_chg has_pos pos_le vacuumL)
set_option linter.unusedVariables false

theorem DbP.one {w : World} {p q : Nat} {d : Db} {F G : Nat → Prop} {av : Value} {ts : List MT} (h : DbP w p q d F G av ts) : ∀ u ∈ mtC ts, u.oneCell' = true := fun u hu => by
  obtain ⟨t, ht, hu⟩ := List.mem_flatMap.1 hu
  obtain ⟨a, n, c, e⟩ := h.wvs t ht
  simp only [mtC1, List.mem_cons, List.not_mem_nil, or_false] at hu
  rcases hu with rfl | rfl | rfl
  · rfl
  · rfl
  · rw [e]; rfl
def delD (d : Db) (i : Nat) : Db := { d with act := d.act.eraseIdx i }
theorem del_ok {d : Db} (h : DOk d) (i : Nat) : DOk (delD d i) := by
  have sub := List.eraseIdx_sublist d.act i
  have mem : ∀ t ∈ d.act.eraseIdx i, t ∈ d.act := fun t ht => List.mem_of_mem_eraseIdx ht
  exact ⟨h.st, h.hz, h.clock, h.last, Nat.le_trans sub.length_le h.act, h.ids.sublist sub, fun t ht => h.idl t (mem t ht), fun t ht => h.start t (mem t ht), fun t ht => h.srt t (mem t ht), fun t ht => h.len t (mem t ht), fun t ht => h.key t (mem t ht), h.ts⟩
theorem mtC_del (ts : List MT) (i : Nat) : mtC (ts.eraseIdx i) = (mtC ts).take (i * 3) ++ (mtC ts).drop ((i + 1) * 3) := by
  unfold mtC
  rw [fm_take (f := mtC1) (k := 3) (fun _ => rfl), fm_drop (f := mtC1) (k := 3) (fun _ => rfl), ← List.flatMap_append, List.eraseIdx_eq_take_drop_succ]
theorem map_erase {α β : Type} (f : α → β) (l : List α) (i : Nat) : (l.eraseIdx i).map f = (l.map f).eraseIdx i := by
  rw [List.eraseIdx_eq_take_drop_succ, List.eraseIdx_eq_take_drop_succ, List.map_append, List.map_take, List.map_drop]
theorem DbP.del {w w' : World} {p q : Nat} {d : Db} {F G : Nat → Prop} {av av' : Value} {ts : List MT} {i : Nat} (h : DbP w p q d F G av ts) (hi : i < ts.length) (hC : Chg (fun j => av.ownBlock = some j ∨ j = p) w w')
    (hb : Blk w' p [.pointer (some ⟨q, 0, none⟩), .int .i64 d.clock, .int .i64 d.last, av'] 59) (ho : w'.ownsRow 0 63 3 av' (ts.length - 1) ((mtC ts).take (i * 3) ++ (mtC ts).drop ((i + 1) * 3)))
    (hat : av'.ownBlock = av.ownBlock) : DbP w' p q (delD d i) F G av' (ts.eraseIdx i) := by
  have mem : ∀ t ∈ ts.eraseIdx i, t ∈ ts := fun t ht => List.mem_of_mem_eraseIdx ht
  have hS : ∀ k, (av.ownBlock = some k ∨ k = p) → F k := fun k hk => by
    rcases hk with hk | rfl
    · exact h.actF k hk
    · exact h.fp
  have nS : ∀ k T, Ty w k T → T ≠ 63 → T ≠ 59 → ¬ (av.ownBlock = some k ∨ k = p) := fun k T ht h1 h2 e => by
    rcases e with e | e
    · exact ht.ne h1 ((own_ty h.act) k e).1
    · subst e; exact ht.ne h2 (blk_ty h.blk)
  refine ⟨by rw [map_erase, h.er]; rfl, del_ok h.ok i, fun k hk => Nat.lt_of_lt_of_le (h.lt k hk) hC.size, h.dis, h.fp, hb, h.st.chg hC fun k hk e => h.dis k (hS k e) hk, ?_, fun k hk => h.actF k (by rw [← hat]; exact hk), fun t ht => ?_, fun t ht => h.wrF t (mem t ht), h.wrd.sublist (List.eraseIdx_sublist _ _), fun t ht x hx => ?_⟩
  · rw [List.length_eraseIdx_of_lt hi, mtC_del]
    exact ho
  · exact own_chg (h.wrs t (mem t ht)) hC fun k hk => nS k _ ((own_ty (h.wrs t (mem t ht))) k hk).1 (by decide) (by decide)
  · exact (h.rws t (mem t ht) x hx).chg hC fun k hk ht => ⟨nS k _ ht (by decide) (by decide), hk⟩
/-- The store behind it is another one. -/
theorem DbP.st' {w w' : World} {p q : Nat} {d : Db} {F G : Nat → Prop} {av : Value} {ts : List MT} {l' : List PC} {hz' : Int} (h : DbP w p q d F G av ts) (hs : StR w' q l' hz' (Fx G w w') ∧ Chg G w w') (ok : DOk { d with st := l', hz := hz' }) :
    DbP w' p q { d with st := l', hz := hz' } F (Fx G w w') av ts := by
  have nG : ∀ k, F k → ¬ G k := h.dis
  refine ⟨h.er, ok, fun k hk => Nat.lt_of_lt_of_le (h.lt k hk) hs.2.size, fun k hk e => ?_, h.fp, h.blk.chg hs.2 (nG p h.fp), hs.1, own_chg h.act hs.2 fun k hk => nG k (h.actF k hk), h.actF, fun t ht => own_chg (h.wrs t ht) hs.2 fun k hk => nG k (h.wrF t ht k hk), h.wrF, h.wrd, fun t ht x hx => (h.rws t ht x hx).chg hs.2 fun k hk _ => ⟨nG k hk, hk⟩⟩
  rcases e with e | e
  · exact nG k hk e
  · have := h.lt k hk; omega
theorem old_take (c : Int) (l : List Tr) (k : Nat) (h : k < l.length) : oldL c (l.take (k + 1)) = if l[k].start < oldL c (l.take k) then l[k].start else oldL c (l.take k) := by
  unfold oldL
  rw [List.take_succ_eq_append_getElem h, List.foldl_append]
  rfl
def FinPost (p q : Nat) (d : Db) (F G : Nat → Prop) (av : Value) (ts : List MT) (i : Nat) (w : World) (e : Ending) (w' : World) : Prop :=
  e = .returned (.tuple #[]) ∧ ∃ av' G', DbP w' p q (finD d i) F G' av' (ts.eraseIdx i) ∧ (∀ k, G' k → Fx G w w' k) ∧ Chg (fun j => (av.ownBlock = some j ∨ j = p) ∨ G j) w w'
set_option maxRecDepth 100000 in
set_option maxHeartbeats 4000000 in
theorem fin_any (p q : Nat) (d : Db) (F G : Nat → Prop) (av : Value) (ts : List MT) (i : Nat) (w : World) (h : DbP w p q d F G av ts) (hi : i < ts.length) :
    Calls Try.prog 22 #[.pointer (some ⟨p, 0, none⟩), .int .i64 i] w (FinPost p q d F G av ts i w) := by
  obtain ⟨hl1, hl2⟩ := h.tslen
  have HS := Lib.hid h
  have hw : IntKind.i64.wrap ((i : Int) + 1) = (i : Int) + 1 := IntWalk.i64_in _ (by omega)
  obtain ⟨a, cap, rfl, _, _, _⟩ := own_form h.act
  have HDL : Hid (Calls Try.prog 37 #[.slice a ts.length cap, .int .i64 i, .int .i64 ((i : Int) + 1)] w fun e w' => ∃ v', e = .returned v' ∧ w'.ownsRow 0 63 3 v' (ts.length - 1) ((mtC ts).take (i * 3) ++ (mtC ts).drop ((i + 1) * 3)) ∧
      w.grownBy w' (Value.slice a ts.length cap).ownBlock ∧ v'.ownBlock = (Value.slice a ts.length cap).ownBlock) := del_any _ ts.length i (mtC ts) w h.act hi (by omega) h.one
  have c3 := h.blk.cell 3
  rw [show ([Value.pointer (some ⟨q, 0, none⟩), .int .i64 d.clock, .int .i64 d.last, .slice a ts.length cap])[3]? = some (.slice a ts.length cap) from rfl] at c3
  have hpl := h.blk.lt
  clear h hl1
  go_enter Try.func22, Try.ntmps22
  go_wp2_with (first
    | (go_at_call 37; refine HDL.out.mono ?_; rintro e w1 ⟨v', rfl, h1, h2, h3⟩; obtain ⟨a1, cap1, rfl, _, _, _⟩ := own_form h1; have q0 := fld_far HS.out.blk (by decide) HS.out.act (Up.refl w) h2; have f3 := q0.free 3; have d0 := q0.cell 0; have d1 := q0.cell 1; have hp1 := q0.lt; have d3 := q0.cell 3;
       rw [show ([Value.pointer (some ⟨q, 0, none⟩), .int .i64 d.clock, .int .i64 d.last, .slice a ts.length cap])[0]? = some (.pointer (some ⟨q, 0, none⟩)) from rfl] at d0; rw [show ([Value.pointer (some ⟨q, 0, none⟩), .int .i64 d.clock, .int .i64 d.last, .slice a ts.length cap])[1]? = some (.int .i64 d.clock) from rfl] at d1; rw [show ([Value.pointer (some ⟨q, 0, none⟩), .int .i64 d.clock, .int .i64 d.last, .slice a ts.length cap])[3]? = some (.slice a ts.length cap) from rfl] at d3; have Q0 := Lib.hid q0; have H1 := Lib.hid h1; have H2 := Lib.hid h2; have H3 := Lib.hid h3; clear h1 h2 h3 q0)
    | fail)
  have CD : Chg (fun j => (Value.slice a ts.length cap).ownBlock = some j) w w1 := (Chg.refl _ w).grown H2.out fun j hj => .inl hj
  have CS := chg_set w1 p 3 none (.slice a1 (ts.length - 1) cap1)
  have CC := Lib.hid (CD.or CS)
  have HD := Lib.hid (HS.out.del hi CC.out (Q0.out.set 3 _) (own_chg H1.out CS fun j hj e => by subst e; exact (((own_ty H1.out) _ hj).1).ne (by decide) (blk_ty Q0.out)) H3.out)
  clear CD CS HDL c3 d0 d1 d3 f3 hp1 Q0 H1 H2 H3
  obtain ⟨wo, hwo⟩ : ∃ wo : World, wo = w1.setCell ⟨p, 3, none⟩ (.slice a1 (ts.length - 1) cap1) := ⟨_, rfl⟩
  rw [← hwo] at CC HD ⊢
  clear hwo
  have hlen : (ts.eraseIdx i).length = ts.length - 1 := List.length_eraseIdx_of_lt hi
  have hact : (d.act.eraseIdx i).length = ts.length - 1 := by have := HD.out.tslen.1; rw [hlen] at this; exact this.symm
  have HLN := Lib.hid hlen
  have HAC := Lib.hid hact
  have HST : Hid (∀ k (h : k < (ts.eraseIdx i).length) (h2 : k < (d.act.eraseIdx i).length), (d.act.eraseIdx i)[k].start = (ts.eraseIdx i)[k].start) := fun k h h2 => by
    have e := HD.out.er
    have e2 : ((ts.eraseIdx i).map erT)[k]? = (d.act.eraseIdx i)[k]? := by rw [e]; rfl
    rw [List.getElem?_map, List.getElem?_eq_getElem h, List.getElem?_eq_getElem h2] at e2
    have : erT (ts.eraseIdx i)[k] = (d.act.eraseIdx i)[k] := by simpa using e2
    rw [← this]; rfl
  generalize hn' : ts.length - 1 = n' at *
  have HI := Lib.hid hi
  clear hi hl2 hlen hact hw hpl hn'
  go_loopw [4, 27] (fun ov iv wr => ∃ k : Nat, k ≤ n' ∧ ov = .int .i64 (oldL d.clock ((d.act.eraseIdx i).take k)) ∧ iv = .int .i64 k ∧ Hid (Up wo wr)) (fun _ iv _ => n' - (intOf iv).toNat)
  case atStart => exact ⟨0, by omega, rfl, rfl, Up.refl _⟩
  case round =>
    obtain ⟨k, hk, rfl, rfl, HU⟩ := hrel
    by_cases hlt : k < n'
    · have hk1 : k < (ts.eraseIdx i).length := by rw [HLN.out]; exact hlt
      have hk2 : k < (d.act.eraseIdx i).length := by rw [HAC.out]; exact hlt
      obtain ⟨g, cap', hv, _, _, hc⟩ := Mv.own_cell (own_up HD.out.act HU.out) (by omega)
      simp only [Value.slice.injEq] at hv
      obtain ⟨rfl, _, rfl⟩ := hv
      obtain ⟨g0, g1, g2⟩ := mtC_get (ts.eraseIdx i) k hk1
      obtain ⟨wa, wn, wc, hwv⟩ := HD.out.wvs _ (List.getElem_mem hk1)
      rw [hwv] at g2
      have e0 := (hc _ _ g0).2
      have e1 := (hc _ _ g1).2
      have e2 := (hc _ _ g2).2
      have bk : (k : Int) < (n' : Int) := by omega
      have HE := Lib.hid (old_take d.clock _ k hk2)
      rw [HST.out k hk1 hk2] at HE
      generalize oldL d.clock ((d.act.eraseIdx i).take k) = o at *
      generalize (ts.eraseIdx i)[k].id = x at *
      generalize (ts.eraseIdx i)[k].start = y at *
      clear hc g0 g1 g2 hwv hk1 hk2
      go_wp2
      go_roundw
      case rel => exact ⟨k + 1, by omega, by rw [HE.out], by go_num, HU.out.alloc _⟩
      case measure => simp [intOf]; omega
    · obtain rfl : k = n' := by omega
      rw [List.take_of_length_le (Nat.le_of_eq HAC.out)]
      have d0 := (HD.out.blk.up HU.out).cell 0
      rw [show ([Value.pointer (some ⟨q, 0, none⟩), .int .i64 (delD d i).clock, .int .i64 (delD d i).last, .slice a1 k cap1])[0]? = some (.pointer (some ⟨q, 0, none⟩)) from rfl] at d0
      have HV : Hid (Calls Try.prog 38 #[.pointer (some ⟨q, 0, none⟩), .int .i64 (oldL d.clock (d.act.eraseIdx i))] wr (Mv.VacPost q (vacuumL d.st d.hz (oldL d.clock (d.act.eraseIdx i))).1 (vacuumL d.st d.hz (oldL d.clock (d.act.eraseIdx i))).2.1 (vacuumL d.st d.hz (oldL d.clock (d.act.eraseIdx i))).2.2 G wr)) := Mv.vacuum_any q d.st d.hz G _ wr (HD.out.st.up HU.out)
      have OK := Lib.hid (fin_ok HS.out.ok i).1
      have HG := Lib.hid HS.out.st.lt
      generalize hov : oldL d.clock (d.act.eraseIdx i) = ov at *
      go_wp2_with (first
        | (go_at_call 38; refine HV.out.mono ?_; rintro e w2 ⟨rfl, h1, h2⟩; have H1 := Lib.hid h1; have H2 := Lib.hid h2; clear h1 h2)
        | fail)
      go_end0
      have ok' : DOk { delD d i with st := (vacuumL d.st d.hz ov).1, hz := (vacuumL d.st d.hz ov).2.1 } := by have := OK.out; unfold finD at this; rw [hov] at this; exact this
      have hF := (HD.out.up HU.out).st' ⟨H1.out, H2.out⟩ ok'
      have hfin : finD d i = { delD d i with st := (vacuumL d.st d.hz ov).1, hz := (vacuumL d.st d.hz ov).2.1 } := by unfold finD; rw [hov]; rfl
      have hsz : w.heap.size ≤ wr.heap.size := Nat.le_trans CC.out.size HU.out.size
      refine ⟨rfl, _, _, by rw [hfin]; exact hF, fun j hj => ?_, ?_⟩
      · rcases hj with hj | hj
        · exact .inl hj
        · exact .inr ⟨by omega, hj.2⟩
      · exact (CC.out.trans (Below.chg (fun _ => False) HU.out) fun _ _ e => e.elim).or H2.out
end Go.Proofs.Ytnbhdpmhgamjfaa.Sn
