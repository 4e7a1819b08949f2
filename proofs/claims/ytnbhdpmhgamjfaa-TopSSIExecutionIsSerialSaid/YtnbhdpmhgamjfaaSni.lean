/- The snapshot database: Begin. -/
import Derived.Test.YtnbhdpmhgamjfaaSnh
namespace Go.Proofs.Ytnbhdpmhgamjfaa.Sn
open Go Go.RowKit Hp So
open Mv (Val PC PV rowC fm_len fm_take fm_drop fm_get fm_set fm_one RowIn StR Srt pos has fx_lt fx_up ty_chg)
set_option linter.unusedVariables false

theorem DbP.up {F G : Nat → Prop} {w w' : World} {p q : Nat} {d : Db} {av : Value} {ts : List MT} (h : DbP w p q d F G av ts) (hu : Up w w') : DbP w' p q d F G av ts := h.chg (Below.chg (fun _ => False) hu) (fun _ _ e => e) fun _ _ e => e
theorem DbR.chg {S F : Nat → Prop} {w w' : World} {p : Nat} {d : Db} (h : DbR w p d F) (hc : Chg S w w') (hF : ∀ k, F k → ¬ S k) : DbR w' p d F := by
  obtain ⟨q, F1, G, av, ts, h1, h2, h3⟩ := h
  exact ⟨q, F1, G, av, ts, h1.chg hc (fun k hk => hF k (h2 k (.inl hk))) (fun k hk => hF k (h2 k (.inr hk))), h2, fun k hk => Nat.lt_of_lt_of_le (h3 k hk) hc.size⟩
theorem DbR.up {F : Nat → Prop} {w w' : World} {p : Nat} {d : Db} (h : DbR w p d F) (hu : Up w w') : DbR w' p d F := h.chg (Below.chg (fun _ => False) hu) fun _ _ e => e
theorem DbR.ok {F : Nat → Prop} {w : World} {p : Nat} {d : Db} (h : DbR w p d F) : DOk d := by obtain ⟨_, _, _, _, _, h1, _⟩ := h; exact h1.ok
theorem DbR.lt {F : Nat → Prop} {w : World} {p : Nat} {d : Db} (h : DbR w p d F) : ∀ k, F k → k < w.heap.size := by obtain ⟨_, _, _, _, _, _, _, h3⟩ := h; exact h3
theorem DbR.mono {F F' : Nat → Prop} {w : World} {p : Nat} {d : Db} (h : DbR w p d F) (hF : ∀ k, F k → F' k) (hl : ∀ k, F' k → k < w.heap.size) : DbR w p d F' := by
  obtain ⟨q, F1, G, av, ts, h1, h2, h3⟩ := h
  exact ⟨q, F1, G, av, ts, h1, fun k hk => hF k (h2 k hk), hl⟩
theorem DbR.upP {w w' : World} {p : Nat} {d : Db} {F : Nat → Prop} (h : DbR w p d F) (hu : Up w w') : DbPost p d F w w' :=
  ⟨(h.up hu).mono (fun _ hk => .inl hk) (fx_lt h.lt hu.size), Below.chg F hu⟩
/-- Behind a first step that only grows. -/
theorem DbPost.behind {w w1 w' : World} {p : Nat} {d : Db} {F : Nat → Prop} (hl : ∀ k, F k → k < w.heap.size) (hu : Up w w1) (h : DbPost p d F w1 w') : DbPost p d F w w' :=
  ⟨h.1.mono (fx_up hu.size) (fx_lt hl (Nat.le_trans hu.size h.2.size)), (Below.chg F hu).trans h.2 fun _ _ e => e⟩
theorem DbPost.two {w a b : World} {p : Nat} {d d' : Db} {F : Nat → Prop} (hl : ∀ k, F k → k < w.heap.size) (h1 : DbPost p d F w a) (h : DbPost p d' (Fx F w a) a b) : DbPost p d' F w b := by
  have hC : Chg F w b := h1.2.trans h.2 fun k hk e => by
    rcases e with e | e
    · exact e
    · omega
  refine ⟨h.1.mono (fun k hk => ?_) (fx_lt hl hC.size), hC⟩
  have := h1.2.size; have := h.2.size
  rcases hk with (hk | hk) | hk
  · exact .inl hk
  · exact .inr ⟨hk.1, by omega⟩
  · exact .inr ⟨by omega, hk.2⟩
/-- What a step on the parts leaves of the whole. -/
theorem DbP.post {w w' : World} {p q : Nat} {d : Db} {F F1 G F1' G' S : Nat → Prop} {av : Value} {ts : List MT} (h2 : ∀ k, F1 k ∨ G k → F k) (h3 : ∀ k, F k → k < w.heap.size) (h : DbP w' p q d F1' G' av ts) (hF : ∀ k, F1' k → Fx F1 w w' k) (hG : ∀ k, G' k → Fx G w w' k)
    (hC : Chg S w w') (hS : ∀ k, k < w.heap.size → S k → F1 k ∨ G k) : DbPost p d F w w' :=
  ⟨⟨q, F1', G', av, ts, h, fun k hk => by
    rcases hk with hk | hk
    · exact (hF k hk).imp (fun e => h2 k (.inl e)) id
    · exact (hG k hk).imp (fun e => h2 k (.inr e)) id, fx_lt h3 hC.size⟩, hC.mono fun k hk e => h2 k (hS k hk e)⟩

def begD (d : Db) : Db := { d with last := d.last + 1, act := d.act ++ [⟨d.last + 1, d.clock, []⟩] }
theorem beg_ok {d : Db} (h : DOk d) (hl : d.last < 1000000) (hn : d.act.length ≠ 60) : DOk (begD d) := by
  have mem : ∀ t ∈ d.act ++ [(⟨d.last + 1, d.clock, []⟩ : Tr)], t ∈ d.act ∨ t = ⟨d.last + 1, d.clock, []⟩ := fun t ht => by
    rcases List.mem_append.1 ht with h | h
    · exact .inl h
    · exact .inr (List.mem_singleton.1 h)
  have hl0 := h.last
  have ha := h.act
  refine ⟨h.st, h.hz, h.clock, ⟨by show 0 ≤ d.last + 1; omega, by show d.last + 1 ≤ _; omega⟩, by show (d.act ++ _).length ≤ 60; rw [List.length_append]; simp; omega, ?_, ?_, ?_, ?_, ?_, ?_, h.ts⟩
  · refine List.pairwise_append.2 ⟨h.ids, List.pairwise_singleton _ _, fun a ha b hb => ?_⟩
    rw [List.mem_singleton.1 hb]
    have := (h.idl a ha).2
    show a.id < d.last + 1
    omega
  · intro t ht
    rcases mem t ht with ht | rfl
    · have := h.idl t ht
      exact ⟨this.1, by show t.id ≤ d.last + 1; omega⟩
    · exact ⟨by show 1 ≤ d.last + 1; omega, Int.le_refl _⟩
  · intro t ht
    rcases mem t ht with ht | rfl
    · exact h.start t ht
    · exact ⟨h.hz.2, Int.le_refl _⟩
  · intro t ht
    rcases mem t ht with ht | rfl
    · exact h.srt t ht
    · exact List.Pairwise.nil
  · intro t ht
    rcases mem t ht with ht | rfl
    · exact h.len t ht
    · exact Nat.zero_le _
  · intro t ht x hx
    rcases mem t ht with ht | rfl
    · exact h.key t ht x hx
    · cases hx
theorem DbP.beg {w w' : World} {p q : Nat} {d : Db} {F G : Nat → Prop} {av av' : Value} {ts : List MT} (h : DbP w p q d F G av ts) (hl : d.last < 1000000) (hn : d.act.length ≠ 60) (hC : Chg (fun j => av.ownBlock = some j ∨ j = p) w w')
    (hb : Blk w' p [.pointer (some ⟨q, 0, none⟩), .int .i64 d.clock, .int .i64 (d.last + 1), av'] 59) (ho : w'.ownsRow 0 63 3 av' (ts.length + 1) (mtC ts ++ [.int .i64 (d.last + 1), .int .i64 d.clock, .slice none 0 0]))
    (hat : ∀ k, av'.ownBlock = some k → av.ownBlock = some k ∨ w.heap.size ≤ k) : DbP w' p q (begD d) (Fx F w w') G av' (ts ++ [⟨d.last + 1, d.clock, .slice none 0 0, []⟩]) := by
  have mem : ∀ t ∈ ts ++ [(⟨d.last + 1, d.clock, .slice none 0 0, []⟩ : MT)], t ∈ ts ∨ t = ⟨d.last + 1, d.clock, .slice none 0 0, []⟩ := fun t ht => by
    rcases List.mem_append.1 ht with h | h
    · exact .inl h
    · exact .inr (List.mem_singleton.1 h)
  have hS : ∀ k, (av.ownBlock = some k ∨ k = p) → F k := fun k hk => by
    rcases hk with hk | rfl
    · exact h.actF k hk
    · exact h.fp
  have nS : ∀ k T, Ty w k T → T ≠ 63 → T ≠ 59 → ¬ (av.ownBlock = some k ∨ k = p) := fun k T ht h1 h2 e => by
    rcases e with e | e
    · exact ht.ne h1 ((own_ty h.act) k e).1
    · subst e; exact ht.ne h2 (blk_ty h.blk)
  refine ⟨?_, beg_ok h.ok hl hn, fx_lt h.lt hC.size, fun k hk hg => ?_, .inl h.fp, hb, h.st.chg hC fun k hk e => h.dis k (hS k e) hk, ?_, fun k hk => ?_, fun t ht => ?_, fun t ht k hk => ?_, ?_, fun t ht x hx => ?_⟩
  · rw [List.map_append, h.er]; rfl
  · rcases hk with hk | hk
    · exact h.dis k hk hg
    · have := h.st.lt k hg; omega
  · rw [List.length_append]
    have e : mtC (ts ++ [⟨d.last + 1, d.clock, .slice none 0 0, []⟩]) = mtC ts ++ [.int .i64 (d.last + 1), .int .i64 d.clock, .slice none 0 0] := by simp [mtC, mtC1, List.flatMap_append]
    rw [e]
    exact ho
  · rcases hat k hk with e | e
    · exact .inl (h.actF k e)
    · exact .inr ⟨e, own_lt ho k hk⟩
  · rcases mem t ht with ht | rfl
    · exact own_chg (h.wrs t ht) hC fun k hk => nS k _ ((own_ty (h.wrs t ht)) k hk).1 (by decide) (by decide)
    · exact World.ownsRow_nil _ _ _ _
  · rcases mem t ht with ht | rfl
    · exact .inl (h.wrF t ht k hk)
    · cases hk
  · refine List.pairwise_append.2 ⟨h.wrd, List.pairwise_singleton _ _, fun a ha b hb k hk e => ?_⟩
    rw [List.mem_singleton.1 hb] at e
    cases e
  · rcases mem t ht with ht | rfl
    · exact (h.rws t ht x hx).chg hC fun k hk ht => ⟨nS k _ ht (by decide) (by decide), .inl hk⟩
    · cases hx
theorem Try.infoTr : (Try.prog.info? 63).map (fun i => (i.zero, i.size, i.bytes)) = some (some (.agg #[.int .i64 0, .int .i64 0, .slice none 0 0]), 3, 40) := by kernel_rfl
set_option maxRecDepth 100000 in
set_option maxHeartbeats 4000000 in
theorem begin_any (p : Nat) (d : Db) (F : Nat → Prop) (w : World) (h : DbR w p d F) (hl : d.last < 1000000) (hn : d.act.length ≠ 60) :
    Calls Try.prog 6 #[.pointer (some ⟨p, 0, none⟩)] w fun e w' => e = .returned (.tuple #[.int .i64 (d.last + 1), .int .i64 0]) ∧ DbPost p (begD d) F w w' := by
  obtain ⟨i0, hi0, hz0, hz1, hz2⟩ := info_parts Try.infoTr
  obtain ⟨q, F1, G, av, ts, h, hF, hlt⟩ := h
  have HS := Lib.hid h
  have HL := Lib.hid hl
  have HN := Lib.hid hn
  have HF := Lib.hid hF
  have HLT := Lib.hid hlt
  obtain ⟨hl1, hl2⟩ := h.tslen
  have hn2 : ¬ (ts.length : Int) = 60 := by omega
  have hq : ((ts.length : Int) == 60) = false := beq_eq_false_iff_ne.2 hn2
  have hlb := h.ok.last
  have hw : IntKind.i64.wrap (d.last + 1) = d.last + 1 := IntWalk.i64_in _ (by omega)
  have hB := h.blk
  have hpl := h.blk.lt
  obtain ⟨a, cap, rfl, _, hcap, _⟩ := own_form h.act
  have c3 := h.blk.cell 3
  rw [show ([Value.pointer (some ⟨q, 0, none⟩), .int .i64 d.clock, .int .i64 d.last, .slice a ts.length cap])[3]? = some (.slice a ts.length cap) from rfl] at c3
  have c2 := h.blk.cell 2
  rw [show ([Value.pointer (some ⟨q, 0, none⟩), .int .i64 d.clock, .int .i64 d.last, .slice a ts.length cap])[2]? = some (.int .i64 d.last) from rfl] at c2
  have f2 := h.blk.free 2
  have BS := Lib.hid (hB.set 2 (.int .i64 (d.last + 1)))
  have nA : Hid (¬ (Value.slice a ts.length cap).ownBlock = some p) := fun e => (((own_ty h.act) _ e).1).ne (by decide) (blk_ty h.blk)
  clear h hl hn hB hl1 hF hlt
  go_enter Try.func6, Try.ntmps6
  go_wp2
  have CH1 := Lib.hid (chg_set w p 2 none (.int .i64 (d.last + 1)))
  obtain ⟨w1, hw1⟩ : ∃ w1, w1 = w.setCell ⟨p, 2, none⟩ (.int .i64 (d.last + 1)) := ⟨_, rfl⟩
  rw [← hw1] at CH1 BS
  rw [← hw1]
  clear hw1 c2 c3 f2
  have OW := Lib.hid (own_chg HS.out.act CH1.out fun k hk e => by subst e; exact nA.out hk)
  rw [show ([Value.pointer (some ⟨q, 0, none⟩), .int .i64 d.clock, .int .i64 d.last, .slice a ts.length cap] : List Value).set 2 (.int .i64 (d.last + 1)) = [.pointer (some ⟨q, 0, none⟩), .int .i64 d.clock, .int .i64 (d.last + 1), .slice a ts.length cap] from rfl] at BS
  have hpl1 := BS.out.lt
  have r1 := BS.out.cell 1
  have r2 := BS.out.cell 2
  have r3 := BS.out.cell 3
  have U := (Up.refl w1).alloc (.cells #[.int .i64 (d.last + 1), .int .i64 d.clock, .slice none 0 0] 63)
  have r3a := U.cell (p := ⟨p, 3, none⟩) hpl1
  rw [show ([Value.pointer (some ⟨q, 0, none⟩), .int .i64 d.clock, .int .i64 (d.last + 1), .slice a ts.length cap])[1]? = some (.int .i64 d.clock) from rfl] at r1
  rw [show ([Value.pointer (some ⟨q, 0, none⟩), .int .i64 d.clock, .int .i64 (d.last + 1), .slice a ts.length cap])[2]? = some (.int .i64 (d.last + 1)) from rfl] at r2
  rw [show ([Value.pointer (some ⟨q, 0, none⟩), .int .i64 d.clock, .int .i64 (d.last + 1), .slice a ts.length cap])[3]? = some (.slice a ts.length cap) from rfl] at r3
  rw [r3] at r3a
  clear U
  go_region_law (first
    | (refine step_append_lies _ rfl (.tmp 21) (.tmp 31) 57 rfl 0 63 i0 (.agg #[.int .i64 0, .int .i64 0, .slice none 0 0]) 3 40 Try.underlying57 hi0 hz0 hz1 hz2 rfl (by decide) (.slice a ts.length cap) ts.length (mtC ts) (by simp [Act.eval]) (by first | exact own_up OW.out (((Up.refl _).alloc _).drew) | exact own_up OW.out (((Up.refl _).drew).alloc _)) ⟨w1.heap.size, 0, none⟩ 1 1 [.int .i64 (d.last + 1), .int .i64 d.clock, .slice none 0 0] (by simp [Act.eval]) rfl (cells_new w1 #[.int .i64 (d.last + 1), .int .i64 d.clock, .slice none 0 0] 63) (by intro u hu; simp at hu; rcases hu with rfl | rfl | rfl <;> rfl) (by decide) (by unfold maxLen; omega) (by omega) (by omega) (w1.heap.size + 1) (by simp) ?_
       intro g2 c2 w2 hown2 hgrow2 hat2 hlt2
       have q0 := fld_far BS.out (by decide) OW.out (by first | exact ((Up.refl _).alloc _).drew | exact ((Up.refl _).drew).alloc _) hgrow2
       have q2 := q0.cell 2
       have q3 := q0.cell 3
       have f3 := q0.free 3
       have hp2 := q0.lt
       rw [show ([Value.pointer (some ⟨q, 0, none⟩), .int .i64 d.clock, .int .i64 (d.last + 1), .slice a ts.length cap])[2]? = some (.int .i64 (d.last + 1)) from rfl] at q2
       have C3 : Hid (Chg (fun j => (Value.slice a ts.length cap).ownBlock = some j) w1 w2) := by first | exact (((Chg.refl _ w1).alloc _).drew).grown hgrow2 (fun k hk => .inl hk) | exact (((Chg.refl _ w1).drew).alloc _).grown hgrow2 (fun k hk => .inl hk)
       have q0 := Lib.hid q0
       have hown2 := Lib.hid hown2
       have hgrow2 := Lib.hid hgrow2
       have hat2 := Lib.hid hat2)
    | fail)
  all_goals
    go_wp2
    go_ret2
    have S2 : w.heap.size ≤ w1.heap.size := CH1.out.size
    have CC : Chg (fun j => (Value.slice a ts.length cap).ownBlock = some j ∨ j = p) w (w2.setCell ⟨p, 3, none⟩ (.slice (some ⟨g2, 0, none⟩) (ts.length + 1) c2)) :=
      (((CH1.out.mono fun _ _ e => .inr e).trans C3.out fun _ _ e => .inl e).trans (chg_set w2 p 3 none _) fun _ _ e => .inr e)
    have hd := HS.out.beg HL.out HN.out CC (q0.out.set 3 _) (own_chg hown2.out (chg_set w2 p 3 none _) fun k hk e => by subst e; exact (((own_ty hown2.out) _ hk).1).ne (by decide) (blk_ty q0.out)) (fun k hk => by
      cases hk
      rcases hat2.out with e | e
      · exact .inl e
      · right; show w.heap.size ≤ g2; omega)
    exact ⟨rfl, hd.post HF.out HLT.out (fun k hk => hk) (fun k hk => .inl hk) CC fun k _ e => by
      rcases e with e | rfl
      · exact .inl (HS.out.actF k e)
      · exact .inl HS.out.fp⟩
end Go.Proofs.Ytnbhdpmhgamjfaa.Sn
