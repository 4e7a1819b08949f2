/- The simulated disk: Write. -/
import Derived.Test.YtmaeeidaegigcaaDkb
import Derived.Laws.CopyOwn
namespace Go.Proofs.Ytmaeeidaegigcaa.Dk
open Go Go.RowKit Hp
set_option linter.unusedVariables false

def ByteR (w : World) (b o : Nat) (x : Int) : Prop := At w b o (.int .u8 x)
theorem byteR_grows : Grows ByteR := fun _ _ _ _ _ h hu => At.grow h hu
abbrev Bytes := Arr ByteR 1
theorem Bytes.chg {S : Nat → Prop} {w w' : World} {v : Value} {l : List Int} (h : Bytes w v l) (hc : Chg S w w') (hS : ∀ a n c, v = .slice (some a) n c → ¬ S a.block) : Bytes w' v l := by
  obtain ⟨a, cap, hv, h1, h2, h2', h3⟩ := h
  refine ⟨a, cap, hv, h1, h2, h2', fun i hi => ?_⟩
  obtain ⟨b, off, ha, hr⟩ := h3 i hi
  exact ⟨b, off, ha, At.chg hr hc (hS ⟨b, off, none⟩ _ _ (by rw [hv, ha]))⟩
theorem bytes_own {w : World} {base : Nat} {v : Value} {l : List Int} (h : w.ownsRow base 5 1 v l.length (bc l)) : Bytes w v l :=
  own_arr h fun g hg hc i hi => by rw [Nat.mul_one]; exact hc i _ (by simp [hi])

/-- A write more. -/
theorem push_step {wr w2 : World} {p s g g2 c2 : Nat} {d : Dsk} {F : Nat → Prop} {dv pv : Value} {xs ys : List Value} {data : List Int} (ok : DOk d) (lt : ∀ k, F k → k < wr.heap.size) (hp : F p) (hb : Blk wr p [dv, pv] 74)
    (hd : wr.ownsRow 0 28 1 dv d.dur.length xs) (hdF : ∀ k, dv.ownBlock = some k → F k) (hq : wr.ownsRow 0 76 2 pv d.pend.length ys) (hqF : ∀ k, pv.ownBlock = some k → F k) (hD : DurR wr F xs d.dur) (hP : PendR wr F ys d.pend)
    (hrow : Blk wr g (bc (pad data)) 5) (hs : s < d.dur.length) (hdl : data.length ≤ 32)
    (hown : w2.ownsRow 0 76 2 (.slice (some ⟨g2, 0, none⟩) (d.pend.length + 1) c2) (d.pend.length + 1) (ys ++ [.int .i64 (s : Int), .slice (some ⟨g, 0, none⟩) 32 32]))
    (hg : (wr.alloc (.cells #[.int .i64 (s : Int), .slice (some ⟨g, 0, none⟩) 32 32] 76)).grownBy w2 pv.ownBlock) (hat : pv.ownBlock = some g2 ∨ g2 = wr.heap.size + 1) :
    DiskR (w2.setCell ⟨p, 1, none⟩ (.slice (some ⟨g2, 0, none⟩) (d.pend.length + 1) c2)) p (d.write s data) (fun k => F k ∨ k = g ∨ (wr.heap.size ≤ k ∧ k < (w2.setCell ⟨p, 1, none⟩ (.slice (some ⟨g2, 0, none⟩) (d.pend.length + 1) c2)).heap.size)) ∧
      Chg F wr (w2.setCell ⟨p, 1, none⟩ (.slice (some ⟨g2, 0, none⟩) (d.pend.length + 1) c2)) := by
  obtain ⟨h1, h2, _, h4, h5, h6, h7⟩ := fld_append (i := 1) hb (by decide) hq ((Up.refl wr).alloc _) hown hg hat (Nat.le_add_right _ _)
  obtain ⟨w3, hw3⟩ : ∃ w3, w3 = w2.setCell ⟨p, 1, none⟩ (.slice (some ⟨g2, 0, none⟩) (d.pend.length + 1) c2) := ⟨_, rfl⟩
  rw [← hw3] at h1 h2 h4 h6 ⊢
  have hz := h4.size
  have notU : ∀ j, (pv.ownBlock = some j ∨ j = p) → ¬ Ty wr j 5 := fun j e => by
    rcases e with e | e
    · exact (h7 j e).ne (by decide)
    · subst e; exact (blk_ty hb).ne (by decide)
  have hR : ∀ v r, RowR wr F v r → RowR w3 (fun k => F k ∨ k = g ∨ (wr.heap.size ≤ k ∧ k < w3.heap.size)) v r := fun v r hr => (hr.chg h4 fun j _ => notU j).mono fun j _ hj => .inl hj
  have hrw : RowR w3 (fun k => F k ∨ k = g ∨ (wr.heap.size ≤ k ∧ k < w3.heap.size)) (.slice (some ⟨g, 0, none⟩) 32 32) (pad data) := ⟨g, rfl, .inr (.inl rfl), hrow.chg h4 fun e => notU g e (blk_ty hrow)⟩
  refine ⟨⟨ok.write hs hdl, fun k hk => ?_, dv, _, xs, _, .inl hp, h1, ?_, fun k hk => .inl (hdF k hk), ?_, fun k hk => ?_, hD.same hR, (hP.same hR).snoc hrw⟩, h4.mono fun j _ e => ?_⟩
  · rcases hk with hk | hk | hk
    · have := lt k hk; omega
    · have := hrow.lt; omega
    · exact hk.2
  · exact own_chg hd h4 fun j hj e => by
      rcases e with e | e
      · exact (h7 j e).ne (by decide) ((own_ty hd) j hj).1
      · subst e; exact (blk_ty hb).ne (by decide) ((own_ty hd) _ hj).1
  · show w3.ownsRow 0 76 2 _ (d.pend ++ [(s, pad data)]).length _
    rw [List.length_append]; exact h2
  · obtain rfl : g2 = k := by simpa [Value.ownBlock] using hk
    rcases h5 with e | e
    · exact .inl (hqF _ e)
    · exact .inr (.inr ⟨e, h6⟩)
  · rcases e with e | e
    · exact hqF _ e
    · subst e; exact hp

theorem splice_pad {data : List Int} (h : data.length ≤ 32) : splice zrow 0 (bc data) = bc (pad data) := by
  unfold splice pad zrow bc
  rw [List.map_append, List.map_replicate, List.map_replicate, List.take_zero, List.nil_append, List.drop_replicate]
  simp only [List.length_map, Nat.zero_add]
set_option maxRecDepth 100000 in
set_option maxHeartbeats 2000000 in
theorem write_any (p s : Nat) (d : Dsk) (F : Nat → Prop) (vd : Value) (data : List Int) (w : World) (h : DiskR w p d F) (hs : s < d.dur.length) (hvd : Bytes w vd data) (hdl : data.length ≤ 32) (hpl : d.pend.length < 1000) :
    Calls Try.prog 14 #[.pointer (some ⟨p, 0, none⟩), .int .i64 s, vd] w fun e w' => e = .returned (.int .i64 0) ∧ DiskR w' p (d.write s data) (Fx F w w') ∧ Chg F w w' := by
  obtain ⟨i0, hi, hz0, hz1, hz2⟩ := info_parts Try.infoB
  have hmk : ∀ w : World, (Instr.makeSlice 28 (.int .i64 32) (.int .i64 32)).run Try.prog w = .ok (.slice (some ⟨w.heap.size, 0, none⟩) 32 32) (w.alloc (.cells z32 5)) := fun w => by
    have h := run_make (P := Try.prog) w 28 5 i0 (.int .u8 0) Try.underlying28 hi hz0 .i64 .i64 32 32 (by omega) (Int.le_refl _) (by rw [hz2]; omega) (by omega)
    rw [hz1] at h
    rw [← made32]
    exact h
  clear hz0 hz2
  obtain ⟨i1, hj, hj0, hj1, hj2⟩ := info_parts Try.infoPw
  have HD := Lib.hid h
  obtain ⟨ok, lt, dv, pv, xs, ys, hp, hb, hd, hdF, hq, hqF, hDu, hPe⟩ := h
  obtain ⟨ad, cd, rfl, hc1, hc2, hc3⟩ := own_form hd
  obtain ⟨aq, cq, rfl, hc4, hc5, hc6⟩ := own_form hq
  obtain ⟨av, cv, rfl, hv1, hv2, hv3, hv4⟩ := hvd
  have HV := Lib.hid hv4
  have hdur := ok.dur
  have d1 : decide ((s : Int) < 0) = false := decide_eq_false (by omega)
  have d2 : decide ((d.dur.length : Int) ≤ (s : Int)) = false := decide_eq_false (by omega)
  have d3 : decide ((32 : Int) < (data.length : Int)) = false := decide_eq_false (by omega)
  have d4 : ((d.pend.length : Int) == 1000) = false := beq_eq_false_iff_ne.2 (by omega)
  have c0 := hb.cell 0
  have c1 := hb.cell 1
  rw [show ([Value.slice ad d.dur.length cd, Value.slice aq d.pend.length cq])[0]? = some (.slice ad d.dur.length cd) from rfl] at c0
  rw [show ([Value.slice ad d.dur.length cd, Value.slice aq d.pend.length cq])[1]? = some (.slice aq d.pend.length cq) from rfl] at c1
  have HB := Lib.hid hb
  have HT := Lib.hid (And.intro hd (And.intro hdF (And.intro hq (And.intro hqF (And.intro hDu hPe)))))
  have LT := Lib.hid lt
  have HG : Hid ((w.alloc (.cells z32 5)).heap[w.heap.size]? = some (.cells zrow.toArray 5 (0, 0))) := Blk.new w z32 5
  have HS : Hid ((Try.prog.info? 5).map (·.size) = some 1) := by unfold Hid; rw [hi]; simp [hz1]
  clear hc3 hc6 hv3 hv4 hdur hdF hqF hDu hPe hb lt hd hq
  go_enter Try.func14, Try.ntmps14
  go_wp2_with (with_reducible refine wpList_copy_splice rfl (.tmp 29) (.tmp 30) 28 28 rfl 5 Try.underlying28 HS.out (some ⟨w.heap.size, 0, none⟩) av 32 32 data.length cv rfl rfl w.heap.size 0 zrow 5 HG.out (bc data) ?l1 ?l2 ?l3 ?l4 w.heap.size w ((Up.refl w).alloc _) (Nat.le_refl _) ?_)
  case l1 => rw [List.length_map]; exact (Nat.min_eq_left hdl).symm
  case l2 =>
    intro h0
    obtain ⟨b, off, rfl, _⟩ := HV.out 0 (by simpa using h0)
    refine ⟨_, rfl, fun j v hj => ?_⟩
    have hjl : j < data.length := by have := (List.getElem?_eq_some_iff.1 hj).1; simpa using this
    obtain ⟨b', off', he, hr⟩ := HV.out j hjl
    cases he
    rw [Addr.add_lit]
    have hr' := (At.grow hr ((Up.refl w).alloc (.cells z32 5))).2
    rw [Nat.mul_one] at hr'
    rw [hr']
    have hq : data[j] = v := by simpa [hjl] using hj
    rw [hq]
  case l3 => simp [zrow]; omega
  case l4 => intro v hv; obtain ⟨x, _, rfl⟩ := List.mem_map.1 hv; rfl
  intro w1 hrow hu1
  have ROW : Hid (Blk w1 w.heap.size (bc (pad data)) 5) := by
    have h := hrow.out
    rw [splice_pad hdl] at h
    exact h
  clear hrow
  clear HD
  obtain ⟨hd, hdF, hq, hqF, hDu, hPe⟩ := HT.out
  have hR : ∀ v r, RowR w F v r → RowR w1 F v r := fun v r hr => hr.chg (Below.chg (fun _ => False) hu1) fun _ _ e => absurd e id
  have hb1 := HB.out.up hu1
  have hd1 := own_up hd hu1
  have hq1 := own_up hq hu1
  have c0 := hb1.cell 1
  have c1 := hb1.free 1
  rw [show ([Value.slice ad d.dur.length cd, Value.slice aq d.pend.length cq])[1]? = some (.slice aq d.pend.length cq) from rfl] at c0
  have OWN : Hid ((w1.alloc (.cells #[.int .i64 (s : Int), .slice (some ⟨w.heap.size, 0, none⟩) 32 32] 76)).ownsRow 0 76 2 (.slice aq d.pend.length cq) d.pend.length ys) := own_up hq1 ((Up.refl w1).alloc _)
  have NEWS : Hid (∀ j u, [Value.int .i64 (s : Int), .slice (some ⟨w.heap.size, 0, none⟩) 32 32][j]? = some u → (w1.alloc (.cells #[.int .i64 (s : Int), .slice (some ⟨w.heap.size, 0, none⟩) 32 32] 76)).cell? ((⟨w1.heap.size, 0, none⟩ : Addr).add j) = some u) := cells_new w1 _ _
  have FAR : Hid (∀ w2, (w1.alloc (.cells #[.int .i64 (s : Int), .slice (some ⟨w.heap.size, 0, none⟩) 32 32] 76)).grownBy w2 (Value.slice aq d.pend.length cq).ownBlock → Blk w2 p [.slice ad d.dur.length cd, .slice aq d.pend.length cq] 74) := fun w2 hg => fld_far hb1 (by decide) hq1 ((Up.refl w1).alloc _) hg
  have HB1 := Lib.hid hb1
  have hsz := hu1.size
  clear hb1 hq hd hDu hPe
  go_wp2_with ((at_builtin; refine wpList_append_lies _ rfl (.tmp 36) (.tmp 40) 72 rfl 0 76 i1 (.agg #[.int .i64 0, .slice none 0 0]) 2 32 Try.underlying72 hj hj0 hj1 hj2 rfl (by decide) (.slice aq d.pend.length cq) _ ys rfl OWN.out ⟨w1.heap.size, 0, none⟩ 1 1 [.int .i64 (s : Int), .slice (some ⟨w.heap.size, 0, none⟩) 32 32] rfl rfl NEWS.out (by intro u hu; simp at hu; rcases hu with rfl | rfl <;> rfl) (by decide) (by unfold maxLen; omega) (by omega) (by omega) (w1.heap.size + 1) (by simp) ?_; intro g2 c2 w2 hown2 hgrow2 hat2 hlt2; have q0 := FAR.out w2 hgrow2; have q1 := q0.cell 1; have q2 := q0.free 1; clear q0; have hown2 := Lib.hid hown2; have hgrow2 := Lib.hid hgrow2; have hat2 := Lib.hid hat2))
  all_goals
    go_wp2
    go_ret
    obtain ⟨hd, hdF, hq, hqF, hDu, hPe⟩ := HT.out
    obtain ⟨h1, h2⟩ := push_step ok (fun k hk => by have := LT.out k hk; omega) hp HB1.out hd1 hdF hq1 hqF (hDu.same hR) (hPe.same hR) ROW.out hs hdl hown2.out hgrow2.out hat2.out
    refine ⟨rfl, h1.mono (fun k hk => ?_) (fun k hk => ?_), (Below.chg F hu1).trans h2 fun _ _ e => e⟩
    · have := h2.size
      have := ROW.out.lt
      rcases hk with hk | hk | hk
      · exact .inl hk
      · exact .inr (by omega)
      · exact .inr (by omega)
    · have := h2.size
      rcases hk with hk | hk
      · have := LT.out k hk; omega
      · exact hk.2
end Go.Proofs.Ytmaeeidaegigcaa.Dk
