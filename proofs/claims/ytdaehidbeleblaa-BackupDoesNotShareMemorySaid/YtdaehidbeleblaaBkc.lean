/- The archive: Record. -/
import Derived.Test.YtdaehidbeleblaaBkb
namespace Go.Proofs.Ytdaehidbeleblaa.Bk
open Go Go.RowKit Hp
open Mv (Val rowC rowC_len rowC_one rowC_get RM rmC rmC1 rmC_len rmC_get erR RecsR RecsS Srt pos has pos_le has_pos fm_len fm_take fm_drop fm_get fm_set fm_one cloneR)
set_option linter.unusedVariables false

theorem Try.infoC : (Try.prog.info? 63).map (fun i => (i.zero, i.size, i.bytes)) = some (some (.agg #[.int .i64 0, .string ByteArray.empty, .slice none 0 0]), 3, 48) := by kernel_rfl
theorem far_ty {w : World} {p base size n : Nat} {v : Value} {xs : List Value} {T E A : TypeId} {fs : List Value} (hv : w.ownsRow base T size v n xs) (hb : Blk w p fs A) {k : Nat} (hk : Ty w k E) (h1 : E ≠ T) (h2 : E ≠ A) : ¬ (v.ownBlock = some k ∨ k = p) := fun e => by
  rcases e with e | e
  · exact hk.ne h1 ((own_ty hv) k e).1
  · subst e; exact hk.ne h2 (blk_ty hb)
/-- Other changes. -/
theorem ArP.putChg {w w' : World} {p : Nat} {F F' : Nat → Prop} {rs : List RM} {refs : List Nat} {bs : List BM} {cs cs' : List CM} {e e' : Int} {rv fv bv cv cv' : Value} (h : ArP w p F rs refs bs cs e rv fv bv cv)
    (C : Chg (fun j => cv.ownBlock = some j ∨ j = p) w w') (hb : Blk w' p [rv, fv, bv, cv', .int .i64 e'] 59) (hown : w'.ownsRow 0 63 3 cv' cs'.length (cmC cs')) (hF : ∀ k, F k → F' k) (hl : ∀ k, F' k → k < w'.heap.size)
    (hcF : ∀ k, cv'.ownBlock = some k → F' k) (hcr : ∀ c ∈ cs', c ∈ cs ∨ (w'.ownsRow 0 34 3 c.rv c.row.length (rowC c.row) ∧ ∀ k, c.rv.ownBlock = some k → F' k)) : ArP w' p F' rs refs bs cs' e' rv fv bv cv' := by
  have far : ∀ {k : Nat} {E : TypeId}, Ty w k E → E ≠ 63 → E ≠ 59 → ¬ (cv.ownBlock = some k ∨ k = p) := fun ht h1 h2 => far_ty h.chg h.blk ht h1 h2
  have keep : ∀ {base size n : Nat} {v : Value} {xs : List Value} {E : TypeId}, w.ownsRow base E size v n xs → E ≠ 63 → E ≠ 59 → w'.ownsRow base E size v n xs := fun hv h1 h2 => own_chg hv C fun k hk => far ((own_ty hv) k hk).1 h1 h2
  have hcr' : ∀ c ∈ cs', w'.ownsRow 0 34 3 c.rv c.row.length (rowC c.row) ∧ ∀ k, c.rv.ownBlock = some k → F' k := fun c hc => by
    rcases hcr c hc with hc | hc
    · exact ⟨keep (h.crow c hc) (by decide) (by decide), fun k hk => hF k (h.crowF c hc k hk)⟩
    · exact hc
  exact ⟨hl, hF _ h.fp, hb, keep h.rcs (by decide) (by decide), fun k hk => hF k (h.rcsF k hk), keep h.ref (by decide) (by decide), fun k hk => hF k (h.refF k hk), keep h.bak (by decide) (by decide), fun k hk => hF k (h.bakF k hk), hown, hcF,
    fun r hr => keep (h.rrow r hr) (by decide) (by decide), fun r hr k hk => hF k (h.rrowF r hr k hk), fun c hc => (hcr' c hc).1, fun c hc => (hcr' c hc).2, fun b hb => keep (h.idx b hb) (by decide) (by decide), fun b hb k hk => hF k (h.idxF b hb k hk), h.dis⟩
theorem ArPost.behind {w w1 w' : World} {p : Nat} {A' : Ar} {F : Nat → Prop} (hl : ∀ k, F k → k < w.heap.size) (hu : Up w w1) (h : ArPost p A' F w1 w') : ArPost p A' F w w' :=
  ⟨h.1.mono (fun k hk => by
      rcases hk with hk | hk
      · exact .inl hk
      · exact .inr ⟨Nat.le_trans hu.size hk.1, hk.2⟩) fun k hk => by
    rcases hk with hk | hk
    · exact Nat.lt_of_lt_of_le (hl k hk) (Nat.le_trans hu.size h.2.size)
    · exact hk.2, (Below.chg F hu).trans h.2 fun _ _ e => e⟩
theorem fx_new {F : Nat → Prop} {w w' : World} {k : Nat} (h : w.heap.size ≤ k) (h2 : k < w'.heap.size) : Fx F w w' k := .inr ⟨h, h2⟩
theorem rec_step {w1 w2 w3 : World} {p g c : Nat} {F : Nat → Prop} {rs : List RM} {refs : List Nat} {bs : List BM} {cs : List CM} {e t : Int} {rv fv bv cv v : Value} {k : ByteArray} {row : List Val} {o : Obj} (h : ArP w1 p F rs refs bs cs e rv fv bv cv)
    (hv : w2.ownsRow w1.heap.size 34 3 v row.length (rowC row)) (hU : Up w1 w2) (hown : w3.ownsRow 0 63 3 (.slice (some ⟨g, 0, none⟩) (cs.length + 1) c) (cs.length + 1) (cmC cs ++ [.int .i64 t, .string k, v]))
    (hg : (w2.alloc o).grownBy w3 cv.ownBlock) (hat : cv.ownBlock = some g ∨ g = w2.heap.size + 1) :
    ArP (w3.setCell ⟨p, 3, none⟩ (.slice (some ⟨g, 0, none⟩) (cs.length + 1) c)) p (Fx F w1 (w3.setCell ⟨p, 3, none⟩ (.slice (some ⟨g, 0, none⟩) (cs.length + 1) c))) rs refs bs (cs ++ [⟨t, k, v, row⟩]) e rv fv bv (.slice (some ⟨g, 0, none⟩) (cs.length + 1) c) ∧
      Chg F w1 (w3.setCell ⟨p, 3, none⟩ (.slice (some ⟨g, 0, none⟩) (cs.length + 1) c)) := by
  obtain ⟨q1, q2, q3, q4, q5, q6, q7⟩ := fld_append (i := 3) (H := w2.heap.size + 1) h.blk (by decide) h.chg (hU.alloc o) hown hg hat (by have := hU.size; omega)
  have hs := q4.size
  have hvt := own_ty hv
  have hz : (w2.alloc o).heap.size = w2.heap.size + 1 := by simp
  have vnew : ∀ j, v.ownBlock = some j → ¬ (cv.ownBlock = some j ∨ j = p) := fun j hj e => by
    have h1 := (hvt j hj).2
    rcases e with e | e
    · have := own_lt h.chg j e; omega
    · subst e; have := h.lt _ h.fp; omega
  have hv2 := own_chg (own_up hv ((Up.refl w2).alloc o)) q3 vnew
  refine ⟨h.putChg q4 q1 (by simpa [cmC, cmC1] using q2) (fun k hk => .inl hk) (fun k hk => ?_) (fun j hj => ?_) (fun x hx => ?_), q4.mono fun j _ hj => ?_⟩
  · rcases hk with hk | hk
    · exact Nat.lt_of_lt_of_le (h.lt k hk) hs
    · exact hk.2
  · obtain rfl : g = j := by simpa [Value.ownBlock] using hj
    rcases q5 with e | e
    · exact .inl (h.chgF _ e)
    · exact .inr ⟨e, q6⟩
  · rcases List.mem_append.1 hx with hx | hx
    · exact .inl hx
    · rw [List.mem_singleton.1 hx]
      exact .inr ⟨own_base' hv2 fun _ _ => Nat.zero_le _, fun j hj => .inr ⟨(hvt j hj).2, own_lt hv2 j hj⟩⟩
  · rcases hj with hj | hj
    · exact h.chgF j hj
    · subst hj; exact h.fp
theorem aok_chg {A : Ar} (h : AOk A) {c : Ch} (hl : A.chgs.length < 200) (hk : c.key.size ≤ 24) (hr : c.row.length ≤ 6) : AOk { A with chgs := A.chgs ++ [c] } :=
  ⟨h.ne, h.bl, by show (A.chgs ++ [c]).length ≤ 200; simp; omega, h.rl, h.big, h.srt, h.il, h.ilt, h.cnt, fun x hx => by
    rcases List.mem_append.1 hx with hx | hx
    · exact h.ch x hx
    · rw [List.mem_singleton.1 hx]; exact ⟨hk, hr⟩, h.rr⟩
set_option maxRecDepth 100000 in
set_option maxHeartbeats 2000000 in
theorem rec_ok (p : Nat) (A : Ar) (F : Nat → Prop) (t : Int) (k : ByteArray) (rv : Value) (row : List Val) (w : World) (h : ArR w p A F) (hv : Src w 3 rv row.length (rowC row)) (h1 : latA A < t) (h2 : t ≤ 1099511627776) (h3 : k.size ≤ 24) (h4 : row.length ≤ 6) (h5 : A.chgs.length < 200) :
    Calls Try.prog 10 #[.pointer (some ⟨p, 0, none⟩), .int .i64 t, .string k, rv] w fun e w' => e = .returned (.int .i64 0) ∧ ArPost p { A with chgs := A.chgs ++ [⟨t, k, row⟩] } F w w' := by
  obtain ⟨i0, hi0, hz0, hz1, hz2⟩ := info_parts Try.infoC
  have HR := Lib.hid h
  obtain ⟨L, hL⟩ : ∃ L, latA A = L := ⟨_, rfl⟩
  have HL := Lib.hid hL
  have HV := Lib.hid hv
  rw [hL] at h1
  have h1' : ¬ t ≤ L := by omega
  have h2' : ¬ 1099511627776 < t := by omega
  have h3' : ¬ (24 : Int) < (k.size : Int) := by omega
  have h4' : ¬ (6 : Int) < (row.length : Int) := by omega
  obtain ⟨ra, rc, rfl⟩ := Mv.src_rn hv
  obtain ⟨rs, bs, cs, rv, fv, bv, cv, hP, e1, e2, e3, ok⟩ := h
  have hcl : cs.length = A.chgs.length := by rw [← e3, List.length_map]
  rw [← hcl] at h5
  obtain ⟨ca, cc, rfl, hcc1, hcc2, _⟩ := own_form hP.chg
  have a3 := (hP.blk.at (i := 3) rfl)
  have HP := Lib.hid hP
  have HE := Lib.hid (And.intro e1 (And.intro e2 (And.intro e3 ok)))
  have hne : ¬ (cs.length : Int) = 200 := by omega
  have hneb : ((cs.length : Int) == 200) = false := beq_eq_false_iff_ne.2 hne
  obtain ⟨hpl, c3⟩ := a3
  clear hL hv hP e1 e2 e3 ok hcl
  go_enter Try.func10, Try.ntmps10
  go_wp2_with (first
    | (go_at_call 21; refine (latest_of HR.out HL.out).mono ?_; rintro e w1 ⟨rfl, h3⟩; have c3 := (h3.cell (p := ⟨p, 3, none⟩) hpl).trans c3; have H1 := Lib.hid h3; clear h3)
    | fail)
  have HC : Hid (∀ W, Up w1 W → Calls Try.prog 22 #[.slice ra row.length rc] W fun e w' => ∃ v, e = .returned v ∧ w'.ownsRow W.heap.size 34 3 v row.length (rowC row) ∧ Up W w') := fun W hu => cloneR _ _ _ W ((HV.out.up H1.out).up hu) (rowC_one row) (by omega)
  have HP1 := Lib.hid (HP.out.up H1.out)
  have hpl1 : p < w1.heap.size := Nat.lt_of_lt_of_le hpl H1.out.size
  go_region_law (first
    | (refine step_go (f := 22) Try.call22 #[.slice ra row.length rc] (by simp [Act.eval, Act.put]) (HC.out _ (by first | exact Up.refl w1 | exact (Up.refl w1).drew)) ?_
       rintro e w2 ⟨v, rfl, h1, h2⟩
       refine ⟨_, rfl, ?_⟩
       obtain ⟨av, cv, rfl, _, _, _⟩ := own_form h1
       have h2' : Up w1 w2 := (Up.refl w1).drew.trans h2
       have r3 := h2'.cell (p := ⟨p, 3, none⟩) hpl1
       have hp1 : p < w2.heap.size := Nat.lt_of_lt_of_le hpl1 h2'.size
       rw [c3] at r3
       have H2 := Lib.hid h1
       have H3 := Lib.hid h2'
       clear h1 h2 h2')
    | (refine step_append_lies _ rfl (.tmp 35) (.tmp 41) 57 rfl 0 63 i0 (.agg #[.int .i64 0, .string ByteArray.empty, .slice none 0 0]) 3 48 Try.underlying57 hi0 hz0 hz1 hz2 rfl (by decide) (.slice ca cs.length cc) cs.length (cmC cs) (by simp [Act.eval]) (by first | exact own_up HP1.out.chg (H3.out.alloc _)) ⟨w2.heap.size, 0, none⟩ 1 1 [.int .i64 t, .string k, .slice av row.length cv] (by simp [Act.eval]) rfl (cells_new w2 #[.int .i64 t, .string k, .slice av row.length cv] 63) (by intro u hu; simp at hu; rcases hu with rfl | rfl | rfl <;> rfl) (by omega) (by unfold maxLen; omega) (by omega) (Nat.zero_le _) (w2.heap.size + 1) (by simp) ?_
       intro g2 c2 w3 hown2 hgrow2 hat2 hlt2
       have q0 := fld_far HP1.out.blk (by decide) HP1.out.chg (H3.out.alloc _) hgrow2
       have q1 := q0.cell 3
       have q2 := q0.free 3
       clear q0
       have hown2 := Lib.hid hown2
       have hgrow2 := Lib.hid hgrow2
       have hat2 := Lib.hid hat2))
  all_goals
    go_wp2
    go_ret
    obtain ⟨p1, p2⟩ := rec_step HP1.out H2.out H3.out hown2.out hgrow2.out hat2.out
    obtain ⟨e1, e2, e3, ok⟩ := HE.out
    exact ⟨rfl, ArPost.behind HR.out.lt H1.out ⟨⟨rs, bs, _, rv, fv, bv, _, p1, e1, e2, by simp [e3, erCh], aok_chg ok (by rw [← e3, List.length_map]; exact h5) h3 h4⟩, p2⟩⟩
end Go.Proofs.Ytdaehidbeleblaa.Bk
