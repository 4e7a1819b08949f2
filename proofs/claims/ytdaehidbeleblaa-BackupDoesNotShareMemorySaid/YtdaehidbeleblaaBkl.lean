/- The archive: the memory of FullBackup's loop. -/
import Derived.Test.YtdaehidbeleblaaBkk
namespace Go.Proofs.Ytdaehidbeleblaa.Bk
open Go Go.RowKit Hp
open Mv (Val rowC rowC_len rowC_one rowC_get RM rmC rmC1 rmC_len rmC_get erR RecsR RecsS Srt pos has pos_le has_pos fm_len fm_take fm_drop fm_get fm_set fm_one cloneR)
set_option linter.unusedVariables false

/-- What a region leaves, told once for all its ways. -/
def OnNormal (R : Act → World → Prop) : Exit → Act → World → Prop
  | .normal, a, w => R a w
  | _, _, _ => False
theorem OnNormal.of {R : Act → World → Prop} {a : Act} {w : World} (h : R a w) : OnNormal R .normal a w := h
theorem region_split {P : Program} {c : Code} {Q : Exit → Act → World → Prop} {a : Act} {w : World} (R : Act → Act → World → Prop) (h1 : c.wp P (OnNormal (R a)) a w) (h2 : ∀ a' w', R a a' w' → Q .normal a' w') : c.wp P Q a w :=
  Code.wp_mono (fun e a' w' h => by
    cases e <;> first | exact h2 a' w' h | exact (h : False).elim) h1
theorem Try.infoInt : (Try.prog.info? 3).map (fun i => (i.zero, i.size, i.bytes)) = some (some (.int .i64 0), 1, 8) := by kernel_rfl
theorem cell_int (w : World) (v : Value) (E : TypeId) (g : Nat) (hg : w.heap.size = g) : ∀ (j : Nat) u, [v][j]? = some u → (w.alloc (.cells #[v] E)).cell? ((⟨g, 0, none⟩ : Addr).add j) = some u := by
  subst hg
  exact cells_new w #[v] E
/-- The archive's blocks: the elder ones and those that are new since w, without the variable b, its slice and the state's. -/
def NG (F : Nat → Prop) (w wr : World) (bb : Nat) (iv sv : Value) : Nat → Prop := fun k => Fx F w wr k ∧ k ≠ bb ∧ iv.ownBlock ≠ some k ∧ sv.ownBlock ≠ some k
structure FBM (w wr : World) (p : Nat) (F : Nat → Prop) (e t : Int) (bb : Nat) (bs : List BM) (cs : List CM) (bv cv sv : Value) (qs rs : List RM) (refs idx : List Nat) (rv fv iv : Value) : Prop where
  ar : ArP wr p (NG F w wr bb iv sv) rs refs bs cs e rv fv bv cv
  chg : Chg F w wr
  blk : Blk wr bb [.int .i64 t, iv] 55
  bbn : w.heap.size ≤ bb
  own : wr.ownsRow w.heap.size 3 1 iv idx.length (icN idx)
  sto : wr.ownsRow w.heap.size 40 2 sv qs.length (rmC qs)
  row : ∀ r ∈ qs, wr.ownsRow w.heap.size 34 3 r.rv r.row.length (rowC r.row)
theorem ng_mono {F : Nat → Prop} {w wr wr' : World} {bb : Nat} {iv sv : Value} (hs : wr.heap.size ≤ wr'.heap.size) {k : Nat} (h : NG F w wr bb iv sv k) : NG F w wr' bb iv sv k := by
  refine ⟨?_, h.2⟩
  rcases h.1 with h | h
  · exact .inl h
  · exact .inr ⟨h.1, by omega⟩
theorem ng_lt {F : Nat → Prop} {w wr : World} {bb : Nat} {iv sv : Value} (hl : ∀ k, F k → k < w.heap.size) (hs : w.heap.size ≤ wr.heap.size) {k : Nat} (h : NG F w wr bb iv sv k) : k < wr.heap.size := by
  rcases h.1 with h | h
  · have := hl k h; omega
  · exact h.2
section
variable {w wr wr' : World} {p bb : Nat} {F : Nat → Prop} {e t : Int} {bs : List BM} {cs : List CM} {bv cv sv : Value} {qs rs rs' : List RM} {refs refs' idx : List Nat} {rv rv' fv fv' iv : Value}
theorem FBM.up (h : FBM w wr p F e t bb bs cs bv cv sv qs rs refs idx rv fv iv) (hl : ∀ k, F k → k < w.heap.size) (hu : Up wr wr') : FBM w wr' p F e t bb bs cs bv cv sv qs rs refs idx rv fv iv :=
  ⟨(h.ar.up hu).mono (fun k hk => ng_mono hu.size hk) fun k hk => ng_lt hl (Nat.le_trans h.chg.size hu.size) hk, h.chg.trans (Below.chg (fun _ => False) hu) fun _ _ e => e.elim, h.blk.below hu h.blk.lt, h.bbn, own_up h.own hu, own_up h.sto hu, fun r hr => own_up (h.row r hr) hu⟩
/-- Behind a step that has written into the archive alone. -/
theorem FBM.of (h : FBM w wr p F e t bb bs cs bv cv sv qs rs refs idx rv fv iv) (C : Chg (fun j => fv.ownBlock = some j ∨ rv.ownBlock = some j ∨ j = p) wr wr') (ha : ArP wr' p (NG F w wr' bb iv sv) rs' refs' bs cs e rv' fv' bv cv) :
    FBM w wr' p F e t bb bs cs bv cv sv qs rs' refs' idx rv' fv' iv := by
  have tf := own_ty h.ar.ref
  have tr := own_ty h.ar.rcs
  have tp := blk_ty h.ar.blk
  have far : ∀ {k : Nat} {E : TypeId}, Ty wr k E → E ≠ 3 → E ≠ 40 → E ≠ 59 → ¬ (fv.ownBlock = some k ∨ rv.ownBlock = some k ∨ k = p) := fun {k E} ht h1 h2 h3 hh => by
    rcases hh with hh | hh | hh
    · exact ht.ne h1 (tf k hh).1
    · exact ht.ne h2 (tr k hh).1
    · subst hh; exact ht.ne h3 tp
  refine ⟨ha, h.chg.trans C fun j hj hh => ?_, h.blk.chg C (far (blk_ty h.blk) (by decide) (by decide) (by decide)), h.bbn, own_chg h.own C fun k hk hh => ?_, own_chg h.sto C fun k hk hh => ?_, fun r hr => own_chg (h.row r hr) C fun k hk => far ((own_ty (h.row r hr)) k hk).1 (by decide) (by decide) (by decide)⟩
  · have : NG F w wr bb iv sv j := by
      rcases hh with hh | hh | hh
      · exact h.ar.refF j hh
      · exact h.ar.rcsF j hh
      · subst hh; exact h.ar.fp
    rcases this.1 with h1 | h1
    · exact h1
    · omega
  · rcases hh with hh | hh | hh
    · exact (h.ar.refF k hh).2.2.1 hk
    · exact ((own_ty h.own) k hk).1.ne (by decide) (tr k hh).1
    · subst hh; exact ((own_ty h.own) _ hk).1.ne (by decide) tp
  · rcases hh with hh | hh | hh
    · exact ((own_ty h.sto) k hk).1.ne (by decide) (tf k hh).1
    · exact (h.ar.rcsF k hh).2.2.2 hk
    · subst hh; exact ((own_ty h.sto) _ hk).1.ne (by decide) tp
theorem FBM.setRef {g c i : Nat} (h : FBM w wr p F e t bb bs cs bv cv sv qs rs refs idx rv (.slice (some ⟨g, 0, none⟩) refs.length c) iv) (hl : ∀ k, F k → k < w.heap.size) (hi : i < refs.length) (n : Nat) :
    FBM w (wr.setCell ⟨g, i, none⟩ (.int .i64 (n : Int))) p F e t bb bs cs bv cv sv qs rs (refs.set i n) idx rv (.slice (some ⟨g, 0, none⟩) refs.length c) iv := by
  have hs : (wr.setCell ⟨g, i, none⟩ (.int .i64 (n : Int))).heap.size = wr.heap.size := by simp [World.setCell]
  refine h.of ((chg_set wr g i none _).mono fun j _ e => .inl (by rw [e]; rfl)) ((h.ar.setRef hi n).1.mono (fun k hk => ng_mono (by omega) hk) fun k hk => ng_lt hl (by rw [hs]; exact h.chg.size) hk)
theorem FBM.setRec {g c i : Nat} (h : FBM w wr p F e t bb bs cs bv cv sv qs rs refs idx (.slice (some ⟨g, 0, none⟩) rs.length c) fv iv) (hl : ∀ k, F k → k < w.heap.size) (hi : i < rs.length) {x : RM} (hx : x ∈ qs) :
    FBM w ((wr.setCell ⟨g, i * 2, none⟩ (.string x.key)).setCell ⟨g, i * 2 + 1, none⟩ x.rv) p F e t bb bs cs bv cv sv qs (rs.set i x) refs idx (.slice (some ⟨g, 0, none⟩) rs.length c) fv iv := by
  have hs : ((wr.setCell ⟨g, i * 2, none⟩ (.string x.key)).setCell ⟨g, i * 2 + 1, none⟩ x.rv).heap.size = wr.heap.size := by simp [World.setCell]
  have C : Chg (fun j => j = g) wr ((wr.setCell ⟨g, i * 2, none⟩ (.string x.key)).setCell ⟨g, i * 2 + 1, none⟩ x.rv) := (chg_set wr g (i * 2) none (.string x.key)).set (.inl rfl) _ _ _
  have hxF : ∀ k, x.rv.ownBlock = some k → NG F w wr bb iv sv k := fun k hk => by
    obtain ⟨h1, h2⟩ := (own_ty (h.row x hx)) k hk
    exact ⟨.inr ⟨h2, h1.lt⟩, fun e => by subst e; exact h1.ne (by decide) (blk_ty h.blk), fun e => h1.ne (by decide) ((own_ty h.own) k e).1, fun e => h1.ne (by decide) ((own_ty h.sto) k e).1⟩
  refine h.of (C.mono fun j _ e => .inr (.inl (by rw [e]; rfl))) ((h.ar.setRec hi x (own_base' (h.row x hx) fun _ _ => Nat.zero_le _) (fun k hk => hk) h.ar.lt hxF).1.mono (fun k hk => ng_mono (by omega) hk) fun k hk => ng_lt hl (by rw [hs]; exact h.chg.size) hk)
/-- The variable b's slice is one longer. -/
theorem FBM.snoc {w3 : World} {o : Obj} {g c z : Nat} (h : FBM w wr p F e t bb bs cs bv cv sv qs rs refs idx rv fv iv) (hl : ∀ k, F k → k < w.heap.size) (hown : w3.ownsRow w.heap.size 3 1 (.slice (some ⟨g, 0, none⟩) (idx.length + 1) c) (idx.length + 1) (icN idx ++ [.int .i64 (z : Int)]))
    (hg : (wr.alloc o).grownBy w3 iv.ownBlock) (hat : iv.ownBlock = some g ∨ g = wr.heap.size + 1) :
    FBM w (w3.setCell ⟨bb, 1, none⟩ (.slice (some ⟨g, 0, none⟩) (idx.length + 1) c)) p F e t bb bs cs bv cv sv qs rs refs (idx ++ [z]) rv fv (.slice (some ⟨g, 0, none⟩) (idx.length + 1) c) := by
  obtain ⟨q1, q2, q3, q4, q5, q6, q7⟩ := fld_append (i := 1) (H := wr.heap.size + 1) h.blk (by decide) (own_base' h.own fun _ _ => Nat.zero_le _) ((Up.refl wr).alloc o) (own_base' hown fun _ _ => Nat.zero_le _) hg hat (by omega)
  have hsz := h.chg.size
  have hs := q4.size
  have nS : ∀ k, NG F w wr bb iv sv k → ¬ (iv.ownBlock = some k ∨ k = bb) := fun k hk e => by
    rcases e with e | e
    · exact hk.2.2.1 e
    · exact hk.2.1 e
  have far : ∀ {k : Nat} {E : TypeId}, Ty wr k E → E ≠ 3 → E ≠ 55 → ¬ (iv.ownBlock = some k ∨ k = bb) := fun ht h1 h2 hh => by
    rcases hh with hh | hh
    · exact ht.ne h1 ((own_ty h.own) _ hh).1
    · subst hh; exact ht.ne h2 (blk_ty h.blk)
  have gn : w.heap.size ≤ g := by
    rcases q5 with e | e
    · exact ((own_ty h.own) g e).2
    · omega
  refine ⟨(h.ar.chg' q4 nS).mono (fun k hk => ⟨(ng_mono hs hk).1, hk.2.1, fun e => ?_, hk.2.2.2⟩) fun k hk => ng_lt hl (by omega) hk, h.chg.trans q4 fun j hj hh => ?_, q1, h.bbn, ?_, own_chg h.sto q4 fun k hk => far ((own_ty h.sto) k hk).1 (by decide) (by decide), fun r hr => own_chg (h.row r hr) q4 fun k hk => far ((own_ty (h.row r hr)) k hk).1 (by decide) (by decide)⟩
  · obtain rfl : g = k := by simpa [Value.ownBlock] using e
    rcases q5 with e2 | e2
    · exact hk.2.2.1 e2
    · have := h.ar.lt _ hk; omega
  · rcases hh with hh | hh
    · have := ((own_ty h.own) j hh).2; omega
    · have := h.bbn; omega
  · have := own_base' q2 (base' := w.heap.size) fun k hk => by
      obtain rfl : g = k := by simpa [Value.ownBlock] using hk
      exact gn
    simpa [icN] using this
theorem FBM.start {w2 : World} (h : ArP w p F rs refs bs cs e rv fv bv cv) (hu : Up w w2) (q2 : w2.ownsRow w.heap.size 40 2 sv qs.length (rmC qs)) (q3 : ∀ r ∈ qs, w2.ownsRow w.heap.size 34 3 r.rv r.row.length (rowC r.row)) :
    FBM w (w2.alloc (.cells #[.int .i64 t, .slice none 0 0] 55)) p F e t w2.heap.size bs cs bv cv sv qs rs refs [] rv fv (.slice none 0 0) := by
  have hu2 := hu.alloc (.cells #[.int .i64 t, .slice none 0 0] 55)
  have ha := (Up.refl w2).alloc (.cells #[.int .i64 t, .slice none 0 0] 55)
  refine ⟨(h.up hu2).mono (fun k hk => ⟨.inl hk, fun e => ?_, (fun e => by cases e), fun e => ?_⟩) fun k hk => ng_lt h.lt hu2.size hk, Below.chg F hu2, Blk.new _ _ _, hu.size, World.ownsRow_nil _ _ _ _, own_up q2 ha, fun r hr => own_up (q3 r hr) ha⟩
  · have := h.lt k hk; have := hu.size; omega
  · have := h.lt k hk; have := ((own_ty q2) k e).2; omega
end
theorem ArP.put2 {w w' : World} {p : Nat} {F F' : Nat → Prop} {rs rs' : List RM} {refs refs' : List Nat} {bs : List BM} {cs : List CM} {e : Int} {rv rv' fv fv' bv cv : Value} (h : ArP w p F rs refs bs cs e rv fv bv cv)
    (C : Chg (fun j => fv.ownBlock = some j ∨ rv.ownBlock = some j ∨ j = p) w w') (hb : Blk w' p [rv', fv', bv, cv, .int .i64 e] 59) (h1 : w'.ownsRow 0 40 2 rv' rs'.length (rmC rs')) (h2 : w'.ownsRow 0 3 1 fv' refs'.length (icN refs'))
    (hF : ∀ k, F k → F' k) (hl : ∀ k, F' k → k < w'.heap.size) (hrF : ∀ k, rv'.ownBlock = some k → F' k) (hfF : ∀ k, fv'.ownBlock = some k → F' k) (hdis : ∀ k, fv'.ownBlock = some k → fv.ownBlock = some k ∨ ¬ F k)
    (hrr : ∀ r ∈ rs', r ∈ rs ∨ (w'.ownsRow 0 34 3 r.rv r.row.length (rowC r.row) ∧ ∀ k, r.rv.ownBlock = some k → F' k)) : ArP w' p F' rs' refs' bs cs e rv' fv' bv cv := by
  have far : ∀ {k : Nat} {E : TypeId}, Ty w k E → E ≠ 3 → E ≠ 40 → E ≠ 59 → ¬ (fv.ownBlock = some k ∨ rv.ownBlock = some k ∨ k = p) := fun {k E} ht h1 h2 h3 hh => by
    rcases hh with hh | hh | hh
    · exact ht.ne h1 ((own_ty h.ref) k hh).1
    · exact ht.ne h2 ((own_ty h.rcs) k hh).1
    · subst hh; exact ht.ne h3 (blk_ty h.blk)
  have keep : ∀ {base size n : Nat} {v : Value} {xs : List Value} {E : TypeId}, w.ownsRow base E size v n xs → E ≠ 3 → E ≠ 40 → E ≠ 59 → w'.ownsRow base E size v n xs := fun hv h1 h2 h3 => own_chg hv C fun k hk => far ((own_ty hv) k hk).1 h1 h2 h3
  have hrr' : ∀ r ∈ rs', w'.ownsRow 0 34 3 r.rv r.row.length (rowC r.row) ∧ ∀ k, r.rv.ownBlock = some k → F' k := fun r hr => by
    rcases hrr r hr with hr | hr
    · exact ⟨keep (h.rrow r hr) (by decide) (by decide) (by decide), fun k hk => hF k (h.rrowF r hr k hk)⟩
    · exact hr
  refine ⟨hl, hF _ h.fp, hb, h1, hrF, h2, hfF, keep h.bak (by decide) (by decide) (by decide), fun k hk => hF k (h.bakF k hk), keep h.chg (by decide) (by decide) (by decide), fun k hk => hF k (h.chgF k hk),
    fun r hr => (hrr' r hr).1, fun r hr => (hrr' r hr).2, fun c hc => keep (h.crow c hc) (by decide) (by decide) (by decide), fun c hc k hk => hF k (h.crowF c hc k hk), fun b hm => own_chg (h.idx b hm) C fun k hk e => ?_, fun b hm k hk => hF k (h.idxF b hm k hk), fun b hm k hk e => ?_⟩
  · rcases e with e | e | e
    · exact h.dis b hm k hk e
    · exact ((own_ty (h.idx b hm)) k hk).1.ne (by decide) ((own_ty h.rcs) k e).1
    · subst e; exact ((own_ty (h.idx b hm)) _ hk).1.ne (E' := 59) (by decide) (blk_ty h.blk)
  · rcases hdis k e with e2 | e2
    · exact h.dis b hm k hk e2
    · exact e2 (h.idxF b hm k hk)
theorem own_far {W w5 : World} {b b' s s' n n' : Nat} {v v' : Value} {xs xs' : List Value} {E T : TypeId} (hv : W.ownsRow b E s v n xs) (hr : W.ownsRow b' T s' v' n' xs') (hne : E ≠ T) (hg : W.grownBy w5 v'.ownBlock) : w5.ownsRow b E s v n xs :=
  own_chg hv ((Chg.refl (fun j => v'.ownBlock = some j) W).grown hg fun k hk => .inl hk) fun k hk e => ((own_ty hv) k hk).1.ne hne ((own_ty hr) k e).1
/-- A slot more: both slices have grown, then both fields are stored. -/
theorem FBM.grow {w w4 W w5 W' w6 : World} {p bb g2 c2 g3 c3 : Nat} {F : Nat → Prop} {e t : Int} {bs : List BM} {cs : List CM} {bv cv sv : Value} {qs rs : List RM} {refs idx : List Nat} {rv fv iv : Value} (h : FBM w w4 p F e t bb bs cs bv cv sv qs rs refs idx rv fv iv) (hl : ∀ k, F k → k < w.heap.size)
    (hW : Up w4 W) (hown2 : w5.ownsRow 0 40 2 (.slice (some ⟨g2, 0, none⟩) (rs.length + 1) c2) (rs.length + 1) (rmC rs ++ [.string ByteArray.empty, .slice none 0 0])) (hg2 : W.grownBy w5 rv.ownBlock) (hat2 : rv.ownBlock = some g2 ∨ w4.heap.size ≤ g2)
    (hW' : Up w5 W') (hown3 : w6.ownsRow 0 3 1 (.slice (some ⟨g3, 0, none⟩) (refs.length + 1) c3) (refs.length + 1) (icN refs ++ [.int .i64 0])) (hg3 : W'.grownBy w6 fv.ownBlock) (hat3 : fv.ownBlock = some g3 ∨ w5.heap.size ≤ g3) :
    FBM w ((w6.setCell ⟨p, 0, none⟩ (.slice (some ⟨g2, 0, none⟩) (rs.length + 1) c2)).setCell ⟨p, 1, none⟩ (.slice (some ⟨g3, 0, none⟩) (refs.length + 1) c3)) p F e t bb bs cs bv cv sv qs (rs ++ [⟨ByteArray.empty, .slice none 0 0, []⟩]) (refs ++ [0]) idx
      (.slice (some ⟨g2, 0, none⟩) (rs.length + 1) c2) (.slice (some ⟨g3, 0, none⟩) (refs.length + 1) c3) iv ∧
      Chg (fun j => fv.ownBlock = some j ∨ rv.ownBlock = some j ∨ j = p) w4 ((w6.setCell ⟨p, 0, none⟩ (.slice (some ⟨g2, 0, none⟩) (rs.length + 1) c2)).setCell ⟨p, 1, none⟩ (.slice (some ⟨g3, 0, none⟩) (refs.length + 1) c3)) := by
  have C1 : Chg (fun j => fv.ownBlock = some j ∨ rv.ownBlock = some j ∨ j = p) w4 w5 := ((Below.chg _ hW).trans ((Chg.refl (fun j => rv.ownBlock = some j) W).grown hg2 fun k hk => .inl hk) (S' := fun j => rv.ownBlock = some j) fun j _ e => .inr (.inl e))
  have C2 : Chg (fun j => fv.ownBlock = some j) w5 w6 := (Below.chg _ hW').trans ((Chg.refl (fun j => fv.ownBlock = some j) W').grown hg3 fun k hk => .inl hk) fun _ _ e => e
  have C3 : Chg (fun j => j = p) w6 ((w6.setCell ⟨p, 0, none⟩ (.slice (some ⟨g2, 0, none⟩) (rs.length + 1) c2)).setCell ⟨p, 1, none⟩ (.slice (some ⟨g3, 0, none⟩) (refs.length + 1) c3)) := (chg_set w6 p 0 none _).set (.inl rfl) _ _ _
  have CA : Chg (fun j => fv.ownBlock = some j ∨ rv.ownBlock = some j ∨ j = p) w4 w6 := C1.trans C2 fun j _ e => .inl e
  have C := CA.trans C3 (S' := fun j => j = p) fun j _ e => .inr (.inr e)
  have tp := blk_ty h.ar.blk
  have npf : ¬ fv.ownBlock = some p := fun e => tp.ne (by decide) ((own_ty h.ar.ref) p e).1
  have npr : ¬ rv.ownBlock = some p := fun e => tp.ne (by decide) ((own_ty h.ar.rcs) p e).1
  have CB : Chg (fun j => fv.ownBlock = some j ∨ rv.ownBlock = some j) w4 w6 := ((Below.chg _ hW).trans ((Chg.refl (fun j => rv.ownBlock = some j) W).grown hg2 fun k hk => .inl hk) (S' := fun j => rv.ownBlock = some j) fun j _ e => .inr e).trans C2 fun j _ e => .inl e
  have B6 := h.ar.blk.chg CB (fun e => e.elim npf npr)
  have s5 := C1.size
  have s6 := C2.size
  have s7 := C3.size
  have g2n : ∀ k, (Value.slice (some ⟨g2, 0, none⟩) (rs.length + 1) c2).ownBlock = some k → g2 = k := fun k hk => by simpa [Value.ownBlock] using hk
  have g3n : ∀ k, (Value.slice (some ⟨g3, 0, none⟩) (refs.length + 1) c3).ownBlock = some k → g3 = k := fun k hk => by simpa [Value.ownBlock] using hk
  have t2 := (own_ty hown2) g2 rfl
  have t3 := (own_ty hown3) g3 rfl
  have o2 : w6.ownsRow 0 40 2 (.slice (some ⟨g2, 0, none⟩) (rs.length + 1) c2) (rs.length + 1) (rmC rs ++ [.string ByteArray.empty, .slice none 0 0]) := own_chg hown2 C2 fun k hk e => by
    have := (own_far (own_up h.ar.ref hW) (own_up h.ar.rcs hW) (by decide) hg2)
    exact ((own_ty hown2) k hk).1.ne (by decide) ((own_ty this) k e).1
  have t2' := (own_ty o2) g2 rfl
  have hsz := h.chg.size
  have hlt := h.ar.lt
  have hl7 : ∀ k, NG F w ((w6.setCell ⟨p, 0, none⟩ (.slice (some ⟨g2, 0, none⟩) (rs.length + 1) c2)).setCell ⟨p, 1, none⟩ (.slice (some ⟨g3, 0, none⟩) (refs.length + 1) c3)) bb iv sv k → k < ((w6.setCell ⟨p, 0, none⟩ (.slice (some ⟨g2, 0, none⟩) (rs.length + 1) c2)).setCell ⟨p, 1, none⟩ (.slice (some ⟨g3, 0, none⟩) (refs.length + 1) c3)).heap.size := fun k hk => ng_lt hl (by omega) hk
  have fresh : ∀ k, w4.heap.size ≤ k → k < w6.heap.size → NG F w ((w6.setCell ⟨p, 0, none⟩ (.slice (some ⟨g2, 0, none⟩) (rs.length + 1) c2)).setCell ⟨p, 1, none⟩ (.slice (some ⟨g3, 0, none⟩) (refs.length + 1) c3)) bb iv sv k := fun k h1 h2 =>
    ⟨.inr ⟨by omega, by omega⟩, fun e => by have := h.blk.lt; omega, fun e => by have := own_lt h.own k e; omega, fun e => by have := own_lt h.sto k e; omega⟩
  refine ⟨h.of C (h.ar.put2 C ((B6.set 0 _).set 1 _) ?_ ?_ (fun k hk => ng_mono (by omega) hk) hl7 (fun k hk => ?_) (fun k hk => ?_) (fun k hk => ?_) fun r hr => ?_), C⟩
  · have := own_chg o2 C3 fun k hk e => by subst e; exact ((own_ty o2) _ hk).1.ne (by decide) (blk_ty B6)
    simpa [rmC, rmC1] using this
  · have := own_chg hown3 C3 fun k hk e => by subst e; exact ((own_ty hown3) _ hk).1.ne (by decide) (blk_ty B6)
    simpa [icN] using this
  · obtain rfl := g2n k hk
    rcases hat2 with e | e
    · exact ng_mono (by omega) (h.ar.rcsF _ e)
    · exact fresh _ e t2'.1.lt
  · obtain rfl := g3n k hk
    rcases hat3 with e | e
    · exact ng_mono (by omega) (h.ar.refF _ e)
    · exact fresh _ (by omega) t3.1.lt
  · obtain rfl := g3n k hk
    rcases hat3 with e | e
    · exact .inl e
    · exact .inr fun hk2 => by have := hlt _ hk2; omega
  · rcases List.mem_append.1 hr with hr | hr
    · exact .inl hr
    · rw [List.mem_singleton.1 hr]
      exact .inr ⟨World.ownsRow_nil _ _ _ _, fun k hk => by cases hk⟩
/-- Other backups. -/
theorem ArP.putBak {w w' : World} {p : Nat} {F F' : Nat → Prop} {rs : List RM} {refs : List Nat} {bs bs' : List BM} {cs : List CM} {e : Int} {rv fv bv bv' cv : Value} (h : ArP w p F rs refs bs cs e rv fv bv cv)
    (C : Chg (fun j => bv.ownBlock = some j ∨ j = p) w w') (hb : Blk w' p [rv, fv, bv', cv, .int .i64 e] 59) (hown : w'.ownsRow 0 55 2 bv' bs'.length (bmC bs')) (hF : ∀ k, F k → F' k) (hl : ∀ k, F' k → k < w'.heap.size)
    (hbF : ∀ k, bv'.ownBlock = some k → F' k) (hbr : ∀ b ∈ bs', b ∈ bs ∨ (w'.ownsRow 0 3 1 b.iv b.idx.length (icN b.idx) ∧ (∀ k, b.iv.ownBlock = some k → F' k) ∧ ∀ k, b.iv.ownBlock = some k → fv.ownBlock ≠ some k)) : ArP w' p F' rs refs bs' cs e rv fv bv' cv := by
  have keep : ∀ {base size n : Nat} {v : Value} {xs : List Value} {E : TypeId}, w.ownsRow base E size v n xs → E ≠ 55 → E ≠ 59 → w'.ownsRow base E size v n xs := fun hv h1 h2 => own_chg hv C fun k hk => far_ty h.bak h.blk ((own_ty hv) k hk).1 h1 h2
  have hbr' : ∀ b ∈ bs', w'.ownsRow 0 3 1 b.iv b.idx.length (icN b.idx) ∧ (∀ k, b.iv.ownBlock = some k → F' k) ∧ ∀ k, b.iv.ownBlock = some k → fv.ownBlock ≠ some k := fun b hm => by
    rcases hbr b hm with hm | hm
    · exact ⟨keep (h.idx b hm) (by decide) (by decide), fun k hk => hF k (h.idxF b hm k hk), h.dis b hm⟩
    · exact hm
  exact ⟨hl, hF _ h.fp, hb, keep h.rcs (by decide) (by decide), fun k hk => hF k (h.rcsF k hk), keep h.ref (by decide) (by decide), fun k hk => hF k (h.refF k hk), hown, hbF, keep h.chg (by decide) (by decide), fun k hk => hF k (h.chgF k hk),
    fun r hr => keep (h.rrow r hr) (by decide) (by decide), fun r hr k hk => hF k (h.rrowF r hr k hk), fun c hc => keep (h.crow c hc) (by decide) (by decide), fun c hc k hk => hF k (h.crowF c hc k hk), fun b hm => (hbr' b hm).1, fun b hm => (hbr' b hm).2.1, fun b hm => (hbr' b hm).2.2⟩
/-- The new backup is appended. -/
theorem FBM.done {w wr W w3 : World} {p bb g c H : Nat} {F : Nat → Prop} {e t : Int} {bs : List BM} {cs : List CM} {bv cv sv : Value} {qs rs : List RM} {refs idx : List Nat} {rv fv iv : Value} (h : FBM w wr p F e t bb bs cs bv cv sv qs rs refs idx rv fv iv) (hl : ∀ k, F k → k < w.heap.size)
    (hW : Up wr W) (hown : w3.ownsRow 0 55 2 (.slice (some ⟨g, 0, none⟩) (bs.length + 1) c) (bs.length + 1) (bmC bs ++ [.int .i64 t, iv])) (hg : W.grownBy w3 bv.ownBlock) (hat : bv.ownBlock = some g ∨ g = H) (hH : wr.heap.size ≤ H) :
    ArP (w3.setCell ⟨p, 2, none⟩ (.slice (some ⟨g, 0, none⟩) (bs.length + 1) c)) p (Fx F w (w3.setCell ⟨p, 2, none⟩ (.slice (some ⟨g, 0, none⟩) (bs.length + 1) c))) rs refs (bs ++ [⟨t, iv, idx⟩]) cs e rv fv (.slice (some ⟨g, 0, none⟩) (bs.length + 1) c) cv ∧
      Chg F w (w3.setCell ⟨p, 2, none⟩ (.slice (some ⟨g, 0, none⟩) (bs.length + 1) c)) := by
  obtain ⟨q1, q2, q3, q4, q5, q6, q7⟩ := fld_append (i := 2) h.ar.blk (by decide) h.ar.bak hW hown hg hat hH
  have hs := q4.size
  have hsz := h.chg.size
  have hF : ∀ k, NG F w wr bb iv sv k → Fx F w (w3.setCell ⟨p, 2, none⟩ (.slice (some ⟨g, 0, none⟩) (bs.length + 1) c)) k := fun k hk => by
    rcases hk.1 with h1 | h1
    · exact .inl h1
    · exact .inr ⟨h1.1, by omega⟩
  have hiv := own_ty h.own
  refine ⟨h.ar.putBak q4 q1 (by simpa [bmC, bmC1] using q2) hF (fun k hk => ?_) (fun j hj => ?_) fun b hm => ?_, h.chg.trans q4 fun j hj hh => ?_⟩
  · rcases hk with hk | hk
    · have := hl k hk; omega
    · exact hk.2
  · obtain rfl : g = j := by simpa [Value.ownBlock] using hj
    rcases q5 with e2 | e2
    · exact hF _ (h.ar.bakF _ e2)
    · exact .inr ⟨by omega, q6⟩
  · rcases List.mem_append.1 hm with hm | hm
    · exact .inl hm
    · rw [List.mem_singleton.1 hm]
      have far : ∀ k, iv.ownBlock = some k → ¬ (bv.ownBlock = some k ∨ k = p) := fun k hk => far_ty h.ar.bak h.ar.blk (hiv k hk).1 (by decide) (by decide)
      exact .inr ⟨own_base' (own_chg h.own q4 far) fun _ _ => Nat.zero_le _, fun k hk => .inr ⟨(hiv k hk).2, by have := (hiv k hk).1.lt; omega⟩, fun k hk hf => (h.ar.refF k hf).2.2.1 hk⟩
  · have : NG F w wr bb iv sv j := by
      rcases hh with hh | hh
      · exact h.ar.bakF j hh
      · subst hh; exact h.ar.fp
    rcases this.1 with h1 | h1
    · exact h1
    · omega
theorem aok_full {A : Ar} {S : Recs} {recs : Recs} {refs idx : List Nat} {st t : Int} (ok : AOk A) (h : FB A S S.length recs refs idx st) (hS : Srt S) (h4 : S.length ≤ 40) (h3 : A.baks.length < 20) (h6 : A.recs.length ≤ 99000) :
    AOk ⟨recs, refs, A.baks ++ [(t, idx)], A.chgs, A.earl⟩ :=
  ⟨by simp, by simp; omega, ok.cl, h.rl, by have := h.big; show recs.length ≤ 100000; omega, fun b hb => by
    rcases List.mem_append.1 hb with hb | hb
    · show Srt (stB recs b.2)
      rw [(h.old b hb).1]; exact ok.srt b hb
    · rw [List.mem_singleton.1 hb]
      show Srt (stB recs idx)
      rw [h.new.1, List.take_length]; exact hS,
    fun b hb => by
      rcases List.mem_append.1 hb with hb | hb
      · exact ok.il b hb
      · rw [List.mem_singleton.1 hb]; show idx.length ≤ 40; rw [h.il]; exact h4,
    fun b hb => by
      rcases List.mem_append.1 hb with hb | hb
      · exact (h.old b hb).2
      · rw [List.mem_singleton.1 hb]; exact h.new.2,
    fun i hi => by
      show refs.getD i 0 = ((A.baks ++ [(t, idx)]).flatMap Prod.snd).count i
      rw [List.flatMap_append, h.cnt i hi]
      simp, ok.ch, h.rr⟩
end Go.Proofs.Ytdaehidbeleblaa.Bk
