/- The archive: what FullBackup's stores leave. -/
import Derived.Test.YtdaehidbeleblaaBkj
namespace Go.Proofs.Ytdaehidbeleblaa.Bk
open Go Go.RowKit Hp
open Mv (Val rowC rowC_len rowC_one rowC_get RM rmC rmC1 rmC_len rmC_get erR RecsR RecsS Srt pos has pos_le has_pos fm_len fm_take fm_drop fm_get fm_set fm_one cloneR)
set_option linter.unusedVariables false

theorem icN_set (l : List Nat) (i n : Nat) : (icN l).set i (.int .i64 (n : Int)) = icN (l.set i n) := by simp [icN, List.map_set]
/-- Other references. -/
theorem ArP.putRef {w w' : World} {p : Nat} {F F' : Nat → Prop} {rs : List RM} {refs refs' : List Nat} {bs : List BM} {cs : List CM} {e : Int} {rv fv fv' bv cv : Value} (h : ArP w p F rs refs bs cs e rv fv bv cv)
    (C : Chg (fun j => fv.ownBlock = some j ∨ j = p) w w') (hb : Blk w' p [rv, fv', bv, cv, .int .i64 e] 59) (hown : w'.ownsRow 0 3 1 fv' refs'.length (icN refs')) (hF : ∀ k, F k → F' k) (hl : ∀ k, F' k → k < w'.heap.size)
    (hfF : ∀ k, fv'.ownBlock = some k → F' k) (hdis : ∀ k, fv'.ownBlock = some k → fv.ownBlock = some k ∨ ¬ F k) : ArP w' p F' rs refs' bs cs e rv fv' bv cv := by
  have keep : ∀ {base size n : Nat} {v : Value} {xs : List Value} {E : TypeId}, w.ownsRow base E size v n xs → E ≠ 3 → E ≠ 59 → w'.ownsRow base E size v n xs := fun hv h1 h2 => own_chg hv C fun k hk => far_ty h.ref h.blk ((own_ty hv) k hk).1 h1 h2
  refine ⟨hl, hF _ h.fp, hb, keep h.rcs (by decide) (by decide), fun k hk => hF k (h.rcsF k hk), hown, hfF, keep h.bak (by decide) (by decide), fun k hk => hF k (h.bakF k hk), keep h.chg (by decide) (by decide), fun k hk => hF k (h.chgF k hk),
    fun r hr => keep (h.rrow r hr) (by decide) (by decide), fun r hr k hk => hF k (h.rrowF r hr k hk), fun c hc => keep (h.crow c hc) (by decide) (by decide), fun c hc k hk => hF k (h.crowF c hc k hk), fun b hm => own_chg (h.idx b hm) C fun k hk e => ?_, fun b hm k hk => hF k (h.idxF b hm k hk), fun b hm k hk e => ?_⟩
  · rcases e with e | e
    · exact h.dis b hm k hk e
    · subst e; exact ((own_ty (h.idx b hm)) _ hk).1.ne (E' := 59) (by decide) (blk_ty h.blk)
  · rcases hdis k e with e2 | e2
    · exact h.dis b hm k hk e2
    · exact e2 (h.idxF b hm k hk)
/-- Other records. -/
theorem ArP.putRec {w w' : World} {p : Nat} {F F' : Nat → Prop} {rs rs' : List RM} {refs : List Nat} {bs : List BM} {cs : List CM} {e : Int} {rv rv' fv bv cv : Value} (h : ArP w p F rs refs bs cs e rv fv bv cv)
    (C : Chg (fun j => rv.ownBlock = some j ∨ j = p) w w') (hb : Blk w' p [rv', fv, bv, cv, .int .i64 e] 59) (hown : w'.ownsRow 0 40 2 rv' rs'.length (rmC rs')) (hF : ∀ k, F k → F' k) (hl : ∀ k, F' k → k < w'.heap.size)
    (hrF : ∀ k, rv'.ownBlock = some k → F' k) (hrr : ∀ r ∈ rs', r ∈ rs ∨ (w.ownsRow 0 34 3 r.rv r.row.length (rowC r.row) ∧ ∀ k, r.rv.ownBlock = some k → F' k)) : ArP w' p F' rs' refs bs cs e rv' fv bv cv := by
  have keep : ∀ {base size n : Nat} {v : Value} {xs : List Value} {E : TypeId}, w.ownsRow base E size v n xs → E ≠ 40 → E ≠ 59 → w'.ownsRow base E size v n xs := fun hv h1 h2 => own_chg hv C fun k hk => far_ty h.rcs h.blk ((own_ty hv) k hk).1 h1 h2
  have hrr' : ∀ r ∈ rs', w'.ownsRow 0 34 3 r.rv r.row.length (rowC r.row) ∧ ∀ k, r.rv.ownBlock = some k → F' k := fun r hr => by
    rcases hrr r hr with hr | hr
    · exact ⟨keep (h.rrow r hr) (by decide) (by decide), fun k hk => hF k (h.rrowF r hr k hk)⟩
    · exact ⟨keep hr.1 (by decide) (by decide), hr.2⟩
  exact ⟨hl, hF _ h.fp, hb, hown, hrF, keep h.ref (by decide) (by decide), fun k hk => hF k (h.refF k hk), keep h.bak (by decide) (by decide), fun k hk => hF k (h.bakF k hk), keep h.chg (by decide) (by decide), fun k hk => hF k (h.chgF k hk),
    fun r hr => (hrr' r hr).1, fun r hr => (hrr' r hr).2, fun c hc => keep (h.crow c hc) (by decide) (by decide), fun c hc k hk => hF k (h.crowF c hc k hk), fun b hb => keep (h.idx b hb) (by decide) (by decide), fun b hb k hk => hF k (h.idxF b hb k hk), h.dis⟩
/-- One reference. -/
theorem ArP.setRef {w : World} {p g c i : Nat} {F : Nat → Prop} {rs : List RM} {refs : List Nat} {bs : List BM} {cs : List CM} {e : Int} {rv bv cv : Value} (h : ArP w p F rs refs bs cs e rv (.slice (some ⟨g, 0, none⟩) refs.length c) bv cv) (hi : i < refs.length) (n : Nat) :
    ArP (w.setCell ⟨g, i, none⟩ (.int .i64 (n : Int))) p F rs (refs.set i n) bs cs e rv (.slice (some ⟨g, 0, none⟩) refs.length c) bv cv ∧ Chg F w (w.setCell ⟨g, i, none⟩ (.int .i64 (n : Int))) := by
  have C := chg_set w g i none (.int .i64 (n : Int))
  have hgF : F g := h.refF g rfl
  have hgt := ((own_ty h.ref) g rfl).1
  have hs : (w.setCell ⟨g, i, none⟩ (.int .i64 (n : Int))).heap.size = w.heap.size := by simp [World.setCell]
  have ho := own_set h.ref i (by rw [icN_len]; exact hi) (.int .i64 (n : Int))
  rw [icN_set] at ho
  refine ⟨h.putRef (C.mono fun j _ e => .inl (by rw [e]; rfl)) (h.blk.other (fun e => by subst e; exact hgt.ne (E' := 59) (by decide) (blk_ty h.blk)) _ _ _) (by rw [List.length_set]; exact ho) (fun k hk => hk) (fun k hk => by rw [hs]; exact h.lt k hk) h.refF fun k hk => .inl hk, C.mono fun j _ e => by rw [e]; exact hgF⟩
/-- One record. -/
theorem ArP.setRec {w : World} {p g c i : Nat} {F F' : Nat → Prop} {rs : List RM} {refs : List Nat} {bs : List BM} {cs : List CM} {e : Int} {fv bv cv : Value} (h : ArP w p F rs refs bs cs e (.slice (some ⟨g, 0, none⟩) rs.length c) fv bv cv) (hi : i < rs.length) (x : RM)
    (hx : w.ownsRow 0 34 3 x.rv x.row.length (rowC x.row)) (hF : ∀ k, F k → F' k) (hl : ∀ k, F' k → k < w.heap.size) (hxF : ∀ k, x.rv.ownBlock = some k → F' k) :
    ArP ((w.setCell ⟨g, i * 2, none⟩ (.string x.key)).setCell ⟨g, i * 2 + 1, none⟩ x.rv) p F' (rs.set i x) refs bs cs e (.slice (some ⟨g, 0, none⟩) rs.length c) fv bv cv ∧ Chg F w ((w.setCell ⟨g, i * 2, none⟩ (.string x.key)).setCell ⟨g, i * 2 + 1, none⟩ x.rv) := by
  have C : Chg (fun j => j = g) w ((w.setCell ⟨g, i * 2, none⟩ (.string x.key)).setCell ⟨g, i * 2 + 1, none⟩ x.rv) := (chg_set w g (i * 2) none (.string x.key)).set (.inl rfl) _ _ _
  have hgF : F g := h.rcsF g rfl
  have hgt := ((own_ty h.rcs) g rfl).1
  have hne : p ≠ g := fun e => by subst e; exact hgt.ne (E' := 59) (by decide) (blk_ty h.blk)
  have hs : ((w.setCell ⟨g, i * 2, none⟩ (.string x.key)).setCell ⟨g, i * 2 + 1, none⟩ x.rv).heap.size = w.heap.size := by simp [World.setCell]
  have ho := own_set (own_set h.rcs (i * 2) (by rw [rmC_len]; omega) (.string x.key)) (i * 2 + 1) (by rw [List.length_set, rmC_len]; omega) x.rv
  have e1 : (rmC rs).set (i * 2) (.string x.key) = rmC (rs.set i ⟨x.key, rs[i].rv, rs[i].row⟩) := by
    have := fm_set (f := rmC1) (k := 2) (fun _ => rfl) rs i 0 hi (by omega) (.string x.key) ⟨x.key, rs[i].rv, rs[i].row⟩ rfl
    simpa [rmC] using this
  have e2 : (rmC (rs.set i ⟨x.key, rs[i].rv, rs[i].row⟩)).set (i * 2 + 1) x.rv = rmC (rs.set i x) := by
    have := fm_set (f := rmC1) (k := 2) (fun _ => rfl) (rs.set i ⟨x.key, rs[i].rv, rs[i].row⟩) i 1 (by rw [List.length_set]; exact hi) (by omega) x.rv x (by simp [rmC1])
    rw [List.set_set] at this
    simpa [rmC] using this
  rw [e1, e2] at ho
  refine ⟨h.putRec (C.mono fun j _ e => .inl (by rw [e]; rfl)) ((h.blk.other hne _ _ _).other hne _ _ _) (by rw [List.length_set]; exact ho) hF (fun k hk => by rw [hs]; exact hl k hk) (fun k hk => hF k (h.rcsF k hk)) fun r hr => ?_, C.mono fun j _ e => by rw [e]; exact hgF⟩
  rcases List.mem_or_eq_of_mem_set hr with hr | rfl
  · exact .inl hr
  · exact .inr ⟨hx, hxF⟩
end Go.Proofs.Ytdaehidbeleblaa.Bk
