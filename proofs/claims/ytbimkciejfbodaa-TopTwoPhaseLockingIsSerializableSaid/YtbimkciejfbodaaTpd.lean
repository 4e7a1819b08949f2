/- Strict two-phase locking: what the law holds in memory. -/
import Derived.Test.YtbimkciejfbodaaTpc
import Derived.Test.YtbimkciejfbodaaLkw
namespace Go.Proofs.Ytbimkciejfbodaa.Lk
open Go Go.RowKit Hp
open In (Hop hpC hp1)
set_option linter.unusedVariables false

def boV (l : List Bool) : List Value := l.map .bool
theorem boV_len (l : List Bool) : (boV l).length = l.length := by simp [boV]
theorem boV_get (l : List Bool) {i : Nat} (h : i < l.length) : (boV l)[i]? = some (.bool (l.getD i false)) := by simp [boV, List.getD, h]
theorem icI_getD (l : List Int) {i : Nat} (h : i < l.length) : (icI l)[i]? = some (.int .i64 (l.getD i 0)) := by simp [icI, List.getD, h]
theorem icI_set (l : List Int) (i : Nat) (x : Int) : (icI l).set i (.int .i64 x) = icI (l.set i x) := by unfold icI; rw [List.map_set]
theorem boV_set (l : List Bool) (i : Nat) (x : Bool) : (boV l).set i (.bool x) = boV (l.set i x) := by unfold boV; rw [List.map_set]
theorem OwnM.chg {w wr w' : World} {p : Nat} {M : Mg} {K S : Nat → Prop} (h : OwnM w wr p M K) (hc : Chg S wr w') (hS : ∀ k, K k → ¬ S k) (hw : ∀ k, S k → w.heap.size ≤ k) : OwnM w w' p M K :=
  ⟨h.man.chg hc hS, h.base, ((h.upw.chg S).trans hc fun _ _ e => e).up fun k hk e => by have := hw k e; omega⟩
/-- The law's own blocks: next, aborted, aborted's variable, history, commits; apart from the manager's. -/
structure SM (w wr : World) (p : Nat) (M : Mg) (K : Nat → Prop) (n gn ga tb : Nat) (nx : List Int) (ab : List Bool) (hv cv : Value) (hi : List Hop) (co : List Int) : Prop where
  own : OwnM w wr p M K
  nxr : Blk wr gn (icI nx) 3
  abr : Blk wr ga (boV ab) 4
  tbr : Blk wr tb [.slice (some ⟨ga, 0, none⟩) n n] 27
  hr : wr.ownsRow w.heap.size 37 3 hv hi.length (hpC hi)
  cr : wr.ownsRow w.heap.size 3 1 cv co.length (icI co)
  fn : ¬ K gn
  fa : ¬ K ga
  ft : ¬ K tb
  fh : ∀ k, hv.ownBlock = some k → ¬ K k
  fc : ∀ k, cv.ownBlock = some k → ¬ K k
  cn : ∀ k, cv.ownBlock = some k → k ≠ gn
  bn : w.heap.size ≤ gn
  ba : w.heap.size ≤ ga
  bt : w.heap.size ≤ tb
section
variable {w wr w' : World} {p : Nat} {M M' : Mg} {K : Nat → Prop} {n gn ga tb : Nat} {nx : List Int} {ab : List Bool} {hv cv : Value} {hi : List Hop} {co : List Int}
theorem SM.chg {S : Nat → Prop} (h : SM w wr p M K n gn ga tb nx ab hv cv hi co) (hc : Chg S wr w') (hK : ∀ k, K k → ¬ S k) (hw : ∀ k, S k → w.heap.size ≤ k) (h1 : ¬ S gn) (h2 : ¬ S ga) (h3 : ¬ S tb) (h4 : ∀ k, hv.ownBlock = some k → ¬ S k) (h5 : ∀ k, cv.ownBlock = some k → ¬ S k) :
    SM w w' p M K n gn ga tb nx ab hv cv hi co :=
  ⟨h.own.chg hc hK hw, h.nxr.chg hc h1, h.abr.chg hc h2, h.tbr.chg hc h3, own_chg h.hr hc h4, own_chg h.cr hc h5, h.fn, h.fa, h.ft, h.fh, h.fc, h.cn, h.bn, h.ba, h.bt⟩
theorem SM.up (h : SM w wr p M K n gn ga tb nx ab hv cv hi co) (hu : Up wr w') : SM w w' p M K n gn ga tb nx ab hv cv hi co :=
  h.chg (S := fun _ => False) (Below.chg _ hu) (fun _ _ e => e) (fun _ e => e.elim) (fun e => e) (fun e => e) (fun e => e) (fun _ _ e => e) fun _ _ e => e
theorem SM.land (h : SM w wr p M K n gn ga tb nx ab hv cv hi co) (hl : Lands w wr w' p K M') : ∃ K', SM w w' p M' K' n gn ga tb nx ab hv cv hi co ∧ Chg K wr w' ∧ ∀ k, K' k → K k ∨ wr.heap.size ≤ k := by
  obtain ⟨K', h1, h2, h3⟩ := hl
  have far : ∀ k, k < wr.heap.size → ¬ K k → ¬ K' k := fun k hk hn e => by
    rcases h3 k e with e | e
    · exact hn e
    · omega
  refine ⟨K', ⟨h1, h.nxr.chg h2 h.fn, h.abr.chg h2 h.fa, h.tbr.chg h2 h.ft, own_chg h.hr h2 h.fh, own_chg h.cr h2 h.fc, far _ h.nxr.lt h.fn, far _ h.abr.lt h.fa, far _ h.tbr.lt h.ft, fun k hk => far k (own_lt h.hr k hk) (h.fh k hk), fun k hk => far k (own_lt h.cr k hk) (h.fc k hk), h.cn, h.bn, h.ba, h.bt⟩, h2, h3⟩
theorem SM.next (h : SM w wr p M K n gn ga tb nx ab hv cv hi co) (t : Nat) (v : Int) : SM w (wr.setCell ⟨gn, t, none⟩ (.int .i64 v)) p M K n gn ga tb (nx.set t v) ab hv cv hi co := by
  have hc := chg_set wr gn t none (.int .i64 v)
  have hty := blk_ty h.nxr
  have hb := h.nxr.set t (.int .i64 v)
  rw [icI_set] at hb
  exact ⟨h.own.chg hc (fun k hk e => h.fn (e ▸ hk)) (fun k e => by rw [e]; exact h.bn), hb, h.abr.chg hc fun e => (blk_ty h.abr).ne (by decide) (e ▸ hty), h.tbr.chg hc fun e => (blk_ty h.tbr).ne (by decide) (e ▸ hty),
    own_chg h.hr hc fun k hk e => ((own_ty h.hr) k hk).1.ne (by decide) (e ▸ hty), own_chg h.cr hc fun k hk e => h.cn k hk e, h.fn, h.fa, h.ft, h.fh, h.fc, h.cn, h.bn, h.ba, h.bt⟩
theorem SM.abrt (h : SM w wr p M K n gn ga tb nx ab hv cv hi co) (t : Nat) (v : Bool) : SM w (wr.setCell ⟨ga, t, none⟩ (.bool v)) p M K n gn ga tb nx (ab.set t v) hv cv hi co := by
  have hc := chg_set wr ga t none (.bool v)
  have hty := blk_ty h.abr
  have hb := h.abr.set t (.bool v)
  rw [boV_set] at hb
  exact ⟨h.own.chg hc (fun k hk e => h.fa (e ▸ hk)) (fun k e => by rw [e]; exact h.ba), h.nxr.chg hc fun e => (blk_ty h.nxr).ne (by decide) (e ▸ hty), hb, h.tbr.chg hc fun e => (blk_ty h.tbr).ne (by decide) (e ▸ hty),
    own_chg h.hr hc fun k hk e => ((own_ty h.hr) k hk).1.ne (by decide) (e ▸ hty), own_chg h.cr hc fun k hk e => ((own_ty h.cr) k hk).1.ne (by decide) (e ▸ hty), h.fn, h.fa, h.ft, h.fh, h.fc, h.cn, h.bn, h.ba, h.bt⟩
/-- The history has grown by an append. -/
theorem SM.hist (h : SM w wr p M K n gn ga tb nx ab hv cv hi co) {g c m : Nat} {x : Hop} (hm : hi.length = m) (hown : w'.ownsRow w.heap.size 37 3 (.slice (some ⟨g, 0, none⟩) (m + 1) c) (m + 1) (hpC hi ++ hp1 x)) (hg : wr.grownBy w' hv.ownBlock) (hat : hv.ownBlock = some g ∨ wr.heap.size ≤ g) :
    SM w w' p M K n gn ga tb nx ab (.slice (some ⟨g, 0, none⟩) (m + 1) c) cv (hi ++ [x]) co := by
  subst hm
  have hc : Chg (fun k => hv.ownBlock = some k) wr w' := (Chg.refl _ wr).grown hg fun k hk => .inl hk
  have hty := own_ty h.hr
  refine ⟨h.own.chg hc (fun k hk e => h.fh k e hk) (fun k e => (hty k e).2), h.nxr.chg hc fun e => (blk_ty h.nxr).ne (by decide) (hty _ e).1, h.abr.chg hc fun e => (blk_ty h.abr).ne (by decide) (hty _ e).1, h.tbr.chg hc fun e => (blk_ty h.tbr).ne (by decide) (hty _ e).1,
    ?_, own_chg h.cr hc fun k hk e => ((own_ty h.cr) k hk).1.ne (by decide) (hty k e).1, h.fn, h.fa, h.ft, fun k hk e => ?_, h.fc, h.cn, h.bn, h.ba, h.bt⟩
  · rw [List.length_append]
    have : hpC (hi ++ [x]) = hpC hi ++ hp1 x := by
      rw [In.hpC_app]
      simp [hpC]
    rw [this]
    exact hown
  · obtain rfl : g = k := by simpa [Value.ownBlock] using hk
    rcases hat with e2 | e2
    · exact h.fh g e2 e
    · have := h.own.man.lt g e; omega
/-- .. and the commits. -/
theorem SM.comm (h : SM w wr p M K n gn ga tb nx ab hv cv hi co) {g c m : Nat} {x : Int} (hm : co.length = m) (hown : w'.ownsRow w.heap.size 3 1 (.slice (some ⟨g, 0, none⟩) (m + 1) c) (m + 1) (icI co ++ [.int .i64 x])) (hg : wr.grownBy w' cv.ownBlock) (hat : cv.ownBlock = some g ∨ wr.heap.size ≤ g) :
    SM w w' p M K n gn ga tb nx ab hv (.slice (some ⟨g, 0, none⟩) (m + 1) c) hi (co ++ [x]) := by
  subst hm
  have hc : Chg (fun k => cv.ownBlock = some k) wr w' := (Chg.refl _ wr).grown hg fun k hk => .inl hk
  have hty := own_ty h.cr
  refine ⟨h.own.chg hc (fun k hk e => h.fc k e hk) (fun k e => (hty k e).2), h.nxr.chg hc fun e => h.cn _ e rfl, h.abr.chg hc fun e => (blk_ty h.abr).ne (by decide) (hty _ e).1, h.tbr.chg hc fun e => (blk_ty h.tbr).ne (by decide) (hty _ e).1,
    own_chg h.hr hc fun k hk e => ((own_ty h.hr) k hk).1.ne (by decide) (hty k e).1, ?_, h.fn, h.fa, h.ft, h.fh, fun k hk e => ?_, fun k hk e => ?_, h.bn, h.ba, h.bt⟩
  · rw [List.length_append]
    have : icI (co ++ [x]) = icI co ++ [.int .i64 x] := by simp [icI]
    rw [this]
    exact hown
  · obtain rfl : g = k := by simpa [Value.ownBlock] using hk
    rcases hat with e2 | e2
    · exact h.fc g e2 e
    · have := h.own.man.lt g e; omega
  · obtain rfl : g = k := by simpa [Value.ownBlock] using hk
    rcases hat with e2 | e2
    · exact h.cn g e2 e
    · have := h.nxr.lt; omega
end
/-! ### What came in -/
structure PRow (w : World) (a : Option Addr) (n : Nat) (A : Nat → Option Addr) (L C : Nat → Nat) (Z : Nat → List Int) : Prop where
  at_ : ∀ t, t < n → ∃ b off, a = some ⟨b, off, none⟩ ∧ At w b (off + t) (.slice (A t) (L t) (C t))
  el : ∀ t, t < n → Elems w (A t) (L t) (Z t)
  lc : ∀ t, t < n → L t ≤ C t ∧ C t ≤ 9223372036854775807
theorem PRow.up {w w' : World} {a : Option Addr} {n : Nat} {A : Nat → Option Addr} {L C : Nat → Nat} {Z : Nat → List Int} (h : PRow w a n A L C Z) (hu : Up w w') : PRow w' a n A L C Z :=
  ⟨fun t ht => by obtain ⟨b, off, e, k⟩ := h.at_ t ht; exact ⟨b, off, e, k.grow hu⟩, fun t ht => elems_up (h.el t ht) hu, h.lc⟩
def opX (z : Int) : Int × ByteArray := (1 + modV z 2, Hp.one (97 + modV (wrap64 (z.tdiv 2)) 4))
def prog (L : Nat → Nat) (Z : Nat → List Int) (t : Nat) : List (Int × ByteArray) := (List.range (min (L t) 6)).map fun j => opX ((Z t).getD j 0)
theorem prog_len (L : Nat → Nat) (Z : Nat → List Int) (t : Nat) : (prog L Z t).length = min (L t) 6 := by simp [prog]
theorem prog_at (L : Nat → Nat) (Z : Nat → List Int) (t j : Nat) (h : j < (prog L Z t).length) : (prog L Z t)[j] = opX ((Z t).getD j 0) := by simp [prog]
end Go.Proofs.Ytbimkciejfbodaa.Lk
