/- The archive: Prune, the plain part and the memory. -/
import Derived.Test.YtdaehidbeleblaaBkn
import Derived.Test.YtdaehidbeleblaaBkd
namespace Go.Proofs.Ytdaehidbeleblaa.Bk
open Go Go.RowKit Hp
open Mv (Val rowC rowC_len rowC_one rowC_get RM rmC rmC1 rmC_len rmC_get erR RecsR RecsS Srt pos has pos_le has_pos fm_len fm_take fm_drop fm_get fm_set fm_one cloneR)
set_option linter.unusedVariables false

/-- Prune's loop: rest are the references that are still counted. -/
structure PrI (A : Ar) (rest : List Nat) (recs : Recs) (refs : List Nat) : Prop where
  rl : refs.length = recs.length
  len : recs.length = A.recs.length
  rr : ∀ r ∈ recs, r.1.size ≤ 24 ∧ r.2.length ≤ 6
  cnt : ∀ i, i < refs.length → refs.getD i 0 = rest.count i
  keep : ∀ i ∈ rest, recD recs i = recD A.recs i
  lt : ∀ i ∈ rest, i < recs.length
theorem pri_start {A : Ar} (ok : AOk A) : PrI A (A.baks.flatMap Prod.snd) A.recs A.refs :=
  ⟨ok.rl, rfl, ok.rr, ok.cnt, fun _ _ => rfl, fun i hi => by
    obtain ⟨b, hb, hi⟩ := List.mem_flatMap.1 hi
    exact ok.ilt b hb i hi⟩
theorem pri_ref {A : Ar} {i0 : Nat} {rest : List Nat} {recs : Recs} {refs : List Nat} (h : PrI A (i0 :: rest) recs refs) : i0 < refs.length ∧ refs.getD i0 0 = rest.count i0 + 1 := by
  have hi := h.lt i0 (List.mem_cons_self ..)
  rw [← h.rl] at hi
  exact ⟨hi, by rw [h.cnt i0 hi, List.count_cons_self]⟩
theorem pri_cnt {A : Ar} {i0 : Nat} {rest : List Nat} {recs : Recs} {refs : List Nat} (h : PrI A (i0 :: rest) recs refs) : ∀ i, i < (refs.set i0 (rest.count i0)).length → (refs.set i0 (rest.count i0)).getD i 0 = rest.count i := fun i hi => by
  rw [List.length_set] at hi
  obtain ⟨h0, h1⟩ := pri_ref h
  simp only [List.getD, List.getElem?_set]
  by_cases e : i0 = i
  · subst e; simp [h0]
  · simp only [e, if_false]
    have := h.cnt i hi
    simp only [List.getD] at this
    rw [this, List.count_cons_of_ne e]
theorem pri_keep {A : Ar} {i0 : Nat} {rest : List Nat} {recs : Recs} {refs : List Nat} (h : PrI A (i0 :: rest) recs refs) : PrI A rest recs (refs.set i0 (rest.count i0)) :=
  ⟨by rw [List.length_set]; exact h.rl, h.len, h.rr, pri_cnt h, fun i hi => h.keep i (List.mem_cons_of_mem _ hi), fun i hi => h.lt i (List.mem_cons_of_mem _ hi)⟩
theorem pri_zero {A : Ar} {i0 : Nat} {rest : List Nat} {recs : Recs} {refs : List Nat} (h : PrI A (i0 :: rest) recs refs) (h0 : rest.count i0 = 0) : PrI A rest (recs.set i0 (ByteArray.empty, [])) (refs.set i0 (rest.count i0)) := by
  have K := pri_keep h
  refine ⟨K.rl.trans (List.length_set ..).symm, by rw [List.length_set]; exact K.len, fun r hr => ?_, K.cnt, fun i hi => ?_, fun i hi => by rw [List.length_set]; exact K.lt i hi⟩
  · rcases List.mem_or_eq_of_mem_set hr with hr | rfl
    · exact K.rr r hr
    · exact ⟨by decide, by decide⟩
  · rw [← K.keep i hi]
    have hne : i0 ≠ i := fun e => by subst e; exact absurd (List.count_pos_iff.2 hi) (by omega)
    simp [recD, List.getD, hne]
/-- What Prune leaves. -/
structure PrA (A A' : Ar) (t : Int) (n : Nat) : Prop where
  nl : n < A.baks.length
  nt : n = 0 ∨ (A.baks.getD n (0, [])).1 ≤ t
  baks : A'.baks = A.baks.drop n
  earl : A'.earl = (A.baks.getD n (0, [])).1
  chgs : A'.chgs = A.chgs.filter fun c => !decide (c.time ≤ (A.baks.getD n (0, [])).1)
  st : ∀ b ∈ A'.baks, stB A'.recs b.2 = stB A.recs b.2
  len : A'.recs.length = A.recs.length
theorem aok_prune {A : Ar} {n : Nat} {recs : Recs} {refs : List Nat} {e : Int} (ok : AOk A) (hn : n < A.baks.length) (h : PrI A ((A.baks.drop n).flatMap Prod.snd) recs refs) :
    AOk ⟨recs, refs, A.baks.drop n, A.chgs.filter fun c => !decide (c.time ≤ e), e⟩ ∧ ∀ b ∈ A.baks.drop n, stB recs b.2 = stB A.recs b.2 := by
  have hm : ∀ b ∈ A.baks.drop n, b ∈ A.baks := fun b hb => List.mem_of_mem_drop hb
  have hst : ∀ b ∈ A.baks.drop n, stB recs b.2 = stB A.recs b.2 := fun b hb => List.map_congr_left fun i hi => h.keep i (List.mem_flatMap.2 ⟨b, hb, hi⟩)
  refine ⟨⟨by show 0 < (A.baks.drop n).length; rw [List.length_drop]; omega, by show (A.baks.drop n).length ≤ 20; rw [List.length_drop]; have := ok.bl; omega, ?_, h.rl, ?_, fun b hb => ?_, fun b hb => ok.il b (hm b hb), fun b hb i hi => h.lt i (List.mem_flatMap.2 ⟨b, hb, hi⟩), h.cnt, fun c hc => ok.ch c (List.mem_filter.1 hc).1, h.rr⟩, hst⟩
  · exact Nat.le_trans (List.length_filter_le _ _) ok.cl
  · have := h.len; have := ok.big; show recs.length ≤ 100000; omega
  · show Srt (stB recs b.2)
    rw [hst b hb]; exact ok.srt b (hm b hb)
theorem flat_cons {baks : List Ba} {j : Nat} (h : j < baks.length) (k : Nat) (hk : k = 0) : (baks.drop j).flatMap Prod.snd = baks[j].2.drop k ++ (baks.drop (j + 1)).flatMap Prod.snd := by
  subst hk
  rw [List.drop_eq_getElem_cons h, List.flatMap_cons, List.drop_zero]
/-- In memory: the archive in Prune's loops. -/
def PrM (w wr : World) (p : Nat) (F : Nat → Prop) (A : Ar) (bs : List BM) (cs : List CM) (rv fv bv cv : Value) (rest : List Nat) : Prop :=
  ∃ rs refs, ArP wr p F rs refs bs cs A.earl rv fv bv cv ∧ PrI A rest (rs.map erR) refs ∧ Chg F w wr ∧ rs.length = A.recs.length
theorem PrM.up {w wr wr' : World} {p : Nat} {F : Nat → Prop} {A : Ar} {bs : List BM} {cs : List CM} {rv fv bv cv : Value} {rest : List Nat} (h : PrM w wr p F A bs cs rv fv bv cv rest) (hu : Up wr wr') : PrM w wr' p F A bs cs rv fv bv cv rest := by
  obtain ⟨rs, refs, h1, h2, h3, h4⟩ := h
  exact ⟨rs, refs, h1.up hu, h2, h3.trans (Below.chg (fun _ => False) hu) fun _ _ e => e.elim, h4⟩
theorem PrM.keep {w wr : World} {p g c i0 : Nat} {F : Nat → Prop} {A : Ar} {bs : List BM} {cs : List CM} {rv bv cv : Value} {rest : List Nat} {rs : List RM} {refs : List Nat} (h1 : ArP wr p F rs refs bs cs A.earl rv (.slice (some ⟨g, 0, none⟩) refs.length c) bv cv) (h2 : PrI A (i0 :: rest) (rs.map erR) refs) (h3 : Chg F w wr) (h4 : rs.length = A.recs.length) :
    ArP (wr.setCell ⟨g, i0, none⟩ (.int .i64 (rest.count i0 : Nat))) p F rs (refs.set i0 (rest.count i0)) bs cs A.earl rv (.slice (some ⟨g, 0, none⟩) refs.length c) bv cv ∧ PrM w (wr.setCell ⟨g, i0, none⟩ (.int .i64 (rest.count i0 : Nat))) p F A bs cs rv (.slice (some ⟨g, 0, none⟩) refs.length c) bv cv rest := by
  obtain ⟨a1, a2⟩ := h1.setRef (pri_ref h2).1 (rest.count i0)
  exact ⟨a1, rs, _, a1, pri_keep h2, h3.trans a2 fun _ _ e => e, h4⟩
theorem PrM.zero {w wr : World} {p g c g2 c2 i0 : Nat} {F : Nat → Prop} {A : Ar} {bs : List BM} {cs : List CM} {bv cv : Value} {rest : List Nat} {rs : List RM} {refs : List Nat} (h1 : ArP wr p F rs refs bs cs A.earl (.slice (some ⟨g2, 0, none⟩) rs.length c2) (.slice (some ⟨g, 0, none⟩) refs.length c) bv cv) (h2 : PrI A (i0 :: rest) (rs.map erR) refs) (h3 : Chg F w wr) (h4 : rs.length = A.recs.length) (h0 : rest.count i0 = 0) :
    PrM w (((wr.setCell ⟨g, i0, none⟩ (.int .i64 (rest.count i0 : Nat))).setCell ⟨g2, i0 * 2, none⟩ (.string ByteArray.empty)).setCell ⟨g2, i0 * 2 + 1, none⟩ (.slice none 0 0)) p F A bs cs (.slice (some ⟨g2, 0, none⟩) rs.length c2) (.slice (some ⟨g, 0, none⟩) refs.length c) bv cv rest := by
  obtain ⟨a1, a2⟩ := h1.setRef (pri_ref h2).1 (rest.count i0)
  have hi : i0 < rs.length := by have := h2.lt i0 (List.mem_cons_self ..); rwa [List.length_map] at this
  obtain ⟨b1, b2⟩ := a1.setRec hi ⟨ByteArray.empty, .slice none 0 0, []⟩ (World.ownsRow_nil _ _ _ _) (fun k hk => hk) a1.lt (fun k hk => by cases hk)
  exact ⟨_, _, b1, by rw [List.map_set]; exact pri_zero h2 h0, (h3.trans a2 fun _ _ e => e).trans b2 fun _ _ e => e, by rw [List.length_set]; exact h4⟩
/-- Behind the loops: the archive, its footprint, and the box of the parameter. -/
structure PrF (w wr : World) (p : Nat) (F : Nat → Prop) (rs : List RM) (refs : List Nat) (bs : List BM) (cs : List CM) (e : Int) (rv fv bv cv : Value) : Prop where
  ar : ArP wr p (Fx F w wr) rs refs bs cs e rv fv bv cv
  chg : Chg F w wr
  tb : Blk wr w.heap.size [.pointer (some ⟨p, 0, none⟩)] 24
section
variable {w wr w3 : World} {p : Nat} {F : Nat → Prop} {rs : List RM} {refs : List Nat} {bs bs' : List BM} {cs cs' : List CM} {e e' : Int} {rv fv bv cv v : Value}
theorem fx_mono {k : Nat} (hs : wr.heap.size ≤ w3.heap.size) (h : Fx F w wr k) : Fx F w w3 k := by
  rcases h with h | h
  · exact .inl h
  · exact .inr ⟨h.1, by omega⟩
theorem fx_ltp {k : Nat} (hl : ∀ k, F k → k < w.heap.size) (hs : w.heap.size ≤ w3.heap.size) (h : Fx F w w3 k) : k < w3.heap.size := by
  rcases h with h | h
  · have := hl k h; omega
  · exact h.2
theorem ne_tb (h : ArP wr p F rs refs bs cs e rv fv bv cv) (ht : Blk wr w.heap.size [.pointer (some ⟨p, 0, none⟩)] 24) : ¬ w.heap.size = p := fun e => by
  have := blk_ty ht
  rw [e] at this
  exact this.ne (E' := 59) (by decide) (blk_ty h.blk)
theorem PrF.bak (h : ArP wr p F rs refs bs cs e rv fv bv cv) (hl : ∀ k, F k → k < w.heap.size) (A3 : Chg F w wr) (T : Blk wr w.heap.size [.pointer (some ⟨p, 0, none⟩)] 24) (U3 : Up wr w3) (O3 : w3.ownsRow wr.heap.size 55 2 v bs'.length (bmC bs')) (hsub : ∀ b ∈ bs', b ∈ bs) :
    PrF w (w3.setCell ⟨p, 2, none⟩ v) p F rs refs bs' cs e rv fv v cv := by
  have hs : (w3.setCell ⟨p, 2, none⟩ v).heap.size = w3.heap.size := by simp [World.setCell]
  have C0 : Chg (fun j => j = p) w3 (w3.setCell ⟨p, 2, none⟩ v) := chg_set w3 p 2 none v
  have C : Chg (fun j => bv.ownBlock = some j ∨ j = p) wr (w3.setCell ⟨p, 2, none⟩ v) := (Below.chg (fun j => bv.ownBlock = some j ∨ j = p) U3).trans C0 fun _ _ e => .inr e
  have b3 := h.blk.up U3
  have hsz := A3.size
  have hsu := U3.size
  refine ⟨h.putBak C (b3.set 2 v) (own_base' (own_chg O3 C0 fun k hk e => by subst e; exact ((own_ty O3) _ hk).1.ne (by decide) (blk_ty b3)) fun _ _ => Nat.zero_le _) (fun k hk => .inl hk) (fun k hk => fx_ltp hl (by omega) hk) (fun k hk => ?_) fun b hb => .inl (hsub b hb),
    (A3.trans (Below.chg (fun _ => False) U3) fun _ _ e => e.elim).trans C0 fun k _ e => by subst e; exact h.fp, (T.up U3).chg C0 (ne_tb h T)⟩
  have := (own_ty O3) k hk
  exact .inr ⟨by omega, by rw [hs]; exact this.1.lt⟩
theorem PrF.up (h : PrF w wr p F rs refs bs cs e rv fv bv cv) (hl : ∀ k, F k → k < w.heap.size) (hu : Up wr w3) : PrF w w3 p F rs refs bs cs e rv fv bv cv := by
  have hs := hu.size
  have hsz := h.chg.size
  exact ⟨(h.ar.up hu).mono (fun k hk => fx_mono hs hk) fun k hk => fx_ltp hl (by omega) hk, h.chg.trans (Below.chg (fun _ => False) hu) fun _ _ e => e.elim, h.tb.up hu⟩
theorem PrF.earl (h : PrF w wr p F rs refs bs cs e rv fv bv cv) (hl : ∀ k, F k → k < w.heap.size) (hpF : F p) : PrF w (wr.setCell ⟨p, 4, none⟩ (.int .i64 e')) p F rs refs bs cs e' rv fv bv cv := by
  have hs : (wr.setCell ⟨p, 4, none⟩ (.int .i64 e')).heap.size = wr.heap.size := by simp [World.setCell]
  have C0 : Chg (fun j => j = p) wr (wr.setCell ⟨p, 4, none⟩ (.int .i64 e')) := chg_set wr p 4 none _
  have hsz := h.chg.size
  exact ⟨h.ar.putChg (C0.mono fun j _ e => .inr e) (h.ar.blk.set 4 _) (own_chg h.ar.chg C0 fun k hk e => by subst e; exact ((own_ty h.ar.chg) _ hk).1.ne (by decide) (blk_ty h.ar.blk)) (fun k hk => fx_mono (by omega) hk) (fun k hk => fx_ltp hl (by omega) hk) (fun k hk => fx_mono (by omega) (h.ar.chgF k hk)) fun c hc => .inl hc,
    h.chg.trans C0 fun k _ e => by subst e; exact hpF, h.tb.chg C0 (ne_tb h.ar h.tb)⟩
theorem PrF.chgs (h : PrF w wr p F rs refs bs cs e rv fv bv cv) (hl : ∀ k, F k → k < w.heap.size) (hpF : F p) (C3 : Chg (fun j => cv.ownBlock = some j) wr w3) (O3 : w3.ownsRow 0 63 3 v cs'.length (cmC cs')) (hv : ∀ k, v.ownBlock = some k → cv.ownBlock = some k) (hsub : ∀ c ∈ cs', c ∈ cs) :
    PrF w (w3.setCell ⟨p, 3, none⟩ v) p F rs refs bs cs' e rv fv bv v := by
  have hs : (w3.setCell ⟨p, 3, none⟩ v).heap.size = w3.heap.size := by simp [World.setCell]
  have C0 : Chg (fun j => j = p) w3 (w3.setCell ⟨p, 3, none⟩ v) := chg_set w3 p 3 none v
  have hs3 := C3.size
  have hsz := h.chg.size
  have b3 := h.ar.blk.chg C3 fun e => (blk_ty h.ar.blk).ne (by decide) ((own_ty h.ar.chg) _ e).1
  have C : Chg (fun j => cv.ownBlock = some j ∨ j = p) wr (w3.setCell ⟨p, 3, none⟩ v) := (C3.mono fun j _ e => .inl e).trans C0 fun _ _ e => .inr e
  refine ⟨h.ar.putChg C (b3.set 3 v) (own_chg O3 C0 fun k hk e => by subst e; exact ((own_ty O3) _ hk).1.ne (by decide) (blk_ty b3)) (fun k hk => fx_mono (by omega) hk) (fun k hk => fx_ltp hl (by omega) hk) (fun k hk => fx_mono (by omega) (h.ar.chgF k (hv k hk))) fun c hc => .inl (hsub c hc),
    h.chg.trans C fun k hk e => ?_, h.tb.chg C fun e => ?_⟩
  · rcases e with e | e
    · rcases h.ar.chgF k e with h1 | h1
      · exact h1
      · omega
    · subst e; exact hpF
  · rcases e with e | e
    · exact (blk_ty h.tb).ne (by decide) ((own_ty h.ar.chg) _ e).1
    · exact ne_tb h.ar h.tb e
end
theorem keepC_map (e : Int) (cs : List CM) : (keepC e cs).map erCh = (cs.map erCh).filter fun c => !decide (c.time ≤ e) := by
  unfold keepC
  rw [List.filter_map]
  rfl
end Go.Proofs.Ytdaehidbeleblaa.Bk
