/- The laws' archive of changes and backups: archive. -/
import Derived.Test.YtdaehidbeleblaaBks
import Derived.Deep.CutRange
namespace Go.Proofs.Ytdaehidbeleblaa.Bk
open Go Go.RowKit Hp
open Mv (Val rowC rowC_len rowC_one rowC_get RM rmC rmC1 rmC_len rmC_get erR RecsR RecsS Srt pos has pos_le has_pos fm_len fm_take fm_drop fm_get fm_set fm_one cloneR rowV row_any)
set_option linter.unusedVariables false

theorem Try.infoS : (Try.prog.info? 36).map (fun i => (i.zero, i.size, i.bytes)) = some (some (.slice none 0 0), 1, 24) := by kernel_rfl
/-- What archive hands back. -/
def ArcPost (w : World) (e : Ending) (w' : World) : Prop := ∃ p v K A vs sts n nb, e = .returned (.tuple #[.pointer (some ⟨p, 0, none⟩), v, .bool true]) ∧ Own w K w' p A ∧ Arc A sts n nb ∧ StsR w w' K v vs sts ∧ n ≤ 80 ∧ nb ≤ 15
/-- Ahead of the inner loop. -/
def ArcJ (w wr : World) (p mb k nb : Nat) (v : Value) : Prop := ∃ K A D vs sts cur, Own w K wr p A ∧ Arc A (sts ++ [cur]) (k + 1) nb ∧ MR w wr K mb (k + 1) (fun y => y ∈ cur) D ∧ StsR w wr K v vs sts
/-- The loop's state. -/
def ArcI (w wr : World) (p mb k nb : Nat) (v : Value) : Prop := ∃ K A D vs sts, Own w K wr p A ∧ Arc A sts k nb ∧ MR w wr K mb k (fun y => y ∈ sts.getD k []) D ∧ StsR w wr K v vs sts
theorem arcI_start {w w1 : World} {p : Nat} (h : Own w (fun _ => False) w1 p ar0) : ArcI w ((w1.alloc (.cells #[.slice none 0 0] 36)).alloc (.map #[] 0)) p (w1.heap.size + 1) 0 0 (.slice (some ⟨w1.heap.size, 0, none⟩) 1 1) := by
  have hu := (Up.refl w1).alloc (.cells #[.slice none 0 0] 36)
  have hu2 := hu.alloc (.map #[] 0)
  have hs : (w1.alloc (.cells #[.slice none 0 0] 36)).heap.size = w1.heap.size + 1 := by simp
  have hs2 : ((w1.alloc (.cells #[.slice none 0 0] 36)).alloc (.map #[] 0)).heap.size = w1.heap.size + 2 := by simp
  have hB := Blk.new w1 #[.slice none 0 0] 36
  have hM := MR.zero (w1 := w) (w2 := w1.alloc (.cells #[.slice none 0 0] 36)) (K := fun k => False ∨ (w1.heap.size ≤ k ∧ k < ((w1.alloc (.cells #[.slice none 0 0] 36)).alloc (.map #[] 0)).heap.size)) (h.upw.trans hu) (.inr ⟨by omega, by omega⟩)
  rw [hs] at hM
  refine ⟨_, ar0, _, [.slice none 0 0], [[]], h.widen hu2, arc0, hM.congr fun y => ⟨fun e => e.elim, fun e => by cases e⟩, ⟨?_, fun k hk => ?_, rfl, fun i hi => ?_⟩⟩
  · exact own_base' (own_up (own_of_blk hB rfl (by omega)) ((Up.refl _).alloc _)) fun k hk => by
      obtain rfl : w1.heap.size = k := by simpa [Value.ownBlock] using hk
      exact h.upw.size
  · obtain rfl : w1.heap.size = k := by simpa [Value.ownBlock] using hk
    exact .inr ⟨Nat.le_refl _, by omega⟩
  · have : i = 0 := by simp at hi; exact hi
    subst this
    exact ⟨[], rfl, World.ownsRow_nil _ _ _ _, (fun k hk => by cases hk), fun g hg => by cases hg⟩
/-- The row that is recorded: made just now, or nil. -/
def RowX (wr wx : World) (v : Value) : Prop := ∃ row : List Val, row.length ≤ 1 ∧ wx.ownsRow wr.heap.size 34 3 v row.length (rowC row) ∧ Up wr wx
theorem arc_bd {A : Ar} {sts : List Recs} {k nb : Nat} (h : Arc A sts k nb) (hk : k ≤ 90) (hn : nb < 18) : latA A < (k : Int) + 1 ∧ (k : Int) + 1 ≤ 1099511627776 ∧ A.baks.length < 20 ∧ (stA A ((k : Int) + 1)).length ≤ 40 ∧ A.earl ≤ (k : Int) + 1 ∧ A.recs.length ≤ 99000 ∧ A.chgs.length < 200 := by
  have h1 := h.lat
  have h2 := h.bn
  have h3 := h.earl
  have h4 := h.rn
  have h5 := h.cn
  have h6 := (h.ky _ h.cur).2.2
  rw [← h.st k (Nat.le_refl _), ← h.now] at h6
  exact ⟨by omega, by omega, by omega, by omega, by omega, by omega, by omega⟩
theorem arcJ_full {w wr w' : World} {p mb k nb : Nat} {v : Value} {K : Nat → Prop} {A A' : Ar} {D : DataW Value} {vs : List Value} {sts : List Recs} {idx : List Nat} {st : Int} (hA : Arc A sts k nb) (hM : MR w wr K mb k (fun y => y ∈ sts.getD k []) D) (hS : StsR w wr K v vs sts)
    (h : OwnP w K p A' wr w') (hf : FB A (stA A ((k : Int) + 1)) (stA A ((k : Int) + 1)).length A'.recs A'.refs idx st) (hb : A'.baks = A.baks ++ [((k : Int) + 1, idx)]) (hc : A'.chgs = A.chgs) (he : A'.earl = A.earl) : ArcJ w w' p mb k (nb + 1) v :=
  ⟨K, A', D, vs, sts, sts.getD k [], h.1, arc_full hA hf hb hc he, (hM.step h).mono (Nat.le_succ _), hS.step h⟩
/-- Behind Record. -/
structure ArcR (w wr : World) (p mb k nb : Nat) (v : Value) (x : Int) (rv : Value) (row : List Val) (K : Nat → Prop) (A : Ar) (D : DataW Value) (vs : List Value) (sts : List Recs) : Prop where
  own : Own w K wr p { A with chgs := A.chgs ++ [⟨(k : Int) + 1, keyB x, row⟩] }
  arc : Arc A sts k nb
  map : MR w wr K mb k (fun y => y ∈ sts.getD k []) D
  sts : StsR w wr K v vs sts
  rw : wr.ownsRow w.heap.size 34 3 rv row.length (rowC row)
  rK : ∀ j, rv.ownBlock = some j → K j
  rl : row.length ≤ 1
theorem arcR_of {w wr wx w5 w6 : World} {p mb k nb : Nat} {v rv : Value} {x : Int} {row : List Val} {K : Nat → Prop} {A : Ar} {D : DataW Value} {vs : List Value} {sts : List Recs} (hO : Own w K wr p A) (hA : Arc A sts k nb) (hM : MR w wr K mb k (fun y => y ∈ sts.getD k []) D) (hS : StsR w wr K v vs sts)
    (hrl : row.length ≤ 1) (hr : wx.ownsRow wr.heap.size 34 3 rv row.length (rowC row)) (hu : Up wr wx) (h5 : Up wx w5) (h6 : OwnP w (fun j => K j ∨ (wr.heap.size ≤ j ∧ j < wx.heap.size)) p { A with chgs := A.chgs ++ [⟨(k : Int) + 1, keyB x, row⟩] } w5 w6) :
    ArcR w w6 p mb k nb v x rv row (fun j => K j ∨ (wr.heap.size ≤ j ∧ j < wx.heap.size)) A D vs sts := by
  have hrK : ∀ j, rv.ownBlock = some j → K j ∨ (wr.heap.size ≤ j ∧ j < wx.heap.size) := fun j hj => .inr ⟨((own_ty hr) j hj).2, own_lt hr j hj⟩
  exact ⟨h6.1, hA, (((hM.wide fun j hj => .inl hj).up hu).up h5).step h6, (((hS.wide fun j hj => .inl hj).up hu).up h5).step h6,
    own_base' (own_chg (own_up hr h5) h6.2 fun j hj e => e.2 (hrK j hj)) fun j hj => by have := ((own_ty hr) j hj).2; have := hO.upw.size; omega, hrK, hrl⟩
theorem ArcR.up {w wr w' : World} {p mb k nb : Nat} {v rv : Value} {x : Int} {row : List Val} {K : Nat → Prop} {A : Ar} {D : DataW Value} {vs : List Value} {sts : List Recs} (h : ArcR w wr p mb k nb v x rv row K A D vs sts) (hu : Up wr w') : ArcR w w' p mb k nb v x rv row K A D vs sts :=
  ⟨h.own.up hu, h.arc, h.map.up hu, h.sts.up hu, own_up h.rw hu, h.rK, h.rl⟩
/-- Behind the map's store. -/
structure ArcM (w wr : World) (p mb k nb : Nat) (v : Value) (x : Int) (row : List Val) (K : Nat → Prop) (A : Ar) (D : DataW Value) (vs : List Value) (sts : List Recs) : Prop where
  own : Own w K wr p { A with chgs := A.chgs ++ [⟨(k : Int) + 1, keyB x, row⟩] }
  arc : Arc A sts k nb
  map : MR w wr K mb (k + 1) (fun y => (y.1 = keyB x ∧ y.2 = row) ∨ (y.1 ≠ keyB x ∧ y ∈ sts.getD k [])) D
  sts : StsR w wr K v vs sts
  rl : row.length ≤ 1
theorem ArcM.up {w wr w' : World} {p mb k nb : Nat} {v : Value} {x : Int} {row : List Val} {K : Nat → Prop} {A : Ar} {D : DataW Value} {vs : List Value} {sts : List Recs} (h : ArcM w wr p mb k nb v x row K A D vs sts) (hu : Up wr w') : ArcM w w' p mb k nb v x row K A D vs sts :=
  ⟨h.own.up hu, h.arc, h.map.up hu, h.sts.up hu, h.rl⟩
theorem arcM_of {w wr w' : World} {p mb k nb : Nat} {v rv : Value} {x : Int} {row : List Val} {K : Nat → Prop} {A : Ar} {D : DataW Value} {vs : List Value} {sts : List Recs} (h : ArcR w wr p mb k nb v x rv row K A D vs sts) (hown : w'.ownsMap Try.prog 9 RH mb (k + 1) (D.put (keyL (keyB x)) (.held rv))) (hg : wr.grownBy w' (some mb)) :
    ArcM w w' p mb k nb v x row K A (D.put (keyL (keyB x)) (.held rv)) vs sts :=
  ⟨h.own.turn h.map hg, h.arc, h.map.put hown hg h.rw h.rK, h.sts.map h.map.own hg, h.rl⟩
theorem arcJ_put {w wr : World} {p mb k nb : Nat} {v : Value} {x : Int} {row : List Val} {K : Nat → Prop} {A : Ar} {D : DataW Value} {vs : List Value} {sts : List Recs} (h : ArcM w wr p mb k nb v x row K A D vs sts) (hr : row.length ≠ 0) : ArcJ w wr p mb k nb v := by
  obtain ⟨h1, h2⟩ := arc_rec h.arc x h.rl
  exact ⟨K, _, D, vs, sts, _, h.own, h1, h.map.congr fun y => by rw [h2 y]; simp [hr], h.sts⟩
theorem arcJ_del {w wr w' : World} {p mb k nb : Nat} {v : Value} {x : Int} {row : List Val} {K : Nat → Prop} {A : Ar} {D : DataW Value} {vs : List Value} {sts : List Recs} (h : ArcM w wr p mb k nb v x row K A D vs sts) (hr : row.length = 0) (hown : w'.ownsMap Try.prog 9 RH mb (k + 1) (D.del (keyL (keyB x)))) (hg : wr.grownBy w' (some mb)) : ArcJ w w' p mb k nb v := by
  obtain ⟨h1, h2⟩ := arc_rec h.arc x h.rl
  refine ⟨K, _, _, vs, sts, _, h.own.turn h.map hg, h1, (h.map.del hown hg).congr fun y => ?_, h.sts.map h.map.own hg⟩
  rw [h2 y]
  simp only [hr, ne_eq, not_true_eq_false, false_and, and_false, false_or]
  constructor
  · rintro ⟨e, h3 | h3⟩
    · exact absurd h3.1 e
    · exact h3
  · rintro ⟨e, h3⟩
    exact ⟨e, .inr ⟨e, h3⟩⟩
/-- The inner loop: what is gathered. -/
structure ColI (w WI wr : World) (K : Nat → Prop) (cur : Recs) (j : Nat) (gs : List RM) (v : Value) : Prop where
  er : gs.map erR = colK cur j
  up : Up WI wr
  own : wr.ownsRow WI.heap.size 40 2 v gs.length (rmC gs)
  row : ∀ g ∈ gs, WI.ownsRow w.heap.size 34 3 g.rv g.row.length (rowC g.row) ∧ ∀ k, g.rv.ownBlock = some k → K k
theorem ColI.start {w WI : World} {K : Nat → Prop} {cur : Recs} : ColI w WI WI K cur 0 [] (.slice none 0 0) := ⟨rfl, Up.refl _, World.ownsRow_nil _ _ _ _, fun g hg => by cases hg⟩
theorem ColI.grow {w WI wr w3 : World} {K : Nat → Prop} {cur : Recs} {j : Nat} {gs : List RM} {v : Value} (h : ColI w WI wr K cur j gs v) (hu : Up wr w3) : ColI w WI w3 K cur j gs v := ⟨h.er, h.up.trans hu, own_up h.own hu, h.row⟩
theorem ColI.miss {w WI wr : World} {K : Nat → Prop} {cur : Recs} {j : Nat} {gs : List RM} {v : Value} (h : ColI w WI wr K cur j gs v) (hf : cur.find? (fun y => decide (y.1 = keyB j)) = none) : ColI w WI wr K cur (j + 1) gs v := ⟨by rw [colK_succ, hf]; simpa using h.er, h.up, h.own, h.row⟩
theorem ColI.snoc {w WI w3 w4 : World} {K : Nat → Prop} {cur : Recs} {j g c : Nat} {gs : List RM} {v rv : Value} {o : Obj} {y : Rec1} (h : ColI w WI w3 K cur j gs v) (hf : cur.find? (fun y => decide (y.1 = keyB j)) = some y)
    (hv : WI.ownsRow w.heap.size 34 3 rv y.2.length (rowC y.2)) (hK : ∀ k, rv.ownBlock = some k → K k) (hown : w4.ownsRow WI.heap.size 40 2 (.slice (some ⟨g, 0, none⟩) (gs.length + 1) c) (gs.length + 1) (rmC gs ++ [.string (keyB j), rv])) (hg : (w3.alloc o).grownBy w4 v.ownBlock) :
    ColI w WI w4 K cur (j + 1) (gs ++ [⟨keyB j, rv, y.2⟩]) (.slice (some ⟨g, 0, none⟩) (gs.length + 1) c) := by
  have hy : y.1 = keyB j := of_decide_eq_true (List.find?_some (p := fun y : Rec1 => decide (y.1 = keyB j)) hf)
  refine ⟨?_, Below.grown (h.up.alloc o) hg (h.up.alloc o).size fun k hk => ((own_ty h.own) k hk).2, by simpa [rmC, rmC1] using hown, fun x hx => ?_⟩
  · rw [colK_succ, hf, List.map_append, h.er]
    show _ = colK cur j ++ [y]
    rw [show ([⟨keyB j, rv, y.2⟩] : List RM).map erR = [y] from by simp [erR, ← hy]]
  · rcases List.mem_append.1 hx with hx | hx
    · exact h.row x hx
    · rw [List.mem_singleton.1 hx]; exact ⟨hv, hK⟩
theorem MR.far {w1 w w' : World} {K : Nat → Prop} {b n base size m : Nat} {R : Rec1 → Prop} {D : DataW Value} {T : TypeId} {v : Value} {xs : List Value} (h : MR w1 w K b n R D) (hv : w.ownsRow base T size v m xs) (hT : 34 ≠ T) (hg : w.grownBy w' v.ownBlock) : MR w1 w' K b n R D :=
  ⟨map_chg h.own ((Chg.refl (fun k => v.ownBlock = some k) w).grown hg fun k hk => .inl hk) fun e => map_ne h.own hv _ e rfl, h.kb, h.lo, h.mem, fun y hy => by obtain ⟨u, h1, h2, h3⟩ := h.rows y hy; exact ⟨u, h1, own_far h2 hv hT hg, h3⟩⟩
theorem arcI_next {w WI wr w5 : World} {p mb k nb g c H : Nat} {u6 v : Value} {o : Obj} {K : Nat → Prop} {A : Ar} {D : DataW Value} {vs : List Value} {sts : List Recs} {cur : Recs} {gs : List RM} (hO : Own w K WI p A) (hA : Arc A (sts ++ [cur]) (k + 1) nb) (hM : MR w WI K mb (k + 1) (fun y => y ∈ cur) D) (hS : StsR w WI K u6 vs sts) (hsl : sts.length = k + 1)
    (C : ColI w WI wr K cur 6 gs v) (hown : w5.ownsRow w.heap.size 36 1 (.slice (some ⟨g, 0, none⟩) (vs.length + 1) c) (vs.length + 1) (vs ++ [v])) (hg : (wr.alloc o).grownBy w5 u6.ownBlock) (hat : u6.ownBlock = some g ∨ g = H) (hH : wr.heap.size ≤ H) :
    ArcI w w5 p mb (k + 1) nb (.slice (some ⟨g, 0, none⟩) (vs.length + 1) c) := by
  have hu := C.up.alloc o
  have O1 := (hO.widen hu)
  have S1 := hS.up hu
  have O2 := O1.grown hg fun k hk => ⟨.inl (S1.ownK k hk), ((own_ty S1.own) k hk).2⟩
  have hws := hO.upw.size
  have hu1 := C.up.size
  have hs5 := hg.size
  have hsa : (wr.alloc o).heap.size = wr.heap.size + 1 := by simp
  have inK : ∀ k, K k → (fun k => (K k ∨ (WI.heap.size ≤ k ∧ k < (wr.alloc o).heap.size)) ∨ ((wr.alloc o).heap.size ≤ k ∧ k < w5.heap.size)) k := fun k h => .inl (.inl h)
  have new : ∀ k, WI.heap.size ≤ k → k < w5.heap.size → (fun k => (K k ∨ (WI.heap.size ≤ k ∧ k < (wr.alloc o).heap.size)) ∨ ((wr.alloc o).heap.size ≤ k ∧ k < w5.heap.size)) k := fun k h1 h2 => by
    rcases Nat.lt_or_ge k (wr.alloc o).heap.size with h3 | h3
    · exact .inl (.inr ⟨h1, h3⟩)
    · exact .inr ⟨h3, h2⟩
  have row5 : ∀ {base size n : Nat} {u : Value} {xs : List Value} {E : TypeId}, (wr.alloc o).ownsRow base E size u n xs → E ≠ 36 → w5.ownsRow base E size u n xs := fun hv hne => own_far hv S1.own hne hg
  have hcol : gs.map erR = cur := by
    rw [C.er]
    obtain ⟨k1, k2, _⟩ := hA.ky cur (List.mem_append.2 (.inr (List.mem_singleton.2 rfl)))
    exact colK_all k1 fun y hy => (k2 y hy).1
  refine ⟨_, A, D, vs ++ [v], sts ++ [cur], O2, hA, ?_, ⟨?_, fun j hj => ?_, by simp [S1.len], fun i hi => ?_⟩⟩
  · have := ((hM.up hu).wide inK).far S1.own (by decide) hg
    rw [show (sts ++ [cur]).getD (k + 1) [] = cur from by rw [getD_snoc, if_pos hsl.symm]]
    exact this
  · rw [show (vs ++ [v]).length = vs.length + 1 by simp]; exact hown
  · obtain rfl : g = j := by simpa [Value.ownBlock] using hj
    rcases hat with e | e
    · exact inK _ (S1.ownK _ e)
    · exact new _ (by omega) (own_lt hown g rfl)
  · rw [getD_snoc, ← S1.len]
    rcases Nat.lt_or_ge i vs.length with h1 | h1
    · rw [if_neg (by omega), List.getElem_append_left h1]
      obtain ⟨gs', g1, g2, g3, g4⟩ := S1.each i h1
      exact ⟨gs', g1, row5 g2 (by decide), fun k hk => inK k (g3 k hk), fun x hx => ⟨row5 (g4 x hx).1 (by decide), fun k hk => inK k ((g4 x hx).2 k hk)⟩⟩
    · have hi' : i = vs.length := by simp at hi; omega
      subst hi'
      rw [if_pos rfl]
      simp only [List.getElem_concat_length]
      have cv := own_up C.own ((Up.refl wr).alloc o)
      exact ⟨gs, hcol, own_base' (row5 cv (by decide)) fun k hk => by have := ((own_ty cv) k hk).2; omega, fun k hk => new k ((own_ty cv) k hk).2 (by have := own_lt cv k hk; omega), fun x hx => ⟨row5 (own_up (C.row x hx).1 hu) (by decide), fun k hk => inK k ((C.row x hx).2 k hk)⟩⟩
theorem ArcI.upw {w wr : World} {p mb k nb : Nat} {v : Value} (h : ArcI w wr p mb k nb v) : Up w wr := by obtain ⟨_, _, _, _, _, h, _⟩ := h; exact h.upw
theorem ArcJ.upw {w wr : World} {p mb k nb : Nat} {v : Value} (h : ArcJ w wr p mb k nb v) : Up w wr := by obtain ⟨_, _, _, _, _, _, h, _⟩ := h; exact h.upw
set_option maxRecDepth 100000 in
set_option maxHeartbeats 8000000 in
theorem archive_any (a : Option Addr) (len cap : Nat) (zs : List Int) (w : World) (hE : Elems w a len zs) (hc1 : len ≤ cap) (hc2 : cap ≤ 9223372036854775807) :
    Calls Try.prog 16 #[.slice a len cap] w (ArcPost w) := by
  have HE := Lib.hid hE
  obtain ⟨i0, hi0, hz0, hz1, hz2⟩ := info_parts Mv.Try.infoRec
  obtain ⟨iS, hiS, hzS0, hzS1, hzS2⟩ := info_parts Try.infoS
  obtain ⟨m, hmin', hm1, hm2⟩ := min_len 80 len
  have hmin : (if (80 : Int) < (len : Int) then (80 : Int) else (len : Int)) = (m : Int) := hmin'
  have hmc : (m : Int) ≤ (cap : Int) := by omega
  have hmi2 : min (len : Int) 80 = (m : Int) := by split at hmin <;> omega
  have hmm := @run_makeMap Try.prog
  unfold ArcPost
  clear hE hmin'
  go_enter Try.func16, Try.ntmps16
  go_wp2_with (first
    | (go_at_call 8; refine (newO w).mono ?_; rintro e w1 ⟨p, rfl, h1⟩; have H1 := Lib.hid h1; clear h1)
    | fail)
  clear hmin hmi2
  have ST := Lib.hid (arcI_start H1.out)
  go_loopw [6, 8, 27] (fun sv bv iv wr => ∃ k nb : Nat, k ≤ m ∧ nb ≤ 15 ∧ iv = .int .i64 k ∧ bv = .int .i64 nb ∧ Hid (ArcI w wr p (w1.heap.size + 1) k nb sv)) (fun _ _ iv _ => m - (intOf iv).toNat)
  case atStart => exact ⟨0, 0, by omega, by omega, rfl, rfl, ST.out⟩
  case round =>
    obtain ⟨k, nb, hk, hnb, rfl, rfl, HI⟩ := hrel
    by_cases hlt : k < m
    · obtain ⟨b, off, rfl, hb, hx⟩ := elems_up HE.out HI.out.upw k (by omega)
      obtain ⟨op, hop⟩ : ∃ op, op = zs.getD k 0 := ⟨_, rfl⟩
      rw [← hop] at hx
      have hkm : (k : Int) < (m : Int) := by omega
      obtain ⟨md, hmd⟩ : ∃ md : Nat, modV op 6 = (md : Int) := ⟨(modV op 6).toNat, by have := modV_nonneg op 6 (by omega); omega⟩
      clear hop
      go_upto_region 8 with (fail)
      go_cut [38] from 32 to 38 (fun s38 wx => Hid (wx = wr) ∧ s38 = .bool (decide (md = 0 ∧ nb < 15)))
      case first =>
        by_cases h0 : md = 0
        · subst h0
          by_cases hn15 : nb < 15
          · have hn1 : (nb : Int) < 15 := by omega
            go_wp2_with (first | (go_at_call 18; refine (mod_any _ _ _ (by omega) (by omega)).mono ?_; rw [hmd]; rintro e w' ⟨rfl, rfl⟩) | fail)
            go_meet
            exact ⟨rfl, by simp [hn15]⟩
          · have hn1 : ¬ (nb : Int) < 15 := by omega
            go_wp2_with (first | (go_at_call 18; refine (mod_any _ _ _ (by omega) (by omega)).mono ?_; rw [hmd]; rintro e w' ⟨rfl, rfl⟩) | fail)
            go_meet
            exact ⟨rfl, by simp [hn15, hn1]⟩
        · have h00 : ¬ (md : Int) = 0 := by omega
          have h01 : ((md : Int) == 0) = false := beq_eq_false_iff_ne.2 h00
          go_wp2_with (first | (go_at_call 18; refine (mod_any _ _ _ (by omega) (by omega)).mono ?_; rw [hmd]; rintro e w' ⟨rfl, rfl⟩) | fail)
          go_meet
          exact ⟨rfl, by simp [h0]⟩
      case rest =>
        obtain ⟨hww, rfl⟩ := hcut
        have hww := hww.out.symm
        subst hww
        go_upto_if 38 with (fail)
        go_cut [8, 11, 12, 13] from 38 to 77 (fun s8 s11 s12 s13 wx => ∃ nb' : Nat, nb' ≤ 15 ∧ s8 = .int .i64 nb' ∧ Hid (ArcJ w wx p (w1.heap.size + 1) k nb' u6))
        case first =>
          obtain ⟨K, A, D, vs, sts, hO, hA, hM, hS⟩ := HI.out
          have HO := Lib.hid hO
          have HA := Lib.hid hA
          have HM := Lib.hid hM
          have HS := Lib.hid hS
          have BD := Lib.hid (arc_bd hA (by omega) (by omega))
          clear hO hA hM hS
          by_cases hcc : md = 0 ∧ nb < 15
          · rw [decide_eq_true hcc]
            obtain ⟨_, hn15⟩ := hcc
            go_wp2_with (first
              | (go_at_call 15; refine (fullO HO.out (t := (k : Int) + 1) BD.out.1 BD.out.2.1 BD.out.2.2.1 BD.out.2.2.2.1 BD.out.2.2.2.2.1 BD.out.2.2.2.2.2.1).mono ?_; rintro e w2 ⟨A', st, idx, rfl, h2, h3, h4, h5, h6⟩; have H2 := Lib.hid (arcJ_full HA.out HM.out HS.out h2 h3 h4 h5 h6); clear h2 h3 h4 h5 h6)
              | fail)
            go_meet
            exact ⟨nb + 1, by omega, by go_num, H2.out⟩
          · rw [decide_eq_false hcc]
            clear hcc
            obtain ⟨md2, hmd2⟩ : ∃ md2 : Nat, modV (wrap64 (op.tdiv 8)) 4 = (md2 : Int) := ⟨(modV (wrap64 (op.tdiv 8)) 4).toNat, by have := modV_nonneg (wrap64 (op.tdiv 8)) 4 (by omega); omega⟩
            go_upto_if 53 with (first | (go_at_call 18; refine (mod_any _ _ _ (by omega) (by omega)).mono ?_; rw [hmd2]; rintro e w' ⟨rfl, rfl⟩) | fail)
            go_cut [13] from 53 to 56 (fun s13 wx => Hid (RowX wr wx s13))
            case first =>
              by_cases hm0 : 0 < md2
              · have hm0' : (0 : Int) < (md2 : Int) := by omega
                go_wp2_with (first
                  | (go_at_call 9; refine (row_any _ _).mono ?_; rintro e w2 ⟨rfl, h2, h3⟩; have H2 := Lib.hid h2; have H3 := Lib.hid h3; clear h2 h3)
                  | fail)
                go_meet
                exact ⟨_, by rw [rowV_len]; exact Nat.le_refl _, H2.out, H3.out⟩
              · have hm0' : ¬ (0 : Int) < (md2 : Int) := by omega
                go_wp2
                go_meet
                exact ⟨[], by decide, World.ownsRow_nil _ _ _ _, Up.refl _⟩
            case rest =>
              obtain ⟨row, hrl, hr, hu⟩ := hcut.out
              obtain ⟨ra, rc, rfl, _, _, _⟩ := own_form hr
              have RW := Lib.hid hr
              have RU := Lib.hid hu
              have RS := Lib.hid (own_src hr)
              clear hr hu hcut
              go_upto_if 73 with (first
                | (have tok := R7; at_mapUpdate; refine wpList_mapUpdate_own _ rfl _ _ _ 74 rfl 9 27 (Maps.string_keyed Try.underlying9) Try.underlying74 RH (w1.heap.size + 1) k D rfl R7.out.map.own (by unfold maxLen; omega) _ _ _ rfl rfl (key_of (by rw [keyB_size]; omega)) _ [] rfl ?_; intro w8 hown8 hgrow8; have M8 := Lib.hid (arcM_of R7.out hown8 hgrow8); clear hown8 hgrow8)
                | (have tok := R6; go_at_call 11; refine (key_any _ _).mono ?_; rintro e w7 ⟨rfl, h3⟩; have R7 := Lib.hid (R6.out.up h3); clear h3)
                | (have tok := U5; go_at_call 10; refine (recordO ((HO.out.widen RU.out).up U5.out) (t := (k : Int) + 1) (k := keyB (wrap64 (op.tdiv 8))) (RS.out.up U5.out) BD.out.1 BD.out.2.1 (by rw [keyB_size]; omega) (by omega) BD.out.2.2.2.2.2.2).mono ?_; rintro e w6 ⟨rfl, h6⟩; have R6 := Lib.hid (arcR_of HO.out HA.out HM.out HS.out hrl RW.out RU.out U5.out h6); clear h6)
                | (go_at_call 11; refine (key_any _ _).mono ?_; rintro e w5 ⟨rfl, h3⟩; have U5 := Lib.hid h3; clear h3)
                | fail)
              go_cut [] from 73 to 77 (fun wx => Hid (ArcJ w wx p (w1.heap.size + 1) k nb u6))
              case first =>
                by_cases hr0 : row.length = 0
                · have hr1 : ((row.length : Int) == 0) = true := by rw [hr0]; rfl
                  have HR0 := Lib.hid hr0
                  simp only [hr1]
                  clear hr1 hr0
                  go_wp2_with (first
                    | (have tok := M9; at_delete; refine wpList_delete_own _ rfl _ _ 74 9 rfl 27 (Maps.string_keyed Try.underlying9) Try.underlying74 RH (w1.heap.size + 1) (k + 1) _ rfl M9.out.map.own _ _ rfl (key_of (by rw [keyB_size]; omega)) ?_; intro w10 hown10 hturn10; have J10 := Lib.hid (arcJ_del M9.out HR0.out hown10 hturn10.grown); clear hown10 hturn10)
                    | (go_at_call 11; refine (key_any _ _).mono ?_; rintro e w9 ⟨rfl, h3⟩; have M9 := Lib.hid (M8.out.up h3); clear h3)
                    | fail)
                  go_meet
                  exact J10.out
                · have hr1 : ¬ (row.length : Int) = 0 := by omega
                  have hr2 : ((row.length : Int) == 0) = false := beq_eq_false_iff_ne.2 hr1
                  go_wp2
                  go_meet
                  exact arcJ_put M8.out hr0
              case rest =>
                go_wp2
                go_meet
                exact ⟨nb, hnb, rfl, hcut.out⟩
        case rest =>
          obtain ⟨nb', hnb', rfl, HJ⟩ := hcut
          obtain ⟨K, A, D, vs, sts, cur, hO, hA, hM, hS⟩ := HJ.out
          have HO := Lib.hid hO
          have HA := Lib.hid hA
          have HM := Lib.hid hM
          have HS := Lib.hid hS
          have hcm : cur ∈ sts ++ [cur] := List.mem_append.2 (.inr (List.mem_singleton.2 rfl))
          have HKY := Lib.hid (hA.ky _ hcm)
          clear hO hA hM hS hcm HJ HI
          obtain ⟨WI, hWI⟩ : ∃ WI, WI = wc := ⟨_, rfl⟩
          rw [← hWI] at HO HM HS
          have ST0 : Hid (ColI w WI wc K cur 0 [] (.slice none 0 0)) := by unfold Hid; rw [← hWI]; exact ColI.start
          clear hWI
          go_wp2
          go_loopw [14, 78] (fun v iv wr => ∃ (j : Nat) (gs : List RM), j ≤ 6 ∧ iv = .int .i64 j ∧ Hid (ColI w WI wr K cur j gs v)) (fun _ iv _ => 6 - (intOf iv).toNat)
          case atStart => exact ⟨0, [], by omega, rfl, ST0.out⟩
          case round =>
            obtain ⟨j, gs, hj, rfl, HC⟩ := hrel
            by_cases hlj : j < 6
            · have hlj' : (j : Int) < 6 := by omega
              have hks : (keyB j).size ≤ 24 := by rw [keyB_size]; omega
              cases hf : cur.find? (fun y => decide (y.1 = keyB j)) with
              | none =>
                have HF := Lib.hid hf
                have hhas : Maps.has D (keyL (keyB j)) = false := by
                  cases hh : Maps.has D (keyL (keyB j)) with
                  | false => rfl
                  | true =>
                    obtain ⟨y, hy, e⟩ := (HM.out.mem _).1 hh
                    have := List.find?_eq_none.1 hf y hy
                    simp [keyL_inj e] at this
                clear hf
                go_wp2_with (first
                  | (have tok := C2; at_lookup; refine wpList_lookup_own_ok _ rfl _ _ 74 rfl 9 27 (Maps.string_keyed Try.underlying9) Try.underlying74 RH (zeroRow _) nilH [] rfl (w1.heap.size + 1) (k + 1) D rfl (HM.out.up C2.out.up).own _ (keyL (keyB j)) rfl (key_of hks) ?_; intro v ps hv; rw [hhas]; clear hv)
                  | (go_at_call 11; refine (key_any _ _).mono ?_; rintro e w2 ⟨rfl, h3⟩; have C2 := Lib.hid (HC.out.grow h3); clear h3)
                  | fail)
                go_roundw
                case rel => exact ⟨j + 1, gs, by omega, by go_num, C2.out.miss HF.out⟩
                case measure => simp [intOf]; omega
              | some y =>
                have HF := Lib.hid hf
                have hyc : y ∈ cur := List.mem_of_find?_eq_some hf
                have hy : y.1 = keyB j := of_decide_eq_true (List.find?_some (p := fun y : Rec1 => decide (y.1 = keyB j)) hf)
                have hhas : Maps.has D (keyL (keyB j)) = true := (HM.out.mem _).2 ⟨y, hyc, by rw [hy]⟩
                obtain ⟨vy, hat, hvy, hvK⟩ := HM.out.rows y hyc
                rw [hy] at hat
                have HAT := Lib.hid hat
                have HVY := Lib.hid hvy
                have HVK := Lib.hid hvK
                obtain ⟨ya, yc, rfl, _, _, _⟩ := own_form hvy
                have hyl := (HKY.out.2.1 y hyc).2
                have hgl : gs.length ≤ 6 := by have h1 := congrArg List.length HC.out.er; rw [List.length_map] at h1; have := colK_len cur j; omega
                obtain ⟨va, vc, rfl, hvc1, hvc2, _⟩ := own_form HC.out.own
                clear hf hat hvy hvK hyc hy
                go_wp2_with (first
                  | (have tok := C3; at_builtin; refine wpList_append_lies _ rfl (.tmp 89) (.tmp 94) 36 rfl WI.heap.size 40 i0 (.agg #[.string ByteArray.empty, .slice none 0 0]) 2 40 Try.underlying36 hi0 hz0 hz1 hz2 rfl (by decide) (.slice va gs.length vc) gs.length (rmC gs) rfl (own_up C3.out.own ((Up.refl _).alloc _)) ⟨w3.heap.size, 0, none⟩ 1 1 [.string (keyB j), .slice ya y.2.length yc] rfl rfl (Mv.rcell w3 _ rfl _ _ _) (by intro u hu; simp at hu; rcases hu with rfl | rfl <;> rfl) (by decide) (by unfold maxLen; omega) (by omega) (by have := C3.out.up.size; simp; omega) _ rfl ?_; intro g2 c2 w4 hown2 hgrow2 hat2 hlt2; have C4 := Lib.hid (C3.out.snoc HF.out HVY.out HVK.out hown2 hgrow2); clear hown2 hgrow2 hat2)
                  | (have tok := C2; go_at_call 11; refine (key_any _ _).mono ?_; rintro e w3 ⟨rfl, h3⟩; have C3 := Lib.hid (C2.out.grow h3); clear h3)
                  | (have tok := C2; at_lookup; refine wpList_lookup_own_ok _ rfl _ _ 74 rfl 9 27 (Maps.string_keyed Try.underlying9) Try.underlying74 RH (zeroRow _) nilH [] rfl (w1.heap.size + 1) (k + 1) D rfl (HM.out.up C2.out.up).own _ (keyL (keyB j)) rfl (key_of hks) ?_; intro v ps hv; rw [hhas]; rw [HAT.out] at hv; unfold RH at hv; simp only [Option.some.injEq, Prod.mk.injEq, DataW.held.injEq] at hv; rw [hv.1]; clear hv)
                  | (go_at_call 11; refine (key_any _ _).mono ?_; rintro e w2 ⟨rfl, h3⟩; have C2 := Lib.hid (HC.out.grow h3); clear h3)
                  | fail)
                go_roundw
                case rel => exact ⟨j + 1, _, by omega, by go_num, C4.out⟩
                case measure => simp [intOf]; omega
            · obtain rfl : j = 6 := by omega
              have hvl := HS.out.len
              have hsl := HA.out.sl
              rw [List.length_append, List.length_singleton] at hsl
              have hvb : vs.length ≤ 81 := by omega
              have HSL : Hid (sts.length = k + 1) := by unfold Hid; omega
              clear hvl hsl
              obtain ⟨va, vc, rfl, hvc1, hvc2, _⟩ := own_form HC.out.own
              obtain ⟨sa, sc, rfl, hsc1, hsc2, _⟩ := own_form HS.out.own
              go_wp2_with (first
                | (at_builtin; refine wpList_append_lies _ rfl (.tmp 97) (.tmp 99) 44 rfl w.heap.size 36 iS (.slice none 0 0) 1 24 Try.underlying44 hiS hzS0 hzS1 hzS2 rfl (by decide) (.slice sa vs.length sc) vs.length vs rfl (own_up HS.out.own (HC.out.up.alloc _)) ⟨wr.heap.size, 0, none⟩ 1 1 [.slice va gs.length vc] rfl rfl (cell_int _ _ _ _ rfl) (by intro u hu; rw [List.mem_singleton.1 hu]; rfl) (by decide) (by unfold maxLen; omega) (by omega) (by have := HO.out.upw.size; have := HC.out.up.size; simp; omega) _ rfl ?_; intro g2 c2 w4 hown2 hgrow2 hat2 hlt2; have N4 := Lib.hid (arcI_next HO.out HA.out HM.out HS.out HSL.out HC.out hown2 hgrow2 hat2 (by simp)); clear hown2 hgrow2 hat2)
                | fail)
              go_roundw
              case rel => exact ⟨k + 1, nb', by omega, hnb', by go_num, rfl, N4.out⟩
              case measure => simp [intOf]; omega
    · obtain rfl : k = m := by omega
      go_wp2
      go_ret3
      obtain ⟨K, A, D, vs, sts, hO, hA, hM, hS⟩ := HI.out
      exact ⟨p, _, K, A, vs, sts, k, nb, rfl, hO, hA, hS, hm2, hnb⟩
end Go.Proofs.Ytdaehidbeleblaa.Bk
