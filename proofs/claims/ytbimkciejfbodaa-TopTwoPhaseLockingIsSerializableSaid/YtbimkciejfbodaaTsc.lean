/- Interleavings: the conflict matrix, ConflictGraph, SerialOrder, slices.Equal at pairs. Ported from seat ser by gen5/in2.py. -/
import Derived.Test.YtbimkciejfbodaaTsb
import Derived.Deep.WholeRow
import Derived.Deep.MidRow
namespace Go.Proofs.Ytbimkciejfbodaa.In
open Go Go.RowKit Hp
set_option linter.unusedVariables false
theorem own_shape {w : World} {base : Nat} {E : TypeId} {size : Nat} {v : Value} {n : Nat} {xs : List Value} (h : w.ownsRow base E size v n xs) (hn : 0 < n) : ∃ g cap, v = .slice (some ⟨g, 0, none⟩) n cap ∧ base ≤ g ∧ Ty w g E := by
  rcases h.2 with ⟨_, h0⟩ | ⟨g, cap, cur, rfl, hb, hg, _⟩
  · omega
  · exact ⟨g, cap, rfl, hb, cur, (0, 0), hg⟩
theorem own_len {w : World} {base : Nat} {E : TypeId} {size : Nat} {v : Value} {n : Nat} {xs : List Value} (h : w.ownsRow base E size v n xs) : ∃ a cap, v = .slice a n cap := by
  rcases h.2 with ⟨rfl, h0⟩ | ⟨g, cap, cur, rfl, hb, hg, _⟩
  · exact ⟨none, 0, by rw [h0]⟩
  · exact ⟨_, cap, rfl⟩
/-- Two numbers in a row of pairs (type 48). -/
def PairR (w : World) (b o : Nat) (p : Int × Int) : Prop := Ty w b 43 ∧ At w b o (.int .i64 p.1) ∧ At w b (o + 1) (.int .i64 p.2)
theorem pairR_grows : Grows PairR := fun _ _ _ _ _ h hu => ⟨h.1.up hu, h.2.1.grow hu, h.2.2.grow hu⟩
abbrev pcells (l : List (Int × Int)) : List Value := l.flatMap fun p => [.int .i64 p.1, .int .i64 p.2]
theorem Try.info48 : (Try.prog.info? 43).map (fun i => (i.zero, i.size, i.bytes)) = some (some (.agg #[.int .i64 0, .int .i64 0]), 2, 16) := by kernel_rfl
theorem cell_two_new' (w : World) (a b : Value) (E : TypeId) : ∀ (j : Nat) u, [a, b][j]? = some u → (w.alloc (.cells #[a, b] E)).cell? ((⟨w.heap.size, 0, none⟩ : Addr).add j) = some u := by
  intro j u hj
  rw [show (⟨w.heap.size, 0, none⟩ : Addr).add j = ⟨w.heap.size, j, none⟩ by unfold Addr.add; split <;> simp_all, World.cell?_alloc_new]
  simpa using hj
theorem own_pair_up {w w' w'' : World} {v : Value} {n : Nat} {xs : List Value} (hu : Up w w') (h : w'.ownsRow w.heap.size 43 2 v n xs) (hg : w'.grownBy w'' v.ownBlock) : Up w w'' :=
  Below.grown hu hg hu.size (fun j hj => (own_ty h j hj).2)
theorem heap_setCells (b : Nat) (E : TypeId) (fz : Nat × Nat) : ∀ (vs : List Value) (o : Nat) (w : World) (cur : Array Value), w.heap[b]? = some (.cells cur E fz) →
    ∃ cur' : Array Value, (w.setCells b o vs).heap[b]? = some (.cells cur' E fz) ∧ cur'.size = cur.size ∧ ∀ i, i < cur.size → cur'[i]? = if o ≤ i ∧ i < o + vs.length then vs[i - o]? else cur[i]?
  | [], o, w, cur, h => ⟨cur, h, rfl, fun i hi => by rw [if_neg (by simp)]⟩
  | v :: vs, o, w, cur, h => by
    have h1 : (w.setCell ⟨b, o, none⟩ v).heap[b]? = some (.cells (cur.setIfInBounds o v) E fz) := by
      simp only [World.setCell, Array.getElem?_modify, if_true, h, Option.map_some]; simp
    obtain ⟨cur', e1, e2, e3⟩ := heap_setCells b E fz vs (o + 1) _ _ h1
    refine ⟨cur', e1, by simpa using e2, fun i hi => ?_⟩
    rw [e3 i (by simpa using hi)]
    by_cases hc : o + 1 ≤ i ∧ i < o + 1 + vs.length
    · rw [if_pos hc, if_pos (by simp; omega), show i - o = (i - (o + 1)) + 1 by omega]; simp
    · rw [if_neg hc]
      by_cases hio : i = o
      · subst hio; rw [if_pos (by simp)]; simp [hi]
      · rw [if_neg (by simp; omega), Array.getElem?_setIfInBounds_ne (by omega)]
theorem heap_setCells_other (b k : Nat) (hk : k ≠ b) : ∀ (vs : List Value) (o : Nat) (w : World), (w.setCells b o vs).heap[k]? = w.heap[k]?
  | [], _, _ => rfl
  | v :: vs, o, w => by rw [World.setCells, heap_setCells_other b k hk vs]; exact Below.heap_setCell _ _ _ _ hk
theorem setCells_rest (b : Nat) : ∀ (vs : List Value) (o : Nat) (w : World), (w.setCells b o vs).os = w.os ∧ (w.setCells b o vs).tape = w.tape ∧ (w.setCells b o vs).output = w.output ∧ (w.setCells b o vs).heap.size = w.heap.size
  | [], _, _ => ⟨rfl, rfl, rfl, rfl⟩
  | v :: vs, o, w => by
    obtain ⟨a1, a2, a3, a4⟩ := setCells_rest b vs (o + 1) (w.setCell ⟨b, o, none⟩ v)
    exact ⟨a1, a2, a3, by rw [World.setCells, a4]; simp⟩
abbrev ic (l : List Int) : List Value := l.map (Value.int .i64)
/-! ### The topological order, in plain words: the first that is free goes next -/
def topo (fr : List Int → Int → Bool) : Nat → List Int → List Int → Option (List Int)
  | 0, _, ord => some ord
  | n + 1, rem, ord => match rem.findIdx? (fr rem) with
    | none => none
    | some i => topo fr n (rem.eraseIdx i) (ord ++ [rem.getD i 0])
theorem idx_cases {α : Type} (p : α → Bool) (l : List α) : (l.findIdx? p = none ∧ idx p l = -1) ∨ ∃ i, l.findIdx? p = some i ∧ idx p l = (i : Int) ∧ i < l.length := by
  unfold idx
  cases h : l.findIdx? p with
  | none => exact .inl ⟨rfl, rfl⟩
  | some i => exact .inr ⟨i, rfl, rfl, (List.findIdx?_eq_some_iff_getElem.1 h).1⟩
theorem blk_upE {w w' : World} {b : Nat} {xs : List Value} {E E' : TypeId} (h : Blk w b xs E) (hne : E ≠ E') (hu : UpE E' w w') : Blk w' b xs E :=
  (hu.block b h.lt (Ty.ne ⟨_, _, h⟩ hne)).trans h
theorem upE_setCell (w : World) (b i : Nat) (s : Option Nat) (v : Value) {E : TypeId} (h : Ty w b E) : UpE E w (w.setCell ⟨b, i, s⟩ v) :=
  ⟨by simp, fun k hk hn => Below.heap_setCell _ _ _ _ (fun e => hn (by rw [e]; exact h))⟩
theorem own_upE {w w' : World} {base : Nat} {E E' : TypeId} {size : Nat} {v : Value} {n : Nat} {xs : List Value} (h : w.ownsRow base E size v n xs) (hne : E ≠ E') (hu : UpE E' w w') : w'.ownsRow base E size v n xs := by
  obtain ⟨hx, h⟩ := h
  refine ⟨hx, ?_⟩
  rcases h with h | ⟨g, cap, cur, hv, hb, hg, r⟩
  · exact Or.inl h
  · exact Or.inr ⟨g, cap, cur, hv, hb, (hu.block g (Ty.lt ⟨cur, (0, 0), hg⟩) (Ty.ne ⟨cur, (0, 0), hg⟩ hne)).trans hg, r⟩
/-- .. and behind a write to another row. -/
theorem own_grown {w w' : World} {base : Nat} {E : TypeId} {size : Nat} {v : Value} {n : Nat} {xs : List Value} {row : Option Nat} (h : w.ownsRow base E size v n xs) (hg : w.grownBy w' row) (hr : ∀ k, row = some k → v.ownBlock ≠ some k) : w'.ownsRow base E size v n xs := by
  obtain ⟨hx, h⟩ := h
  refine ⟨hx, ?_⟩
  rcases h with h | ⟨g, cap, cur, rfl, hb, hgg, r⟩
  · exact Or.inl h
  · exact Or.inr ⟨g, cap, cur, rfl, hb, (hg.block g (Ty.lt ⟨cur, (0, 0), hgg⟩) (fun e => hr g e.symm rfl)).trans hgg, r⟩
theorem own_base {w : World} {base base' : Nat} {E : TypeId} {size : Nat} {v : Value} {n : Nat} {xs : List Value} (h : w.ownsRow base E size v n xs) (hb : base' ≤ base) : w.ownsRow base' E size v n xs := by
  obtain ⟨hx, h⟩ := h
  refine ⟨hx, ?_⟩
  rcases h with h | ⟨g, cap, cur, hv, hg, r⟩
  · exact Or.inl h
  · exact Or.inr ⟨g, cap, cur, hv, by omega, r⟩
theorem Try.info3 : (Try.prog.info? 3).map (fun i => (i.zero, i.size, i.bytes)) = some (some (.int .i64 0), 1, 8) := by kernel_rfl
/-- The length of the slice in a box. -/
def lenAt (w : World) (b : Nat) : Nat := match w.cell? ⟨b, 0, none⟩ with | some (.slice _ n _) => n | _ => 0
theorem cell_one_new2 (w : World) (v : Value) (E : TypeId) : ∀ (j : Nat) u, [v][j]? = some u → (w.alloc (.cells #[v] E)).cell? ((⟨w.heap.size, 0, none⟩ : Addr).add j) = some u := by
  intro j u hj
  rw [show (⟨w.heap.size, 0, none⟩ : Addr).add j = ⟨w.heap.size, j, none⟩ by unfold Addr.add; split <;> simp_all, World.cell?_alloc_new]
  simpa using hj
/-- The 400 cells of a matrix. -/
def mcells (M : Nat → Bool) : List Value := (List.range 400).map fun c => .bool (M c)
theorem mcells_len (M : Nat → Bool) : (mcells M).length = 400 := by simp [mcells]
theorem mcells_at (M : Nat → Bool) {c : Nat} (h : c < 400) : (mcells M)[c]? = some (.bool (M c)) := by simp [mcells, h]
theorem mcells_set (M : Nat → Bool) (c : Nat) : (mcells M).set c (.bool true) = mcells (fun d => M d || decide (d = c)) := by
  refine List.ext_getElem (by simp [mcells]) fun i h1 h2 => ?_
  by_cases e : i = c
  · subst e; simp [mcells]
  · rw [List.getElem_set_ne (by omega)]; simp [mcells, e]
theorem mcells_congr {M N : Nat → Bool} (h : ∀ c, c < 400 → M c = N c) : mcells M = mcells N := by
  refine List.ext_getElem (by simp [mcells]) fun i h1 h2 => ?_
  simp only [mcells, List.length_map, List.length_range] at h1
  simp [mcells, h i h1]
theorem Try.zero72 : (Try.prog.info? 72).map (fun i => (i.zero, i.size)) = some (some (.agg (mcells fun _ => false).toArray), 400) := by kernel_rfl
theorem wl_alloc {P : Program} {ops : Array Oper} {rest : List Oper} {o : Oper} {a : Act} {w : World} {Q : Exit → Act → World → Prop} (hgd : o.guard = none) (E : TypeId) (ho : o.op = .alloc E) (zs : List Value)
    (hz : ∀ w, (zeroValue E).run P w = .ok (.agg zs.toArray) w) (h : wpList P ops Q rest (a.put o.dst (.pointer (some ⟨w.heap.size, 0, none⟩))) (w.alloc (.cells zs.toArray E))) : wpList P ops Q (o :: rest) a w :=
  wpList_plain hgd fun K hK => by
    have h2 := hK _ _ h
    have hr : (execOp a.eval o).run P w = .ok (.value (.pointer (some ⟨w.heap.size, 0, none⟩))) (w.alloc (.cells zs.toArray E)) := by
      unfold execOp
      simp only [ho]
      simp [Instr.alloc, hz, newVar, newRow, Value.cells, go_sem]
    unfold Oper.wp
    rw [hr]
    exact h2
theorem blk_setCells {w : World} {b : Nat} {xs vs : List Value} {E : TypeId} (h : Blk w b xs E) (hl : vs.length = xs.length) : Blk (w.setCells b 0 vs) b vs E := by
  obtain ⟨cur, e1, e2, e3⟩ := heap_setCells b E (0, 0) vs 0 w _ h
  have e : cur = vs.toArray := by
    refine Array.ext_getElem? fun i => ?_
    by_cases hi : i < xs.length
    · rw [e3 i (by simpa using hi), if_pos (by omega)]; simp
    · rw [Array.getElem?_eq_none (by rw [e2]; simpa using hi), Array.getElem?_eq_none (by simp; omega)]
  subst e; exact e1
theorem up_setCells {w w' : World} {b : Nat} (h : Up w w') (hb : w.heap.size ≤ b) (o : Nat) (vs : List Value) : Up w (w'.setCells b o vs) := by
  obtain ⟨a1, a2, a3, a4⟩ := setCells_rest b vs o w'
  exact ⟨a1.trans h.os, a2.trans h.tape, a3.trans h.output, by rw [a4]; exact h.size, fun k hk => by rw [heap_setCells_other b k (by omega)]; exact h.block k hk⟩
def hitc (a b : Hop) (c : Nat) : Bool := confl a b && decide (c = a.tx * 20 + b.tx)
def cfIn (l : List Hop) (j m c : Nat) : Bool := (List.range m).any fun i => hitc (l.getD i h0) (l.getD j h0) c
def cfN (l : List Hop) (n c : Nat) : Bool := (List.range n).any fun j => cfIn l j j c
theorem cfIn_succ (l : List Hop) (j m c : Nat) : cfIn l j (m + 1) c = (cfIn l j m c || hitc (l.getD m h0) (l.getD j h0) c) := any_succ _ _
theorem cfN_succ (l : List Hop) (n c : Nat) : cfN l (n + 1) c = (cfN l n c || cfIn l n n c) := any_succ _ _
set_option maxRecDepth 100000 in
set_option maxHeartbeats 2000000 in
theorem conflicts_any (vt : Value) (l : List Hop) (w : World) (ht : Hops w vt l) (hv' : HValid l) :
    Calls Try.prog 42 #[vt] w fun e w' => e = .returned (.agg (mcells (cfN l l.length)).toArray) ∧ Up w w' := by
  obtain ⟨a, cap, rfl, h1, h2, _, h3⟩ := ht
  obtain ⟨hz, hs72⟩ := zero_of_info Try.zero72
  have hlen := hv'.len
  have HV := Lib.hid hv'
  have H3 := Lib.hid h3
  have HZ := Lib.hid hz
  have HS := Lib.hid hs72
  clear h3 hv' hz hs72
  go_enter Try.func42, Try.ntmps42
  go_wp2_with (with_reducible refine wl_alloc rfl 72 rfl _ HZ.out ?_)
  obtain ⟨m0, hm0⟩ : ∃ m0, m0 = mcells (cfN l 0) := ⟨_, rfl⟩
  go_loopw [10] (fun iv wr => ∃ j : Nat, j ≤ l.length ∧ iv = .int .i64 j ∧ Up w wr ∧ Blk wr w.heap.size (mcells fun _ => false) 72 ∧ Blk wr (w.heap.size + 1) (mcells (cfN l j)) 72) (fun iv _ => l.length - (intOf iv).toNat)
  case atStart =>
    refine ⟨0, by omega, rfl, ((Up.refl _).alloc _).alloc _, (Blk.new w _ _).up ((Up.refl _).alloc _), ?_⟩
    have := Blk.new (w.alloc (.cells (mcells fun _ => false).toArray 72)) (mcells fun _ => false).toArray 72
    have e : mcells (cfN l 0) = mcells fun _ => false := mcells_congr fun c _ => by simp [cfN]
    rw [e]
    simpa using this
  case round =>
    obtain ⟨j, hj, rfl, hu, hb0, hb1⟩ := hrel
    have B0 := Lib.hid hb0
    have B1 := Lib.hid hb1
    clear hb0 hb1 hm0
    by_cases hlt : j < l.length
    · obtain ⟨b, off, rfl, h4⟩ := arr_at (n := 0) (cap := 0) h0 H3.out (by omega)
      have H4 := Lib.hid h4
      clear h4
      obtain ⟨_, ⟨hbs, c0⟩, ⟨_, c1⟩, ⟨_, c2⟩⟩ := hopR_grows _ _ _ _ _ (H4.out j (by omega)) hu
      obtain ⟨tj, htj⟩ : ∃ t, t = l.getD j h0 := ⟨_, rfl⟩
      rw [← htj] at c0 c1 c2
      have V2 := HV.out.tx j hlt
      rw [← htj] at V2
      have TJ := Lib.hid htj
      clear htj
      obtain ⟨txj, kindj, keyj⟩ := tj
      dsimp only at *
      have hsz : w.heap.size + 2 ≤ wr.heap.size := by have := B1.out.lt; omega
      go_wp2
      have hsz2 := hu.size
      obtain ⟨wo, rfl⟩ : ∃ wo : World, wo = wr := ⟨_, rfl⟩
      obtain ⟨W0, hW0⟩ : ∃ W0, W0 = wo.alloc (.cells #[.int .i64 (txj : Int), .int .i64 kindj, .string keyj] 37) := ⟨_, rfl⟩
      have hu1 : Up w W0 := hW0 ▸ hu.alloc _
      have B0' : Hid (Blk W0 w.heap.size (mcells fun _ => false) 72) := hW0 ▸ B0.out.up ((Up.refl _).alloc _)
      have B1' : Hid (Blk W0 (w.heap.size + 1) (mcells (cfN l j)) 72) := hW0 ▸ B1.out.up ((Up.refl _).alloc _)
      have B5' : Hid (Blk W0 wo.heap.size [.int .i64 (txj : Int), .int .i64 kindj, .string keyj] 37) := hW0 ▸ Blk.new wo _ _
      rw [← hW0]
      clear hW0
      go_loopw [19] (fun iv wi => ∃ i : Nat, i ≤ j ∧ iv = .int .i64 i ∧ Up w wi ∧ Blk wi wo.heap.size [.int .i64 (txj : Int), .int .i64 kindj, .string keyj] 37 ∧ Blk wi w.heap.size (mcells fun _ => false) 72 ∧ Blk wi (w.heap.size + 1) (mcells fun c => cfN l j c || cfIn l j i c) 72) (fun iv _ => j - (intOf iv).toNat)
      case atStart =>
        refine ⟨0, by omega, rfl, hu1, B5'.out, B0'.out, ?_⟩
        rw [mcells_congr (N := cfN l j) fun c _ => by simp [cfIn]]
        exact B1'.out
      case round =>
        clear B0' B1' B5' hu1
        obtain ⟨i, hi, rfl, hu', hb5, hb0, hb1⟩ := hrel
        have D0 := Lib.hid hb0
        have D1 := Lib.hid hb1
        have D5 := Lib.hid hb5
        clear hb0 hb1 hb5
        by_cases hli : i < j
        · obtain ⟨_, ⟨hbi, d0⟩, ⟨_, d1⟩, ⟨_, d2⟩⟩ := hopR_grows _ _ _ _ _ (H4.out i (by omega)) hu'
          obtain ⟨ti, hti⟩ : ∃ t, t = l.getD i h0 := ⟨_, rfl⟩
          rw [← hti] at d0 d1 d2
          have V2i := HV.out.tx i (by omega)
          rw [← hti] at V2i
          have TI := Lib.hid hti
          clear hti
          obtain ⟨txi, kindi, keyi⟩ := ti
          dsimp only at *
          have ⟨h51, e50⟩ := D5.out.at (i := 0) rfl
          have ⟨_, e51⟩ := D5.out.at (i := 1) rfl
          have ⟨_, e52⟩ := D5.out.at (i := 2) rfl
          have hsz3 := hu'.size
          have hsz4 := D1.out.lt
          obtain ⟨cf, CF⟩ : ∃ x, Hid (confl ⟨txi, kindi, keyi⟩ ⟨txj, kindj, keyj⟩ = x) := ⟨_, rfl⟩
          have NX := Lib.hid (cfIn_succ l j i)
          rw [← TI.out, ← TJ.out] at NX
          cases cf with
          | false =>
            have MX : Hid (∀ c, (cfN l j c || cfIn l j (i + 1) c) = (cfN l j c || cfIn l j i c)) := fun c => by rw [NX.out c, hitc, CF.out]; simp
            go_wp2_with (go_at_call 62; refine (confl_any ⟨txi, kindi, keyi⟩ ⟨txj, kindj, keyj⟩ _).mono ?_; rintro e w1 ⟨he, hu1⟩; rw [CF.out] at he; obtain rfl := he)
            go_roundw
            case rel =>
              have hu2 : Up wr w1 := Up.trans ((Up.refl _).alloc _) hu1
              exact ⟨i + 1, by omega, by go_num, hu'.trans hu2, D5.out.up hu2, D0.out.up hu2, by rw [mcells_congr fun c _ => MX.out c]; exact D1.out.up hu2⟩
            case measure => simp [intOf]; omega
          | true =>
            have MX : Hid (∀ c, (cfN l j c || cfIn l j (i + 1) c) = ((cfN l j c || cfIn l j i c) || decide (c = txi * 20 + txj))) := fun c => by rw [NX.out c, hitc, CF.out]; simp [Bool.or_assoc]
            go_wp2_with (go_at_call 62; refine (confl_any ⟨txi, kindi, keyi⟩ ⟨txj, kindj, keyj⟩ _).mono ?_; rintro e w1 ⟨he, hu1⟩; rw [CF.out] at he; obtain rfl := he)
            have hu2 : Up wr w1 := Up.trans ((Up.refl _).alloc _) hu1
            have hsz5 : wr.heap.size + 1 ≤ w1.heap.size := by simpa using hu1.size
            have ⟨g51, g50⟩ := (D5.out.up hu2).at (i := 0) rfl
            have ⟨g70, g71⟩ := ((Blk.new wr #[.int .i64 (txi : Int), .int .i64 kindi, .string keyi] 37).up hu1).at (i := 0) rfl
            have E1 := Lib.hid (D1.out.up hu2)
            have ⟨gm0, gm1⟩ := E1.out.at (mcells_at (fun c => cfN l j c || cfIn l j i c) (c := txi * 20 + txj) (by omega))
            have gm2 := E1.out.free (txi * 20 + txj)
            go_region
            go_wp2
            go_roundw
            case rel =>
              have hu3 : Up w w1 := hu'.trans hu2
              exact ⟨i + 1, by omega, by go_num, (hu3.set (by omega) _ _ _).drew, ((D5.out.up hu2).other (by omega) _ _ _).drew, ((D0.out.up hu2).other (by omega) _ _ _).drew, by rw [mcells_congr fun c _ => MX.out c, ← mcells_set]; exact (E1.out.set _ _).drew⟩
            case measure => simp [intOf]; omega
        · obtain rfl : i = j := by omega
          go_wp2
          go_roundw
          case rel => exact ⟨i + 1, by omega, by go_num, hu', D0.out, by rw [mcells_congr (N := fun c => cfN l i c || cfIn l i i c) fun c _ => cfN_succ l i c]; exact D1.out⟩
          case measure => simp [intOf]; omega
    · obtain rfl : j = l.length := by omega
      have hl400 := mcells_len (cfN l l.length)
      have hall : (mcells (cfN l l.length)).toArray.all (·.oneCell') = true := by
        refine all_oneCell_toArray fun v hv => ?_
        unfold mcells at hv
        obtain ⟨c, _, rfl⟩ := List.mem_map.1 hv
        rfl
      have ht0 : wr.there w.heap.size 0 (mcells (cfN l l.length)).toArray.size := fun i hi => by
        have h := B0.out.at (mcells_at (fun _ => false) (c := i) (by simpa [mcells_len] using hi))
        rw [Nat.zero_add, h.2]
        exact ⟨rfl, B0.out.free i⟩
      have HA := Lib.hid hall
      have HT := Lib.hid ht0
      clear hall ht0
      have u72 : Hid (Try.prog.underlying 72 = some (.array 20 70)) := by unfold Hid; kernel_rfl
      have s72 : Hid ((Try.prog.info? 72).map (·.size) = some (mcells (cfN l l.length)).toArray.size) := by unfold Hid; rw [HS.out]; simp [mcells_len]
      have HB : Hid (wr.heap[w.heap.size + 1]? = some (.cells (mcells (cfN l l.length)).toArray 72 (0, 0))) := B1.out
      go_wp2_with (first | (refine wpList_load_row rfl 72 _ rfl (w.heap.size + 1) rfl 72 _ (0, 0) _ HB.out u72.out rfl s72.out ?_) | (refine wpList_store_mid rfl 72 _ _ rfl w.heap.size 0 (mcells (cfN l l.length)).toArray rfl rfl HT.out s72.out HA.out ?_))

      have hend : Hid ((wr.setCells w.heap.size 0 (mcells (cfN l l.length))).heap[w.heap.size]? = some (.cells (mcells (cfN l l.length)).toArray 72 (0, 0))) := blk_setCells B0.out (by simp [mcells_len])
      refine bodyPost_ret (results_cell_row rfl _ _ w.heap.size 72 (mcells (cfN l l.length)).toArray (0, 0) (.array 20 70) rfl hend.out u72.out rfl s72.out) rfl ?_
      exact ⟨rfl, up_setCells hu (by omega) _ _⟩
theorem wl_store_new {P : Program} {ops : Array Oper} {rest : List Oper} {o : Oper} {a : Act} {w0 : World} {Q : Exit → Act → World → Prop} (hgd : o.guard = none) (E : TypeId) (x y : Operand) (ho : o.op = .store E x y)
    (c c' : Array Value) (hx : a.eval x = .pointer (some ⟨w0.heap.size, 0, none⟩)) (hy : a.eval y = .agg c') (hi : (P.info? E).map (·.size) = some c'.size) (hs : c.size = c'.size) (h1 : c'.all (·.oneCell') = true)
    (h : wpList P ops Q rest (a.put o.dst undef) (w0.alloc (.cells c' E))) : wpList P ops Q (o :: rest) a (w0.alloc (.cells c E)) :=
  wpList_plain hgd fun K hK => by
    have h2 := hK _ _ h
    have hr := run_storeAt_new (P := P) w0 E c c' hi hs h1
    unfold Oper.wp execOp
    simp only [ho, hx, hy, hr, Sem.run_bind, Result.andThen_ok, Sem.run_pure]
    exact h2
theorem mcells_one (M : Nat → Bool) : (mcells M).toArray.all (·.oneCell') = true := by
  refine all_oneCell_toArray fun v hv => ?_
  unfold mcells at hv
  obtain ⟨c, _, rfl⟩ := List.mem_map.1 hv
  rfl
theorem Try.under70 : Try.prog.underlying 70 = some (.array 20 4) := by kernel_rfl
theorem Try.under4 : ∃ d, Try.prog.underlying 4 = some d ∧ d.isRow = false := ⟨.bool, by kernel_rfl, rfl⟩
theorem Try.size4 : (Try.prog.info? 4).map (·.size) = some 1 := by kernel_rfl
theorem Try.size70 : (Try.prog.info? 70).map (·.size) = some 20 := by kernel_rfl
def rcells (M : Nat → Bool) (i : Nat) : List Value := (List.range 20).map fun j => .bool (M (i * 20 + j))
theorem rcells_at (M : Nat → Bool) (i : Nat) {j : Nat} (h : j < 20) : (rcells M i)[j]? = some (.bool (M (i * 20 + j))) := by simp [rcells, h]
theorem range_row {w : World} {b : Nat} {M : Nat → Bool} (h : Blk w b (mcells M) 72) {i : Nat} (hi : i < 20) : w.rangeAt b (i * 20) (rcells M i) := fun j v hj => by
  have hj20 : j < 20 := by
    have := (List.getElem?_eq_some_iff.1 hj).1
    simpa [rcells] using this
  rw [rcells_at M i hj20] at hj
  cases hj
  rw [h.cell]
  exact mcells_at M (by omega)
def crow (M : Nat → Bool) (i m : Nat) : List (Int × Int) := ((List.range m).filter fun k => M (i * 20 + k)).map fun (k : Nat) => ((i : Int), ((k : Nat) : Int))
def cgr (M : Nat → Bool) (m : Nat) : List (Int × Int) := (List.range m).flatMap fun i => crow M i 20
theorem crow_succ (M : Nat → Bool) (i m : Nat) : crow M i (m + 1) = crow M i m ++ if M (i * 20 + m) then [((i : Int), (m : Int))] else [] := by
  unfold crow; rw [List.range_succ, List.filter_append, List.map_append]
  by_cases h : M (i * 20 + m) = true <;> simp [h]
theorem cgr_succ (M : Nat → Bool) (m : Nat) : cgr M (m + 1) = cgr M m ++ crow M m 20 := by
  unfold cgr; rw [List.range_succ, List.flatMap_append]; simp
theorem crow_len (M : Nat → Bool) (i m : Nat) : (crow M i m).length ≤ m := by
  unfold crow; rw [List.length_map]; exact Nat.le_trans (List.length_filter_le _ _) (by simp)
theorem cgr_len (M : Nat → Bool) (m : Nat) : (cgr M m).length ≤ m * 20 := by
  induction m with
  | zero => simp [cgr]
  | succ m ih => rw [cgr_succ, List.length_append, Nat.succ_mul]; have := crow_len M m 20; omega
set_option maxRecDepth 100000 in
set_option maxHeartbeats 4000000 in
theorem graph_any (vt : Value) (l : List Hop) (w : World) (ht : Hops w vt l) (hv' : HValid l) :
    Calls Try.prog 17 #[vt] w fun e w' => ∃ v, e = .returned (.tuple #[v, .int .i64 0]) ∧ w'.ownsRow w.heap.size 43 2 v (cgr (cfN l l.length) 20).length (pcells (cgr (cfN l l.length) 20)) ∧ Up w w' := by
  obtain ⟨i0, hi, hz0, hz1, hz2⟩ := info_parts Try.info48
  obtain ⟨hz, hs72⟩ := zero_of_info Try.zero72
  have HT := Lib.hid ht
  have HV := Lib.hid hv'
  obtain ⟨a, cap, rfl, h1, h2, _, h3⟩ := ht
  have HZ := Lib.hid hz
  have HS : Hid ((Try.prog.info? 72).map (·.size) = some (mcells (cfN l l.length)).toArray.size) := by unfold Hid; rw [hs72]; simp [mcells_len]
  have HA := Lib.hid (mcells_one (cfN l l.length))
  have HE : Hid ((mcells fun _ => false).toArray.size = (mcells (cfN l l.length)).toArray.size) := by simp [Hid, mcells_len]
  clear h3 hv' hz hs72
  generalize hM : cfN l l.length = M at *
  go_enter Try.func17, Try.ntmps17
  go_wp2_with (first | (go_at_call 41; refine (hcheck_any _ l _ HT.out HV.out).mono ?_; rintro e w1 ⟨rfl, hu1⟩) | (go_at_call 42; refine (conflicts_any _ l _ (HT.out.grow hopR_grows (by assumption)) HV.out).mono ?_; rintro e w2 ⟨rfl, hu2⟩; rw [hM]) | (with_reducible refine wl_alloc rfl 72 rfl _ HZ.out ?_) | (refine wl_store_new rfl 72 _ _ rfl _ (mcells M).toArray rfl rfl HS.out HE.out HA.out ?_))
  have hb0 := Blk.new w2 (mcells M).toArray 72
  have hum := (hu1.trans hu2).alloc (.cells (mcells M).toArray 72)
  have hw2 := (hu1.trans hu2).size
  clear hM
  go_loopw [6, 17] (fun v iv wr => ∃ i : Nat, i ≤ 20 ∧ iv = .int .i64 i ∧ wr.ownsRow w.heap.size 43 2 v (cgr M i).length (pcells (cgr M i)) ∧ Blk wr w2.heap.size (mcells M) 72 ∧ Up w wr) (fun _ iv _ => 20 - (intOf iv).toNat)
  case atStart => exact ⟨0, by omega, rfl, World.ownsRow_nil _ _ _ _, hb0, hum⟩
  case round =>
    clear hb0 hum
    obtain ⟨i, hin, rfl, hown, hb, hu⟩ := hrel
    by_cases hlt : i < 20
    · have hdl := cgr_len M i
      have HR : Hid (wr.rangeAt w2.heap.size (i * 20) (rcells M i)) := range_row hb hlt
      have HU : Hid (Try.prog.underlying 70 = some (.array 20 4)) := Try.under70
      have HS70 : Hid ((Try.prog.info? 70).map (·.size) = some (rcells M i).length) := by unfold Hid; rw [Try.size70]; simp [rcells]
      go_wp2_with (with_reducible refine wpList_load_mid rfl 70 _ rfl w2.heap.size (i * 20) rfl (rcells M i) _ HR.out HU.out rfl HS70.out ?_)
      clear HR
      obtain ⟨d4, hu4, hd4⟩ := Try.under4
      have H4 := Lib.hid hu4
      have HS4 := Lib.hid Try.size4
      clear hu4
      go_loopw [6, 23] (fun v kv wr => ∃ k : Nat, k ≤ 20 ∧ kv = .int .i64 k ∧ wr.ownsRow w.heap.size 43 2 v (cgr M i ++ crow M i k).length (pcells (cgr M i ++ crow M i k)) ∧ Blk wr w2.heap.size (mcells M) 72 ∧ Up w wr) (fun _ kv _ => 20 - (intOf kv).toNat)
      case atStart => exact ⟨0, by omega, rfl, by simpa [crow] using hown, hb, hu⟩
      case round =>
        clear hown hb hu
        obtain ⟨k, hk, rfl, hown, hb, hu⟩ := hrel
        by_cases hlk : k < 20
        · have RS := Lib.hid (crow_succ M i k)
          have hrl := crow_len M i k
          have hn : (cgr M i ++ crow M i k).length ≤ 440 := by rw [List.length_append]; omega
          have hx := rcells_at M i hlk
          have hlr : (rcells M i).length = 20 := by simp [rcells]
          obtain ⟨x, hxx⟩ : ∃ x, x = M (i * 20 + k) := ⟨_, rfl⟩
          rw [← hxx] at hx
          have X := Lib.hid hxx
          clear hxx
          cases x with
          | false =>
            go_wp2_with (with_reducible refine wl_index_one rfl 70 _ _ rfl (rcells M i) k _ 20 4 _ rfl rfl HU.out hlk H4.out hd4 HS4.out hx ?_)
            go_roundw
            case rel => exact ⟨k + 1, by omega, by go_num, by rw [RS.out, ← X.out]; simpa using hown, hb, hu⟩
            case measure => simp [intOf]; omega
          | true =>
            go_wp2_with (first | (with_reducible refine wl_index_one rfl 70 _ _ rfl (rcells M i) k _ 20 4 _ rfl rfl HU.out hlk H4.out hd4 HS4.out hx ?_) | (at_builtin; refine wpList_append_own _ rfl _ _ 40 rfl w.heap.size 43 i0 (.agg #[.int .i64 0, .int .i64 0]) 2 16 Try.underlying40 hi hz0 hz1 hz2 rfl (by decide) _ _ _ rfl (hown.alloc _) ⟨wr.heap.size, 0, none⟩ 1 1 [.int .i64 (i : Int), .int .i64 (k : Int)] rfl rfl ?c1 ?c2 ?c3 ?c4 ?c5 ?_))
            case c1 => exact cell_two_new' _ _ _ _
            case c2 => intro u hu; simp at hu; rcases hu with rfl | rfl <;> rfl
            case c3 => unfold maxLen; omega
            case c4 => omega
            case c5 => have := hu.size; simp; omega
            intro v' wl hown' hgrow _
            have hA : Up wr (wr.alloc (.cells #[.int .i64 (i : Int), .int .i64 (k : Int)] 43)) := (Up.refl _).alloc _
            have hE := (hA.toE 43).trans (UpE.of_grown hgrow (fun j hj => (own_ty (hown.alloc _) j hj).1))
            have hb2 := blk_upE hb (by decide) hE
            have hul := own_pair_up (hu.alloc (.cells #[.int .i64 (i : Int), .int .i64 (k : Int)] 43)) (hown.alloc _) hgrow
            clear hgrow hown hE hA hb
            go_wp2
            go_roundw
            case rel => exact ⟨k + 1, by omega, by go_num, by rw [RS.out, ← X.out]; simpa [pcells, Nat.add_assoc] using hown', hb2, hul⟩
            case measure => simp [intOf]; omega
        · obtain rfl : k = 20 := by omega
          have DS := Lib.hid (cgr_succ M i)
          go_wp2
          go_roundw
          case rel => exact ⟨i + 1, by omega, by go_num, by rw [DS.out]; exact hown, hb, hu⟩
          case measure => simp [intOf]; omega
    · obtain rfl : i = 20 := by omega
      go_wp2
      go_ret2
      exact ⟨_, rfl, hown, hu⟩
/-- A transaction's number in a row of numbers. -/
def TiR (w : World) (b o : Nat) (n : Int) : Prop := IntR w b o n ∧ 0 ≤ n ∧ n < 20
theorem tiR_grows : Grows TiR := fun _ _ _ _ _ h hu => ⟨At.grow h.1 hu, h.2⟩
abbrev Tis := Arr TiR 1
theorem tis_own {w : World} {base : Nat} {v : Value} {l : List Int} (h : w.ownsRow base 3 1 v l.length (ic l)) (hl : ∀ t ∈ l, 0 ≤ t ∧ t < 20) : Tis w v l :=
  own_arr h fun g hg hc i hi => by rw [Nat.mul_one]; exact ⟨hc i _ (by simp [hi]), hl _ (List.getElem_mem hi)⟩
def has (t : Int) (x : Hop) : Bool := (x.tx : Int) == t
theorem c59_any (x : Hop) (t : Int) (bt : Nat) (w : World) (ht : At w bt 0 (.int .i64 t)) :
    Calls Try.prog 64 #[hv x, .pointer (some ⟨bt, 0, none⟩)] w fun e w' => e = .returned (.bool (has t x)) ∧ Up w w' := by
  obtain ⟨hbt, ct⟩ := ht
  obtain ⟨tx, kind, key⟩ := x
  unfold hv has
  dsimp only
  go_enter Try.func64, Try.ntmps64
  go_wp2
  go_ret
  exact ⟨rfl, (Up.refl _).alloc _⟩
theorem if64_any (t : Int) (bt : Nat) (l : List Hop) (v : Value) (w : World) (h : Arr HopR 3 w v l) (hbt : At w bt 0 (.int .i64 t)) :
    Calls Try.prog 40 #[v, .func (.func 64) #[] #[.pointer (some ⟨bt, 0, none⟩)]] w fun e w' => e = .returned (.int .i64 (idx (fun x => has t x) l)) ∧ Up w w' := by
  obtain ⟨a, cap, rfl, h1, h2, _, h3⟩ := h
  have H3 := Lib.hid h3
  clear h3
  go_enter Try.func40, Try.ntmps40
  go_wp2
  go_loopw [8] (fun iv wr => ∃ k : Nat, k ≤ l.length ∧ iv = .int .i64 k ∧ (∀ j (h : j < l.length), j < k → (fun x => has t x) l[j] = false) ∧ Up w wr) (fun iv _ => l.length - (intOf iv).toNat)
  case atStart => exact ⟨0, by omega, rfl, fun j _ hj => by omega, Up.refl _⟩
  case round =>
    obtain ⟨k, hk, rfl, hbb, hu⟩ := hrel
    have HB := Lib.hid hbb
    clear hbb
    by_cases hlt : k < l.length
    · obtain ⟨b, off, rfl, hr⟩ := H3.out k hlt
      have HX : Hid (∀ x, x = l[k] → (∀ y, (fun x => has t x) x = y → (fun x => has t x) l[k] = y)) := fun x hx y hy => by rw [← hx]; exact hy
      obtain ⟨x, hx⟩ : ∃ x, x = l[k] := ⟨_, rfl⟩
      rw [← hx] at hr
      have HY := Lib.hid (HX.out x hx)
      clear hx HX
      obtain ⟨y, hy⟩ : ∃ y, y = has t x := ⟨_, rfl⟩
      have Y := Lib.hid hy.symm
      clear hy
      have hbt := hbt.grow hu
      obtain ⟨_, ⟨hbb, c0⟩, ⟨_, c1⟩, _, c2⟩ := hopR_grows _ _ _ _ _ hr hu
      obtain ⟨x1, x2, x3⟩ := x
      dsimp only at c0 c1 c2
      cases y with
      | true =>
        have E := Lib.hid (idx_hit (p := fun x => has t x) hlt (HY.out _ Y.out) HB.out)
        go_wp2_with (go_at_call 64; refine (c59_any ⟨x1, x2, x3⟩ t bt _ hbt).mono ?_; rintro e w2 ⟨rfl, hu2⟩; rw [Y.out])
        go_ret
        exact ⟨ret_int E.out.symm, Up.trans hu (by assumption)⟩
      | false =>
        go_wp2_with (go_at_call 64; refine (c59_any ⟨x1, x2, x3⟩ t bt _ hbt).mono ?_; rintro e w2 ⟨rfl, hu2⟩; rw [Y.out])
        go_roundw
        case rel => exact ⟨k + 1, by omega, by go_num, fun j hj hjk => by
          by_cases e : j = k
          · subst e; exact HY.out _ Y.out
          · exact HB.out j hj (by omega), Up.trans hu (by assumption)⟩
        case measure => simp [intOf]; omega
    · have E := Lib.hid (idx_miss (p := fun x => has t x) (l := l) fun j hj => HB.out j hj (by omega))
      go_wp2
      go_ret
      exact ⟨ret_int E.out.symm, hu⟩
theorem cf58_any (t : Int) (bt : Nat) (l : List Hop) (v : Value) (w : World) (h : Arr HopR 3 w v l) (hbt : At w bt 0 (.int .i64 t)) :
    Calls Try.prog 63 #[v, .func (.func 64) #[] #[.pointer (some ⟨bt, 0, none⟩)]] w fun e w' => e = .returned (.bool (l.any fun x => has t x)) ∧ Up w w' := by
  have E := Lib.hid (idx_any (fun x => has t x) l)
  go_enter Try.func63, Try.ntmps63
  go_wp2_with (go_at_call 40; refine (if64_any t bt l v _ h hbt).mono ?_; rintro e w1 ⟨rfl, hu1⟩)
  go_ret
  exact ⟨ret_bool E.out, by assumption⟩
def tids (l : List Hop) (m : Nat) : List Int := ((List.range m).filter fun (t : Nat) => l.any (has (t : Int))).map fun (t : Nat) => (t : Int)
theorem tids_succ (l : List Hop) (m : Nat) : tids l (m + 1) = tids l m ++ if l.any (has (m : Int)) then [(m : Int)] else [] := by
  unfold tids; rw [List.range_succ, List.filter_append, List.map_append]
  by_cases h : l.any (has (m : Int)) = true <;> simp [h]
theorem tids_len (l : List Hop) (m : Nat) : (tids l m).length ≤ m := by
  unfold tids; rw [List.length_map]; exact Nat.le_trans (List.length_filter_le _ _) (by simp)
theorem tids_range (l : List Hop) : ∀ t ∈ tids l 20, 0 ≤ t ∧ t < 20 := fun t ht => by
  unfold tids at ht
  obtain ⟨n, hn, rfl⟩ := List.mem_map.1 ht
  have := List.mem_range.1 (List.mem_filter.1 hn).1
  omega
set_option maxRecDepth 100000 in
set_option maxHeartbeats 4000000 in
theorem trans_any (vt : Value) (l : List Hop) (w : World) (ht : Hops w vt l) :
    Calls Try.prog 43 #[vt] w fun e w' => ∃ v, e = .returned v ∧ w'.ownsRow w.heap.size 3 1 v (tids l 20).length (ic (tids l 20)) ∧ Up w w' := by
  obtain ⟨i0, hi, hz0, hz1, hz2⟩ := info_parts Try.info3
  have HT := Lib.hid ht
  obtain ⟨a, cap, rfl, h1, h2, _, h3⟩ := ht
  clear h3
  go_enter Try.func43, Try.ntmps43
  go_wp2
  go_loopw [3, 5] (fun v kv wr => ∃ k : Nat, k ≤ 20 ∧ kv = .int .i64 k ∧ wr.ownsRow w.heap.size 3 1 v (tids l k).length (ic (tids l k)) ∧ Up w wr) (fun _ kv _ => 20 - (intOf kv).toNat)
  case atStart => exact ⟨0, by omega, rfl, World.ownsRow_nil _ _ _ _, Up.refl _⟩
  case round =>
    obtain ⟨k, hk, rfl, hown, hu⟩ := hrel
    by_cases hlt : k < 20
    · have TS := Lib.hid (tids_succ l k)
      have hil := tids_len l k
      obtain ⟨x, hx⟩ : ∃ x, x = l.any (has (k : Int)) := ⟨_, rfl⟩
      have X := Lib.hid hx
      clear hx
      have HT' : Hid (Hops (wr.alloc (.cells #[.int .i64 (k : Int)] 3)) (.slice a l.length cap) l) := HT.out.grow hopR_grows (hu.alloc _)
      have HB : Hid (At (wr.alloc (.cells #[.int .i64 (k : Int)] 3)) wr.heap.size 0 (.int .i64 k)) := At.new _ _ _ _ _ rfl
      cases x with
      | false =>
        go_wp2_with (go_at_call 63; refine (cf58_any k wr.heap.size l _ _ HT'.out HB.out).mono ?_; rintro e w1 ⟨he, hu1⟩; rw [← X.out] at he; obtain rfl := he)
        have hu2 := Up.trans ((Up.refl wr).alloc (.cells #[.int .i64 (k : Int)] 3)) hu1
        go_roundw
        case rel => exact ⟨k + 1, by omega, by go_num, by rw [TS.out, ← X.out]; simpa using own_up hown hu2, hu.trans hu2⟩
        case measure => simp [intOf]; omega
      | true =>
        go_wp2_with fail
        refine (cf58_any k wr.heap.size l _ _ HT'.out HB.out).mono ?_
        rintro e w1 ⟨he, hu1⟩
        rw [← X.out] at he
        obtain rfl := he
        have hu2 := Up.trans ((Up.refl wr).alloc (.cells #[.int .i64 (k : Int)] 3)) hu1
        have hown2 := own_up hown hu2
        have ⟨g0, g1⟩ := HB.out.grow hu1
        have hu3 := hu.trans hu2
        clear hown
        go_wp2_with (at_builtin; refine wpList_append_own _ rfl _ _ 23 rfl w.heap.size 3 i0 (.int .i64 0) 1 8 Try.underlying23 hi hz0 hz1 hz2 rfl (by decide) _ _ _ rfl (hown2.alloc _) ⟨w1.heap.size, 0, none⟩ 1 1 [.int .i64 (k : Int)] rfl rfl ?c1 ?c2 ?c3 ?c4 ?c5 ?_)
        first | (case c1 => exact cell_one_new2 _ _ _) | skip
        case c2 => first | rfl | (intro u hu; simp at hu; subst hu; rfl)
        case c3 => unfold maxLen; omega
        case c4 => omega
        case c5 => have := hu3.size; simp; omega
        intro v' w2 hown' hgrow _
        have hu4 : Up w w2 := Below.grown (hu3.alloc _) hgrow (by have := hu3.size; simp; omega) (fun j hj => (own_ty (hown2.alloc (.cells #[.int .i64 (k : Int)] 3)) j hj).2)
        clear hgrow hown2
        go_wp2
        go_roundw
        case rel => exact ⟨k + 1, by omega, by go_num, by rw [TS.out, ← X.out]; simpa using hown', hu4⟩
        case measure => simp [intOf]; omega
    · obtain rfl : k = 20 := by omega
      go_wp2
      go_ret
      exact ⟨_, rfl, hown, hu⟩
/-! ### SerialOrder's searches -/
def mt (M : Nat → Bool) (t s : Int) : Bool := M (s.toNat * 20 + t.toNat)
theorem c46_any (s t : Int) (bm bt : Nat) (M : Nat → Bool) (w : World) (hs : 0 ≤ s ∧ s < 20) (ht : 0 ≤ t ∧ t < 20) (hm : Blk w bm (mcells M) 72) (hbt : At w bt 0 (.int .i64 t)) :
    Calls Try.prog 47 #[.int .i64 s, .pointer (some ⟨bm, 0, none⟩), .pointer (some ⟨bt, 0, none⟩)] w fun e w' => e = .returned (.bool (mt M t s)) ∧ Up w w' := by
  obtain ⟨hs0, hs1⟩ := hs
  obtain ⟨ht0, ht1⟩ := ht
  have hc := hm.at (mcells_at M (c := s.toNat * 20 + t.toNat) (by omega))
  obtain ⟨s', rfl⟩ := Int.eq_ofNat_of_zero_le hs0
  obtain ⟨t', rfl⟩ := Int.eq_ofNat_of_zero_le ht0
  obtain ⟨hb, hc⟩ := hc
  obtain ⟨hbt, ct⟩ := hbt
  simp only [Int.toNat_natCast] at hc
  have E : Hid (mt M (t' : Int) (s' : Int) = M (s' * 20 + t')) := by simp [Hid, mt]
  clear hm
  go_enter Try.func47, Try.ntmps47
  go_wp2
  go_quiet (fail)
  go_wp2
  go_ret
  exact ⟨ret_bool E.out.symm, ((Up.refl _).drewN _)⟩
theorem if46_any (t : Int) (ht : 0 ≤ t ∧ t < 20) (bm bt : Nat) (M : Nat → Bool) (l : List Int) (v : Value) (w : World) (h : Arr TiR 1 w v l) (hm : Blk w bm (mcells M) 72) (hbt : At w bt 0 (.int .i64 t)) :
    Calls Try.prog 44 #[v, .func (.func 47) #[] #[.pointer (some ⟨bm, 0, none⟩), .pointer (some ⟨bt, 0, none⟩)]] w fun e w' => e = .returned (.int .i64 (idx (fun x => mt M t x) l)) ∧ Up w w' := by
  obtain ⟨a, cap, rfl, h1, h2, _, h3⟩ := h
  have H3 := Lib.hid h3
  clear h3
  go_enter Try.func44, Try.ntmps44
  go_wp2
  go_loopw [8] (fun iv wr => ∃ k : Nat, k ≤ l.length ∧ iv = .int .i64 k ∧ (∀ j (h : j < l.length), j < k → (fun x => mt M t x) l[j] = false) ∧ Up w wr) (fun iv _ => l.length - (intOf iv).toNat)
  case atStart => exact ⟨0, by omega, rfl, fun j _ hj => by omega, Up.refl _⟩
  case round =>
    obtain ⟨k, hk, rfl, hbb, hu⟩ := hrel
    have HB := Lib.hid hbb
    clear hbb
    by_cases hlt : k < l.length
    · obtain ⟨b, off, rfl, hr⟩ := H3.out k hlt
      have HX : Hid (∀ x, x = l[k] → (∀ y, (fun x => mt M t x) x = y → (fun x => mt M t x) l[k] = y)) := fun x hx y hy => by rw [← hx]; exact hy
      obtain ⟨x, hx⟩ : ∃ x, x = l[k] := ⟨_, rfl⟩
      rw [← hx] at hr
      have HY := Lib.hid (HX.out x hx)
      clear hx HX
      obtain ⟨y, hy⟩ : ∃ y, y = mt M t x := ⟨_, rfl⟩
      have Y := Lib.hid hy.symm
      clear hy
      have hm := hm.up hu
      have hbt := hbt.grow hu
      obtain ⟨⟨hbb, c0⟩, hx0⟩ := tiR_grows _ _ _ _ _ hr hu
      rw [Nat.mul_one] at c0
      cases y with
      | true =>
        have E := Lib.hid (idx_hit (p := fun x => mt M t x) hlt (HY.out _ Y.out) HB.out)
        go_wp2_with (go_at_call 47; refine (c46_any x t bm bt M _ hx0 ht hm hbt).mono ?_; rintro e w2 ⟨rfl, hu2⟩; rw [Y.out])
        go_ret
        exact ⟨ret_int E.out.symm, Up.trans hu (by assumption)⟩
      | false =>
        go_wp2_with (go_at_call 47; refine (c46_any x t bm bt M _ hx0 ht hm hbt).mono ?_; rintro e w2 ⟨rfl, hu2⟩; rw [Y.out])
        go_roundw
        case rel => exact ⟨k + 1, by omega, by go_num, fun j hj hjk => by
          by_cases e : j = k
          · subst e; exact HY.out _ Y.out
          · exact HB.out j hj (by omega), Up.trans hu (by assumption)⟩
        case measure => simp [intOf]; omega
    · have E := Lib.hid (idx_miss (p := fun x => mt M t x) (l := l) fun j hj => HB.out j hj (by omega))
      go_wp2
      go_ret
      exact ⟨ret_int E.out.symm, hu⟩
theorem cf46_any (t : Int) (ht : 0 ≤ t ∧ t < 20) (bm bt : Nat) (M : Nat → Bool) (l : List Int) (v : Value) (w : World) (h : Arr TiR 1 w v l) (hm : Blk w bm (mcells M) 72) (hbt : At w bt 0 (.int .i64 t)) :
    Calls Try.prog 46 #[v, .func (.func 47) #[] #[.pointer (some ⟨bm, 0, none⟩), .pointer (some ⟨bt, 0, none⟩)]] w fun e w' => e = .returned (.bool (l.any fun x => mt M t x)) ∧ Up w w' := by
  have E := Lib.hid (idx_any (fun x => mt M t x) l)
  go_enter Try.func46, Try.ntmps46
  go_wp2_with (go_at_call 44; refine (if46_any t ht bm bt M l v _ h hm hbt).mono ?_; rintro e w1 ⟨rfl, hu1⟩)
  go_ret
  exact ⟨ret_bool E.out, by assumption⟩
def fm (M : Nat → Bool) (rem : List Int) (t : Int) : Bool := !(rem.any fun s => mt M t s)
theorem c44_any (t : Int) (ht : 0 ≤ t ∧ t < 20) (br bm : Nat) (vr : Value) (rem : List Int) (M : Nat → Bool) (w : World) (hr : At w br 0 vr) (hvr : Tis w vr rem) (hm : Blk w bm (mcells M) 72) :
    Calls Try.prog 45 #[.int .i64 t, .pointer (some ⟨br, 0, none⟩), .pointer (some ⟨bm, 0, none⟩)] w fun e w' => e = .returned (.bool (fm M rem t)) ∧ Up w w' := by
  have U := (Up.refl w).alloc (.cells #[.int .i64 t] 3)
  have HV := Lib.hid (hvr.grow tiR_grows U)
  have HM := Lib.hid (hm.up U)
  have HT := Lib.hid ht
  obtain ⟨a, cap, rfl, _, _⟩ := hvr
  obtain ⟨hbr, cr⟩ := hr
  clear hm ht
  go_enter Try.func45, Try.ntmps45
  go_wp2_with (go_at_call 46; refine (cf46_any t HT.out bm w.heap.size M rem _ _ HV.out HM.out (At.new _ _ _ _ _ rfl)).mono ?_; rintro e w1 ⟨rfl, hu1⟩)
  go_ret
  exact ⟨rfl, Up.trans U (by assumption)⟩
theorem if44_any (br bm : Nat) (vr : Value) (rem : List Int) (M : Nat → Bool) (l : List Int) (v : Value) (w : World) (h : Arr TiR 1 w v l) (hbr : At w br 0 vr) (hvr : Tis w vr rem) (hm : Blk w bm (mcells M) 72) :
    Calls Try.prog 44 #[v, .func (.func 45) #[] #[.pointer (some ⟨br, 0, none⟩), .pointer (some ⟨bm, 0, none⟩)]] w fun e w' => e = .returned (.int .i64 (idx (fun x => fm M rem x) l)) ∧ Up w w' := by
  obtain ⟨a, cap, rfl, h1, h2, _, h3⟩ := h
  have H3 := Lib.hid h3
  clear h3
  go_enter Try.func44, Try.ntmps44
  go_wp2
  go_loopw [8] (fun iv wr => ∃ k : Nat, k ≤ l.length ∧ iv = .int .i64 k ∧ (∀ j (h : j < l.length), j < k → (fun x => fm M rem x) l[j] = false) ∧ Up w wr) (fun iv _ => l.length - (intOf iv).toNat)
  case atStart => exact ⟨0, by omega, rfl, fun j _ hj => by omega, Up.refl _⟩
  case round =>
    obtain ⟨k, hk, rfl, hbb, hu⟩ := hrel
    have HB := Lib.hid hbb
    clear hbb
    by_cases hlt : k < l.length
    · obtain ⟨b, off, rfl, hr⟩ := H3.out k hlt
      have HX : Hid (∀ x, x = l[k] → (∀ y, (fun x => fm M rem x) x = y → (fun x => fm M rem x) l[k] = y)) := fun x hx y hy => by rw [← hx]; exact hy
      obtain ⟨x, hx⟩ : ∃ x, x = l[k] := ⟨_, rfl⟩
      rw [← hx] at hr
      have HY := Lib.hid (HX.out x hx)
      clear hx HX
      obtain ⟨y, hy⟩ : ∃ y, y = fm M rem x := ⟨_, rfl⟩
      have Y := Lib.hid hy.symm
      clear hy
      have hbr := hbr.grow hu
      have hvr := hvr.grow tiR_grows hu
      have hm := hm.up hu
      obtain ⟨⟨hbb, c0⟩, hx0⟩ := tiR_grows _ _ _ _ _ hr hu
      rw [Nat.mul_one] at c0
      cases y with
      | true =>
        have E := Lib.hid (idx_hit (p := fun x => fm M rem x) hlt (HY.out _ Y.out) HB.out)
        go_wp2_with (go_at_call 45; refine (c44_any x hx0 br bm vr rem M _ hbr hvr hm).mono ?_; rintro e w2 ⟨rfl, hu2⟩; rw [Y.out])
        go_ret
        exact ⟨ret_int E.out.symm, Up.trans hu (by assumption)⟩
      | false =>
        go_wp2_with (go_at_call 45; refine (c44_any x hx0 br bm vr rem M _ hbr hvr hm).mono ?_; rintro e w2 ⟨rfl, hu2⟩; rw [Y.out])
        go_roundw
        case rel => exact ⟨k + 1, by omega, by go_num, fun j hj hjk => by
          by_cases e : j = k
          · subst e; exact HY.out _ Y.out
          · exact HB.out j hj (by omega), Up.trans hu (by assumption)⟩
        case measure => simp [intOf]; omega
    · have E := Lib.hid (idx_miss (p := fun x => fm M rem x) (l := l) fun j hj => HB.out j hj (by omega))
      go_wp2
      go_ret
      exact ⟨ret_int E.out.symm, hu⟩
/-- slices.Delete of one element, in a row of one's own. -/
theorem delR (g cap i base : Nat) (l : List Int) (w : World) (h : w.ownsRow base 3 1 (.slice (some ⟨g, 0, none⟩) l.length cap) l.length (ic l)) (hi : i < l.length) (hl : l.length ≤ 1000000) :
    Calls Try.prog 48 #[.slice (some ⟨g, 0, none⟩) l.length cap, .int .i64 i, .int .i64 ((i : Int) + 1)] w fun e w' => ∃ c3, e = .returned (.slice (some ⟨g, 0, none⟩) (l.length - 1) c3) ∧
      w'.ownsRow base 3 1 (.slice (some ⟨g, 0, none⟩) (l.length - 1) c3) (l.eraseIdx i).length (ic (l.eraseIdx i)) ∧ w.grownBy w' (some g) := by
  refine (delI_any (.slice (some ⟨g, 0, none⟩) l.length cap) l.length i (ic l) w (own_base' h fun _ _ => Nat.zero_le _) hi hl (fun u hu => by obtain ⟨x, _, rfl⟩ := List.mem_map.1 hu; rfl)).mono ?_
  rintro e w' ⟨v', rfl, h1, h2, h3⟩
  obtain ⟨a, c3, rfl, _, _, h0⟩ := own_form h1
  have ha : a = some ⟨g, 0, none⟩ := by
    have hb : (Value.slice a (l.length - 1) c3).ownBlock = some g := h3
    rcases h1.2 with ⟨e, _⟩ | ⟨g', cap', cur, e, _⟩
    · simp only [Value.slice.injEq] at e
      rw [e.1] at hb; cases hb
    · simp only [Value.slice.injEq] at e
      rw [e.1] at hb ⊢
      obtain rfl : g' = g := by simpa [Value.ownBlock] using hb
      rfl
  subst ha
  refine ⟨c3, rfl, ?_, h2⟩
  have e1 : (ic l).take (i * 1) ++ (ic l).drop ((i + 1) * 1) = ic (l.eraseIdx i) := by
    rw [Nat.mul_one, Nat.mul_one, List.eraseIdx_eq_take_drop_succ]
    unfold ic
    rw [List.map_append, List.map_take, List.map_drop]
  rw [e1] at h1
  rw [List.length_eraseIdx_of_lt hi]
  exact own_base' h1 fun k hk => by
    obtain rfl : g = k := by simpa [Value.ownBlock] using hk
    exact ((own_ty h) g rfl).2
/-- What SerialOrder answers. -/
def OrdE (w w' : World) (r : Option (List Int)) (e : Ending) : Prop :=
  (∀ res, r = some res → ∃ v, e = .returned (.tuple #[v, .int .i64 0]) ∧ w'.ownsRow w.heap.size 3 1 v res.length (ic res)) ∧ (r = none → e = .returned (.tuple #[.slice none 0 0, .int .i64 14]))
def orderOf (l : List Hop) : Option (List Int) := topo (fm (cfN l l.length)) (tids l 20).length (tids l 20) []
structure Left2 (w0 wr : World) (bm br base : Nat) (vo : Value) (M : Nat → Bool) (rem ord : List Int) : Prop where
  up : Up w0 wr
  m : Blk wr bm (mcells M) 72
  r : ∃ vr, Blk wr br [vr] 23 ∧ wr.ownsRow w0.heap.size 3 1 vr rem.length (ic rem) ∧ ∀ k, vr.ownBlock = some k → k < base
  o : wr.ownsRow base 3 1 vo ord.length (ic ord)
  base : w0.heap.size ≤ base ∧ base ≤ wr.heap.size
  br : w0.heap.size ≤ br
  rg : ∀ t ∈ rem, 0 ≤ t ∧ t < 20
set_option maxRecDepth 100000 in
set_option maxHeartbeats 4000000 in
theorem sorder_any (vt : Value) (l : List Hop) (w : World) (ht : Hops w vt l) (hv' : HValid l) :
    Calls Try.prog 19 #[vt] w fun e w' => OrdE w w' (orderOf l) e ∧ Up w w' := by
  obtain ⟨i0, hi, hz0, hz1, hz2⟩ := info_parts Try.info3
  obtain ⟨hz, hs72⟩ := zero_of_info Try.zero72
  obtain ⟨R, hR⟩ : ∃ R, R = orderOf l := ⟨_, rfl⟩
  rw [← hR]
  have HR : Hid (topo (fm (cfN l l.length)) (tids l 20).length (tids l 20) [] = R) := hR.symm
  clear hR
  have HT := Lib.hid ht
  have HV := Lib.hid hv'
  obtain ⟨a, cap, rfl, h1, h2, _, h3⟩ := ht
  have HZ := Lib.hid hz
  have HS : Hid ((Try.prog.info? 72).map (·.size) = some (mcells (cfN l l.length)).toArray.size) := by unfold Hid; rw [hs72]; simp [mcells_len]
  have HA := Lib.hid (mcells_one (cfN l l.length))
  have HE : Hid ((mcells fun _ => false).toArray.size = (mcells (cfN l l.length)).toArray.size) := by simp [Hid, mcells_len]
  have HG := Lib.hid (tids_range l)
  have hl20 := tids_len l 20
  clear h3 hv' hz hs72
  generalize hM : cfN l l.length = M at *
  have HT2 : Hid (∀ w', Up w w' → Hops w' (.slice a l.length cap) l) := fun w' h => HT.out.grow hopR_grows h
  go_enter Try.func19, Try.ntmps19
  go_wp2_with (first | (go_at_call 41; refine (hcheck_any _ l _ HT.out HV.out).mono ?_; rintro e w1 ⟨rfl, hu1⟩) | (go_at_call 42; refine (conflicts_any _ l _ (HT2.out _ (by assumption)) HV.out).mono ?_; rintro e w2 ⟨rfl, hu2⟩; rw [hM]) | (go_at_call 43; refine (trans_any _ l _ (HT2.out _ (Up.alloc (Up.trans (by assumption) (by assumption)) _))).mono ?_; rintro e w3 ⟨vt, rfl, hown, hu3⟩; obtain ⟨ae, ce, rfl⟩ := own_len hown) | (with_reducible refine wl_alloc rfl 72 rfl _ HZ.out ?_) | (refine wl_store_new rfl 72 _ _ rfl _ (mcells M).toArray rfl rfl HS.out HE.out HA.out ?_))
  have hw2 := (hu1.trans hu2).size
  have hm2 := Blk.new w2 (mcells M).toArray 72
  have hum2 : Up w (w2.alloc (.cells (mcells M).toArray 72)) := (hu1.trans hu2).alloc _
  have hw3 := hu3.size
  rw [World.size_alloc] at hw3
  have hown' := own_base (base' := w.heap.size) hown (by rw [World.size_alloc]; omega)
  obtain ⟨wo, hwo⟩ : ∃ wo : World, wo = w3.alloc (.cells #[.slice ae (tids l 20).length ce] 23) := ⟨_, rfl⟩
  have hmo : Blk wo w2.heap.size (mcells M) 72 := hwo ▸ (hm2.up hu3).up ((Up.refl _).alloc _)
  have hro : Blk wo w3.heap.size [.slice ae (tids l 20).length ce] 23 := hwo ▸ Blk.new w3 _ _
  have howno : wo.ownsRow w.heap.size 3 1 (.slice ae (tids l 20).length ce) (tids l 20).length (ic (tids l 20)) := hwo ▸ own_up hown' ((Up.refl _).alloc _)
  have huo : Up w wo := hwo ▸ (hum2.trans hu3).alloc _
  rw [← hwo]
  clear hwo hown hown' hum2 hm2 hM
  have hbase := hro.lt
  go_loopw [7] (fun vo wr => ∃ (rem ord : List Int), topo (fm M) rem.length rem ord = R ∧ rem.length ≤ 40 ∧ ord.length + rem.length ≤ 40 ∧ Left2 w wr w2.heap.size w3.heap.size wo.heap.size vo M rem ord) (fun _ wr => lenAt wr w3.heap.size)
  case atStart => exact ⟨tids l 20, [], HR.out, by omega, by simp; omega, ⟨huo, hmo, ⟨_, hro, howno, fun j hj => (own_ty howno j hj).1.lt⟩, World.ownsRow_nil _ _ _ _, ⟨huo.size, Nat.le_refl _⟩, by omega, HG.out⟩⟩
  case round =>
    clear huo hmo hro howno
    obtain ⟨rem, ord, ht, hr40, ho40, HLeft⟩ := hrel
    obtain ⟨hu, hme, ⟨vr, hbr, hown, hgb⟩, hord, ⟨hba, hbb⟩, hbrw, hrg⟩ := HLeft
    obtain ⟨ar, cr, rfl⟩ := own_len hown
    have TT := Lib.hid ht
    have RG := Lib.hid hrg
    clear ht hrg
    have cbr := hbr.cell 0
    rw [show ([Value.slice ar rem.length cr])[0]? = some (.slice ar rem.length cr) from rfl] at cbr
    have hlen0 : Hid (lenAt wr w3.heap.size = rem.length) := by unfold Hid lenAt; rw [cbr]
    by_cases hn : rem.length = 0
    · have h0 : rem = [] := List.length_eq_zero_iff.1 hn
      subst h0
      have ho : Hid (R = some ord) := by have := TT.out; simpa [Hid, topo] using this.symm
      simp only [List.length_nil] at cbr
      go_wp2
      go_ret2
      refine ⟨⟨fun res hres => ?_, fun hnone => ?_⟩, hu⟩
      · rw [ho.out] at hres
        cases hres
        exact ⟨_, rfl, own_base hord hba⟩
      · rw [ho.out] at hnone; cases hnone
    · obtain ⟨gr', cr', hs, hgr', htyr⟩ := own_shape hown (by omega)
      simp only [Value.slice.injEq, true_and] at hs
      obtain ⟨rfl, rfl⟩ := hs
      have hgrb := hgb gr' rfl
      obtain ⟨n', hn'⟩ : ∃ n', rem.length = n' + 1 := ⟨rem.length - 1, by omega⟩
      have hpos : 0 < rem.length := by omega
      have TS : Hid (∀ i, rem.findIdx? (fm M rem) = some i → topo (fm M) (rem.eraseIdx i).length (rem.eraseIdx i) (ord ++ [rem.getD i 0]) = R) := fun i hi => by
        have h := TT.out
        rw [hn', topo, hi] at h
        have hil := (List.findIdx?_eq_some_iff_getElem.1 hi).1
        rw [List.length_eraseIdx_of_lt hil, hn']
        exact h
      have TN : Hid (rem.findIdx? (fm M rem) = none → R = none) := fun hi => by
        have h := TT.out
        rw [hn', topo, hi] at h
        exact h.symm
      clear hn hn'
      go_wp2_with fail
      refine (if44_any w3.heap.size w2.heap.size _ rem M rem _ _ (tis_own hown RG.out) (hbr.at rfl) (tis_own hown RG.out) hme).mono ?_
      rintro e wA ⟨rfl, huA⟩
      rcases idx_cases (fun x => fm M rem x) rem with ⟨hnone, hidx⟩ | ⟨i, hsome, hidx, hil⟩
      · rw [hidx]
        have TN2 := Lib.hid (TN.out hnone)
        have hupA := Up.trans hu huA
        clear hnone hidx
        go_wp2
        go_ret2
        refine ⟨⟨fun res hres => ?_, fun _ => rfl⟩, hupA⟩
        rw [TN2.out] at hres; cases hres
      · rw [hidx]
        have TS2 := Lib.hid (TS.out i hsome)
        clear hidx hsome
        have hownA := own_up hown huA
        have hordA := own_up hord huA
        have hbrA := hbr.up huA
        have hmA := hme.up huA
        have hupA := Up.trans hu huA
        have cA := hbrA.cell 0
        rw [show ([Value.slice (some ⟨gr', 0, none⟩) rem.length cr])[0]? = some (.slice (some ⟨gr', 0, none⟩) rem.length cr) from rfl] at cA
        have cR := hownA.cellAt i (by omega)
        obtain ⟨y, hy⟩ : ∃ y, y = rem.getD i 0 := ⟨_, rfl⟩
        rw [show (ic rem)[i]? = some (.int .i64 y) by rw [hy]; simp [List.getD, hil]] at cR
        have HY := Lib.hid hy
        obtain ⟨ao, co, rfl⟩ := own_len hord
        clear hy hown hord hbr hme cbr
        go_wp2_with (at_builtin; refine wpList_append_own _ rfl _ _ 23 rfl wo.heap.size 3 i0 (.int .i64 0) 1 8 Try.underlying23 hi hz0 hz1 hz2 rfl (by decide) _ _ _ rfl (hordA.alloc _) ⟨wA.heap.size, 0, none⟩ 1 1 [.int .i64 y] rfl rfl ?d1 ?d2 ?d3 ?d4 ?d5 ?_)
        first | (case d1 => exact cell_one_new2 _ _ _) | skip
        case d2 => first | rfl | (intro u hu; simp at hu; subst hu; rfl)
        case d3 => unfold maxLen; omega
        case d4 => omega
        case d5 => have := huA.size; simp; omega
        intro v' w2' hord' hgrow _
        have hA : Up wA (wA.alloc (.cells #[.int .i64 y] 3)) := (Up.refl _).alloc _
        have hty := fun j hj => own_ty (hordA.alloc (.cells #[.int .i64 y] 3)) j hj
        have hsA := huA.size
        have hE := (hA.toE 3).trans (UpE.of_grown hgrow (fun j hj => (hty j hj).1))
        have hbr2 := blk_upE hbrA (by decide) hE
        have hm2 := blk_upE hmA (by decide) hE
        have hown2 := own_grown (own_up hownA hA) hgrow (fun j hj e => by
          have hb := (hty j hj).2
          simp only [Value.ownBlock, Option.some.injEq] at e
          omega)
        have hu2 : Up w w2' := Below.grown (hupA.alloc _) hgrow (by have := hupA.size; simp; omega) (fun j hj => Nat.le_trans hba (hty j hj).2)
        have hsz2 : wo.heap.size ≤ w2'.heap.size := by have := hgrow.size; simp at this; omega
        have cbr2 := hbr2.cell 0
        rw [show ([Value.slice (some ⟨gr', 0, none⟩) rem.length cr])[0]? = some (.slice (some ⟨gr', 0, none⟩) rem.length cr) from rfl] at cbr2
        obtain ⟨a2, c2, rfl⟩ := own_len hord'
        clear hA hty hE hgrow hordA hownA hbrA hmA cA cR
        go_wp2_with fail
        refine (delR gr' cr i w.heap.size rem w2' hown2 hil (by omega)).mono ?_
        rintro e w3' ⟨c3, rfl, hown3, hg3⟩
        obtain ⟨gq, cq, hsq, _, hty3⟩ := own_shape hown2 hpos
        simp only [Value.slice.injEq, Option.some.injEq, Addr.mk.injEq, and_true, true_and] at hsq
        obtain ⟨rfl, rfl⟩ := hsq
        have hE3 : UpE 3 w2' w3' := UpE.of_grown hg3 (fun j hj => by cases hj; exact hty3)
        have hbr3 := blk_upE hbr2 (by decide) hE3
        have hm3 := blk_upE hm2 (by decide) hE3
        have hord3 := own_grown hord' hg3 (fun j hj e => by
          cases hj
          have := (own_ty hord' gr' e).2
          omega)
        have hu3 : Up w w3' := Below.grown hu2 hg3 hu2.size (fun j hj => by cases hj; exact hgr')
        have cbr3 := hbr3.cell 0
        rw [show ([Value.slice (some ⟨gr', 0, none⟩) rem.length cr])[0]? = some (.slice (some ⟨gr', 0, none⟩) rem.length cr) from rfl] at cbr3
        have fbr3 := hbr3.free 0
        have hbr4 := hbr3.set 0 (.slice (some ⟨gr', 0, none⟩) (rem.length - 1) c3)
        have hE4 := upE_setCell w3' w3.heap.size 0 none (.slice (some ⟨gr', 0, none⟩) (rem.length - 1) c3) (blk_ty hbr3)
        have hown4 := own_upE hown3 (by decide) hE4
        have hord4 := own_upE hord3 (by decide) hE4
        have hm4 := blk_upE hm3 (by decide) hE4
        have hu4 := hu3.set (b := w3.heap.size) hbrw 0 none (.slice (some ⟨gr', 0, none⟩) (rem.length - 1) c3)
        have hsz3 := hg3.size
        have hel : (rem.eraseIdx i).length = rem.length - 1 := List.length_eraseIdx_of_lt hil
        have HEL := Lib.hid hel
        have RG2 : Hid (∀ t ∈ rem.eraseIdx i, 0 ≤ t ∧ t < 20) := fun t ht => RG.out t (List.eraseIdx_subset ht)
        clear hel hE3 hE4 hty3 hg3 hown2 hown3 hord' hord3 hbr2 hbr3 hm2 hm3 cbr2
        go_wp2
        go_roundw
        case rel =>
          refine ⟨rem.eraseIdx i, ord ++ [rem.getD i 0], TS2.out, by rw [HEL.out]; omega, by rw [HEL.out]; simp; omega, ⟨hu4, hm4, ⟨_, hbr4, hown4, fun j hj => by cases hj; exact hgrb⟩, ?_, ⟨hba, by simp; omega⟩, hbrw, RG2.out⟩⟩
          rw [← HY.out]
          simpa using hord4
        case measure =>
          rw [hlen0.out]
          have := hbr4.cell 0
          unfold lenAt
          rw [this]
          show rem.length - 1 < rem.length
          omega
end Go.Proofs.Ytbimkciejfbodaa.In
