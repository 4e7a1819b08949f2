/- Records in memory; rows and lists of records, compared. -/
import Derived.Test.YtdaehidbeleblaaRwe
import Derived.Test.YtdaehidbeleblaaRwc
import Derived.Test.YtdaehidbeleblaaRwd
namespace Go.Proofs.Ytdaehidbeleblaa.Mv
open Go Go.RowKit Hp So
set_option linter.unusedVariables false

/-- Records as Scan hands them out. -/
structure RM where
  key : ByteArray
  rv : Value
  row : List Val
def rmC1 (r : RM) : List Value := [.string r.key, r.rv]
def rmC (l : List RM) : List Value := l.flatMap rmC1
theorem rmC_len (l : List RM) : (rmC l).length = l.length * 2 := fm_len (k := 2) (fun _ => rfl) l
def erR (r : RM) : ByteArray × List Val := (r.key, r.row)
/-- A slice of records with rows of their own, all from block B on. -/
def RecsR (w : World) (B : Nat) (v : Value) (l : List (ByteArray × List Val)) : Prop :=
  ∃ rs : List RM, rs.map erR = l ∧ w.ownsRow B 40 2 v rs.length (rmC rs) ∧ (∀ r ∈ rs, w.ownsRow B 34 3 r.rv r.row.length (rowC r.row)) ∧ rs.Pairwise fun a b => ∀ k, a.rv.ownBlock = some k → b.rv.ownBlock ≠ some k
theorem RecsR.chg {S : Nat → Prop} {w w' : World} {B : Nat} {v : Value} {l : List (ByteArray × List Val)} (h : RecsR w B v l) (hc : Chg S w w') (hS : ∀ k, B ≤ k → ¬ S k) : RecsR w' B v l := by
  obtain ⟨rs, h1, h2, h3, h4⟩ := h
  exact ⟨rs, h1, own_chg h2 hc fun k hk => hS k ((own_ty h2) k hk).2, fun r hr => own_chg (h3 r hr) hc fun k hk => hS k ((own_ty (h3 r hr)) k hk).2, h4⟩
theorem RecsR.up {w w' : World} {B : Nat} {v : Value} {l : List (ByteArray × List Val)} (h : RecsR w B v l) (hu : Up w w') : RecsR w' B v l := h.chg (Below.chg (fun _ => False) hu) fun _ _ e => e
theorem RecsR.nil (w : World) (B : Nat) : RecsR w B (.slice none 0 0) [] := ⟨[], rfl, World.ownsRow_nil _ _ _ _, (fun r hr => by cases hr), List.Pairwise.nil⟩
/-- One record more. -/
theorem RecsR.snoc {w w1 w2 W : World} {B : Nat} {v v' rv : Value} {rs : List RM} {key : ByteArray} {row : List Val} (h2 : w.ownsRow B 40 2 v rs.length (rmC rs)) (h3 : ∀ r ∈ rs, w.ownsRow B 34 3 r.rv r.row.length (rowC r.row)) (h4 : rs.Pairwise fun a b => ∀ k, a.rv.ownBlock = some k → b.rv.ownBlock ≠ some k)
    (hB : B ≤ w.heap.size) (hW : Up w W) (hown : w1.ownsRow W.heap.size 34 3 rv row.length (rowC row)) (h1 : Up W w1) (ho2 : w2.ownsRow B 40 2 v' (rs.length + 1) (rmC rs ++ rmC1 ⟨key, rv, row⟩)) (hc : Chg (fun j => v.ownBlock = some j) w1 w2) : RecsR w2 B v' (rs.map erR ++ [(key, row)]) := by
  have hb := h1.size
  have hb2 := hW.size
  have far : ∀ k, Ty w1 k 34 → ¬ v.ownBlock = some k := fun k ht e => ht.ne (by decide) (((own_ty (own_up h2 (Up.trans hW h1))) k e).1)
  have hnew : w2.ownsRow B 34 3 rv row.length (rowC row) := own_base' (own_chg hown hc fun k hk => far k ((own_ty hown) k hk).1) fun k hk => by have := ((own_ty hown) k hk).2; omega
  refine ⟨rs ++ [⟨key, rv, row⟩], by simp [erR], ?_, fun r hr => ?_, List.pairwise_append.2 ⟨h4, List.pairwise_singleton _ _, fun a ha b hb' k hk => ?_⟩⟩
  · rw [List.length_append]
    simpa [rmC, List.flatMap_append] using ho2
  · rcases List.mem_append.1 hr with hr | hr
    · exact own_chg (own_up (h3 r hr) (Up.trans hW h1)) hc fun k hk => far k ((own_ty (own_up (h3 r hr) (Up.trans hW h1))) k hk).1
    · rw [List.mem_singleton.1 hr]; exact hnew
  · rw [List.mem_singleton.1 hb']
    intro e
    have := own_lt (h3 a ha) k hk
    have := ((own_ty hown) k e).2
    omega
theorem rcell (w : World) (g : Nat) (hg : w.heap.size = g) (a b : Value) (E : TypeId) : ∀ (j : Nat) u, [a, b][j]? = some u → (w.alloc (.cells #[a, b] E)).cell? ((⟨g, 0, none⟩ : Addr).add j) = some u := by
  subst hg
  exact cells_new w #[a, b] E
theorem src_rn {w : World} {v : Value} {n : Nat} {xs : List Value} {size : Nat} (h : Src w size v n xs) : ∃ a c, v = .slice a n c := by
  rcases h.2 with ⟨rfl, rfl⟩ | ⟨b, off, cap, rfl, _⟩
  · exact ⟨none, 0, rfl⟩
  · exact ⟨_, cap, rfl⟩


theorem val_eq (W : World) (a b : Int) (s : ByteArray) : (Op.equalIn 10000 34 (.agg #[.int .i64 a, .int .i64 b, .string s]) (.agg #[.int .i64 a, .int .i64 b, .string s])).run Try.prog W = .ok true W := by
  rw [show (10000 : Nat) = 9999 + 1 from rfl, Op.equalIn]
  simp only [Sem.run_bind, run_underlying Try.underlying34, Result.andThen_ok]
  simp only [part]
  have ha : ∀ W : World, (isAgg 3).run Try.prog W = .ok false W := Try.isAgg3
  have ha2 : ∀ W : World, (isAgg 9).run Try.prog W = .ok false W := Try.isAgg9
  simp [ha, ha2, go_sem]
theorem guardV : Try.prog.eqGuardType Try.prog.depth 34 = false := by kernel_rfl
theorem rowC_get (l : List Val) (i : Nat) (h : i < l.length) : (rowC l)[i * 3]? = some (.int .i64 l[i].kind) ∧ (rowC l)[i * 3 + 1]? = some (.int .i64 l[i].int) ∧ (rowC l)[i * 3 + 2]? = some (.string l[i].text) :=
  ⟨by have := fm_get (f := valC) (k := 3) (fun _ => rfl) l i 0 h (by omega); simpa [rowC, valC] using this, by have := fm_get (f := valC) (k := 3) (fun _ => rfl) l i 1 h (by omega); simpa [rowC, valC] using this, by have := fm_get (f := valC) (k := 3) (fun _ => rfl) l i 2 h (by omega); simpa [rowC, valC] using this⟩
theorem src_at {w : World} {a : Option Addr} {n cap size : Nat} {xs : List Value} (h : Src w size (.slice a n cap) n xs) (hn : 0 < n) : ∃ b off, a = some ⟨b, off, none⟩ ∧ ∀ j u, xs[j]? = some u → At w b (off + j) u := by
  rcases h.2 with ⟨e, h0⟩ | ⟨b, off, c, e, _, _, hc⟩
  · omega
  · simp only [Value.slice.injEq] at e
    exact ⟨b, off, e.1, hc⟩
set_option maxRecDepth 100000 in
set_option maxHeartbeats 1000000 in
theorem equalR_same (v v' : Value) (l : List Val) (w : World) (h : Src w 3 v l.length (rowC l)) (h' : Src w 3 v' l.length (rowC l)) (hl : l.length ≤ 1000) :
    Calls Try.prog 12 #[v, v'] w fun e w' => e = .returned (.bool true) ∧ Up w w' := by
  have HS := Lib.hid h
  have HS' := Lib.hid h'
  obtain ⟨a, cap, rfl⟩ := src_rn h
  obtain ⟨a', cap', rfl⟩ := src_rn h'
  clear h h'
  have hne : ((l.length : Int) != (l.length : Int)) = false := by simp
  go_enter Try.func12, Try.ntmps12
  go_wp2
  go_loopw [13] (fun iv wr => ∃ k : Nat, k ≤ l.length ∧ iv = .int .i64 k ∧ Up w wr) (fun iv _ => l.length - (intOf iv).toNat)
  case atStart => exact ⟨0, by omega, rfl, Up.refl _⟩
  case round =>
    obtain ⟨k, hk, rfl, hu⟩ := hrel
    have HU := Lib.hid hu
    clear hu
    by_cases hlt : k < l.length
    · obtain ⟨b, off, rfl, hc⟩ := src_at HS.out (by omega)
      obtain ⟨b', off', rfl, hc'⟩ := src_at HS'.out (by omega)
      obtain ⟨g0, g1, g2⟩ := rowC_get l k hlt
      have d1 := ((hc _ _ g0).grow HU.out).2
      have d2 := ((hc _ _ g1).grow HU.out).2
      have d3 := ((hc _ _ g2).grow HU.out).2
      have d4 := ((hc' _ _ g0).grow HU.out).2
      have d5 := ((hc' _ _ g1).grow HU.out).2
      have d6 := ((hc' _ _ g2).grow HU.out).2
      rw [← Nat.add_assoc] at d2 d3 d5 d6
      generalize l[k].kind = x0 at d1 d4
      generalize l[k].int = x1 at d2 d5
      generalize l[k].text = x2 at d3 d6
      have hlk : (k : Int) < (l.length : Int) := by omega
      clear hc hc' g0 g1 g2
      have hpn := val_eq
      have hgd := guardV
      go_wp2
      go_quiet (fail)
      go_wp2
      go_roundw
      case rel => exact ⟨k + 1, by omega, by go_num, HU.out.drewN _⟩
      case measure => simp [intOf]; omega
    · obtain rfl : k = l.length := by omega
      go_wp2
      go_ret
      exact ⟨rfl, HU.out⟩

/-- A list of records that lies anywhere. -/
def RecsS (w : World) (v : Value) (l : List (ByteArray × List Val)) : Prop :=
  ∃ rs : List RM, rs.map erR = l ∧ Src w 2 v rs.length (rmC rs) ∧ ∀ r ∈ rs, Src w 3 r.rv r.row.length (rowC r.row) ∧ r.row.length ≤ 1000
theorem RecsS.up {w w' : World} {v : Value} {l : List (ByteArray × List Val)} (h : RecsS w v l) (hu : Up w w') : RecsS w' v l := by
  obtain ⟨rs, h1, h2, h3⟩ := h
  exact ⟨rs, h1, h2.up hu, fun r hr => ⟨(h3 r hr).1.up hu, (h3 r hr).2⟩⟩
theorem RecsR.src {w : World} {B : Nat} {v : Value} {l : List (ByteArray × List Val)} (h : RecsR w B v l) (hl : ∀ r ∈ l, r.2.length ≤ 1000) : RecsS w v l := by
  obtain ⟨rs, h1, h2, h3, _⟩ := h
  exact ⟨rs, h1, own_src h2, fun r hr => ⟨own_src (h3 r hr), by subst h1; exact hl (erR r) (List.mem_map.2 ⟨r, hr, rfl⟩)⟩⟩
theorem rmC_get (l : List RM) (i : Nat) (h : i < l.length) : (rmC l)[i * 2]? = some (.string l[i].key) ∧ (rmC l)[i * 2 + 1]? = some l[i].rv :=
  ⟨by have := fm_get (f := rmC1) (k := 2) (fun _ => rfl) l i 0 h (by omega); simpa [rmC, rmC1] using this, by have := fm_get (f := rmC1) (k := 2) (fun _ => rfl) l i 1 h (by omega); simpa [rmC, rmC1] using this⟩
set_option maxRecDepth 100000 in
set_option maxHeartbeats 1000000 in
theorem eqrec_any (key : ByteArray) (v v' : Value) (row : List Val) (w : World) (h : Src w 3 v row.length (rowC row)) (h' : Src w 3 v' row.length (rowC row)) (hl : row.length ≤ 1000) :
    Calls Try.prog 32 #[.agg #[.string key, v], .agg #[.string key, v']] w fun e w' => e = .returned (.bool true) ∧ Up w w' := by
  have hc := fun (W : World) (hu : Up w W) => equalR_same v v' row W (h.up hu) (h'.up hu) hl
  obtain ⟨a, cap, rfl⟩ := src_rn h
  obtain ⟨a', cap', rfl⟩ := src_rn h'
  have HC := Lib.hid hc
  clear hc h h'
  go_enter Try.func32, Try.ntmps32
  go_wp2_with (go_at_call 12; refine (HC.out _ (((Up.refl w).alloc _).alloc _)).mono ?_; rintro e w' ⟨rfl, h4⟩; have H4 := Lib.hid h4; clear h4)
  go_ret
  exact ⟨rfl, (((Up.refl w).alloc _).alloc _).trans H4.out⟩
set_option maxRecDepth 100000 in
set_option maxHeartbeats 2000000 in
theorem eqfunc_any (v v' : Value) (l : List (ByteArray × List Val)) (w : World) (h : RecsS w v l) (h' : RecsS w v' l) (hl : l.length ≤ 1000) :
    Calls Try.prog 31 #[v, v', .func (.func 32) #[] #[]] w fun e w' => e = .returned (.bool true) ∧ Up w w' := by
  obtain ⟨rs, h1, h2, h3⟩ := h
  obtain ⟨rs', h1', h2', h3'⟩ := h'
  have hlen : rs'.length = rs.length := by have := congrArg List.length (h1.trans h1'.symm); simpa using this.symm
  have hrl : rs.length ≤ 1000 := by have := congrArg List.length h1; rw [List.length_map] at this; omega
  have EL : Hid (∀ k (h : k < rs.length) (h' : k < rs'.length), rs'[k].key = rs[k].key ∧ rs'[k].row = rs[k].row) := fun k h h' => by
    have e : (rs.map erR)[k]'(by rw [List.length_map]; exact h) = (rs'.map erR)[k]'(by rw [List.length_map]; exact h') := by simp only [h1, h1']
    rw [List.getElem_map, List.getElem_map] at e
    simp only [erR, Prod.mk.injEq] at e
    exact ⟨e.1.symm, e.2.symm⟩
  rw [hlen] at h2'
  have HS := Lib.hid h2
  have HS' := Lib.hid h2'
  have H3 := Lib.hid h3
  have H3' := Lib.hid h3'
  have HLEN := Lib.hid hlen
  obtain ⟨a, cap, rfl⟩ := src_rn h2
  obtain ⟨a', cap', rfl⟩ := src_rn h2'
  clear h1 h1' h2 h2' h3 h3' hlen
  have hne : ((rs.length : Int) != (rs.length : Int)) = false := by simp
  go_enter Try.func31, Try.ntmps31
  go_wp2
  go_loopw [17] (fun iv wr => ∃ k : Nat, k ≤ rs.length ∧ iv = .int .i64 k ∧ Up w wr) (fun iv _ => rs.length - (intOf iv).toNat)
  case atStart => exact ⟨0, by omega, rfl, Up.refl _⟩
  case round =>
    obtain ⟨k, hk, rfl, hu⟩ := hrel
    have HU := Lib.hid hu
    clear hu
    by_cases hlt : k < rs.length
    · obtain ⟨b, off, rfl, hc⟩ := src_at HS.out (by omega)
      obtain ⟨b', off', rfl, hc'⟩ := src_at HS'.out (by omega)
      have hlt' : k < rs'.length := by rw [HLEN.out]; exact hlt
      obtain ⟨g0, g1⟩ := rmC_get rs k hlt
      obtain ⟨g2, g3⟩ := rmC_get rs' k hlt'
      obtain ⟨q1, q2⟩ := EL.out k hlt hlt'
      obtain ⟨r1, r2⟩ := H3.out _ (List.getElem_mem hlt)
      obtain ⟨r3, _⟩ := H3'.out _ (List.getElem_mem hlt')
      rw [q1] at g2
      rw [q2] at r3
      obtain ⟨ea, ec, hea⟩ := src_rn r1
      obtain ⟨ea', ec', hea'⟩ := src_rn r3
      rw [hea] at g1 r1
      rw [hea'] at g3 r3
      have d1 := ((hc _ _ g0).grow HU.out)
      have d2 := ((hc _ _ g1).grow HU.out)
      have d4 := ((hc' _ _ g2).grow HU.out)
      have d5 := ((hc' _ _ g3).grow HU.out)
      rw [← Nat.add_assoc] at d2 d5
      have R1 := Lib.hid r1
      have R3 := Lib.hid r3
      generalize rs[k].key = key at *
      generalize rs[k].row = row at *
      have hlk : (k : Int) < (rs.length : Int) := by omega
      have D4 := Lib.hid d4
      have D5 := Lib.hid d5
      have e1 := d1.2
      have e2 := d2.2
      have e4 := ((d4.grow ((Up.refl wr).alloc (.cells #[.string key, .slice ea row.length ec] 40)))).2
      have e5 := ((d5.grow ((Up.refl wr).alloc (.cells #[.string key, .slice ea row.length ec] 40)))).2
      have HEQ : Hid (∀ W, Up w W → Calls Try.prog 32 #[.agg #[.string key, .slice ea row.length ec], .agg #[.string key, .slice ea' row.length ec']] W fun e w' => e = .returned (.bool true) ∧ Up W w') := fun W hu => eqrec_any key _ _ row W (R1.out.up hu) (R3.out.up hu) r2
      clear hc hc' g0 g1 g2 g3 q1 q2 r1 r3 hea hea' d1 d2 d4 d5
      go_wp2_with (go_at_call 32; refine (HEQ.out _ ((HU.out.alloc _).alloc _)).mono ?_; rintro e w' ⟨rfl, h4⟩; have H4 := Lib.hid (((HU.out.alloc _).alloc _).trans h4); clear h4)
      go_roundw
      case rel => exact ⟨k + 1, by omega, by go_num, H4.out⟩
      case measure => simp [intOf]; omega
    · obtain rfl : k = rs.length := by omega
      go_wp2
      go_ret
      exact ⟨rfl, HU.out⟩
set_option maxRecDepth 100000 in
set_option maxHeartbeats 1000000 in
theorem eqrecs_any (v v' : Value) (l : List (ByteArray × List Val)) (w : World) (h : RecsS w v l) (h' : RecsS w v' l) (hl : l.length ≤ 1000) :
    Calls Try.prog 19 #[v, v'] w fun e w' => e = .returned (.bool true) ∧ Up w w' := by
  have hc := eqfunc_any v v' l w h h' hl
  obtain ⟨rs, h1, h2, h3⟩ := h
  obtain ⟨rs', h1', h2', h3'⟩ := h'
  obtain ⟨a, cap, rfl⟩ := src_rn h2
  obtain ⟨a', cap', rfl⟩ := src_rn h2'
  clear h1 h1' h2 h2' h3 h3'
  go_enter Try.func19, Try.ntmps19
  go_wp2_with (go_at_call 31; refine hc.mono ?_; rintro e w' ⟨rfl, h4⟩; have H4 := Lib.hid h4; clear h4)
  go_ret
  exact ⟨rfl, H4.out⟩

/-! ### Row -/
def rowV (k : Int) : List Val := [⟨1, modV k 1000, ByteArray.empty⟩]
set_option maxRecDepth 100000 in
set_option maxHeartbeats 1000000 in
theorem row_any (k : Int) (w : World) : Calls Try.prog 9 #[.int .i64 k] w fun e w' => e = .returned (.slice (some ⟨w.heap.size, 0, none⟩) 1 1) ∧ w'.ownsRow w.heap.size 34 3 (.slice (some ⟨w.heap.size, 0, none⟩) 1 1) (rowV k).length (rowC (rowV k)) ∧ Up w w' := by
  go_enter Try.func9, Try.ntmps9
  go_wp2_with (go_at_call 18; refine (mod_any _ _ _ (by omega) (by omega)).mono ?_; rintro e w' ⟨rfl, rfl⟩)
  go_ret
  exact ⟨rfl, own_of_blk (Blk.new w _ _) rfl (by omega), (Up.refl w).alloc _⟩
end Go.Proofs.Ytdaehidbeleblaa.Mv
