/- Locks: the closures; slices.IndexFunc, ContainsFunc at locks. Printed by gen2/lk.py. -/
import Derived.Test.YtbimkciejfbodaaLka
namespace Go.Proofs.Ytbimkciejfbodaa.Lk
open Go Go.RowKit Hp
set_option linter.unusedVariables false

theorem src_rn {w : World} {v : Value} {n : Nat} {xs : List Value} {size : Nat} (h : Src w size v n xs) : ∃ a c, v = .slice a n c := by
  rcases h.2 with ⟨rfl, rfl⟩ | ⟨b, off, cap, rfl, _⟩
  · exact ⟨_, _, rfl⟩
  · exact ⟨_, _, rfl⟩
theorem src_at {w : World} {a : Option Addr} {n cap size : Nat} {xs : List Value} (h : Src w size (.slice a n cap) n xs) (hn : 0 < n) : ∃ b off, a = some ⟨b, off, none⟩ ∧ ∀ j u, xs[j]? = some u → At w b (off + j) u := by
  obtain ⟨hx, ⟨h1, rfl⟩ | ⟨b, off, cap', hv, h1, h2, h3⟩⟩ := h
  · omega
  · simp only [Value.slice.injEq, true_and] at hv
    exact ⟨b, off, hv.1, h3⟩
/-- A lock lies at block b. -/
def LB (w : World) (b : Nat) (l : Lk) : Prop := Blk w b [.int .i64 l.tx, .string l.tab, .string l.key, .int .i64 l.mode] 33
theorem LB.up {w w' : World} {b : Nat} {l : Lk} (h : LB w b l) (hu : Up w w') : LB w' b l := Blk.up h hu
theorem LB.new (w : World) (l : Lk) : LB (w.alloc (.cells #[.int .i64 l.tx, .string l.tab, .string l.key, .int .i64 l.mode] 33)) w.heap.size l := Blk.new w _ _
/-- The closure of function F over the cell tb tells p. -/
def Tells (F : FuncId) (w : World) (tb : Nat) (p : Lk → Bool) : Prop := ∀ W, Up w W → ∀ x : Lk, Calls Try.prog F #[lkV x, .pointer (some ⟨tb, 0, none⟩)] W fun e w' => e = .returned (.bool (p x)) ∧ Up W w'
theorem Tells.up {F : FuncId} {w w' : World} {tb : Nat} {p : Lk → Bool} (h : Tells F w tb p) (hu : Up w w') : Tells F w' tb p := fun W hW => h W (hu.trans hW)
set_option maxRecDepth 100000 in
set_option maxHeartbeats 1000000 in
theorem cl_M (w : World) (tb : Nat) (l : Lk) (h : LB w tb l) : Tells 60 w tb (fun x => sameL x l) := fun W hu x => by
  have hb := h.up hu
  have HS : Hid (∀ W', Calls Try.prog 59 #[.agg #[.int .i64 x.tx, .string x.tab, .string x.key, .int .i64 x.mode], .agg #[.int .i64 l.tx, .string l.tab, .string l.key, .int .i64 l.mode]] W' fun e w' => e = .returned (.bool (sameL x l)) ∧ Up W' w') := fun W' => same_any x l W'
  have U1 := (Up.refl W).alloc (.cells #[.int .i64 x.tx, .string x.tab, .string x.key, .int .i64 x.mode] 33)
  have hb2 := hb.up U1
  have c0 := (Blk.at hb2 (i := 0) rfl).2
  have c1 := (Blk.at hb2 (i := 1) rfl).2
  have c2 := (Blk.at hb2 (i := 2) rfl).2
  have c3 := (Blk.at hb2 (i := 3) rfl).2
  have hl := Blk.lt hb2
  generalize hr : sameL x l = r at *
  have HR := Lib.hid hr
  clear hb hb2 h hr
  unfold lkV
  go_enter Try.func60, Try.ntmps60
  go_wp2_with (first | (go_at_call 59; refine (HS.out _).mono ?_; rintro e w2 ⟨rfl, h2⟩) | fail)
  go_ret
  exact ⟨ret_bool HR.out.symm, U1.trans h2⟩
set_option maxRecDepth 100000 in
set_option maxHeartbeats 1000000 in
theorem cl_G (w : World) (tb : Nat) (l : Lk) (h : LB w tb l) : Tells 58 w tb (fun x => sameL x l) := fun W hu x => by
  have hb := h.up hu
  have HS : Hid (∀ W', Calls Try.prog 59 #[.agg #[.int .i64 x.tx, .string x.tab, .string x.key, .int .i64 x.mode], .agg #[.int .i64 l.tx, .string l.tab, .string l.key, .int .i64 l.mode]] W' fun e w' => e = .returned (.bool (sameL x l)) ∧ Up W' w') := fun W' => same_any x l W'
  have U1 := (Up.refl W).alloc (.cells #[.int .i64 x.tx, .string x.tab, .string x.key, .int .i64 x.mode] 33)
  have hb2 := hb.up U1
  have c0 := (Blk.at hb2 (i := 0) rfl).2
  have c1 := (Blk.at hb2 (i := 1) rfl).2
  have c2 := (Blk.at hb2 (i := 2) rfl).2
  have c3 := (Blk.at hb2 (i := 3) rfl).2
  have hl := Blk.lt hb2
  generalize hr : sameL x l = r at *
  have HR := Lib.hid hr
  clear hb hb2 h hr
  unfold lkV
  go_enter Try.func58, Try.ntmps58
  go_wp2_with (first | (go_at_call 59; refine (HS.out _).mono ?_; rintro e w2 ⟨rfl, h2⟩) | fail)
  go_ret
  exact ⟨ret_bool HR.out.symm, U1.trans h2⟩
set_option maxRecDepth 100000 in
set_option maxHeartbeats 1000000 in
theorem cl_A (w : World) (tb : Nat) (l : Lk) (h : LB w tb l) : Tells 35 w tb (fun x => decide (x.tx = l.tx)) := fun W hu x => by
  have U1 := (Up.refl W).alloc (.cells #[.int .i64 x.tx, .string x.tab, .string x.key, .int .i64 x.mode] 33)
  have cc := (Blk.at (LB.up h hu) (i := 0) rfl).grow U1
  have c0 := cc.2
  have hl := cc.1
  clear cc
  unfold lkV
  go_enter Try.func35, Try.ntmps35
  go_wp2
  go_ret
  exact ⟨ret_bool (by rw [← int_beq]), U1⟩
set_option maxRecDepth 100000 in
set_option maxHeartbeats 1000000 in
theorem cl_W (w : World) (tb : Nat) (t : Int) (h : At w tb 0 (.int .i64 t)) : Tells 27 w tb (fun x => decide (x.tx = t)) := fun W hu x => by
  have U1 := (Up.refl W).alloc (.cells #[.int .i64 x.tx, .string x.tab, .string x.key, .int .i64 x.mode] 33)
  have cc := (h.grow hu).grow U1
  have c0 := cc.2
  have hl := cc.1
  clear cc
  unfold lkV
  go_enter Try.func27, Try.ntmps27
  go_wp2
  go_ret
  exact ⟨ret_bool (by rw [← int_beq]), U1⟩
set_option maxRecDepth 100000 in
set_option maxHeartbeats 1000000 in
theorem cl_R (w : World) (tb : Nat) (t : Int) (h : At w tb 0 (.int .i64 t)) : Tells 29 w tb (fun x => decide (x.tx = t)) := fun W hu x => by
  have U1 := (Up.refl W).alloc (.cells #[.int .i64 x.tx, .string x.tab, .string x.key, .int .i64 x.mode] 33)
  have cc := (h.grow hu).grow U1
  have c0 := cc.2
  have hl := cc.1
  clear cc
  unfold lkV
  go_enter Try.func29, Try.ntmps29
  go_wp2
  go_ret
  exact ⟨ret_bool (by rw [← int_beq]), U1⟩
set_option maxRecDepth 100000 in
set_option maxHeartbeats 2000000 in
theorem ix_M (tb : Nat) (p : Lk → Bool) (v : Value) (l : List Lk) (w : World) (hp : Tells 60 w tb p) (hs : Src w 4 v l.length (lkC l)) (hl : l.length ≤ 100000) :
    Calls Try.prog 26 #[v, .func (.func 60) #[] #[.pointer (some ⟨tb, 0, none⟩)]] w fun e w' => e = .returned (.int .i64 (idx p l)) ∧ Up w w' := by
  have HO := Lib.hid hs
  have HP := Lib.hid hp
  obtain ⟨a, cap, rfl⟩ := src_rn hs
  clear hs hp
  go_enter Try.func26, Try.ntmps26
  go_wp2
  go_loopw [8] (fun iv wr => ∃ k : Nat, k ≤ l.length ∧ iv = .int .i64 k ∧ Hid (Up w wr) ∧ Hid (∀ j (h : j < l.length), j < k → p l[j] = false)) (fun iv _ => l.length - (intOf iv).toNat)
  case atStart => exact ⟨0, by omega, rfl, Up.refl _, fun j h hj => by omega⟩
  case round =>
    obtain ⟨k, hk, rfl, HU, HN⟩ := hrel
    by_cases hlt : k < l.length
    · obtain ⟨g, off, rfl, hc⟩ := src_at (HO.out.up HU.out) (by omega)
      obtain ⟨g0, g1, g2, g3⟩ := lkC_get l k hlt
      have e0 := (hc _ _ g0).2
      have e1 := (hc _ _ g1).2
      have e2 := (hc _ _ g2).2
      have e3 := (hc _ _ g3).2
      rw [← Nat.add_assoc] at e1 e2 e3
      have HONE : Hid (∀ W, Up wr W → Calls Try.prog 60 #[.agg #[.int .i64 l[k].tx, .string l[k].tab, .string l[k].key, .int .i64 l[k].mode], .pointer (some ⟨tb, 0, none⟩)] W fun e w' => e = .returned (.bool (p l[k])) ∧ Up W w') := fun W h => HP.out W (HU.out.trans h) l[k]
      have bk : (k : Int) < (l.length : Int) := by omega
      have HT : Hid (∀ (h : k < l.length), p l[k] = true → idx p l = (k : Int)) := fun h he => idx_hit h he HN.out
      have HF : Hid (p l[k] = false → ∀ j (h : j < l.length), j < k + 1 → p l[j] = false) := fun he j h hj => by
        rcases Nat.lt_or_ge j k with h1 | h1
        · exact HN.out j h h1
        · obtain rfl : j = k := by omega
          exact he
      cases hd : p l[k] with
      | true =>
        rw [hd] at HONE
        have HE := Lib.hid (HT.out hlt hd)
        generalize l[k].tx = xt at *
        generalize l[k].tab = xb at *
        generalize l[k].key = xk at *
        generalize l[k].mode = xm at *
        clear hc g0 g1 g2 g3 hd HT HF
        go_wp2_with (first
          | (go_at_call 60; refine (HONE.out _ (by first | exact Up.refl _ | exact (Up.refl _).alloc _)).mono ?_; rintro e w2 ⟨rfl, h2⟩; have U2 := Lib.hid (HU.out.trans (by first | exact h2 | exact ((Up.refl _).alloc _).trans h2)); clear h2)
          | fail)
        go_ret
        exact ⟨by rw [HE.out]; rfl, U2.out⟩
      | false =>
        rw [hd] at HONE
        have HE := Lib.hid (HF.out hd)
        generalize l[k].tx = xt at *
        generalize l[k].tab = xb at *
        generalize l[k].key = xk at *
        generalize l[k].mode = xm at *
        clear hc g0 g1 g2 g3 hd HT HF
        go_wp2_with (first
          | (go_at_call 60; refine (HONE.out _ (by first | exact Up.refl _ | exact (Up.refl _).alloc _)).mono ?_; rintro e w2 ⟨rfl, h2⟩; have U2 := Lib.hid (HU.out.trans (by first | exact h2 | exact ((Up.refl _).alloc _).trans h2)); clear h2)
          | fail)
        go_roundw
        case rel => exact ⟨k + 1, by omega, by go_num, U2.out, HE.out⟩
        case measure => simp [intOf]; omega
    · obtain rfl : k = l.length := by omega
      have HE : Hid (idx p l = -1) := idx_miss fun j h => HN.out j h h
      go_wp2
      go_ret
      exact ⟨by rw [HE.out]; rfl, HU.out⟩
set_option maxRecDepth 100000 in
set_option maxHeartbeats 2000000 in
theorem ix_G (tb : Nat) (p : Lk → Bool) (v : Value) (l : List Lk) (w : World) (hp : Tells 58 w tb p) (hs : Src w 4 v l.length (lkC l)) (hl : l.length ≤ 100000) :
    Calls Try.prog 26 #[v, .func (.func 58) #[] #[.pointer (some ⟨tb, 0, none⟩)]] w fun e w' => e = .returned (.int .i64 (idx p l)) ∧ Up w w' := by
  have HO := Lib.hid hs
  have HP := Lib.hid hp
  obtain ⟨a, cap, rfl⟩ := src_rn hs
  clear hs hp
  go_enter Try.func26, Try.ntmps26
  go_wp2
  go_loopw [8] (fun iv wr => ∃ k : Nat, k ≤ l.length ∧ iv = .int .i64 k ∧ Hid (Up w wr) ∧ Hid (∀ j (h : j < l.length), j < k → p l[j] = false)) (fun iv _ => l.length - (intOf iv).toNat)
  case atStart => exact ⟨0, by omega, rfl, Up.refl _, fun j h hj => by omega⟩
  case round =>
    obtain ⟨k, hk, rfl, HU, HN⟩ := hrel
    by_cases hlt : k < l.length
    · obtain ⟨g, off, rfl, hc⟩ := src_at (HO.out.up HU.out) (by omega)
      obtain ⟨g0, g1, g2, g3⟩ := lkC_get l k hlt
      have e0 := (hc _ _ g0).2
      have e1 := (hc _ _ g1).2
      have e2 := (hc _ _ g2).2
      have e3 := (hc _ _ g3).2
      rw [← Nat.add_assoc] at e1 e2 e3
      have HONE : Hid (∀ W, Up wr W → Calls Try.prog 58 #[.agg #[.int .i64 l[k].tx, .string l[k].tab, .string l[k].key, .int .i64 l[k].mode], .pointer (some ⟨tb, 0, none⟩)] W fun e w' => e = .returned (.bool (p l[k])) ∧ Up W w') := fun W h => HP.out W (HU.out.trans h) l[k]
      have bk : (k : Int) < (l.length : Int) := by omega
      have HT : Hid (∀ (h : k < l.length), p l[k] = true → idx p l = (k : Int)) := fun h he => idx_hit h he HN.out
      have HF : Hid (p l[k] = false → ∀ j (h : j < l.length), j < k + 1 → p l[j] = false) := fun he j h hj => by
        rcases Nat.lt_or_ge j k with h1 | h1
        · exact HN.out j h h1
        · obtain rfl : j = k := by omega
          exact he
      cases hd : p l[k] with
      | true =>
        rw [hd] at HONE
        have HE := Lib.hid (HT.out hlt hd)
        generalize l[k].tx = xt at *
        generalize l[k].tab = xb at *
        generalize l[k].key = xk at *
        generalize l[k].mode = xm at *
        clear hc g0 g1 g2 g3 hd HT HF
        go_wp2_with (first
          | (go_at_call 58; refine (HONE.out _ (by first | exact Up.refl _ | exact (Up.refl _).alloc _)).mono ?_; rintro e w2 ⟨rfl, h2⟩; have U2 := Lib.hid (HU.out.trans (by first | exact h2 | exact ((Up.refl _).alloc _).trans h2)); clear h2)
          | fail)
        go_ret
        exact ⟨by rw [HE.out]; rfl, U2.out⟩
      | false =>
        rw [hd] at HONE
        have HE := Lib.hid (HF.out hd)
        generalize l[k].tx = xt at *
        generalize l[k].tab = xb at *
        generalize l[k].key = xk at *
        generalize l[k].mode = xm at *
        clear hc g0 g1 g2 g3 hd HT HF
        go_wp2_with (first
          | (go_at_call 58; refine (HONE.out _ (by first | exact Up.refl _ | exact (Up.refl _).alloc _)).mono ?_; rintro e w2 ⟨rfl, h2⟩; have U2 := Lib.hid (HU.out.trans (by first | exact h2 | exact ((Up.refl _).alloc _).trans h2)); clear h2)
          | fail)
        go_roundw
        case rel => exact ⟨k + 1, by omega, by go_num, U2.out, HE.out⟩
        case measure => simp [intOf]; omega
    · obtain rfl : k = l.length := by omega
      have HE : Hid (idx p l = -1) := idx_miss fun j h => HN.out j h h
      go_wp2
      go_ret
      exact ⟨by rw [HE.out]; rfl, HU.out⟩
set_option maxRecDepth 100000 in
set_option maxHeartbeats 2000000 in
theorem ix_A (tb : Nat) (p : Lk → Bool) (v : Value) (l : List Lk) (w : World) (hp : Tells 35 w tb p) (hs : Src w 4 v l.length (lkC l)) (hl : l.length ≤ 100000) :
    Calls Try.prog 26 #[v, .func (.func 35) #[] #[.pointer (some ⟨tb, 0, none⟩)]] w fun e w' => e = .returned (.int .i64 (idx p l)) ∧ Up w w' := by
  have HO := Lib.hid hs
  have HP := Lib.hid hp
  obtain ⟨a, cap, rfl⟩ := src_rn hs
  clear hs hp
  go_enter Try.func26, Try.ntmps26
  go_wp2
  go_loopw [8] (fun iv wr => ∃ k : Nat, k ≤ l.length ∧ iv = .int .i64 k ∧ Hid (Up w wr) ∧ Hid (∀ j (h : j < l.length), j < k → p l[j] = false)) (fun iv _ => l.length - (intOf iv).toNat)
  case atStart => exact ⟨0, by omega, rfl, Up.refl _, fun j h hj => by omega⟩
  case round =>
    obtain ⟨k, hk, rfl, HU, HN⟩ := hrel
    by_cases hlt : k < l.length
    · obtain ⟨g, off, rfl, hc⟩ := src_at (HO.out.up HU.out) (by omega)
      obtain ⟨g0, g1, g2, g3⟩ := lkC_get l k hlt
      have e0 := (hc _ _ g0).2
      have e1 := (hc _ _ g1).2
      have e2 := (hc _ _ g2).2
      have e3 := (hc _ _ g3).2
      rw [← Nat.add_assoc] at e1 e2 e3
      have HONE : Hid (∀ W, Up wr W → Calls Try.prog 35 #[.agg #[.int .i64 l[k].tx, .string l[k].tab, .string l[k].key, .int .i64 l[k].mode], .pointer (some ⟨tb, 0, none⟩)] W fun e w' => e = .returned (.bool (p l[k])) ∧ Up W w') := fun W h => HP.out W (HU.out.trans h) l[k]
      have bk : (k : Int) < (l.length : Int) := by omega
      have HT : Hid (∀ (h : k < l.length), p l[k] = true → idx p l = (k : Int)) := fun h he => idx_hit h he HN.out
      have HF : Hid (p l[k] = false → ∀ j (h : j < l.length), j < k + 1 → p l[j] = false) := fun he j h hj => by
        rcases Nat.lt_or_ge j k with h1 | h1
        · exact HN.out j h h1
        · obtain rfl : j = k := by omega
          exact he
      cases hd : p l[k] with
      | true =>
        rw [hd] at HONE
        have HE := Lib.hid (HT.out hlt hd)
        generalize l[k].tx = xt at *
        generalize l[k].tab = xb at *
        generalize l[k].key = xk at *
        generalize l[k].mode = xm at *
        clear hc g0 g1 g2 g3 hd HT HF
        go_wp2_with (first
          | (go_at_call 35; refine (HONE.out _ (by first | exact Up.refl _ | exact (Up.refl _).alloc _)).mono ?_; rintro e w2 ⟨rfl, h2⟩; have U2 := Lib.hid (HU.out.trans (by first | exact h2 | exact ((Up.refl _).alloc _).trans h2)); clear h2)
          | fail)
        go_ret
        exact ⟨by rw [HE.out]; rfl, U2.out⟩
      | false =>
        rw [hd] at HONE
        have HE := Lib.hid (HF.out hd)
        generalize l[k].tx = xt at *
        generalize l[k].tab = xb at *
        generalize l[k].key = xk at *
        generalize l[k].mode = xm at *
        clear hc g0 g1 g2 g3 hd HT HF
        go_wp2_with (first
          | (go_at_call 35; refine (HONE.out _ (by first | exact Up.refl _ | exact (Up.refl _).alloc _)).mono ?_; rintro e w2 ⟨rfl, h2⟩; have U2 := Lib.hid (HU.out.trans (by first | exact h2 | exact ((Up.refl _).alloc _).trans h2)); clear h2)
          | fail)
        go_roundw
        case rel => exact ⟨k + 1, by omega, by go_num, U2.out, HE.out⟩
        case measure => simp [intOf]; omega
    · obtain rfl : k = l.length := by omega
      have HE : Hid (idx p l = -1) := idx_miss fun j h => HN.out j h h
      go_wp2
      go_ret
      exact ⟨by rw [HE.out]; rfl, HU.out⟩
set_option maxRecDepth 100000 in
set_option maxHeartbeats 2000000 in
theorem ix_W (tb : Nat) (p : Lk → Bool) (v : Value) (l : List Lk) (w : World) (hp : Tells 27 w tb p) (hs : Src w 4 v l.length (lkC l)) (hl : l.length ≤ 100000) :
    Calls Try.prog 26 #[v, .func (.func 27) #[] #[.pointer (some ⟨tb, 0, none⟩)]] w fun e w' => e = .returned (.int .i64 (idx p l)) ∧ Up w w' := by
  have HO := Lib.hid hs
  have HP := Lib.hid hp
  obtain ⟨a, cap, rfl⟩ := src_rn hs
  clear hs hp
  go_enter Try.func26, Try.ntmps26
  go_wp2
  go_loopw [8] (fun iv wr => ∃ k : Nat, k ≤ l.length ∧ iv = .int .i64 k ∧ Hid (Up w wr) ∧ Hid (∀ j (h : j < l.length), j < k → p l[j] = false)) (fun iv _ => l.length - (intOf iv).toNat)
  case atStart => exact ⟨0, by omega, rfl, Up.refl _, fun j h hj => by omega⟩
  case round =>
    obtain ⟨k, hk, rfl, HU, HN⟩ := hrel
    by_cases hlt : k < l.length
    · obtain ⟨g, off, rfl, hc⟩ := src_at (HO.out.up HU.out) (by omega)
      obtain ⟨g0, g1, g2, g3⟩ := lkC_get l k hlt
      have e0 := (hc _ _ g0).2
      have e1 := (hc _ _ g1).2
      have e2 := (hc _ _ g2).2
      have e3 := (hc _ _ g3).2
      rw [← Nat.add_assoc] at e1 e2 e3
      have HONE : Hid (∀ W, Up wr W → Calls Try.prog 27 #[.agg #[.int .i64 l[k].tx, .string l[k].tab, .string l[k].key, .int .i64 l[k].mode], .pointer (some ⟨tb, 0, none⟩)] W fun e w' => e = .returned (.bool (p l[k])) ∧ Up W w') := fun W h => HP.out W (HU.out.trans h) l[k]
      have bk : (k : Int) < (l.length : Int) := by omega
      have HT : Hid (∀ (h : k < l.length), p l[k] = true → idx p l = (k : Int)) := fun h he => idx_hit h he HN.out
      have HF : Hid (p l[k] = false → ∀ j (h : j < l.length), j < k + 1 → p l[j] = false) := fun he j h hj => by
        rcases Nat.lt_or_ge j k with h1 | h1
        · exact HN.out j h h1
        · obtain rfl : j = k := by omega
          exact he
      cases hd : p l[k] with
      | true =>
        rw [hd] at HONE
        have HE := Lib.hid (HT.out hlt hd)
        generalize l[k].tx = xt at *
        generalize l[k].tab = xb at *
        generalize l[k].key = xk at *
        generalize l[k].mode = xm at *
        clear hc g0 g1 g2 g3 hd HT HF
        go_wp2_with (first
          | (go_at_call 27; refine (HONE.out _ (by first | exact Up.refl _ | exact (Up.refl _).alloc _)).mono ?_; rintro e w2 ⟨rfl, h2⟩; have U2 := Lib.hid (HU.out.trans (by first | exact h2 | exact ((Up.refl _).alloc _).trans h2)); clear h2)
          | fail)
        go_ret
        exact ⟨by rw [HE.out]; rfl, U2.out⟩
      | false =>
        rw [hd] at HONE
        have HE := Lib.hid (HF.out hd)
        generalize l[k].tx = xt at *
        generalize l[k].tab = xb at *
        generalize l[k].key = xk at *
        generalize l[k].mode = xm at *
        clear hc g0 g1 g2 g3 hd HT HF
        go_wp2_with (first
          | (go_at_call 27; refine (HONE.out _ (by first | exact Up.refl _ | exact (Up.refl _).alloc _)).mono ?_; rintro e w2 ⟨rfl, h2⟩; have U2 := Lib.hid (HU.out.trans (by first | exact h2 | exact ((Up.refl _).alloc _).trans h2)); clear h2)
          | fail)
        go_roundw
        case rel => exact ⟨k + 1, by omega, by go_num, U2.out, HE.out⟩
        case measure => simp [intOf]; omega
    · obtain rfl : k = l.length := by omega
      have HE : Hid (idx p l = -1) := idx_miss fun j h => HN.out j h h
      go_wp2
      go_ret
      exact ⟨by rw [HE.out]; rfl, HU.out⟩
set_option maxRecDepth 100000 in
set_option maxHeartbeats 2000000 in
theorem ix_R (tb : Nat) (p : Lk → Bool) (v : Value) (l : List Lk) (w : World) (hp : Tells 29 w tb p) (hs : Src w 4 v l.length (lkC l)) (hl : l.length ≤ 100000) :
    Calls Try.prog 26 #[v, .func (.func 29) #[] #[.pointer (some ⟨tb, 0, none⟩)]] w fun e w' => e = .returned (.int .i64 (idx p l)) ∧ Up w w' := by
  have HO := Lib.hid hs
  have HP := Lib.hid hp
  obtain ⟨a, cap, rfl⟩ := src_rn hs
  clear hs hp
  go_enter Try.func26, Try.ntmps26
  go_wp2
  go_loopw [8] (fun iv wr => ∃ k : Nat, k ≤ l.length ∧ iv = .int .i64 k ∧ Hid (Up w wr) ∧ Hid (∀ j (h : j < l.length), j < k → p l[j] = false)) (fun iv _ => l.length - (intOf iv).toNat)
  case atStart => exact ⟨0, by omega, rfl, Up.refl _, fun j h hj => by omega⟩
  case round =>
    obtain ⟨k, hk, rfl, HU, HN⟩ := hrel
    by_cases hlt : k < l.length
    · obtain ⟨g, off, rfl, hc⟩ := src_at (HO.out.up HU.out) (by omega)
      obtain ⟨g0, g1, g2, g3⟩ := lkC_get l k hlt
      have e0 := (hc _ _ g0).2
      have e1 := (hc _ _ g1).2
      have e2 := (hc _ _ g2).2
      have e3 := (hc _ _ g3).2
      rw [← Nat.add_assoc] at e1 e2 e3
      have HONE : Hid (∀ W, Up wr W → Calls Try.prog 29 #[.agg #[.int .i64 l[k].tx, .string l[k].tab, .string l[k].key, .int .i64 l[k].mode], .pointer (some ⟨tb, 0, none⟩)] W fun e w' => e = .returned (.bool (p l[k])) ∧ Up W w') := fun W h => HP.out W (HU.out.trans h) l[k]
      have bk : (k : Int) < (l.length : Int) := by omega
      have HT : Hid (∀ (h : k < l.length), p l[k] = true → idx p l = (k : Int)) := fun h he => idx_hit h he HN.out
      have HF : Hid (p l[k] = false → ∀ j (h : j < l.length), j < k + 1 → p l[j] = false) := fun he j h hj => by
        rcases Nat.lt_or_ge j k with h1 | h1
        · exact HN.out j h h1
        · obtain rfl : j = k := by omega
          exact he
      cases hd : p l[k] with
      | true =>
        rw [hd] at HONE
        have HE := Lib.hid (HT.out hlt hd)
        generalize l[k].tx = xt at *
        generalize l[k].tab = xb at *
        generalize l[k].key = xk at *
        generalize l[k].mode = xm at *
        clear hc g0 g1 g2 g3 hd HT HF
        go_wp2_with (first
          | (go_at_call 29; refine (HONE.out _ (by first | exact Up.refl _ | exact (Up.refl _).alloc _)).mono ?_; rintro e w2 ⟨rfl, h2⟩; have U2 := Lib.hid (HU.out.trans (by first | exact h2 | exact ((Up.refl _).alloc _).trans h2)); clear h2)
          | fail)
        go_ret
        exact ⟨by rw [HE.out]; rfl, U2.out⟩
      | false =>
        rw [hd] at HONE
        have HE := Lib.hid (HF.out hd)
        generalize l[k].tx = xt at *
        generalize l[k].tab = xb at *
        generalize l[k].key = xk at *
        generalize l[k].mode = xm at *
        clear hc g0 g1 g2 g3 hd HT HF
        go_wp2_with (first
          | (go_at_call 29; refine (HONE.out _ (by first | exact Up.refl _ | exact (Up.refl _).alloc _)).mono ?_; rintro e w2 ⟨rfl, h2⟩; have U2 := Lib.hid (HU.out.trans (by first | exact h2 | exact ((Up.refl _).alloc _).trans h2)); clear h2)
          | fail)
        go_roundw
        case rel => exact ⟨k + 1, by omega, by go_num, U2.out, HE.out⟩
        case measure => simp [intOf]; omega
    · obtain rfl : k = l.length := by omega
      have HE : Hid (idx p l = -1) := idx_miss fun j h => HN.out j h h
      go_wp2
      go_ret
      exact ⟨by rw [HE.out]; rfl, HU.out⟩
set_option maxRecDepth 100000 in
set_option maxHeartbeats 1000000 in
theorem cf_A (tb : Nat) (p : Lk → Bool) (v : Value) (l : List Lk) (w : World) (hp : Tells 35 w tb p) (hs : Src w 4 v l.length (lkC l)) (hl : l.length ≤ 100000) :
    Calls Try.prog 34 #[v, .func (.func 35) #[] #[.pointer (some ⟨tb, 0, none⟩)]] w fun e w' => e = .returned (.bool (l.any p)) ∧ Up w w' := by
  have HIX := Lib.hid (ix_A tb p v l w hp hs hl)
  have HA := Lib.hid (idx_any p l)
  obtain ⟨a, cap, rfl⟩ := src_rn hs
  clear hs hp
  go_enter Try.func34, Try.ntmps34
  go_wp2_with (first
    | (go_at_call 26; refine HIX.out.mono ?_; rintro e w2 ⟨rfl, h2⟩; have H2 := Lib.hid h2; clear h2)
    | fail)
  go_ret
  exact ⟨ret_bool (by rw [← HA.out]), H2.out⟩
end Go.Proofs.Ytbimkciejfbodaa.Lk
