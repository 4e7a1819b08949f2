/- Strict two-phase locking is serializable: the walk. Printed by gen6/top5.py. -/
import Derived.Test.YtbimkciejfbodaaTpd
import Derived.Laws.MakeOwn
import Derived.Deep.CutRange
import Derived.Deep.RegionLawGrows
namespace Go.Proofs.Ytbimkciejfbodaa.Lk
open Go Go.RowKit Hp
open In (Hop hpC hp1)
set_option linter.unusedVariables false

theorem made_I (n : Nat) : madeCells #[.int .i64 0] n = (icI (List.replicate n 0)).toArray := by
  apply Array.toList_inj.1
  rw [toList_madeCells_one]
  unfold icI
  rw [List.map_replicate]
theorem made_B (n : Nat) : madeCells #[.bool false] n = (boV (List.replicate n false)).toArray := by
  apply Array.toList_inj.1
  rw [toList_madeCells_one]
  unfold boV
  rw [List.map_replicate]
theorem mkI (n : Nat) (h2 : n ≤ 1000) (w : World) : (Instr.makeSlice 23 (.int .i64 (n : Int)) (.int .i64 (n : Int))).run Try.prog w = .ok (.slice (some ⟨w.heap.size, 0, none⟩) n n) (w.alloc (.cells (icI (List.replicate n 0)).toArray 3)) := by
  obtain ⟨i0, hi, hz0, hz1, hz2⟩ := info_parts In.Try.infoI
  have h := run_make (P := Try.prog) w 23 3 i0 (.int .i64 0) Try.underlying23 hi hz0 .i64 .i64 (n : Int) (n : Int) (by omega) (Int.le_refl _) (by rw [hz2]; omega) (by omega)
  rw [hz1, Int.toNat_natCast, Nat.mul_one, show (Value.int .i64 0).cells = #[.int .i64 0] from rfl, made_I] at h
  exact h
theorem mkB (n : Nat) (h2 : n ≤ 1000) (w : World) : (Instr.makeSlice 27 (.int .i64 (n : Int)) (.int .i64 (n : Int))).run Try.prog w = .ok (.slice (some ⟨w.heap.size, 0, none⟩) n n) (w.alloc (.cells (boV (List.replicate n false)).toArray 4)) := by
  obtain ⟨i0, hi, hz0, hz1, hz2⟩ := info_parts In.Try.infoB
  have h := run_make (P := Try.prog) w 27 4 i0 (.bool false) Try.underlying27 hi hz0 .i64 .i64 (n : Int) (n : Int) (by omega) (Int.le_refl _) (by rw [hz2]; omega) (by omega)
  rw [hz1, Int.toNat_natCast, Nat.mul_one, show (Value.bool false).cells = #[.bool false] from rfl, made_B] at h
  exact h
theorem sm_start {w w1 : World} (h : OwnM w w1 w.heap.size ⟨[], []⟩ (fun k => k = w.heap.size)) (n : Nat) :
    SM w (((w1.alloc (.cells (icI (List.replicate n 0)).toArray 3)).alloc (.cells (boV (List.replicate n false)).toArray 4)).alloc (.cells #[.slice (some ⟨w1.heap.size + 1, 0, none⟩) n n] 27)) w.heap.size ⟨[], []⟩ (fun k => k = w.heap.size) n w1.heap.size (w1.heap.size + 1) (w1.heap.size + 2) (List.replicate n 0) (List.replicate n false) (.slice none 0 0) (.slice none 0 0) [] [] := by
  have hlt := h.man.lt _ rfl
  have hsz := h.upw.size
  obtain ⟨w2, hw2⟩ : ∃ x, x = w1.alloc (.cells (icI (List.replicate n 0)).toArray 3) := ⟨_, rfl⟩
  have b2 : Blk w2 w1.heap.size (icI (List.replicate n 0)) 3 := by rw [hw2]; exact Blk.new w1 _ _
  have u2 : Up w1 w2 := by rw [hw2]; exact (Up.refl _).alloc _
  have s2 : w2.heap.size = w1.heap.size + 1 := by rw [hw2]; simp
  rw [← hw2]
  obtain ⟨w3, hw3⟩ : ∃ x, x = w2.alloc (.cells (boV (List.replicate n false)).toArray 4) := ⟨_, rfl⟩
  have b3 : Blk w3 (w1.heap.size + 1) (boV (List.replicate n false)) 4 := by rw [hw3, ← s2]; exact Blk.new w2 _ _
  have u3 : Up w2 w3 := by rw [hw3]; exact (Up.refl _).alloc _
  have s3 : w3.heap.size = w1.heap.size + 2 := by rw [hw3]; simp [s2]
  rw [← hw3]
  have u4 : Up w3 (w3.alloc (.cells #[.slice (some ⟨w1.heap.size + 1, 0, none⟩) n n] 27)) := (Up.refl _).alloc _
  refine ⟨h.up ((u2.trans u3).trans u4), (b2.up u3).up u4, b3.up u4, by rw [← s3]; exact Blk.new w3 _ _, World.ownsRow_nil _ _ _ _, World.ownsRow_nil _ _ _ _, by omega, by omega, by omega, fun k hk => (by cases hk), fun k hk => (by cases hk), fun k hk => (by cases hk), by omega, by omega, by omega⟩
theorem rvmod_any (k m : Int) (w : World) (h0 : 0 < m) (h1 : m ≤ 1000000) : Calls Try.prog 11 #[.int .i64 k, .int .i64 m] w fun e w' => e = .returned (.int .i64 (modV k m)) ∧ w = w' := by
  have HD := Lib.hid (mod_eq k m h0 h1)
  go_enter Try.func11, Try.ntmps11
  go_wp2
  go_ret
  exact ⟨by simp [HD.out], rfl⟩
/-- The law's own blocks and a lock's box. -/
structure BS (w wr : World) (p : Nat) (M : Mg) (K : Nat → Prop) (n gn ga tb : Nat) (nx : List Int) (ab : List Bool) (hv cv : Value) (hi : List Hop) (co : List Int) (B : Nat) (l : Lk) : Prop where
  sm : SM w wr p M K n gn ga tb nx ab hv cv hi co
  lb : LB wr B l
  far : ¬ K B
  lo : w.heap.size ≤ B
  ng : B ≠ gn
  na : B ≠ ga
  nt : B ≠ tb
  nh : hv.ownBlock ≠ some B
  nc : cv.ownBlock ≠ some B
section
variable {w wr w' : World} {p : Nat} {M M' : Mg} {K : Nat → Prop} {n gn ga tb : Nat} {nx : List Int} {ab : List Bool} {hv cv : Value} {hi : List Hop} {co : List Int} {B : Nat} {l : Lk}
theorem BS.new (h : SM w wr p M K n gn ga tb nx ab hv cv hi co) (l : Lk) : BS w (wr.alloc (.cells #[.int .i64 l.tx, .string l.tab, .string l.key, .int .i64 l.mode] 33)) p M K n gn ga tb nx ab hv cv hi co wr.heap.size l :=
  ⟨h.up ((Up.refl wr).alloc _), LB.new wr l, fun e => by have := h.own.man.lt _ e; omega, h.own.upw.size, by have := h.nxr.lt; omega, by have := h.abr.lt; omega, by have := h.tbr.lt; omega, fun e => by have := own_lt h.hr _ e; omega, fun e => by have := own_lt h.cr _ e; omega⟩
theorem BS.up (h : BS w wr p M K n gn ga tb nx ab hv cv hi co B l) (hu : Up wr w') : BS w w' p M K n gn ga tb nx ab hv cv hi co B l := ⟨h.sm.up hu, h.lb.up hu, h.far, h.lo, h.ng, h.na, h.nt, h.nh, h.nc⟩
theorem BS.land (h : BS w wr p M K n gn ga tb nx ab hv cv hi co B l) (hl : Lands w wr w' p K M') : ∃ K', BS w w' p M' K' n gn ga tb nx ab hv cv hi co B l := by
  obtain ⟨K', h1, h2, h3⟩ := h.sm.land hl
  refine ⟨K', h1, Blk.chg h.lb h2 h.far, fun e => ?_, h.lo, h.ng, h.na, h.nt, h.nh, h.nc⟩
  rcases h3 B e with e | e
  · exact h.far e
  · have := Blk.lt h.lb; omega
theorem BS.put (h : BS w wr p M K n gn ga tb nx ab hv cv hi co B l) (i : Nat) (v : Value) : SM w (wr.setCell ⟨B, i, none⟩ v) p M K n gn ga tb nx ab hv cv hi co :=
  h.sm.chg (chg_set wr B i none v) (fun k hk e => h.far (e ▸ hk)) (fun k e => by rw [e]; exact h.lo) (fun e => h.ng e.symm) (fun e => h.na e.symm) (fun e => h.nt e.symm) (fun k hk e => h.nh (by rw [hk, e])) (fun k hk e => h.nc (by rw [hk, e]))
theorem BS.key (h : BS w wr p M K n gn ga tb nx ab hv cv hi co B l) (s : ByteArray) : BS w (wr.setCell ⟨B, 2, none⟩ (.string s)) p M K n gn ga tb nx ab hv cv hi co B { l with key := s } := ⟨h.put 2 _, Blk.set h.lb 2 _, h.far, h.lo, h.ng, h.na, h.nt, h.nh, h.nc⟩
theorem BS.mode (h : BS w wr p M K n gn ga tb nx ab hv cv hi co B l) (m : Int) : BS w (wr.setCell ⟨B, 3, none⟩ (.int .i64 m)) p M K n gn ga tb nx ab hv cv hi co B { l with mode := m } := ⟨h.put 3 _, Blk.set h.lb 3 _, h.far, h.lo, h.ng, h.na, h.nt, h.nh, h.nc⟩
theorem BS.cells (h : BS w wr p M K n gn ga tb nx ab hv cv hi co B l) : wr.cell? ⟨B, 0, none⟩ = some (.int .i64 l.tx) ∧ wr.cell? ⟨B, 1, none⟩ = some (.string l.tab) ∧ wr.cell? ⟨B, 2, none⟩ = some (.string l.key) ∧ wr.cell? ⟨B, 3, none⟩ = some (.int .i64 l.mode) ∧ B < wr.heap.size :=
  ⟨(Blk.at h.lb (i := 0) rfl).2, (Blk.at h.lb (i := 1) rfl).2, (Blk.at h.lb (i := 2) rfl).2, (Blk.at h.lb (i := 3) rfl).2, Blk.lt h.lb⟩
theorem BS.free (h : BS w wr p M K n gn ga tb nx ab hv cv hi co B l) : wr.frozen? ⟨B, 2, none⟩ = false ∧ wr.frozen? ⟨B, 3, none⟩ = false := ⟨Blk.free h.lb 2, Blk.free h.lb 3⟩
end
theorem SM.histRow {w wr : World} {p : Nat} {M : Mg} {K : Nat → Prop} {n gn ga tb m : Nat} {nx : List Int} {ab : List Bool} {hv cv : Value} {hi : List Hop} {co : List Int} (h : SM w wr p M K n gn ga tb nx ab hv cv hi co) (hm : hi.length = m) : wr.ownsRow w.heap.size 37 3 hv m (hpC hi) := by
  have := h.hr
  rw [hm] at this
  exact this
theorem cells_op (w : World) (t k : Int) (s : ByteArray) (g : Nat) (hg : w.heap.size = g) : ∀ (j : Nat) u, [Value.int .i64 t, .int .i64 k, .string s][j]? = some u → (w.alloc (.cells #[.int .i64 t, .int .i64 k, .string s] 37)).cell? ((⟨g, 0, none⟩ : Addr).add j) = some u := by
  subst hg
  exact cells_new w _ _
theorem pcells_at : ∀ (l : List (Int × Int)) (i : Nat) (h : i < l.length), (In.pcells l)[i * 2]? = some (.int .i64 l[i].1) ∧ (In.pcells l)[i * 2 + 1]? = some (.int .i64 l[i].2)
  | a :: l, 0, _ => by simp [In.pcells]
  | a :: l, i + 1, h => by
    have := pcells_at l i (by simpa using h)
    simp only [In.pcells, List.flatMap_cons, List.getElem_cons_succ] at this ⊢
    rw [List.getElem?_append_right (by simp; omega), List.getElem?_append_right (by simp; omega)]
    simpa [show (i + 1) * 2 - 2 = i * 2 by omega, show (i + 1) * 2 + 1 - 2 = i * 2 + 1 by omega] using this
theorem hw0_lies (w : World) : In.OpsO (w.alloc (.cells #[.int .i64 3, .int .i64 2, .string ⟨#[120]⟩, .int .i64 1, .int .i64 1, .string ⟨#[120]⟩] 37)) 0 (.slice (some ⟨w.heap.size, 0, none⟩) 2 2) In.hw0 :=
  In.own_base (own_of_blk (n := 2) (size := 3) (Blk.new w _ _) rfl (by omega)) (Nat.zero_le _)
theorem ints_own {w : World} {base : Nat} {v : Value} {l : List Int} (h : w.ownsRow base 3 1 v l.length (In.ic l)) : Ints w v l :=
  own_arr h fun g hg hc i hi => by
    have := hc (i * 1) (.int .i64 l[i]) (by simp [hi])
    exact this
theorem arr31 (w : World) : Ints (w.alloc (.cells #[.int .i64 3, .int .i64 1] 3)) (.slice (some ⟨w.heap.size, 0, none⟩) 2 2) [3, 1] :=
  ints_own (own_of_blk (n := 2) (size := 1) (Blk.new w _ _) rfl (by omega))
theorem TI.mono {n : Nat} {pr : Nat → List (Int × ByteArray)} {M : Mg} {ng mg : Nat} {nx : List Int} {ab : List Bool} {hi : List Hop} {co : List Int} {s : Nat} (h : TI n pr M ng nx ab hi co s) (hm : ng ≤ mg) : TI n pr M mg nx ab hi co s :=
  ⟨h.good.mono hm, h.shp, h.nl, h.al, h.rng, h.act, h.pot, h.al2, h.com, h.fin, h.hok, h.hl, h.lk, h.ord⟩
theorem cells_at1 (w : World) (v : Value) (E : TypeId) (g : Nat) (hg : w.heap.size = g) : ∀ (j : Nat) u, [v][j]? = some u → (w.alloc (.cells #[v] E)).cell? ((⟨g, 0, none⟩ : Addr).add j) = some u := by
  subst hg
  exact cells_new w #[v] E
/-- Who may go on. -/
def FreeT (M : Mg) (nx : List Int) (t : Nat) : Prop := 0 ≤ nx.getD t 0 ∧ ¬ Waits M (t : Int)
theorem free_some {n r : Nat} {M : Mg} {nx : List Int} (hn : 0 < n) (hr : r < n) (h : ∃ t, t < n ∧ FreeT M nx t) (hno : ∀ d, d < n → ¬ FreeT M nx ((r + d) % n)) : False := by
  obtain ⟨t, ht, hf⟩ := h
  refine hno ((t + n - r) % n) (Nat.mod_lt _ hn) ?_
  have e : (r + (t + n - r) % n) % n = t := by
    rw [Nat.add_mod, Nat.mod_mod, ← Nat.add_mod, show r + (t + n - r) = t + n by omega, Nat.add_mod_right, Nat.mod_eq_of_lt ht]
  rw [e]
  exact hf
set_option maxRecDepth 100000 in
set_option maxHeartbeats 16000000 in
theorem walk23 (a1 : Option Addr) (len1 cap1 : Nat) (A : Nat → Option Addr) (L C : Nat → Nat) (Z : Nat → List Int) (a2 : Option Addr) (len2 cap2 : Nat) (z2 : List Int) (w : World) (hP : PRow w a1 len1 A L C Z) (hl1 : len1 ≤ cap1) (hm1 : cap1 ≤ 9223372036854775807)
    (hE : Elems w a2 len2 z2) (hl : len2 ≤ cap2) (hm : cap2 ≤ 9223372036854775807) :
    Calls Try.prog 3 #[.slice a1 len1 cap1, .slice a2 len2 cap2] w fun e w' => e = .returned (.bool true) ∧ Up w w' := by
  have HP := Lib.hid hP
  have HE := Lib.hid hE
  clear hE hP
  obtain ⟨n, hmin, hn1, hn5⟩ : ∃ n : Nat, min (len1 : Int) 5 = (n : Int) ∧ n ≤ len1 ∧ n ≤ 5 := ⟨min len1 5, by omega, by omega, by omega⟩
  have hmin2 : (if (5 : Int) < (len1 : Int) then (5 : Int) else (len1 : Int)) = (n : Int) := by rw [← hmin]; split <;> omega
  have hcap : (n : Int) ≤ (cap1 : Int) := by omega
  have hmkI := mkI n (by omega)
  have hmkB := mkB n (by omega)
  go_enter Try.func3, Try.ntmps3
  go_wp2_with (first
    | (go_at_call 10; refine (new_any _).mono ?_; rintro e w1 ⟨rfl, h1⟩; have HS0 := Lib.hid (sm_start h1 n); clear h1)
    | fail)
  obtain ⟨gn, hgn⟩ : ∃ g, g = w1.heap.size := ⟨_, rfl⟩
  have HS1 : Hid (SM w (((w1.alloc (.cells (icI (List.replicate n 0)).toArray 3)).alloc (.cells (boV (List.replicate n false)).toArray 4)).alloc (.cells #[.slice (some ⟨gn + 1, 0, none⟩) n n] 27)) w.heap.size ⟨[], []⟩ (fun k => k = w.heap.size) n gn (gn + 1) (gn + 1 + 1) (List.replicate n 0) (List.replicate n false) (.slice none 0 0) (.slice none 0 0) [] []) := by rw [hgn]; exact HS0.out
  rw [← hgn]
  generalize ((w1.alloc (.cells (icI (List.replicate n 0)).toArray 3)).alloc (.cells (boV (List.replicate n false)).toArray 4)).alloc (.cells #[.slice (some ⟨gn + 1, 0, none⟩) n n] 27) = w4 at *
  obtain ⟨p, hp⟩ : ∃ p, p = w.heap.size := ⟨_, rfl⟩
  rw [← hp] at HS1 ⊢
  have HPP := Lib.hid hp
  clear hmkI hmkB hmin hmin2 HS0 hgn hp
  obtain ⟨i2, hi2, ha3, ha4, ha5⟩ := info_parts In.Try.infoI
  obtain ⟨i3, hi3, hb3, hb4, hb5⟩ := info_parts In.Try.infoO
  obtain ⟨pr, hpr⟩ : ∃ pr, pr = prog L Z := ⟨_, rfl⟩
  have HPR := Lib.hid hpr
  have HPZ : Hid (∀ (t j : Nat) (h : j < (pr t).length), (pr t)[j] = opX ((Z t).getD j 0)) := fun t j h => by
    subst hpr
    exact prog_at L Z t j h
  have HTI0 : Hid (TI n pr ⟨[], []⟩ (2 * 0) (List.replicate n 0) (List.replicate n false) [] [] 0) := TI.start hn5 fun t _ => by rw [hpr, prog_len]; exact Nat.min_le_right _ _
  have HE0 := Lib.hid (endN_rep n)
  clear hpr
  go_loopw [6, 7, 10, 11] (fun hv cv fv sv wr => ∃ (M : Mg) (K : Nat → Prop) (nx : List Int) (ab : List Bool) (hi : List Hop) (co : List Int) (s m1 m2 : Nat) (ha : Option Addr) (hc : Nat) (ca : Option Addr) (cc : Nat), s ≤ 65 ∧ m2 ≤ s ∧ hv = .slice ha m1 hc ∧ cv = .slice ca m2 cc ∧ fv = .int .i64 (endN nx n : Nat) ∧ sv = .int .i64 s ∧ Hid (hi.length = m1 ∧ co.length = m2) ∧ Hid (TI n pr M (2 * s) nx ab hi co s) ∧ Hid (SM w wr p M K n gn (gn + 1) (gn + 1 + 1) nx ab (.slice ha m1 hc) (.slice ca m2 cc) hi co)) (fun _ _ _ sv _ => 66 - (intOf sv).toNat)
  case atStart => exact ⟨_, _, _, _, [], [], 0, 0, 0, none, 0, none, 0, by omega, Nat.le_refl _, rfl, rfl, by rw [HE0.out]; rfl, rfl, ⟨rfl, rfl⟩, HTI0.out, HS1.out⟩
  case round =>
    clear HTI0 HS1 HE0
    obtain ⟨M, K, nx, ab, hi, co, s, m1, m2, ha, hc, ca, cc, hs65, hm2s, rfl, rfl, rfl, rfl, HLN, HTI, HSM⟩ := hrel
    obtain ⟨f, hf⟩ : ∃ f, f = endN nx n := ⟨_, rfl⟩
    have HF := Lib.hid hf
    rw [← hf]
    clear hf
    have hs1 : (s : Int) ≤ 65 := by omega
    have hs2 : ¬ (1000 : Int) < (s : Int) := by omega
    by_cases hlt : f < n
    · have hlti : (f : Int) < (n : Int) := by omega
      have hn0 : 0 < n := by omega
      have HFREE : Hid (∃ t, t < n ∧ FreeT M nx t) := by
        obtain ⟨t0, h1, h2⟩ := endN_lt (by rw [← HF.out]; exact hlt : endN nx n < n)
        exact HTI.out.free h1 (by
          rcases HTI.out.rng t0 h1 with e | ⟨j, e, _⟩
          · exact absurd e h2
          · omega)
      obtain ⟨wo, rfl⟩ : ∃ x, x = wr := ⟨_, rfl⟩
      go_upto_if 56 with fail
      go_cut [12] from 53 to 60 (fun s12 wx => wx = wo ∧ ∃ x : Int, s12 = .int .i64 x)
      case first =>
        by_cases hlc : s < len2
        · have hlci : (s : Int) < (len2 : Int) := by omega
          obtain ⟨b, off, rfl, hbl, hcl⟩ := (elems_up HE.out HSM.out.own.upw) s hlc
          generalize z2.getD s 0 = x at *
          go_wp2
          go_meet
          exact ⟨rfl, _, rfl⟩
        · have hlci : ¬ (s : Int) < (len2 : Int) := by omega
          go_wp2
          go_meet
          exact ⟨rfl, _, rfl⟩
      case rest =>
        obtain ⟨hwc, x, rfl⟩ := hcut
        subst hwc
        obtain ⟨r, hr⟩ := Int.eq_ofNat_of_zero_le (modV_nonneg x (n : Int) (by omega))
        have hrn : r < n := by have := modV_lt x (n : Int) (by omega); omega
        have HMOD : Hid (∀ W, Calls Try.prog 11 #[.int .i64 x, .int .i64 (n : Int)] W fun e w' => e = .returned (.int .i64 (r : Int)) ∧ W = w') := fun W => by
          have := rvmod_any x (n : Int) W (by omega) (by omega)
          rw [hr] at this
          exact this
        clear hr
        go_wp2
        go_loopw [13, 63] (fun tv dv wr => ∃ d : Nat, d ≤ n ∧ dv = .int .i64 d ∧ Hid (Up wc wr) ∧ ((tv = .int .i64 (-1) ∧ Hid (∀ d', d' < d → ¬ FreeT M nx ((r + d') % n))) ∨ ∃ t : Nat, tv = .int .i64 t ∧ t < n ∧ Hid (FreeT M nx t))) (fun _ dv _ => n - (intOf dv).toNat)
        case atStart => exact ⟨0, by omega, rfl, Up.refl _, .inl ⟨rfl, fun d' h => by omega⟩⟩
        case round =>
          obtain ⟨d, hdn, rfl, HUI, hst⟩ := hrel
          obtain ⟨wi, rfl⟩ : ∃ x, x = wr := ⟨_, rfl⟩
          have HSI := Lib.hid (HSM.out.up HUI.out)
          by_cases hd : d < n
          · have hdi : (d : Int) < (n : Int) := by omega
            obtain ⟨c, hc'⟩ : ∃ c, c = (r + d) % n := ⟨_, rfl⟩
            have hcn : c < n := by rw [hc']; exact Nat.mod_lt _ hn0
            have hci : (c : Int) < (n : Int) := by omega
            have htm : ((r : Int) + (d : Int)).tmod (n : Int) = (c : Int) := by rw [Int.tmod_eq_emod_of_nonneg (by omega), hc']; norm_cast
            have HC := Lib.hid hc'
            have k8 := HSI.out.nxr.cell c
            rw [icI_getD nx (by rw [HTI.out.nl]; exact hcn)] at k8
            have l8 := HSI.out.nxr.lt
            obtain ⟨y, hy⟩ : ∃ y, y = nx.getD c 0 := ⟨_, rfl⟩
            have HY := Lib.hid hy
            rw [← hy] at k8
            have HWT := Lib.hid (waitsO HSI.out.own HTI.out.good (by omega) (c : Int))
            clear hc' hy
            have KEEP : Hid (¬ FreeT M nx c → (∀ d', d' < d → ¬ FreeT M nx ((r + d') % n)) → ∀ d', d' < d + 1 → ¬ FreeT M nx ((r + d') % n)) := fun h1 h2 d' hd' => by
              rcases Nat.lt_or_ge d' d with e | e
              · exact h2 d' e
              · obtain rfl : d' = d := by omega
                rw [← HC.out]; exact h1
            by_cases hw : Waits M (c : Int)
            · have HW2 := Lib.hid (HWT.out.mono fun e w' h => waits_yes h HTI.out.good hw)
              have HNF : Hid (¬ FreeT M nx c) := fun h => h.2 hw
              clear hw
              rcases hst with ⟨rfl, HNO⟩ | ⟨t, rfl, ht, HFT⟩
              · by_cases hy0 : 0 ≤ y
                · go_wp2_with (first
                    | (go_at_call 11; with_reducible refine (HMOD.out _).mono ?_; rintro e w8 ⟨rfl, rfl⟩)
                    | (go_at_call 12; refine HW2.out.mono ?_; rintro e w8 ⟨v8, u8, L8, rfl, h1, h2, h3⟩; have U8 := Lib.hid h2; have k9 := (h2.cell (p := ⟨gn, c, none⟩) l8).trans k8; clear h1 h2 h3)
                    | fail)
                  go_roundw
                  case rel => exact ⟨d + 1, by omega, by go_num, HUI.out.trans U8.out, .inl ⟨rfl, KEEP.out HNF.out HNO.out⟩⟩
                  case measure => simp [intOf]; omega
                · go_wp2_with (first
                    | (go_at_call 11; with_reducible refine (HMOD.out _).mono ?_; rintro e w8 ⟨rfl, rfl⟩)
                    | (go_at_call 12; refine HW2.out.mono ?_; rintro e w8 ⟨v8, u8, L8, rfl, h1, h2, h3⟩; have U8 := Lib.hid h2; have k9 := (h2.cell (p := ⟨gn, c, none⟩) l8).trans k8; clear h1 h2 h3)
                    | fail)
                  go_roundw
                  case rel => exact ⟨d + 1, by omega, by go_num, HUI.out.trans U8.out, .inl ⟨rfl, KEEP.out HNF.out HNO.out⟩⟩
                  case measure => simp [intOf]; omega
              · have htz : ¬ (t : Int) < 0 := by omega
                go_wp2_with (first
                    | (go_at_call 11; with_reducible refine (HMOD.out _).mono ?_; rintro e w8 ⟨rfl, rfl⟩)
                    | (go_at_call 12; refine HW2.out.mono ?_; rintro e w8 ⟨v8, u8, L8, rfl, h1, h2, h3⟩; have U8 := Lib.hid h2; clear h1 h2 h3)
                    | fail)
                go_roundw
                case rel => exact ⟨d + 1, by omega, by go_num, HUI.out.trans U8.out, .inr ⟨t, rfl, ht, HFT.out⟩⟩
                case measure => simp [intOf]; omega
            · have HW2 := Lib.hid (HWT.out.mono fun e w' h => waits_no h hw)
              have HNW := Lib.hid hw
              clear hw
              rcases hst with ⟨rfl, HNO⟩ | ⟨t, rfl, ht, HFT⟩
              · by_cases hy0 : 0 ≤ y
                · have HFC : Hid (FreeT M nx c) := ⟨by rw [← HY.out]; exact hy0, HNW.out⟩
                  go_wp2_with (first
                    | (go_at_call 11; with_reducible refine (HMOD.out _).mono ?_; rintro e w8 ⟨rfl, rfl⟩)
                    | (go_at_call 12; refine HW2.out.mono ?_; rintro e w8 ⟨rfl, h2⟩; have U8 := Lib.hid h2; have k9 := (h2.cell (p := ⟨gn, c, none⟩) l8).trans k8; clear h2)
                    | fail)
                  go_roundw
                  case rel => exact ⟨d + 1, by omega, by go_num, HUI.out.trans U8.out, .inr ⟨c, rfl, hcn, HFC.out⟩⟩
                  case measure => simp [intOf]; omega
                · have HNF : Hid (¬ FreeT M nx c) := fun h => hy0 (by rw [HY.out]; exact h.1)
                  go_wp2_with (first
                    | (go_at_call 11; with_reducible refine (HMOD.out _).mono ?_; rintro e w8 ⟨rfl, rfl⟩)
                    | (go_at_call 12; refine HW2.out.mono ?_; rintro e w8 ⟨rfl, h2⟩; have U8 := Lib.hid h2; have k9 := (h2.cell (p := ⟨gn, c, none⟩) l8).trans k8; clear h2)
                    | fail)
                  go_roundw
                  case rel => exact ⟨d + 1, by omega, by go_num, HUI.out.trans U8.out, .inl ⟨rfl, KEEP.out HNF.out HNO.out⟩⟩
                  case measure => simp [intOf]; omega
              · have htz : ¬ (t : Int) < 0 := by omega
                go_wp2_with (first
                    | (go_at_call 11; with_reducible refine (HMOD.out _).mono ?_; rintro e w8 ⟨rfl, rfl⟩)
                    | (go_at_call 12; refine HW2.out.mono ?_; rintro e w8 ⟨rfl, h2⟩; have U8 := Lib.hid h2; clear h2)
                    | fail)
                go_roundw
                case rel => exact ⟨d + 1, by omega, by go_num, HUI.out.trans U8.out, .inr ⟨t, rfl, ht, HFT.out⟩⟩
                case measure => simp [intOf]; omega
          · obtain rfl : n = d := by omega
            rcases hst with ⟨rfl, HNO⟩ | ⟨t, rfl, ht, HFT⟩
            · exact (free_some hn0 hrn HFREE.out HNO.out).elim
            · have hti : (t : Int) < (n : Int) := by omega
              have htz : ¬ (t : Int) < 0 := by omega
              obtain ⟨j, hj, hjl⟩ : ∃ j : Nat, nx.getD t 0 = (j : Int) ∧ j ≤ (pr t).length := by
                rcases HTI.out.rng t ht with e | e
                · have := HFT.out.1; omega
                · exact e
              have hpl : (pr t).length = min (L t) 6 := by rw [HPR.out, prog_len]
              obtain ⟨b, off, rfl, hrl, hrow⟩ := (HP.out.up HSI.out.own.upw).at_ t (by omega)
              obtain ⟨hLC, hC9⟩ := HP.out.lc t (by omega)
              obtain ⟨m, hmm⟩ : ∃ m, m = min (L t) 6 := ⟨_, rfl⟩
              rw [← hmm] at hpl
              have hmL : m ≤ L t ∧ m ≤ 6 := by omega
              have hminL : min (L t : Int) 6 = (m : Int) := by omega
              have hminL2 : (if (6 : Int) < (L t : Int) then (6 : Int) else (L t : Int)) = (m : Int) := by rw [← hminL]; split <;> omega
              have hmC : (m : Int) ≤ (C t : Int) := by omega
              have k8 := HSI.out.nxr.cell t
              rw [icI_getD nx (by rw [HTI.out.nl]; exact ht), hj] at k8
              have l8 := HSI.out.nxr.lt
              have HJ := Lib.hid hj
              have HPL := Lib.hid hpl
              have HELT := Lib.hid ((HP.out.up HSI.out.own.upw).el t (by omega))
              rw [hpl] at hjl
              clear hj hpl hmm
              generalize hAt : A t = At at *
              generalize hCt : C t = Ct at *
              obtain ⟨Lt, hLt⟩ : ∃ Lt, Lt = L t := ⟨_, rfl⟩
              rw [← hLt] at hrow hmL hminL hminL2 hLC HELT
              clear hAt hCt hLt
              go_upto_region 27 with fail
              go_quiet (fail)
              have HSQ := Lib.hid (HSI.out.up (Up.drewN (Up.refl wi) nq))
              replace k8 := ((Up.drewN (Up.refl wi) nq).cell (p := ⟨gn, t, none⟩) l8).trans k8
              have HELQ := Lib.hid (elems_up HELT.out (Up.drewN (Up.refl wi) nq))
              have l9 : gn < (wi.drewN nq).heap.size := by simpa using l8
              generalize wi.drewN nq = wq at *
              clear HSI HELT HUI l8 hrow hrl hminL hminL2
              have f8 := HSQ.out.nxr.free t
              by_cases hjm : j < m
              · have hjmi : ¬ (j : Int) = (m : Int) := by omega
                have hjm2 : (j : Int) < (m : Int) := by omega
                obtain ⟨b3, off3, rfl, hb3l, hel⟩ := HELQ.out j (by omega)
                have hpz := HPZ.out t j (by rw [HPL.out]; exact hjm)
                generalize (Z t).getD j 0 = z at *
                obtain ⟨md, hmd⟩ := Int.eq_ofNat_of_zero_le (modV_nonneg z 2 (by decide))
                have hmd2 : md < 2 := by have := modV_lt z 2 (by decide); omega
                obtain ⟨q, hq⟩ := Int.eq_ofNat_of_zero_le (modV_nonneg (wrap64 (z.tdiv 2)) 4 (by decide))
                have hq4 : q < 4 := by have := modV_lt (wrap64 (z.tdiv 2)) 4 (by decide); omega
                have hopx : opX z = (1 + (md : Int), Hp.one (97 + (q : Int))) := by unfold opX; rw [hmd, hq]
                rw [hopx] at hpz
                have HM2 : Hid (∀ W, Calls Try.prog 11 #[.int .i64 z, .int .i64 2] W fun e w' => e = .returned (.int .i64 (md : Int)) ∧ W = w') := fun W => by
                  have := rvmod_any z 2 W (by decide) (by decide)
                  rw [hmd] at this
                  exact this
                have HM4 : Hid (∀ W, Calls Try.prog 11 #[.int .i64 (wrap64 (z.tdiv 2)), .int .i64 4] W fun e w' => e = .returned (.int .i64 (q : Int)) ∧ W = w') := fun W => by
                  have := rvmod_any (wrap64 (z.tdiv 2)) 4 W (by decide) (by decide)
                  rw [hq] at this
                  exact this
                have hmdi : (md : Int) < 2 := by omega
                have hqi : (q : Int) < 4 := by omega
                have hwq : IntKind.u8.wrap (q : Int) = (q : Int) := by rw [IntKind.wrap_u8]; omega
                have hwr : IntKind.u8.wrap (97 + (q : Int)) = 97 + (q : Int) := by rw [IntKind.wrap_u8]; omega
                have HTWO := HTI.out.two (by omega) ht hn5 HJ.out (by rw [HPL.out]; exact hjm) HFT.out.2 (1 + (md : Int)) (Hp.one (97 + (q : Int))) hpz (by omega) (by omega) (by simp [Hp.one, ByteArray.size, ByteArray.push])
                obtain ⟨M1, e1, g1, r2, M2, e2, g2', hcase⟩ := HTWO
                have hng : 2 * s + 1 ≤ 900 := by omega
                have HV1 : Hid (Valid ⟨(t : Int), tT, ByteArray.empty, 1 + (md : Int) + 2⟩) := tT_valid (by omega) (by omega) (by omega) (by omega)
                have HV2 : Hid (Valid ⟨(t : Int), tT, Hp.one (97 + (q : Int)), 1 + (md : Int)⟩) := ⟨by show 0 ≤ (t : Int); omega, by show (t : Int) < 20; omega, by show 1 ≤ 1 + (md : Int); omega, by show 1 + (md : Int) ≤ 4; omega, fun _ => by show 1 + (md : Int) ≤ 2; omega, show tT.size ≠ 0 by decide, show tT.size ≤ 24 by decide, by show (Hp.one (97 + (q : Int))).size ≤ 24; simp [Hp.one, ByteArray.size, ByteArray.push]⟩
                have HA1 : Hid (∀ W K, OwnM w W p M K → Calls Try.prog 14 #[.pointer (some ⟨p, 0, none⟩), .agg #[.int .i64 (t : Int), .string ⟨#[116]⟩, .string ⟨#[]⟩, .int .i64 (1 + (md : Int) + 3 - 1)]] W fun e w' => e = .returned (.int .i64 0) ∧ Lands w W w' p K M1) := fun W K h => by
                  have := acqO h HTI.out.good (by omega) HV1.out
                  rw [e1] at this
                  rw [show 1 + (md : Int) + 3 - 1 = 1 + (md : Int) + 2 by omega]
                  exact this
                have HA2 : Hid (∀ W K, OwnM w W p M1 K → Calls Try.prog 14 #[.pointer (some ⟨p, 0, none⟩), .agg #[.int .i64 (t : Int), .string ⟨#[116]⟩, .string (Hp.one (97 + (q : Int))), .int .i64 (1 + (md : Int))]] W fun e w' => e = .returned (.int .i64 r2) ∧ Lands w W w' p K M2) := fun W K h => by
                  have := acqO h g1 (by omega) HV2.out
                  rw [e2] at this
                  exact this
                have HG1 := Lib.hid g1
                have HG2 := Lib.hid g2'
                have BS5 := Lib.hid (BS.new HSQ.out ⟨(t : Int), ⟨#[116]⟩, ⟨#[]⟩, 1 + (md : Int) + 3 - 1⟩)
                dsimp only at BS5
                have hcv := conv1 (P := Try.prog) 35 9 5 Try.underlying35 Try.underlying5 Try.underlying9
                clear hmd hq hopx hpz e1 e2 g1 g2'
                go_upto_region 36 with (first
                  | (go_at_call 11; with_reducible refine (HM2.out _).mono ?_; rintro e w8 ⟨rfl, rfl⟩)
                  | fail)
                obtain ⟨B, hB⟩ : ∃ B, B = wq.heap.size := ⟨_, rfl⟩
                rw [← hB] at BS5 ⊢
                generalize wq.alloc (.cells #[.int .i64 (t : Int), .string ⟨#[116]⟩, .string ⟨#[]⟩, .int .i64 (1 + (md : Int) + 3 - 1)] 33) = w5 at *
                clear hB HSQ k8 f8 l9 hel hb3l HELQ
                obtain ⟨x0, x1, x2, x3, xl⟩ := BS5.out.cells
                dsimp only at x0 x1 x2 x3
                go_upto_region 39 with (first
                  | (go_at_call 11; with_reducible refine (HM4.out _).mono ?_; rintro e w8 ⟨rfl, rfl⟩)
                  | (go_at_call 14; refine (HA1.out _ K BS5.out.sm.own).mono ?_; rintro e w6 ⟨rfl, h1⟩
                     obtain ⟨K6, B6⟩ := BS5.out.land h1
                     obtain ⟨y0, y1, y2, y3, yl⟩ := B6.cells
                     obtain ⟨yf2, yf3⟩ := B6.free
                     dsimp only at y0 y1 y2 y3
                     have HB6 := Lib.hid B6
                     clear h1 B6 x0 x1 x2 x3 xl)
                  | fail)
                have BS7 := Lib.hid (((HB6.out.key (Hp.one (97 + (q : Int)))).mode (1 + (md : Int))).up ((Up.refl _).alloc (.cells #[.int .u8 (97 + (q : Int))] 5)))
                dsimp only at BS7
                generalize ((w6.setCell ⟨B, 2, none⟩ (.string (Hp.one (97 + (q : Int))))).setCell ⟨B, 3, none⟩ (.int .i64 (1 + (md : Int)))).alloc (.cells #[.int .u8 (97 + (q : Int))] 5) = w7 at *
                clear y0 y1 y2 y3 yl yf2 yf3 HB6 hcv
                obtain ⟨x0, x1, x2, x3, xl⟩ := BS7.out.cells
                dsimp only at x0 x1 x2 x3
                have HKY : Hid ((Hp.one (97 + (q : Int))).size = 1) := by simp [Hid, Hp.one, ByteArray.size, ByteArray.push]
                obtain ⟨ky, hky⟩ : ∃ ky, ky = Hp.one (97 + (q : Int)) := ⟨_, rfl⟩
                rw [← hky] at HA2 hcase BS7 x2 HKY
                have hmo : ∃ mo : Int, mo = 1 + (md : Int) := ⟨_, rfl⟩
                obtain ⟨mo, hmo⟩ := hmo
                rw [← hmo] at HA2 hcase BS7 x3 ⊢
                clear hky hmo
                rcases hcase with ⟨rfl, HT3⟩ | ⟨rfl, HT3⟩ | ⟨rfl, hM21, HT3⟩
                · have HTI3 := Lib.hid (HT3.mono (show 2 * s + 2 ≤ 2 * (s + 1) by omega))
                  have HEN := Lib.hid (endN_put HTI.out.nl ht HFT.out.1 (v := (j : Int) + 1) (by omega))
                  have hm1s : m1 ≤ s := by rw [← HLN.out.1]; exact HTI.out.hl
                  have hwj : IntKind.i64.wrap ((j : Int) + 1) = (j : Int) + 1 := by rw [IntKind.wrap_i64]; omega
                  clear HT3
                  go_wp2_with (first
                    | (at_builtin; refine wpList_append_lies _ rfl (.tmp 162) (.tmp 168) 26 rfl w.heap.size 37 i3 (.agg #[.int .i64 0, .int .i64 0, .string ByteArray.empty]) 3 32 Try.underlying26 hi3 hb3 hb4 hb5 rfl (by decide) (.slice ha m1 hc) m1 (hpC hi) rfl (own_up (HS8.out.histRow HLN.out.1) ((Up.refl _).alloc _)) ⟨w8.heap.size, 0, none⟩ 1 1 [.int .i64 (t : Int), .int .i64 mo, .string ky] rfl rfl (cells_op _ (t : Int) mo ky _ rfl) (by intro u hu; simp at hu; rcases hu with rfl | rfl | rfl <;> rfl) (by decide) (by unfold maxLen; omega) (by omega) (by have := HS8.out.own.upw.size; simp; omega) (w8.heap.size + 1) (by simp) ?_
                       intro g2 c2 w9 hown2 hgrow2 hat2 hlt2
                       have S9 := (HS8.out.up ((Up.refl w8).alloc _)).hist (x := ⟨t, mo, ky⟩) HLN.out.1 hown2 hgrow2 (hat2.imp id fun e => by rw [e]; simp)
                       have k9 := S9.nxr.cell t
                       rw [icI_getD nx (by rw [HTI.out.nl]; exact ht), HJ.out] at k9
                       have f9 := S9.nxr.free t
                       have l9 := S9.nxr.lt
                       have HS9 := Lib.hid S9
                       clear hown2 hgrow2 hat2 hlt2 S9)
                    | (go_at_call 14; refine (HA2.out _ K6 BS7.out.sm.own).mono ?_; rintro e w8 ⟨rfl, h1⟩
                       obtain ⟨K8, B8⟩ := BS7.out.land h1
                       obtain ⟨y0, y1, y2, y3, yl⟩ := B8.cells
                       dsimp only at y0 y1 y2 y3
                       have HS8 := Lib.hid B8.sm
                       clear h1 B8 x0 x1 x2 x3 xl)
                    | fail)
                  go_roundw
                  case rel => exact ⟨M2, K8, nx.set t ((j : Int) + 1), ab, hi ++ [(⟨t, mo, ky⟩ : Hop)], co, s + 1, m1 + 1, m2, some ⟨g2, 0, none⟩, c2, ca, cc, by have := HTI3.out.few; omega, by omega, rfl, rfl, by rw [HEN.out, HF.out], by go_num, ⟨by rw [List.length_append, HLN.out.1]; rfl, HLN.out.2⟩, HTI3.out, HS9.out.next t ((j : Int) + 1)⟩
                  case measure => simp [intOf]; have := HTI3.out.few; omega
                · have HTI3 := Lib.hid (HT3.mono (show 2 * s + 2 ≤ 2 * (s + 1) by omega))
                  clear HT3
                  go_wp2_with (first
                    | (go_at_call 14; refine (HA2.out _ K6 BS7.out.sm.own).mono ?_; rintro e w8 ⟨rfl, h1⟩
                       obtain ⟨K8, B8⟩ := BS7.out.land h1
                       obtain ⟨y0, y1, y2, y3, yl⟩ := B8.cells
                       dsimp only at y0 y1 y2 y3
                       have HS8 := Lib.hid B8.sm
                       clear h1 B8 x0 x1 x2 x3 xl)
                    | fail)
                  go_roundw
                  case rel => exact ⟨M2, K8, nx, ab, hi, co, s + 1, m1, m2, ha, hc, ca, cc, by have := HTI3.out.few; omega, by omega, rfl, rfl, by rw [HF.out], by go_num, HLN.out, HTI3.out, HS8.out⟩
                  case measure => simp [intOf]; have := HTI3.out.few; omega
                · have HTI3 := Lib.hid (HT3.mono (show 2 * s + 2 ≤ 2 * (s + 1) by omega))
                  have HEN := Lib.hid (endN_set HTI.out.nl ht HFT.out.1)
                  clear HT3
                  go_wp2_with (first
                    | (go_at_call 13; refine (relO ((HS8.out.abrt t true).next t (-1)).own (hM21 ▸ HG1.out) (by omega) (by omega) (by omega)).mono ?_; rintro e w10 ⟨v10, rfl, h1, K10, h2, h3, h4, h5⟩
                       have HS10 := Lib.hid (((HS8.out.abrt t true).next t (-1)).land ⟨K10, h2, h3, h4⟩)
                       clear h1 h2 h3 h4 h5)
                    | (go_at_call 14; refine (HA2.out _ K6 BS7.out.sm.own).mono ?_; rintro e w8 ⟨rfl, h1⟩
                       obtain ⟨K8, B8⟩ := BS7.out.land h1
                       have HS8 := Lib.hid B8.sm
                       have k9 := B8.sm.nxr.cell t
                       rw [icI_getD nx (by rw [HTI.out.nl]; exact ht), HJ.out] at k9
                       have f9 := B8.sm.nxr.free t
                       have l9 := B8.sm.nxr.lt
                       have k7 := B8.sm.abr.cell t
                       rw [boV_get ab (by rw [HTI.out.al]; exact ht)] at k7
                       have f7 := B8.sm.abr.free t
                       have l7 := B8.sm.abr.lt
                       obtain ⟨l6, k6⟩ := Blk.at B8.sm.tbr (i := 0) rfl
                       clear h1 B8 x0 x1 x2 x3 xl)
                    | fail)
                  go_roundw
                  case rel =>
                    obtain ⟨K11, S11, _, _⟩ := HS10.out
                    subst hM21
                    exact ⟨_, K11, nx.set t (-1), ab.set t true, hi, co, s + 1, m1, m2, ha, hc, ca, cc, by have := HTI3.out.few; omega, by omega, rfl, rfl, by rw [HEN.out, HF.out]; go_num, by go_num, HLN.out, HTI3.out, S11⟩
                  case measure => simp [intOf]; have := HTI3.out.few; omega
              · obtain rfl : j = m := by omega
                have HTI2 := Lib.hid ((HTI.out.commit ht HFT.out.1).mono (show 2 * s ≤ 2 * (s + 1) by omega))
                have HEN := Lib.hid (endN_set HTI.out.nl ht HFT.out.1)
                have HCO : Hid (wq.ownsRow w.heap.size 3 1 (.slice ca m2 cc) m2 (icI co)) := by
                  have := HSQ.out.cr
                  rw [HLN.out.2] at this
                  exact this
                have hbs : w.heap.size ≤ wq.heap.size := HSQ.out.own.upw.size
                go_wp2_with (first
                  | (at_builtin; refine wpList_append_lies _ rfl (.tmp 116) (.tmp 118) 23 rfl w.heap.size 3 i2 (.int .i64 0) 1 8 Try.underlying23 hi2 ha3 ha4 ha5 rfl (by decide) (.slice ca m2 cc) m2 (icI co) rfl (own_up HCO.out ((Up.refl _).alloc _)) ⟨wq.heap.size, 0, none⟩ 1 1 [.int .i64 (t : Int)] rfl rfl (cells_at1 _ _ _ _ rfl) (by intro u hu; simp at hu; subst hu; rfl) (by decide) (by unfold maxLen; omega) (by omega) (by simp; omega) (wq.heap.size + 1) (by simp) ?_
                     intro g2 c2 w8 hown2 hgrow2 hat2 hlt2
                     have S8 := (HSQ.out.up ((Up.refl wq).alloc _)).comm HLN.out.2 hown2 hgrow2 (hat2.imp id fun e => by rw [e]; simp)
                     have k9 := S8.nxr.cell t
                     rw [icI_getD nx (by rw [HTI.out.nl]; exact ht), HJ.out] at k9
                     have f9 := S8.nxr.free t
                     have l10 := S8.nxr.lt
                     have HS8 := Lib.hid S8
                     clear hown2 hgrow2 hat2 hlt2 S8)
                  | (go_at_call 13; refine (relO (HS8.out.next t (-1)).own HTI.out.good (by omega) (by omega) (by omega)).mono ?_; rintro e w10 ⟨v10, rfl, h1, K10, h2, h3, h4, h5⟩
                     have HS10 := Lib.hid ((HS8.out.next t (-1)).land ⟨K10, h2, h3, h4⟩)
                     clear h1 h2 h3 h4 h5)
                  | fail)
                go_roundw
                case rel =>
                  obtain ⟨K11, S11, _, _⟩ := HS10.out
                  exact ⟨_, K11, nx.set t (-1), ab, hi, co ++ [(t : Int)], s + 1, m1, m2 + 1, ha, hc, some ⟨g2, 0, none⟩, c2, by have := HTI2.out.few; omega, by omega, rfl, rfl, by rw [HEN.out, HF.out]; go_num, by go_num, ⟨HLN.out.1, by rw [List.length_append, HLN.out.2]; rfl⟩, HTI2.out, S11⟩
                case measure => simp [intOf]; have := HTI2.out.few; omega
    · have hnlt : ¬ (f : Int) < (n : Int) := by omega
      have HALL := endN_all (by rw [← HF.out]; omega : n ≤ endN nx n)
      have HDN := HTI.out.done hn5 HALL
      obtain ⟨wo, rfl⟩ : ∃ x, x = wr := ⟨_, rfl⟩
      have HTB : In.TB wo (gn + 1 + 1) (gn + 1) ab := ⟨by rw [HTI.out.al]; exact Blk.at HSM.out.tbr (i := 0) rfl, fun i hi' => HSM.out.abr.at (boV_get ab hi')⟩
      have HCV : In.CvS ab hi := fun c hc' => by rw [HTI.out.al]; exact (HTI.out.hok c hc').1
      have hrt := own_ty HSM.out.hr
      have HDF := Lib.hid (In.delf_any (gn + 1 + 1) (gn + 1) ab w.heap.size (.slice ha m1 hc) hi wo HTB ⟨fun e => (hrt _ e).1.ne (by decide) (blk_ty HSM.out.tbr), fun e => (hrt _ e).1.ne (by decide) (blk_ty HSM.out.abr)⟩ HSM.out.hr HCV (by have := HTI.out.hl; omega))
      obtain ⟨H, hH⟩ : ∃ H, H = In.keepC ab hi := ⟨_, rfl⟩
      have HKH := Lib.hid hH
      rw [← hH] at HDN
      have HVH := Lib.hid HDN.ok
      obtain ⟨res, hres⟩ := HDN.ord
      have HRES := Lib.hid hres
      obtain ⟨E, hE⟩ : ∃ E, E = In.cgr (In.cfN H H.length) 20 := ⟨_, rfl⟩
      have HEG := HDN.edge
      rw [← hE] at HEG
      have HEE := Lib.hid hE
      have HED := Lib.hid HEG
      have hEl : E.length ≤ 400 := by rw [hE]; exact In.cgr_len _ 20
      have hco100 : m2 ≤ 65 := by omega
      clear HALL HDN HTB HCV hrt hH hres hE HEG
      go_wp2_with (first
        | (go_at_call 17; refine (In.graph_any _ H _ (In.hops_own HH5.out) HVH.out).mono ?_; rintro e w6 ⟨v6, rfl, h1, h2⟩
           rw [← HEE.out] at h1
           obtain ⟨ea, ec, rfl, hx1, hx2, hx3⟩ := own_form h1
           have HG6 := Lib.hid h1
           have V6 := Lib.hid h2
           clear h1 h2 hx1 hx2 hx3)
        | (go_at_call 15; refine HDF.out.mono ?_; rintro e w5 ⟨v5, rfl, h1, h2, h3⟩
           rw [← HKH.out] at h1
           obtain ⟨va, vc, rfl, hx1, hx2, hx3⟩ := own_form h1
           have HH5 : Hid (In.OpsO w5 w.heap.size (.slice va H.length vc) H) := h1
           have V5 : Hid (Up w w5) := ((HSM.out.own.upw.chg _).trans h2 fun _ _ e => e).up fun k hk e => by have := ((own_ty HSM.out.hr) k e).2; omega
           have HC5 : Hid (w5.ownsRow w.heap.size 3 1 (.slice ca m2 cc) m2 (icI co)) := by
             have := own_chg HSM.out.cr h2 fun k hk e => ((own_ty HSM.out.cr) k hk).1.ne (by decide) ((own_ty HSM.out.hr) k e).1
             rw [HLN.out.2] at this
             exact this
           clear h1 h2 h3 hx1 hx2 hx3)
        | fail)
      go_loopw [203] (fun iv wr => ∃ e : Nat, e ≤ E.length ∧ iv = .int .i64 e ∧ Hid (Up w6 wr)) (fun iv _ => E.length - (intOf iv).toNat)
      case atStart => exact ⟨0, by omega, rfl, Up.refl _⟩
      case round =>
        obtain ⟨e, he, rfl, HU⟩ := hrel
        obtain ⟨wi, rfl⟩ : ∃ x, x = wr := ⟨_, rfl⟩
        by_cases hlt2 : e < E.length
        · have hei : (e : Int) < (E.length : Int) := by omega
          obtain ⟨g6, c6, hs6, hb6, hb7, hl6, hc6, _⟩ := own_some (own_up HG6.out HU.out) (by omega)
          simp only [Value.slice.injEq] at hs6
          obtain ⟨rfl, hs7, rfl⟩ := hs6
          have k1 := hc6 _ _ (pcells_at E e hlt2).1
          have k2 := hc6 _ _ (pcells_at E e hlt2).2
          have HLT := Lib.hid (HED.out E[e] (List.getElem_mem hlt2))
          generalize E[e].1 = u at *
          generalize E[e].2 = v at *
          obtain ⟨ix, hix⟩ : ∃ ix : Int → Int, ∀ x, ix x = idx (fun y => decide (y = x)) co := ⟨_, fun _ => rfl⟩
          have HIX : Hid (∀ W, Up w5 W → ∀ x, Calls Try.prog 18 #[.slice ca m2 cc, .int .i64 x] W fun e w' => e = .returned (.int .i64 (ix x)) ∧ Up W w') := fun W h x => by
            rw [hix]
            exact index_any (.slice ca m2 cc) co x W (by have := own_src (own_up HC5.out h); rw [← HLN.out.2] at this ⊢; exact this) (by rw [HLN.out.2]; omega)
          rw [← hix, ← hix] at HLT
          obtain ⟨x1, hx1⟩ : ∃ x, x = ix u := ⟨_, rfl⟩
          obtain ⟨x2, hx2⟩ : ∃ x, x = ix v := ⟨_, rfl⟩
          have HX1 := Lib.hid hx1.symm
          have HX2 := Lib.hid hx2.symm
          rw [← hx1, ← hx2] at HLT
          have hx12 := HLT.out
          have hx21 : ¬ x2 ≤ x1 := by omega
          have V6i := Lib.hid (V6.out.trans HU.out)
          clear hs7 hb6 hb7 hc6 hx1 hx2 hix
          go_upto_region 57 with fail
          have z0 := Blk.at (Blk.new wi #[.int .i64 u, .int .i64 v] 43) (i := 0) rfl
          have z1 := Blk.at (Blk.new wi #[.int .i64 u, .int .i64 v] 43) (i := 1) rfl
          have V7 := Lib.hid (V6i.out.trans ((Up.refl wi).alloc (.cells #[.int .i64 u, .int .i64 v] 43)))
          have VU7 := Lib.hid (HU.out.trans ((Up.refl wi).alloc (.cells #[.int .i64 u, .int .i64 v] 43)))
          obtain ⟨B, hB⟩ : ∃ B, B = wi.heap.size := ⟨_, rfl⟩
          rw [← hB] at z0 z1 ⊢
          generalize wi.alloc (.cells #[.int .i64 u, .int .i64 v] 43) = w7 at *
          obtain ⟨zl, z0⟩ := z0
          obtain ⟨_, z1⟩ := z1
          clear hB
          have z0g : ∀ g, (gr w7 g).cell? ⟨B, 0, none⟩ = some (.int .i64 u) := fun g => ((gr_up w7 g).cell (p := ⟨B, 0, none⟩) zl).trans z0
          have z1g : ∀ g, (gr w7 g).cell? ⟨B, 1, none⟩ = some (.int .i64 v) := fun g => ((gr_up w7 g).cell (p := ⟨B, 1, none⟩) zl).trans z1
          refine wp_region_gr (by kernel_rfl) (by kernel_rfl) ?_
          repeat (go_big_quiet_step (first
            | (go_at_call 18; exact gr_call (HIX.out _ (V7.out.trans (gr_up _ _)) _))
            | fail))
          refine wpQuiet_nil ?_
          intro _ hw'
          obtain ⟨g1, rfl⟩ := hw'
          have VU8 := Lib.hid (VU7.out.trans (gr_up w7 g1))
          rw [HX1.out, HX2.out]
          generalize gr w7 g1 = w8 at *
          go_wp2
          go_roundw
          case rel => exact ⟨e + 1, by omega, by go_num, VU8.out⟩
          case measure => simp [intOf]; omega
        · obtain rfl : e = E.length := by omega
          have HH6 : Hid (In.OpsO wi w.heap.size (.slice va H.length vc) H) := own_up HH5.out (V6.out.trans HU.out)
          have HSO := Lib.hid (In.sorder_any _ H wi (In.hops_own HH6.out) HVH.out)
          have HW : Hid (Up w wi) := (V5.out.trans V6.out).trans HU.out
          have HK0 := Lib.hid (fun (W : World) (v : Value) (h : In.OpsO W 0 v In.hw0) => In.sorder_any v In.hw0 W (In.hops_own h) In.valid_hw0)
          have HEI := Lib.hid (fun v v' (W : World) h h' => In.equalI_any v v' [3, 1] [3, 1] W h h')
          rw [decide_eq_true rfl] at HEI
          go_wp2_with (first
            | (go_at_call 20; have q9 := AR9; clear q9; with_reducible refine (HEI.out _ _ _ (AR9.out.grow intR_grows ((Up.refl _).alloc _)) (arr31 _)).mono ?_; rintro e w10 ⟨rfl, h1⟩; have V10 := Lib.hid h1; clear h1)
            | (go_at_call 19; have q9 := V8; clear q9; refine (HK0.out _ _ (hw0_lies w8)).mono ?_; rintro e w9 ⟨h1, h2⟩; obtain ⟨v9, rfl, h3⟩ := h1.1 _ In.order_hw0; have AR9 := Lib.hid (ints_own h3); have V9 := Lib.hid (V8.out.trans (((Up.refl _).alloc _).trans h2)); clear h1 h2 h3)
            | (go_at_call 19; refine HSO.out.mono ?_; rintro e w8 ⟨h1, h2⟩; obtain ⟨v8, rfl, h3⟩ := h1.1 _ HRES.out; have V8 := Lib.hid (HW.out.trans h2); clear h1 h2 h3)
            | fail)
          go_ret
          exact ⟨rfl, (V9.out.trans ((Up.refl _).alloc _)).trans V10.out⟩
end Go.Proofs.Ytbimkciejfbodaa.Lk
