/- Recovery: runRecovery. -/
import Derived.Test.YtjalpppmgoepiaaRvu
namespace Go.Proofs.Ytjalpppmgoepiaa.Rv
open Go Go.RowKit Hp
set_option linter.unusedVariables false

theorem modV_nat (k n : Int) (h : 0 < n) : ∃ i : Nat, modV k n = (i : Int) ∧ (i : Int) < n := ⟨(modV k n).toNat, by have := modV_nonneg k n h; omega, by have := modV_nonneg k n h; have := modV_lt k n h; omega⟩
theorem sumA_len (l : List Rec) (A : List Nat) : A.length ≤ sumA l A := by
  induction A with
  | nil => exact Nat.le_refl _
  | cons t A ih => rw [sumA_cons, List.length_cons]; omega
/-- One of the active ones is taken out of the row. -/
theorem RS.del {p : Nat} {F : Nat → Prop} {w W W' : World} {E : Eng} {C : List Int} {A : List Nat} {g : Nat → Nat → Option Int} {av v2 : Value} {G : Nat → Prop} {f : Nat → Nat} {k i t : Nat} (h : RS p F w W E C A g A av G f k) (hk : A.take i ++ A.drop (i + 1) = keepC t A) (hi : i < A.length) (h1 : W'.ownsRow 0 3 1 v2 (A.length - 1) ((naC A).take (i * 1) ++ (naC A).drop ((i + 1) * 1))) (h2 : W.grownBy W' av.ownBlock) (h3 : v2.ownBlock = av.ownBlock) : RS p F w W' E C (keepC t A) g (keepC t A) v2 G f k := by
  have hl : (keepC t A).length = A.length - 1 := by rw [← hk, List.length_append, List.length_take, List.length_drop]; omega
  have hc : (naC A).take (i * 1) ++ (naC A).drop ((i + 1) * 1) = naC (keepC t A) := by
    have e1 : (naC A).take (i * 1) = naC (A.take i) := fm_take (f := naC1) (k := 1) (fun _ => rfl) A i
    have e2 : (naC A).drop ((i + 1) * 1) = naC (A.drop (i + 1)) := fm_drop (f := naC1) (k := 1) (fun _ => rfl) A (i + 1)
    rw [e1, e2, ← hk]
    unfold naC
    rw [List.flatMap_append]
  rw [hc, ← hl] at h1
  exact (h.row h2 (own_base' h1 fun j hj => by rw [h3] at hj; exact ((own_ty h.ao) j hj).2) (fun j hj => by rw [h3] at hj; exact h.an j hj)).sub fun q hq => ((mem_keep t q A).1 hq).1
/-- Blocks beyond N have changed; the law's own lie below. -/
theorem RS.far {p : Nat} {F : Nat → Prop} {w W W' : World} {E : Eng} {C : List Int} {A : List Nat} {g : Nat → Nat → Option Int} {RL : List Nat} {av : Value} {G : Nat → Prop} {f : Nat → Nat} {k N : Nat} (h : RS p F w W E C A g RL av G f k) {S : Nat → Prop} (C1 : Chg S W W') (hS : ∀ j, S j → N ≤ j) (hG : ∀ j, G j → j < N) (hf : ∀ t ∈ A, f t < N) (ha : ∀ j, av.ownBlock = some j → j < N) (hN : w.heap.size + 3 ≤ N) : RS p F w W' E C A g RL av G f k :=
  ⟨h.er.chg C1 fun j hj e => by have := hG j hj; have := hS j e; omega, h.gf, h.gn, h.ch.trans C1 fun j hj e => by have := hS j e; omega, h.b4.chg C1 fun e => by have := hS _ e; omega, h.b6.chg C1 fun e => by have := hS _ e; omega, h.mo.chg C1 fun e => by have := hS _ e; omega, fun t ht => (h.im t ht).chg C1 fun e => by have := hS _ e; have := hf t ht; omega, h.fn, h.fi, own_chg h.ao C1 fun j hj e => by have := hS j e; have := ha j hj; omega, h.an, Nat.le_trans h.ps C1.size⟩
theorem chg_grown {W : World} (b i : Nat) (v : Value) : W.grownBy (W.setCell ⟨b, i, none⟩ v) (some b) := by
  have C := chg_set W b i none v
  exact ⟨C.os, C.tape, C.output, C.size, fun k hk hne => C.block k hk fun e => hne (by rw [e])⟩
def RunPost (p : Nat) (F : Nat → Prop) (w : World) (e : Ending) (w' : World) : Prop :=
  ∃ E C A g G, e = .returned (.tuple #[.agg (iv C).toArray, .bool true]) ∧ PI E C A g 150 ∧ EngR w' p E G ∧ (∀ j, G j → F j ∨ w.heap.size ≤ j) ∧ Chg F w w'
theorem PI.mono {E : Eng} {C : List Int} {A : List Nat} {g : Nat → Nat → Option Int} {k n : Nat} (h : PI E C A g k) (hn : k ≤ n) : PI E C A g n := ⟨h.ei, h.act, h.cl, h.cm, h.g1, h.g2, by have := h.ph; omega, by have := h.la; omega⟩
theorem six {C : List Int} (h : C.length = 6) : ∃ c0 c1 c2 c3 c4 c5, C = [c0, c1, c2, c3, c4, c5] := by
  match C, h with
  | [c0, c1, c2, c3, c4, c5], _ => exact ⟨_, _, _, _, _, _, rfl⟩
structure RI (p : Nat) (F : Nat → Prop) (w W : World) (av : Value) (k : Nat) (E : Eng) (C : List Int) (A : List Nat) (g : Nat → Nat → Option Int) (G : Nat → Prop) (f : Nat → Nat) : Prop where
  pi : PI E C A g k
  rs : RS p F w W E C A g A av G f k
theorem run_res {W : World} {b : Nat} {tmps : Array Value} {x0 x1 x2 x3 x4 x5 : Int} {y : Bool} (c0 : W.cell? ⟨b, 0, none⟩ = some (.int .i64 x0)) (c1 : W.cell? ⟨b, 1, none⟩ = some (.int .i64 x1)) (c2 : W.cell? ⟨b, 2, none⟩ = some (.int .i64 x2)) (c3 : W.cell? ⟨b, 3, none⟩ = some (.int .i64 x3)) (c4 : W.cell? ⟨b, 4, none⟩ = some (.int .i64 x4)) (c5 : W.cell? ⟨b, 5, none⟩ = some (.int .i64 x5))
    (h4 : tmps[4]? = some (.pointer (some ⟨b, 0, none⟩)) := by rfl) (h5 : tmps[5]? = some (.bool y) := by rfl) :
    (results Try.f8 tmps).run Try.prog W = .ok (.tuple #[.agg #[.int .i64 x0, .int .i64 x1, .int .i64 x2, .int .i64 x3, .int .i64 x4, .int .i64 x5], .bool y]) W := by
  simp [results, Try.f8, go_sem, c0, c1, c2, c3, c4, c5, h4, h5]
theorem cell_int (w : World) (v : Value) (E : TypeId) (g : Nat) (hg : w.heap.size = g) : ∀ (j : Nat) u, [v][j]? = some u → (w.alloc (.cells #[v] E)).cell? ((⟨g, 0, none⟩ : Addr).add j) = some u := by
  subst hg
  exact cells_new w #[v] E
/-- The row of the active ones is one longer. -/
theorem RS.snoc {p : Nat} {F : Nat → Prop} {w W W' : World} {E : Eng} {C : List Int} {A : List Nat} {g : Nat → Nat → Option Int} {RL : List Nat} {av : Value} {G : Nat → Prop} {f : Nat → Nat} {k g9 c9 H t : Nat} (h : RS p F w W E C A g RL av G f k) (hown : W'.ownsRow (w.heap.size + 3) 3 1 (.slice (some ⟨g9, 0, none⟩) (RL.length + 1) c9) (RL.length + 1) (naC RL ++ [.int .i64 (t : Int)]))
    (hg : W.grownBy W' av.ownBlock) (hat : av.ownBlock = some g9 ∨ g9 = H) (hH : ∀ j, G j → j < H) : RS p F w W' E C A g (RL ++ [t]) (.slice (some ⟨g9, 0, none⟩) (RL.length + 1) c9) G f k := by
  refine h.row hg ?_ fun j hj => ?_
  · rw [List.length_append, List.length_singleton, show naC (RL ++ [t]) = naC RL ++ [.int .i64 (t : Int)] by simp [naC, naC1]]
    exact hown
  · obtain rfl : g9 = j := by simpa [Value.ownBlock] using hj
    rcases hat with q | q
    · exact h.an _ q
    · exact fun e => by have := hH _ e; omega
set_option maxRecDepth 100000 in
set_option maxHeartbeats 8000000 in
theorem run_any (p : Nat) (F : Nat → Prop) (a : Option Addr) (len cap : Nat) (zs : List Int) (w00 w : World) (h : EngR w p (newE 6) F) (hE : Elems w00 a len zs) (hl : len ≤ cap) (hm : cap ≤ 9223372036854775807) (hu0 : Up w00 w) (hfar : ∀ j, F j → w00.heap.size ≤ j) :
    Calls Try.prog 8 #[.pointer (some ⟨p, 0, none⟩), .slice a len cap] w (RunPost p F w) := by
  have HE := Lib.hid hE
  have HR := Lib.hid h
  have HLT := Lib.hid h.lt
  have HU0 := Lib.hid hu0
  have HFAR := Lib.hid hfar
  clear hE h hu0 hfar
  obtain ⟨m, hmin', hm1, hm2⟩ := min_len 150 len
  have hmin : (if (150 : Int) < (len : Int) then (150 : Int) else (len : Int)) = (m : Int) := hmin'
  clear hmin'
  have hmc : (m : Int) ≤ (cap : Int) := by omega
  have hmin2 : min (len : Int) 150 = (m : Int) := by rw [← hmin]; simp only [Int.min_def]; split <;> split <;> omega
  have hmm := @run_makeMap Try.prog
  obtain ⟨i1, hi1, hz3, hz4, hz5⟩ := info_parts Try.infoI
  go_enter Try.func8, Try.ntmps8
  go_wp2
  clear hmin hmin2
  have R0 : Hid (RS p F w (((w.alloc (.cells #[.int .i64 0, .int .i64 0, .int .i64 0, .int .i64 0, .int .i64 0, .int .i64 0] 28)).alloc (.cells #[.int .i64 0, .int .i64 0, .int .i64 0, .int .i64 0, .int .i64 0, .int .i64 0] 28)).alloc (.map #[] 0)) (newE 6) (List.replicate 6 0) [] (fun _ _ => none) [] (.slice none 0 0) F (fun _ => 0) 0) := by
    have U3 := (((Up.refl w).alloc (.cells #[.int .i64 0, .int .i64 0, .int .i64 0, .int .i64 0, .int .i64 0, .int .i64 0] 28)).alloc (.cells #[.int .i64 0, .int .i64 0, .int .i64 0, .int .i64 0, .int .i64 0, .int .i64 0] 28)).alloc (.map #[] 0)
    have hz : (((w.alloc (.cells #[.int .i64 0, .int .i64 0, .int .i64 0, .int .i64 0, .int .i64 0, .int .i64 0] 28)).alloc (.cells #[.int .i64 0, .int .i64 0, .int .i64 0, .int .i64 0, .int .i64 0, .int .i64 0] 28)).alloc (.map #[] 0)).heap.size = w.heap.size + 1 + 1 + 1 := by simp
    have nF : ∀ j, w.heap.size ≤ j → ¬ F j := fun j hj e => by have := HLT.out j e; omega
    have b6 := (Blk.new (w.alloc (.cells #[.int .i64 0, .int .i64 0, .int .i64 0, .int .i64 0, .int .i64 0, .int .i64 0] 28)) #[.int .i64 0, .int .i64 0, .int .i64 0, .int .i64 0, .int .i64 0, .int .i64 0] 28).up ((Up.refl _).alloc (.map #[] 0))
    rw [World.size_alloc] at b6
    have mo := MO.new ((w.alloc (.cells #[.int .i64 0, .int .i64 0, .int .i64 0, .int .i64 0, .int .i64 0, .int .i64 0] 28)).alloc (.cells #[.int .i64 0, .int .i64 0, .int .i64 0, .int .i64 0, .int .i64 0, .int .i64 0] 28)) (fun _ => 0)
    rw [World.size_alloc, World.size_alloc] at mo
    exact ⟨HR.out.up U3, fun j hj => .inl hj, ⟨nF _ (Nat.le_refl _), nF _ (by omega), nF _ (by omega)⟩, Below.chg F U3, ((Blk.new w _ _).up ((Up.refl _).alloc _)).up ((Up.refl _).alloc _), b6, mo, fun t ht => (by cases ht), fun t ht => (by cases ht), fun t ht => (by cases ht), World.ownsRow_nil _ _ _ _, fun j hj => (by cases hj), by omega⟩
  go_loopw [8, 25] (fun av kv wr => ∃ (k : Nat) (E : Eng) (C : List Int) (A : List Nat) (g : Nat → Nat → Option Int) (G : Nat → Prop) (f : Nat → Nat), k ≤ m ∧ kv = .int .i64 k ∧ Hid (RI p F w wr av k E C A g G f)) (fun _ kv _ => m - (intOf kv).toNat)
  case atStart => exact ⟨0, _, _, _, _, _, _, by omega, rfl, PI.start, R0.out⟩
  case round =>
    obtain ⟨k, E, C, A, g, G, f, hk, rfl, HI⟩ := hrel
    obtain ⟨wo, hwo⟩ : ∃ wo : World, wo = wr := ⟨_, rfl⟩
    rw [← hwo] at HI ⊢
    clear hwo R0
    obtain ⟨va, vc, rfl, hvc1, hvc2, _⟩ := own_form HI.out.rs.ao
    by_cases hlt : k < m
    · have hki : (k : Int) < (m : Int) := by omega
      obtain ⟨b, off, rfl, hb0, hcell0⟩ := HE.out k (by omega)
      have hb : b < w.heap.size := Nat.lt_of_lt_of_le hb0 HU0.out.size
      have hcell := (HU0.out.cell (p := ⟨b, off + k, none⟩) hb0).trans hcell0
      have hzz := (HI.out.rs.ch.cell (o := off + k) hb (fun e => by have := HFAR.out _ e; omega)).trans hcell
      clear hcell0
      have hzl := Nat.lt_of_lt_of_le hb HI.out.rs.ch.size
      clear hcell
      generalize zs.getD k 0 = z at *
      obtain ⟨kd, hkd, hkd10⟩ := modV_nat z 10 (by omega)
      have KD := Lib.hid hkd
      clear hkd
      have hk150 : k ≤ 149 := by omega
      have hlast := HI.out.pi.la
      have hal : A.length = E.act.length := by rw [HI.out.pi.act]
      by_cases hA0 : kd = 0 ∧ A.length < 10
      · obtain ⟨hk0, hA10⟩ := hA0
        subst hk0
        have hAi : (A.length : Int) < 10 := by omega
        have HBG := Lib.hid (begin_any p E G wo HI.out.rs.er (by omega) (by omega))
        have HTA : Hid (E.last + 1 ∉ A) := fun e => by have := (HI.out.pi.ei.ac _ (by rw [HI.out.pi.act]; exact e)).2.1; omega
        have hlc : ((E.last + 1 : Nat) : Int) = (E.last : Int) + 1 := by omega
        rw [hlc] at HBG
        have HLC := Lib.hid hlc
        have hvl : A.length ≤ 9 := by omega
        clear hlc hal hA10
        go_wp2_with (first
          | (go_at_call 13; refine (mod_any _ _ _ (by omega) (by omega)).mono ?_; rw [KD.out]; rintro e w' ⟨rfl, rfl⟩)
          | (go_at_call 11; refine HBG.out.mono ?_; rintro e w1 ⟨rfl, h1⟩; have R1 := Lib.hid (HI.out.rs.eng h1); clear h1)
          | (at_builtin; refine wpList_append_lies _ rfl (.tmp 45) (.tmp 47) 22 rfl (w.heap.size + 3) 3 i1 (.int .i64 0) 1 8 Try.underlying22 hi1 hz3 hz4 hz5 rfl (by decide) (.slice va A.length vc) A.length (naC A) rfl (own_up R1.out.ao ((Up.refl _).alloc _)) ⟨w1.heap.size, 0, none⟩ 1 1 [.int .i64 ((E.last : Int) + 1)] rfl rfl (cell_int _ _ _ _ rfl) (by intro u hu; rw [List.mem_singleton.1 hu]; rfl) (by decide) (by unfold maxLen; omega) (by omega) (Nat.le_trans R1.out.ps ((Up.refl _).alloc _).size) _ rfl ?_
             intro g9 c9 w9 hown9 hgrow9 hat9 hlt9
             rw [← HLC.out] at hown9
             have R9 := Lib.hid ((R1.out.up ((Up.refl w1).alloc _)).snoc hown9 hgrow9 hat9 (fun j hj => Nat.lt_of_lt_of_le (R1.out.er.lt j hj) ((Up.refl w1).alloc _).size))
             obtain ⟨w10, r1, r2, r3⟩ := (R9.out.mo.chg (Below.chg (fun _ => False) ((Up.refl w9).alloc (.map #[] 0))) (fun e => e)).put (by omega) (t := E.last + 1) (m := w9.heap.size) (by omega) HTA.out
             rw [HLC.out] at r1
             have R10 := Lib.hid (R9.out.ins HTA.out ((Chg.refl (fun j => j = w.heap.size + 1 + 1) _).grown r3 fun j hj => .inl (by cases hj; rfl)) r2)
             clear hown9 hgrow9 hat9 r2 r3)
          | fail)
        go_roundw
        case rel => exact ⟨k + 1, _, C, A ++ [E.last + 1], _, _, _, by omega, by go_num, ⟨HI.out.pi.begin, R10.out⟩⟩
        case measure => simp [intOf]; omega
      · have hbuf : E.buf.length = 6 := by rw [HI.out.pi.ei.bf, rp_len]
        have hdsk := HI.out.pi.ei.dl
        have hwri := HI.out.pi.ei.wl
        have hlog : E.log.length ≤ 300 := by have := HI.out.pi.ph; omega
        have hfl := HI.out.pi.ei.fl
        have hact : E.act.length ≤ 300 := by
          have := sumA_len E.log A
          have := HI.out.pi.ph
          omega
        have HPG : Hid (∀ r ∈ E.log, r.page < 6) := fun r hr => by
          obtain ⟨l1, l2, e⟩ := List.append_of_mem hr
          exact (HI.out.pi.ei.lg l1 r l2 e).pg
        -- the first test fails
        have htest : (¬ (kd : Int) = 0) ∨ ((kd : Int) = 0 ∧ ¬ (A.length : Int) < 10) := by
          by_cases e : kd = 0
          · exact .inr ⟨by omega, fun e2 => hA0 ⟨e, by omega⟩⟩
          · exact .inl (by omega)
        by_cases h9 : kd = 9
        · subst h9
          obtain ⟨fp, hfp, hfp6⟩ := modV_nat (wrap64 (z.tdiv 10)) 6 (by omega)
          obtain ⟨fn, hfn, hfn4⟩ := modV_nat (wrap64 (z.tdiv 64)) 4 (by omega)
          have FP := Lib.hid hfp
          have FN := Lib.hid hfn
          have hat6 : E.buf[fp]'(by omega) = at_ E.buf fp := by unfold at_; simp [List.getD, show fp < E.buf.length by omega]
          have HF1 := fpage_any p E G fp wo HI.out.rs.er (by omega) (by omega)
          rw [hat6] at HF1
          have HF1 := Lib.hid HF1
          have PI1 := Lib.hid (HI.out.pi.fpage (i := fp) (by omega))
          have hfl1 := PI1.out.ei.fl
          have hfl2 : max E.fl (at_ E.buf fp).2 ≤ 1000000 := by
            have : max E.fl (at_ E.buf fp).2 ≤ E.log.length := hfl1
            omega
          have HF2 := Lib.hid (fun W G' (h : EngR W p { E with fl := max E.fl (at_ E.buf fp).2, dsk := E.dsk.set fp (at_ E.buf fp) } G') => flog_any p _ G' fn W h (by omega) hfl2)
          have PI2 := Lib.hid ((PI1.out.flog fn).succ)
          clear hfp hfn hat6 hfl1 hfl2 htest hal hbuf hdsk hwri hlog hfl hact
          go_wp2_with (first
            | (go_at_call 13; refine (mod_any _ _ _ (by omega) (by omega)).mono ?_; (first | rw [KD.out] | rw [FP.out] | rw [FN.out]); rintro e w' ⟨rfl, rfl⟩)
            | (go_at_call 17; refine HF1.out.mono ?_; rintro e w1 ⟨rfl, h1⟩; have R1 := Lib.hid (HI.out.rs.eng h1); clear h1)
            | (go_at_call 18; refine (HF2.out _ _ R1.out.er).mono ?_; rintro e w2 ⟨rfl, h2⟩; have R2 := Lib.hid (R1.out.eng h2); clear h2)
            | fail)
          go_roundw
          case rel => exact ⟨k + 1, _, C, A, g, _, f, by omega, by go_num, ⟨PI2.out, R2.out.mono (Nat.le_succ k)⟩⟩
          case measure => simp [intOf]; omega
        · have h9i : ¬ (kd : Int) = 9 := by omega
          by_cases hAe : A.length = 0
          · have hkn : ¬ (kd : Int) = 0 := by
              rcases htest with q | q
              · exact q
              · omega
            obtain rfl : A = [] := List.length_eq_zero_iff.1 hAe
            clear htest hal hbuf hdsk hwri hlog hfl hact hAe
            go_wp2_with (first
              | (go_at_call 13; refine (mod_any _ _ _ (by omega) (by omega)).mono ?_; rw [KD.out]; rintro e w' ⟨rfl, rfl⟩)
              | fail)
            exact ⟨⟨k + 1, E, C, [], g, G, f, by omega, by go_num, ⟨HI.out.pi.succ, HI.out.rs.mono (Nat.le_succ k)⟩⟩, by simp [intOf]; omega⟩
          · have hAp : 0 < A.length := by omega
            have hAei : ¬ (A.length : Int) = 0 := by omega
            obtain ⟨ai, hai, hail⟩ := modV_nat (wrap64 (z.tdiv 10)) (A.length : Int) (by omega)
            have AI := Lib.hid hai
            have hail2 : ai < A.length := by omega
            obtain ⟨ga, gc, hgv, hgc1, _, hgl, hgat, _⟩ := own_some HI.out.rs.ao hAp
            simp only [Value.slice.injEq] at hgv
            obtain ⟨rfl, hkk, rfl⟩ := hgv
            clear hkk
            have hxt := hgat _ _ (naC_get A ai hail2)
            obtain ⟨t, ht⟩ : ∃ t, t = A[ai] := ⟨_, rfl⟩
            have htA : t ∈ A := by rw [ht]; exact List.getElem_mem hail2
            rw [← ht] at hxt
            have HT := Lib.hid ht
            have HTA := Lib.hid htA
            have hnd : A.Nodup := by rw [← HI.out.pi.act]; exact HI.out.pi.ei.nd
            have HKD := Lib.hid (keep_del hnd ai hail2)
            rw [← ht] at HKD
            have hav := HI.out.pi.ei.ac t (by rw [HI.out.pi.act]; exact htA)
            have htl : t ≤ 200 := by omega
            have hAl : A.length ≤ 300 := by omega
            clear hai hgat ht htA
            by_cases h8 : kd = 8
            · subst h8
              have HRB := Lib.hid (rollback_any p E G t wo HI.out.rs.er (by rw [HI.out.pi.act]; exact HTA.out) (by omega) (by omega) (by omega) (fun r hr _ => by rw [hbuf]; exact HPG.out r hr))
              have PI1 := Lib.hid (HI.out.pi.rollback HTA.out)
              clear htest hal hbuf hdsk hwri hlog hfl hact hav
              go_wp2_with (first
                | (go_at_call 13; refine (mod_any _ _ _ (by omega) (by omega)).mono ?_; (first | rw [KD.out] | rw [AI.out]); rintro e w' ⟨rfl, rfl⟩)
                | (go_at_call 14; refine HRB.out.mono ?_; rintro e w1 ⟨rfl, h1⟩; have R1 := Lib.hid (HI.out.rs.eng h1); clear h1)
                | (go_at_call 19; refine (del_any _ A.length ai (naC A) _ (own_any R1.out.ao) hail2 (by omega) (naC_one A)).mono ?_; rintro e w2 ⟨v2, rfl, h21, h22, h23⟩
                   have R2 := Lib.hid (R1.out.del HKD.out hail2 h21 h22 h23)
                   obtain ⟨xa2, xc2, rfl, _, _, _⟩ := own_form h21
                   clear h21 h22 h23)
                | fail)
              go_roundw
              case rel => exact ⟨k + 1, _, C, keepC t A, g, _, f, by omega, by go_num, ⟨PI1.out, R2.out.mono (Nat.le_succ k)⟩⟩
              case measure => simp [intOf]; omega
            · have h8i : ¬ (kd : Int) = 8 := by omega
              by_cases h7 : kd = 7
              · subst h7
                have HCM := Lib.hid (commit_any p E G t wo HI.out.rs.er (by rw [HI.out.pi.act]; exact HTA.out) (by omega) (by omega) (by omega))
                have hK := Maps.int_keyed (P := Try.prog) Try.underlying3
                have htest2 : ¬ ((7 : Nat) : Int) = 0 := by omega
                clear htest hal hbuf hdsk hwri hlog hfl hact hav h8 h8i h9 h9i hA0
                go_wp2_with (first
                  | (go_at_call 13; refine (mod_any _ _ _ (by omega) (by omega)).mono ?_; (first | rw [KD.out] | rw [AI.out]); rintro e w' ⟨rfl, rfl⟩)
                  | (go_at_call 16; refine HCM.out.mono ?_; rintro e w1 ⟨rfl, h1⟩; have R1 := Lib.hid (HI.out.rs.eng h1); have hlk := R1.out.mo.look HTA.out (by omega); obtain ⟨D, hD, hD2, hD3, hD4⟩ := R1.out.im t HTA.out; have HD := Lib.hid hD; have HD2 := Lib.hid hD2; have HD3 := Lib.hid hD3; have HD4 := Lib.hid hD4; clear h1 hD hD2 hD3 hD4)
                  | (at_range; refine wpList_range_own _ rfl _ 46 rfl 3 3 hK Try.underlying46 _ (f t) k D rfl HD.out ?_; intro w2 hrg0 hg0 hs0)
                  | fail)
                go_frame
                have U2 : Up w1 w2 := Below.grown (Up.refl w1) hg0 (Nat.le_refl _) fun j e => by cases e
                have R2 := Lib.hid (R1.out.up U2)
                have HRG0 := Lib.hid hrg0
                have HN1 : Hid (∀ j, Fx G wo w1 j → j < w1.heap.size) := R1.out.er.lt
                have HN2 : Hid (∀ q ∈ A, f q < w1.heap.size) := fun q hq => (R1.out.im q hq).lt
                have HN3 := Lib.hid (own_lt R1.out.ao)
                have HN4 := Lib.hid R1.out.ps
                clear hrg0 hg0 hs0 U2 hlk
                generalize hEc : comE E t = Ec at *
                have HEC := Lib.hid hEc
                clear hEc
                go_loopw [15] (fun _ wr => ∃ (left : Lit → Bool) (cnt : Nat) (C' : List Int), Hid (wr.ranges Try.prog 3 (plainElem Try.prog 3) (f t) w1.heap.size k D left cnt) ∧ Hid (RS p F w wr Ec C' A g A (.slice (some ⟨ga, 0, none⟩) A.length vc) (Fx G wo w1) f k) ∧ Hid (C'.length = 6 ∧ ∀ x : Nat, x < 6 → C'.getD x 0 = (if left (.int .i64 (x : Int)) then none else g t x).getD (C.getD x 0))) (fun _ wr => wr.rangeLeft (f t) w1.heap.size)
                case atStart =>
                  refine ⟨_, _, C, HRG0.out, R2.out, HI.out.pi.cl, fun x hx => ?_⟩
                  rw [HD2.out x hx]
                  cases g t x <;> rfl
                case round =>
                  obtain ⟨left, cnt, C', HRG, HRS, HCC⟩ := hrel
                  obtain ⟨wq, hwq⟩ : ∃ wq : World, wq = wr := ⟨_, rfl⟩
                  rw [← hwq] at HRG HRS ⊢
                  clear hwq
                  go_wp2_with (first
                    | (at_next; refine wpList_next_ranges_ii _ rfl _ rfl 3 3 .i64 .i64 hK Try.underlying3 Try.underlying3 (f t) w1.heap.size k D left cnt rfl HRG.out ?_ ?_)
                    | fail)
                  · intro hc0 hl0
                    have PI1 := Lib.hid (HI.out.pi.commit HTA.out HCC.out.1 fun x hx => by rw [HCC.out.2 x hx, hl0]; rfl)
                    rw [HEC.out] at PI1
                    clear hc0 hl0
                    go_wp2_with (first
                      | (go_at_call 19; refine (del_any _ A.length ai (naC A) _ (own_any HRS.out.ao) hail2 (by omega) (naC_one A)).mono ?_; rintro e w5 ⟨v2, rfl, h21, h22, h23⟩
                         have R5 := Lib.hid (HRS.out.del HKD.out hail2 h21 h22 h23)
                         obtain ⟨xa2, xc2, rfl, _, _, _⟩ := own_form h21
                         clear h21 h22 h23)
                      | fail)
                    go_roundw
                    case rel => exact ⟨k + 1, _, C', keepC t A, g, _, f, by omega, by go_num, ⟨PI1.out, R5.out.mono (Nat.le_succ k)⟩⟩
                    case measure => simp [intOf]; omega
                  · intro x c w5 cnt1 hwx hwc hlx hat hrg1 hlt1 hg1 hs1 hen
                    obtain ⟨xn, hxn, hxe⟩ := HD4.out _ (Maps.has_true_of_atKey hat)
                    have hxe2 : x = (xn : Int) := by cases hxe; rfl
                    subst hxe2
                    have hgc : g t xn = some c := by
                      have h1 := HD2.out xn hxn
                      rw [Maps.has_true_of_atKey hat] at h1
                      obtain ⟨v, hv⟩ := Option.isSome_iff_exists.1 h1.symm
                      have h2 := HD3.out xn hxn v hv (.held (.int .i64 0))
                      rw [hat] at h2
                      rw [hv]
                      cases h2
                      rfl
                    have R5 := Lib.hid (HRS.out.far ((Chg.refl (fun j => w1.heap.size = j) wq).grown hg1 fun j hj => .inl (by cases hj; rfl)) (fun j hj => Nat.le_of_eq hj) HN1.out HN2.out HN3.out HN4.out)
                    have hx6 : (xn : Int) < 6 := by omega
                    have hC6 : xn < C'.length := by rw [HCC.out.1]; exact hxn
                    have e0 := (R5.out.b6.at (iv_get C' xn hC6)).2
                    have e1 := R5.out.b6.free xn
                    have el := R5.out.b6.lt
                    have R6 := Lib.hid (R5.out.setC xn c)
                    have hb6 := R5.out.ps
                    have HRG6 := Lib.hid (hrg1.kept (chg_grown (w.heap.size + 1) xn (.int .i64 c)) (fun e => by have := Option.some.inj e; have := (R5.out.fn t HTA.out).2; omega) (fun e => by have := Option.some.inj e; have := HN4.out; omega))
                    have HMS : Hid (cnt1 < cnt) := hlt1
                    have HC6 : Hid ((C'.set xn c).length = 6 ∧ ∀ x : Nat, x < 6 → (C'.set xn c).getD x 0 = (if (fun z : Lit => left z && !z.sameKey (.int .i64 (xn : Int))) (.int .i64 (x : Int)) then none else g t x).getD (C.getD x 0)) := by
                      refine ⟨by rw [List.length_set]; exact HCC.out.1, fun y hy => ?_⟩
                      have hset : (C'.set xn c).getD y 0 = if y = xn then c else C'.getD y 0 := by
                        rw [List.getD_eq_getElem?_getD, List.getD_eq_getElem?_getD, List.getElem?_set]
                        by_cases e : xn = y
                        · subst e; simp [hC6]
                        · rw [if_neg e, if_neg (fun h => e h.symm)]
                      rw [hset]
                      by_cases e : y = xn
                      · rw [if_pos e, e, hgc]
                        have : Lit.sameKey (.int .i64 (xn : Int)) (.int .i64 (xn : Int)) = true := WideAt.sameKey_self trivial
                        simp [this]
                      · rw [if_neg e, HCC.out.2 y hy]
                        have : Lit.sameKey (.int .i64 (y : Int)) (.int .i64 (xn : Int)) = false := by
                          cases h : Lit.sameKey (.int .i64 (y : Int)) (.int .i64 (xn : Int)) with
                          | false => rfl
                          | true =>
                            have := WideAt.sameKey_eq h
                            exact absurd (by have e3 : (y : Int) = (xn : Int) := (by cases this; rfl); omega) e
                        simp [this]
                    clear hwx hwc hlx hat hrg1 hlt1 hg1 hs1 hxe hgc hC6 hb6
                    go_wp2
                    go_roundw
                    case rel => exact ⟨_, cnt1, _, HRG6.out, R6.out, HC6.out⟩
                    case measure => rw [HRG6.out.left_eq, HRG.out.left_eq]; exact HMS.out
              · have h7i : ¬ (kd : Int) = 7 := by omega
                obtain ⟨pg, hpg, hpg6⟩ := modV_nat (wrap64 (z.tdiv 100)) 6 (by omega)
                have PG := Lib.hid hpg
                obtain ⟨vv, hvv⟩ : ∃ vv, vv = modV (wrap64 (z.tdiv 1000)) 100 := ⟨_, rfl⟩
                have hvr : 0 ≤ vv ∧ vv < 100 := by rw [hvv]; exact ⟨modV_nonneg _ _ (by omega), modV_lt _ _ (by omega)⟩
                have VV : Hid (modV (wrap64 (z.tdiv 1000)) 100 = vv) := hvv.symm
                have VV2 : Hid (modV (IntKind.i64.wrap (z.tdiv 1000)) 100 = vv) := by unfold Hid; rw [hvv, IntWalk.i64_left]
                have HWA := write_any p E G t pg vv wo HI.out.rs.er (by rw [HI.out.pi.act]; exact HTA.out) (by omega) (by omega) (by omega) (by omega)
                have hpg6' : pg < 6 := by omega
                clear hpg hvv
                cases hb : bsy E t pg with
                | true =>
                  rw [hb] at HWA
                  have HWA := Lib.hid HWA
                  clear hal hbuf hdsk hwri hlog hfl hact hav hb
                  rcases htest with htest | ⟨htest, htest2⟩
                  all_goals
                    go_wp2_with (first
                      | (go_at_call 13; refine (mod_any _ _ _ (by omega) (by omega)).mono ?_; (first | rw [KD.out] | rw [AI.out] | rw [PG.out] | rw [VV.out]); rintro e w' ⟨rfl, rfl⟩)
                      | (go_at_call 12; refine HWA.out.mono ?_; rintro e w1 ⟨h0, _⟩; obtain ⟨rfl, h1⟩ := h0 (by trivial); have R1 := Lib.hid (HI.out.rs.up h1); clear h0 h1)
                      | fail)
                    exact ⟨⟨k + 1, E, C, A, g, G, f, by omega, by go_num, ⟨HI.out.pi.succ, R1.out.mono (Nat.le_succ k)⟩⟩, by simp [intOf]; omega⟩
                | false =>
                  rw [hb] at HWA
                  have HWA := Lib.hid HWA
                  have PI1 := Lib.hid (HI.out.pi.write HTA.out hpg6' hb vv)
                  have hvw : (Lit.int .i64 vv).wf = true := by have e1 : IntKind.i64.min = -9223372036854775808 := rfl; have e2 : IntKind.i64.max = 9223372036854775807 := rfl; simp [Lit.wf, e1, e2]; omega
                  have HVW := Lib.hid hvw
                  clear hal hbuf hdsk hwri hlog hfl hact hav hb hvw
                  rcases htest with htest | ⟨htest, htest2⟩
                  all_goals
                    go_wp2_with (first
                      | (go_at_call 13; refine (mod_any _ _ _ (by omega) (by omega)).mono ?_; (first | rw [KD.out] | rw [AI.out] | rw [PG.out] | rw [VV.out]); rintro e w' ⟨rfl, rfl⟩)
                      | (go_at_call 12; refine HWA.out.mono ?_; rintro e w1 ⟨_, h0⟩; obtain ⟨rfl, h1⟩ := h0 (by trivial); have R1 := Lib.hid (HI.out.rs.eng h1); have hlk := R1.out.mo.look HTA.out (by omega); have hlk2 : Sem.run Try.prog (Instr.lookup 45 (.map (some (w.heap.size + 1 + 1))) (.int .i64 (t : Int)) false) w1.drew = .ok (.map (some (f t))) w1.drew := (R1.out.up (Up.refl _).drew).mo.look HTA.out (by omega); obtain ⟨w2, r1, r2, r3⟩ := ((R1.out.up (Up.refl _).drew).im t HTA.out).put (by omega) (x := pg) hpg6' HVW.out; have R2 := Lib.hid ((R1.out.up (Up.refl _).drew).put HTA.out ((Chg.refl (fun j => j = f t) _).grown r3 fun j hj => .inl (by cases hj; rfl)) r2); clear h0 h1 r2 r3)
                      | fail)
                    refine region_split (fun a a' W => Hid (RS p F w W (wrE E t pg vv) C A (upd g t (upd (g t) pg (some vv))) A (.slice (some ⟨ga, 0, none⟩) A.length vc) (Fx G wo w1) f (k + 1)) ∧ a' = (((((((a.put (some 92) (.map (some (w.heap.size + 1 + 1)))).put (some 93) (.int .i64 (t : Int))).put (some 94) (.map (some (f t)))).put (some 95) (.int .i64 (pg : Int))).put (some 96) (.int .i64 z)).put (some 97) (.int .i64 (IntKind.i64.wrap (z.tdiv 1000)))).put (some 98) (.int .i64 vv))) ?_ ?_
                    · simp only [Act.put, List.setIfInBounds_toArray, List.set_cons_zero, List.set_cons_succ]
                      go_region_law (first
                        | (refine step_go (f := 13) Try.call13 #[.int .i64 (IntKind.i64.wrap (z.tdiv 1000)), .int .i64 100] (by simp [Act.eval] <;> rfl) (mod_any (IntKind.i64.wrap (z.tdiv 1000)) 100 _ (by omega) (by omega)) ?_
                           rw [VV2.out]
                           rintro e w' ⟨rfl, rfl⟩
                           refine ⟨_, rfl, ?_⟩)
                        | fail)
                      all_goals exact OnNormal.of ⟨R2.out, rfl⟩
                    · simp only [Act.put, List.setIfInBounds_toArray, List.set_cons_zero, List.set_cons_succ]
                      rintro a' W5 ⟨h5, rfl⟩
                      have R5 := Lib.hid h5.out
                      clear h5
                      go_wp2
                      go_roundw
                      case rel => exact ⟨k + 1, _, C, A, _, _, f, by omega, by go_num, ⟨PI1.out, R5.out⟩⟩
                      case measure => simp [intOf]; omega
    · obtain rfl : k = m := by omega
      obtain ⟨c0, c1, c2, c3, c4, c5, rfl⟩ := six HI.out.pi.cl
      have B6 := HI.out.rs.b6
      have B4 := HI.out.rs.b4
      have x0 := (B6.at (i := 0) rfl).2
      have x1 := (B6.at (i := 1) rfl).2
      have x2 := (B6.at (i := 2) rfl).2
      have x3 := (B6.at (i := 3) rfl).2
      have x4 := (B6.at (i := 4) rfl).2
      have x5 := (B6.at (i := 5) rfl).2
      have xl := B6.lt
      have y0 := (B4.at (i := 0) rfl).2
      have y1 := (B4.at (i := 1) rfl).2
      have y2 := (B4.at (i := 2) rfl).2
      have y3 := (B4.at (i := 3) rfl).2
      have y4 := (B4.at (i := 4) rfl).2
      have y5 := (B4.at (i := 5) rfl).2
      have yl := B4.lt
      have f0 := B4.free 0
      have f1 := B4.free 1
      have f2 := B4.free 2
      have f3 := B4.free 3
      have f4 := B4.free 4
      have f5 := B4.free 5
      clear B6 B4
      go_wp2
      have B4 := (((((HI.out.rs.b4.set 0 (.int .i64 c0)).set 1 (.int .i64 c1)).set 2 (.int .i64 c2)).set 3 (.int .i64 c3)).set 4 (.int .i64 c4)).set 5 (.int .i64 c5)
      have CW := ((((((Chg.refl (fun j => j = w.heap.size) wo).set (.inl rfl) 0 none (.int .i64 c0)).set (.inl rfl) 1 none (.int .i64 c1)).set (.inl rfl) 2 none (.int .i64 c2)).set (.inl rfl) 3 none (.int .i64 c3)).set (.inl rfl) 4 none (.int .i64 c4)).set (.inl rfl) 5 none (.int .i64 c5)
      refine bodyPost_ret (run_res (B4.at (i := 0) rfl).2 (B4.at (i := 1) rfl).2 (B4.at (i := 2) rfl).2 (B4.at (i := 3) rfl).2 (B4.at (i := 4) rfl).2 (B4.at (i := 5) rfl).2) rfl ?_
      exact ⟨E, _, A, g, G, rfl, HI.out.pi.mono (by omega), HI.out.rs.er.chg CW (fun j hj e => HI.out.rs.gn.1 (e ▸ hj)), HI.out.rs.gf, HI.out.rs.ch.trans CW fun j hj e => by omega⟩
end Go.Proofs.Ytjalpppmgoepiaa.Rv
