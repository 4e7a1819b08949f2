/- Interleavings: every schedule is in one class: the walk. Printed by gen5/in10.py. -/
import Derived.Test.YthcldanmppkkjaaIns
import Derived.StillTailTactics
namespace Go.Proofs.Ythcldanmppkkjaa.In
open Go Go.RowKit Hp
set_option linter.unusedVariables false

theorem cells_op (w : World) (x : Hop) (g : Nat) (hg : w.heap.size = g) : ∀ (j : Nat) u, [Value.int .i64 (x.tx : Int), .int .i64 x.kind, .string x.key][j]? = some u → (w.alloc (.cells #[.int .i64 (x.tx : Int), .int .i64 x.kind, .string x.key] 33)).cell? ((⟨g, 0, none⟩ : Addr).add j) = some u := by
  subst hg
  exact cells_new w _ _
set_option maxRecDepth 100000 in
set_option maxHeartbeats 16000000 in
theorem walk22 (a2 : Option Addr) (len2 cap2 : Nat) (z2 : List Int) (a3 : Option Addr) (len3 cap3 : Nat) (z3 : List Int) (w : World) (hE : Elems w a2 len2 z2) (hl : len2 ≤ cap2) (hm : cap2 ≤ 9223372036854775807)
    (hE3 : Elems w a3 len3 z3) (hl3 : len3 ≤ cap3) (hm3 : cap3 ≤ 9223372036854775807) :
    Calls Try.prog 5 #[.slice a2 len2 cap2, .slice a3 len3 cap3] w fun e w' => e = .returned (.bool true) ∧ Up w w' := by
  obtain ⟨i0, hi0, hz0, hz1, hz2⟩ := info_parts Try.infoO
  have HE := Lib.hid hE
  have HE3 := Lib.hid hE3
  clear hE hE3
  go_enter Try.func5, Try.ntmps5
  go_wp2_with (first
    | (go_at_call 12; with_reducible refine (schedules_any _ L _ (T0.out.base (Nat.zero_le _)) VV.out).mono ?_; rintro e w3 ⟨v3, rfl, h1, h2⟩
       obtain ⟨S, hS⟩ : ∃ S, S = sch L := ⟨_, rfl⟩
       have HS := Lib.hid hS
       rw [← hS] at h1
       obtain ⟨sa, sc, rfl, hb1, hb2, hb3⟩ := h1.form
       have T3 := Lib.hid h1
       have TL := Lib.hid (T0.out.up h2)
       have U3 := Lib.hid (U2.out.trans h2)
       clear h1 h2 hb1 hb2 hb3 hS T0)
    | (go_at_call 8; refine (programs_any 9 (by decide) a2 len2 cap2 z2 _ (elems_up HE.out U1.out) hl hm).mono ?_; rintro e w2 ⟨g, us, L, rfl, h1, h2, h3⟩; have T0 := Lib.hid h1.txR; have P0 := Lib.hid h2; have VV := Lib.hid (h2.valid (by decide)); have U2 := Lib.hid (U1.out.trans h3); clear h1 h2 h3)
    | (go_at_call 7; refine (works_any _).mono ?_; rintro e w1 ⟨rfl, h1⟩; have U1 := Lib.hid h1; clear h1)
    | fail)
  obtain ⟨b9, hb9⟩ : ∃ b, b = w3.heap.size := ⟨_, rfl⟩
  have B0 : Hid (Blk (w3.alloc (.cells #[.int .i64 0, .int .i64 0, .int .i64 0] 39)) b9 (inC [0, 0, 0]) 39) := by rw [hb9]; exact Blk.new w3 _ _
  have U4 := Lib.hid ((Up.refl w3).alloc (.cells #[.int .i64 0, .int .i64 0, .int .i64 0] 39))
  have HB9 : Hid (w3.heap.size ≤ b9) := by unfold Hid; omega
  rw [← hb9]
  generalize w3.alloc (.cells #[.int .i64 0, .int .i64 0, .int .i64 0] 39) = w4 at *
  clear hb9
  have HOW := Lib.hid VV.out.own'
  have HL3 := Lib.hid P0.out.len
  have HF9 := P0.out.tot
  obtain ⟨F, hF⟩ : ∃ F, F = L.flatten.length := ⟨_, rfl⟩
  have HF := Lib.hid hF
  rw [← hF] at HF9
  have HCAT : Hid (∀ W, Up w3 W → Calls Try.prog 13 #[.slice (some ⟨g, 0, none⟩) 3 3] W fun e w' => ∃ ca cc, e = .returned (.slice ca F cc) ∧ Up W w') := fun W hW =>
    (concat_any _ L W ((TL.out.up hW).base (Nat.zero_le _)) (by have := HL3.out; omega) (by have := HF.out; omega)).mono fun e w' ⟨v, h1, h2, h3⟩ => by
      obtain ⟨a, c, rfl, _⟩ := own_form h2
      exact ⟨a, c, by rw [h1, HF.out], h3⟩
  clear hF
  go_loopw [8, 10] (fun sv iv wr => ∃ (ns : List Nat) (s : List Hop) (ua : Option Addr) (uc n : Nat), n ≤ 9 ∧ iv = .int .i64 n ∧ sv = .slice ua n uc ∧ Hid (s.length = n) ∧ Hid (Pre L ns s) ∧ Hid (OpsO wr w4.heap.size (.slice ua n uc) s) ∧ Hid (Blk wr b9 (inC ns) 39) ∧ Hid (Up w3 wr) ∧ Hid (w4.heap.size ≤ wr.heap.size)) (fun sv _ _ => F - slLen sv)
  case atStart => exact ⟨[0, 0, 0], [], none, 0, 0, by omega, rfl, rfl, rfl, Pre.nil L, World.ownsRow_nil _ _ _ _, B0.out, U4.out, Nat.le_refl _⟩
  case round =>
    obtain ⟨ns, s, ua, uc, n, hn9, rfl, rfl, HN, HP, HO, HB, HU, HB4⟩ := hrel
    by_cases hlt : n < F
    · have hlti : (n : Int) < (F : Int) := by omega
      by_cases hlc : n < len3
      · have hlci : (n : Int) < (len3 : Int) := by omega
        obtain ⟨b, off, rfl, hbl, hc⟩ := (elems_up HE3.out (U3.out.trans HU.out)) n hlc
        generalize z3.getD n 0 = x at *
        have hc2 : ∀ W, Up wr W → W.cell? ⟨b, off + n, none⟩ = some (.int .i64 x) := fun W h => (h.cell (p := ⟨b, off + n, none⟩) hbl).trans hc
        have HC2 := Lib.hid hc2
        clear hc hc2
        obtain ⟨r, hr⟩ := Int.eq_ofNat_of_zero_le (modV_nonneg x 3 (by decide))
        have hr3 : r < 3 := by have := modV_lt x 3 (by decide); omega
        have HMOD : Hid (∀ W, Calls Try.prog 10 #[.int .i64 x, .int .i64 3] W fun e w' => e = .returned (.int .i64 (r : Int)) ∧ W = w') := fun W => by
          have := mod_any x 3 W (by decide) (by decide)
          rw [hr] at this
          exact this
        clear hr
        obtain ⟨wo, rfl⟩ : ∃ x, x = wr := ⟨_, rfl⟩
        go_wp2_with (first
          | (go_at_call 13; with_reducible refine (HCAT.out _ HU.out).mono ?_; rintro e w5 ⟨ca, cc, rfl, h1⟩; have U5 := Lib.hid h1; have c5 := HC2.out _ h1; clear h1)
          | fail)
        have HB5 := Lib.hid (HB.out.up U5.out)
        have HO5 : Hid (OpsO w5 w4.heap.size (.slice ua n uc) s) := own_up HO.out U5.out
        have HU5 := Lib.hid (HU.out.trans U5.out)
        go_loopw [8, 47] (fun sv iv wr => ∃ d : Nat, d ≤ 3 ∧ iv = .int .i64 d ∧ sv = .slice ua n uc ∧ Hid (Up w5 wr) ∧ Hid (∀ d', d' < d → ¬ ns.getD ((r + d') % 3) 0 < (L.getD ((r + d') % 3) []).length)) (fun _ iv _ => 3 - (intOf iv).toNat)
        case atStart => exact ⟨0, by omega, rfl, rfl, Up.refl _, fun d' h => by omega⟩
        case round =>
          obtain ⟨d, hd3, rfl, rfl, HUI, HNO⟩ := hrel
          obtain ⟨wi, rfl⟩ : ∃ x, x = wr := ⟨_, rfl⟩
          have HB6 := Lib.hid (HB5.out.up HUI.out)
          have HO6 : Hid (OpsO wi w4.heap.size (.slice ua n uc) s) := own_up HO5.out HUI.out
          have HU6 := Lib.hid (HU5.out.trans HUI.out)
          have HW6 : Hid (w4.heap.size ≤ wi.heap.size) := Nat.le_trans HB4.out (Nat.le_trans U5.out.size HUI.out.size)
          by_cases hd : d < 3
          · have hdi : (d : Int) < 3 := by omega
            obtain ⟨t, ht⟩ : ∃ t, t = (r + d) % 3 := ⟨_, rfl⟩
            have ht3 : t < 3 := by omega
            have hti : (t : Int) < 3 := by omega
            have htm : ((r : Int) + (d : Int)).tmod 3 = (t : Int) := by rw [Int.tmod_eq_emod_of_nonneg (by omega)]; omega
            have htl : t < L.length := by rw [HL3.out]; exact ht3
            have htn : t < ns.length := by rw [HP.out.nl]; exact ht3
            obtain ⟨gg, u6, c6, hg6, _, t6, ho6, _⟩ := (TL.out.up HU6.out).row htl
            simp only [Option.some.injEq, Addr.mk.injEq, and_true] at hg6
            subst hg6
            have k1 := HB6.out.cell t
            rw [inC_get ns htn] at k1
            have hbl9 := HB6.out.lt
            have hp1 := HP.out.le t ht3
            have eL : L.getD t [] = L[t] := by simp [List.getD, htl]
            have HT := Lib.hid ht
            have HEL := Lib.hid eL
            rw [eL] at hp1
            obtain ⟨j, hj⟩ : ∃ j, j = ns.getD t 0 := ⟨_, rfl⟩
            have HJ := Lib.hid hj
            rw [← hj] at k1 hp1
            have HTL := Lib.hid htl
            by_cases hcond : j < L[t].length
            · have hx6 := hpC_get L[t] j hcond
              obtain ⟨g6, c6', hs6, hb6, hb7, hl6, hc6, _⟩ := own_some ho6 (by omega)
              simp only [Value.slice.injEq] at hs6
              obtain ⟨rfl, hs7, rfl⟩ := hs6
              obtain ⟨y, hy⟩ : ∃ y, y = L[t][j] := ⟨_, rfl⟩
              rw [← hy] at hx6
              have e1 := hc6 _ _ hx6.1
              have e2 := hc6 _ _ hx6.2.1
              have e3 := hc6 _ _ hx6.2.2
              have HPU := HP.out.push HOW.out HL3.out ht3 (by rw [eL, ← hj]; exact hcond)
              have ey : (L.getD t []).getD (ns.getD t 0) h0 = y := by rw [eL, ← hj, hy]; exact (List.getElem_eq_getD h0).symm
              rw [ey, ← hj] at HPU
              have HPH := Lib.hid HPU
              have hk12 : L[t].length ≤ 12 := by
                have h1 := mem_len (L := L) (by have := P0.out.tot; omega) t
                rwa [eL] at h1
              clear ho6 hx6 hc6 hs7 hb6 hb7 HPU ey hy eL
              generalize L[t].length = N at *
              have hcondi : (j : Int) < (N : Int) := by omega
              have hj12 : (j : Int) ≤ 12 := by omega
              have f9 := HB6.out.free t
              have H9N : ¬ b9 = g := fun e => by
                have h1 := blk_ty HB6.out
                have h2 := ((TL.out.up HU6.out).ty g rfl).1
                rw [e] at h1
                exact h1.ne (by decide) h2
              have hwj : IntKind.i64.wrap ((j : Int) + 1) = (j : Int) + 1 := by rw [IntKind.wrap_i64]; omega
              clear hj ht htn
              go_upto_region 20 with (first
                | (go_at_call 10; with_reducible refine (HMOD.out _).mono ?_; rintro e w8 ⟨rfl, rfl⟩)
                | fail)
              go_quiet (fail)
              obtain ⟨n1, rfl⟩ : ∃ n, n = nq := ⟨_, rfl⟩
              have HOn : (wi.drewN n1).drew.ownsRow w4.heap.size 33 3 (.slice ua n uc) n (hpC s) := by
                have := HO6.out
                unfold OpsO at this
                rw [HN.out] at this
                exact own_up this (Up.drewN (Up.refl wi) n1).drew
              have HY := Lib.hid HOn
              have h4 : w4.heap.size ≤ wi.heap.size := HW6.out
              clear HOn
              go_upto_region 20 with (fail)
              go_region_law (first
                | (refine step_append_lies _ rfl (.tmp 64) (.tmp 74) 30 rfl w4.heap.size 33 i0 (.agg #[.int .i64 0, .int .i64 0, .string ByteArray.empty]) 3 32 Try.underlying30 hi0 hz0 hz1 hz2 rfl (by decide) (.slice ua n uc) n (hpC s) (by simp [Act.eval]) (own_up HY.out ((Up.refl _).alloc (.cells #[.int .i64 (y.tx : Int), .int .i64 y.kind, .string y.key] 33))) ⟨wi.heap.size, 0, none⟩ 1 1 [.int .i64 (y.tx : Int), .int .i64 y.kind, .string y.key] (by simp [Act.eval]) rfl (cells_op _ y _ rfl) (by intro u hu; simp at hu; rcases hu with rfl | rfl | rfl <;> rfl) (by omega) (by unfold maxLen; omega) (by omega) (by simp; omega) (wi.heap.size + 1) (by simp) ?_
                   intro g2 c2 w8 hown2 hgrow2 hat2 hlt2)
                | fail)
              all_goals
                obtain ⟨W0, hW0⟩ : ∃ W0, W0 = (wi.drewN (n1 + 1)).alloc (.cells #[.int .i64 (y.tx : Int), .int .i64 y.kind, .string y.key] 33) := ⟨_, rfl⟩
                have V0 : Up wi W0 := by rw [hW0]; exact (Up.drewN (Up.refl wi) (n1 + 1)).alloc _
                have hgrow3 : W0.grownBy w8 (Value.slice ua n uc).ownBlock := by rw [hW0]; exact hgrow2
                have C8 : Chg (fun k => (Value.slice ua n uc).ownBlock = some k) W0 w8 := (Chg.refl _ W0).grown hgrow3 fun k hk => .inl hk
                have B8 := (HB6.out.up V0).chg C8 (fun e => ((own_ty HO6.out) b9 e).1.ne (by decide) (blk_ty HB6.out))
                have U8 : Up w3 w8 := Below.grown (HU6.out.trans V0) hgrow3 (HU6.out.trans V0).size fun k hk => Nat.le_trans U4.out.size ((own_ty HO6.out) k hk).2
                have k8 := B8.cell t
                rw [inC_get ns (by rw [HP.out.nl]; exact ht3), ← HJ.out] at k8
                have f8 := B8.free t
                have l8 := B8.lt
                have HB8 := Lib.hid B8
                have HU8 := Lib.hid U8
                have HS8 : Hid (w4.heap.size ≤ w8.heap.size) := Nat.le_trans HW6.out (Nat.le_trans V0.size hgrow3.size)
                have HO8 := Lib.hid hown2
                clear hown2 hgrow2 hgrow3 hat2 hlt2 C8 B8 U8 V0 hW0
                simp only [List.getElem_toArray, List.getElem_cons_succ, List.getElem_cons_zero, Act.put, List.setIfInBounds_toArray, List.set_cons_zero, List.set_cons_succ]
                go_wp2
                have B10 := HB8.out.set t (.int .i64 ((j : Int) + 1))
                have ej : (Value.int .i64 ((j : Int) + 1)) = .int .i64 ((j + 1 : Nat) : Int) := by simp
                rw [show (inC ns).set t (.int .i64 ((j : Int) + 1)) = inC (ns.set t (j + 1)) by rw [ej, inC_set]] at B10
                have HB10 := Lib.hid B10
                have HO10 : Hid (OpsO (w8.setCell ⟨b9, t, none⟩ (.int .i64 ((j : Int) + 1))) w4.heap.size (.slice (some ⟨g2, 0, none⟩) (n + 1) c2) (s ++ [y])) := by
                  have h1 := own_chg HO8.out (chg_set w8 b9 t none (.int .i64 ((j : Int) + 1))) fun k hk e => by
                    subst e
                    exact ((own_ty HO8.out) k hk).1.ne (by decide) (blk_ty HB8.out)
                  unfold Hid OpsO
                  rw [List.length_append, HN.out, hpC_app]
                  exact h1
                have HU10 := Lib.hid (HU8.out.set HB9.out t none (.int .i64 ((j : Int) + 1)))
                have HN10 : Hid ((s ++ [y]).length = n + 1) := by unfold Hid; rw [List.length_append, HN.out]; rfl
                clear B10 ej
                go_roundw
                case rel => exact ⟨ns.set t (j + 1), s ++ [y], some ⟨g2, 0, none⟩, c2, n + 1, by omega, by go_num, rfl, HN10.out, HPH.out, HO10.out, HB10.out, HU10.out, by simpa [Hid] using HS8.out⟩
                case measure => simp [slLen]; omega
            · have hcondi : ¬ (j : Int) < (L[t].length : Int) := by omega
              have f9 := HB6.out.free t
              have HNC : Hid (¬ ns.getD ((r + d) % 3) 0 < (L.getD ((r + d) % 3) []).length) := by
                unfold Hid
                rw [← HT.out, ← HJ.out, eL]
                exact hcond
              clear ho6 hj ht hcond eL hp1
              generalize L[t].length = N at *
              go_upto_region 19 with (first
                | (go_at_call 10; with_reducible refine (HMOD.out _).mono ?_; rintro e w8 ⟨rfl, rfl⟩)
                | fail)
              go_quiet (fail)
              have HUQ := Lib.hid (Up.drewN HUI.out nq)
              go_wp2
              go_roundw
              case rel => exact ⟨d + 1, by omega, by go_num, rfl, HUQ.out, fun d' hd' => by
                rcases Nat.lt_or_ge d' d with e | e
                · exact HNO.out d' e
                · obtain rfl : d' = d := by omega
                  exact HNC.out⟩
              case measure => simp [intOf]; omega
          · exfalso
            exact HP.out.some HL3.out (by rw [HN.out, ← HF.out]; exact hlt) hr3 fun d' hd' => HNO.out d' (by omega)
      · have hlci : ¬ (n : Int) < (len3 : Int) := by omega
        obtain ⟨x, hx⟩ : ∃ x : Int, x = 0 := ⟨_, rfl⟩
        obtain ⟨r, hr⟩ := Int.eq_ofNat_of_zero_le (modV_nonneg 0 3 (by decide))
        have hr3 : r < 3 := by have := modV_lt 0 3 (by decide); omega
        have HMOD : Hid (∀ W, Calls Try.prog 10 #[.int .i64 0, .int .i64 3] W fun e w' => e = .returned (.int .i64 (r : Int)) ∧ W = w') := fun W => by
          have := mod_any 0 3 W (by decide) (by decide)
          rw [hr] at this
          exact this
        clear hr
        obtain ⟨wo, rfl⟩ : ∃ x, x = wr := ⟨_, rfl⟩
        go_wp2_with (first
          | (go_at_call 13; with_reducible refine (HCAT.out _ HU.out).mono ?_; rintro e w5 ⟨ca, cc, rfl, h1⟩; have U5 := Lib.hid h1; clear h1)
          | fail)
        have HB5 := Lib.hid (HB.out.up U5.out)
        have HO5 : Hid (OpsO w5 w4.heap.size (.slice ua n uc) s) := own_up HO.out U5.out
        have HU5 := Lib.hid (HU.out.trans U5.out)
        go_loopw [8, 47] (fun sv iv wr => ∃ d : Nat, d ≤ 3 ∧ iv = .int .i64 d ∧ sv = .slice ua n uc ∧ Hid (Up w5 wr) ∧ Hid (∀ d', d' < d → ¬ ns.getD ((r + d') % 3) 0 < (L.getD ((r + d') % 3) []).length)) (fun _ iv _ => 3 - (intOf iv).toNat)
        case atStart => exact ⟨0, by omega, rfl, rfl, Up.refl _, fun d' h => by omega⟩
        case round =>
          obtain ⟨d, hd3, rfl, rfl, HUI, HNO⟩ := hrel
          obtain ⟨wi, rfl⟩ : ∃ x, x = wr := ⟨_, rfl⟩
          have HB6 := Lib.hid (HB5.out.up HUI.out)
          have HO6 : Hid (OpsO wi w4.heap.size (.slice ua n uc) s) := own_up HO5.out HUI.out
          have HU6 := Lib.hid (HU5.out.trans HUI.out)
          have HW6 : Hid (w4.heap.size ≤ wi.heap.size) := Nat.le_trans HB4.out (Nat.le_trans U5.out.size HUI.out.size)
          by_cases hd : d < 3
          · have hdi : (d : Int) < 3 := by omega
            obtain ⟨t, ht⟩ : ∃ t, t = (r + d) % 3 := ⟨_, rfl⟩
            have ht3 : t < 3 := by omega
            have hti : (t : Int) < 3 := by omega
            have htm : ((r : Int) + (d : Int)).tmod 3 = (t : Int) := by rw [Int.tmod_eq_emod_of_nonneg (by omega)]; omega
            have htl : t < L.length := by rw [HL3.out]; exact ht3
            have htn : t < ns.length := by rw [HP.out.nl]; exact ht3
            obtain ⟨gg, u6, c6, hg6, _, t6, ho6, _⟩ := (TL.out.up HU6.out).row htl
            simp only [Option.some.injEq, Addr.mk.injEq, and_true] at hg6
            subst hg6
            have k1 := HB6.out.cell t
            rw [inC_get ns htn] at k1
            have hbl9 := HB6.out.lt
            have hp1 := HP.out.le t ht3
            have eL : L.getD t [] = L[t] := by simp [List.getD, htl]
            have HT := Lib.hid ht
            have HEL := Lib.hid eL
            rw [eL] at hp1
            obtain ⟨j, hj⟩ : ∃ j, j = ns.getD t 0 := ⟨_, rfl⟩
            have HJ := Lib.hid hj
            rw [← hj] at k1 hp1
            have HTL := Lib.hid htl
            by_cases hcond : j < L[t].length
            · have hx6 := hpC_get L[t] j hcond
              obtain ⟨g6, c6', hs6, hb6, hb7, hl6, hc6, _⟩ := own_some ho6 (by omega)
              simp only [Value.slice.injEq] at hs6
              obtain ⟨rfl, hs7, rfl⟩ := hs6
              obtain ⟨y, hy⟩ : ∃ y, y = L[t][j] := ⟨_, rfl⟩
              rw [← hy] at hx6
              have e1 := hc6 _ _ hx6.1
              have e2 := hc6 _ _ hx6.2.1
              have e3 := hc6 _ _ hx6.2.2
              have HPU := HP.out.push HOW.out HL3.out ht3 (by rw [eL, ← hj]; exact hcond)
              have ey : (L.getD t []).getD (ns.getD t 0) h0 = y := by rw [eL, ← hj, hy]; exact (List.getElem_eq_getD h0).symm
              rw [ey, ← hj] at HPU
              have HPH := Lib.hid HPU
              have hk12 : L[t].length ≤ 12 := by
                have h1 := mem_len (L := L) (by have := P0.out.tot; omega) t
                rwa [eL] at h1
              clear ho6 hx6 hc6 hs7 hb6 hb7 HPU ey hy eL
              generalize L[t].length = N at *
              have hcondi : (j : Int) < (N : Int) := by omega
              have hj12 : (j : Int) ≤ 12 := by omega
              have f9 := HB6.out.free t
              have H9N : ¬ b9 = g := fun e => by
                have h1 := blk_ty HB6.out
                have h2 := ((TL.out.up HU6.out).ty g rfl).1
                rw [e] at h1
                exact h1.ne (by decide) h2
              have hwj : IntKind.i64.wrap ((j : Int) + 1) = (j : Int) + 1 := by rw [IntKind.wrap_i64]; omega
              clear hj ht htn
              go_upto_region 20 with (first
                | (go_at_call 10; with_reducible refine (HMOD.out _).mono ?_; rintro e w8 ⟨rfl, rfl⟩)
                | fail)
              go_quiet (fail)
              obtain ⟨n1, rfl⟩ : ∃ n, n = nq := ⟨_, rfl⟩
              have HOn : (wi.drewN n1).drew.ownsRow w4.heap.size 33 3 (.slice ua n uc) n (hpC s) := by
                have := HO6.out
                unfold OpsO at this
                rw [HN.out] at this
                exact own_up this (Up.drewN (Up.refl wi) n1).drew
              have HY := Lib.hid HOn
              have h4 : w4.heap.size ≤ wi.heap.size := HW6.out
              clear HOn
              go_upto_region 20 with (fail)
              go_region_law (first
                | (refine step_append_lies _ rfl (.tmp 64) (.tmp 74) 30 rfl w4.heap.size 33 i0 (.agg #[.int .i64 0, .int .i64 0, .string ByteArray.empty]) 3 32 Try.underlying30 hi0 hz0 hz1 hz2 rfl (by decide) (.slice ua n uc) n (hpC s) (by simp [Act.eval]) (own_up HY.out ((Up.refl _).alloc (.cells #[.int .i64 (y.tx : Int), .int .i64 y.kind, .string y.key] 33))) ⟨wi.heap.size, 0, none⟩ 1 1 [.int .i64 (y.tx : Int), .int .i64 y.kind, .string y.key] (by simp [Act.eval]) rfl (cells_op _ y _ rfl) (by intro u hu; simp at hu; rcases hu with rfl | rfl | rfl <;> rfl) (by omega) (by unfold maxLen; omega) (by omega) (by simp; omega) (wi.heap.size + 1) (by simp) ?_
                   intro g2 c2 w8 hown2 hgrow2 hat2 hlt2)
                | fail)
              all_goals
                obtain ⟨W0, hW0⟩ : ∃ W0, W0 = (wi.drewN (n1 + 1)).alloc (.cells #[.int .i64 (y.tx : Int), .int .i64 y.kind, .string y.key] 33) := ⟨_, rfl⟩
                have V0 : Up wi W0 := by rw [hW0]; exact (Up.drewN (Up.refl wi) (n1 + 1)).alloc _
                have hgrow3 : W0.grownBy w8 (Value.slice ua n uc).ownBlock := by rw [hW0]; exact hgrow2
                have C8 : Chg (fun k => (Value.slice ua n uc).ownBlock = some k) W0 w8 := (Chg.refl _ W0).grown hgrow3 fun k hk => .inl hk
                have B8 := (HB6.out.up V0).chg C8 (fun e => ((own_ty HO6.out) b9 e).1.ne (by decide) (blk_ty HB6.out))
                have U8 : Up w3 w8 := Below.grown (HU6.out.trans V0) hgrow3 (HU6.out.trans V0).size fun k hk => Nat.le_trans U4.out.size ((own_ty HO6.out) k hk).2
                have k8 := B8.cell t
                rw [inC_get ns (by rw [HP.out.nl]; exact ht3), ← HJ.out] at k8
                have f8 := B8.free t
                have l8 := B8.lt
                have HB8 := Lib.hid B8
                have HU8 := Lib.hid U8
                have HS8 : Hid (w4.heap.size ≤ w8.heap.size) := Nat.le_trans HW6.out (Nat.le_trans V0.size hgrow3.size)
                have HO8 := Lib.hid hown2
                clear hown2 hgrow2 hgrow3 hat2 hlt2 C8 B8 U8 V0 hW0
                simp only [List.getElem_toArray, List.getElem_cons_succ, List.getElem_cons_zero, Act.put, List.setIfInBounds_toArray, List.set_cons_zero, List.set_cons_succ]
                go_wp2
                have B10 := HB8.out.set t (.int .i64 ((j : Int) + 1))
                have ej : (Value.int .i64 ((j : Int) + 1)) = .int .i64 ((j + 1 : Nat) : Int) := by simp
                rw [show (inC ns).set t (.int .i64 ((j : Int) + 1)) = inC (ns.set t (j + 1)) by rw [ej, inC_set]] at B10
                have HB10 := Lib.hid B10
                have HO10 : Hid (OpsO (w8.setCell ⟨b9, t, none⟩ (.int .i64 ((j : Int) + 1))) w4.heap.size (.slice (some ⟨g2, 0, none⟩) (n + 1) c2) (s ++ [y])) := by
                  have h1 := own_chg HO8.out (chg_set w8 b9 t none (.int .i64 ((j : Int) + 1))) fun k hk e => by
                    subst e
                    exact ((own_ty HO8.out) k hk).1.ne (by decide) (blk_ty HB8.out)
                  unfold Hid OpsO
                  rw [List.length_append, HN.out, hpC_app]
                  exact h1
                have HU10 := Lib.hid (HU8.out.set HB9.out t none (.int .i64 ((j : Int) + 1)))
                have HN10 : Hid ((s ++ [y]).length = n + 1) := by unfold Hid; rw [List.length_append, HN.out]; rfl
                clear B10 ej
                go_roundw
                case rel => exact ⟨ns.set t (j + 1), s ++ [y], some ⟨g2, 0, none⟩, c2, n + 1, by omega, by go_num, rfl, HN10.out, HPH.out, HO10.out, HB10.out, HU10.out, by simpa [Hid] using HS8.out⟩
                case measure => simp [slLen]; omega
            · have hcondi : ¬ (j : Int) < (L[t].length : Int) := by omega
              have f9 := HB6.out.free t
              have HNC : Hid (¬ ns.getD ((r + d) % 3) 0 < (L.getD ((r + d) % 3) []).length) := by
                unfold Hid
                rw [← HT.out, ← HJ.out, eL]
                exact hcond
              clear ho6 hj ht hcond eL hp1
              generalize L[t].length = N at *
              go_upto_region 19 with (first
                | (go_at_call 10; with_reducible refine (HMOD.out _).mono ?_; rintro e w8 ⟨rfl, rfl⟩)
                | fail)
              go_quiet (fail)
              have HUQ := Lib.hid (Up.drewN HUI.out nq)
              go_wp2
              go_roundw
              case rel => exact ⟨d + 1, by omega, by go_num, rfl, HUQ.out, fun d' hd' => by
                rcases Nat.lt_or_ge d' d with e | e
                · exact HNO.out d' e
                · obtain rfl : d' = d := by omega
                  exact HNC.out⟩
              case measure => simp [intOf]; omega
          · exfalso
            exact HP.out.some HL3.out (by rw [HN.out, ← HF.out]; exact hlt) hr3 fun d' hd' => HNO.out d' (by omega)
    · have hnlt : ¬ (n : Int) < (F : Int) := by omega
      have HM : Hid (Mrg Hop.tx L s) := HP.out.done HL3.out (by rw [HN.out, ← HF.out]; exact hlt)
      obtain ⟨wo, rfl⟩ : ∃ x, x = wr := ⟨_, rfl⟩
      go_wp2_with (first
        | (go_at_call 13; with_reducible refine (HCAT.out _ HU.out).mono ?_; rintro e w5 ⟨ca, cc, rfl, h1⟩; have U5 := Lib.hid h1; clear h1)
        | fail)
      have hSL := sch_len VV.out
      rw [← HS.out] at hSL
      have HV := Lib.hid (fun x (hx : x ∈ S) => merge_valid VV.out (sch_merge VV.out x (by rw [← HS.out]; exact hx)))
      have HVS := Lib.hid (merge_valid VV.out HM.out)
      have HEQ : Hid (eqN S s S.length = 1) := by
        rw [HS.out]
        exact eqN_all VV.out HM.out
      have HLE := Lib.hid (eqN_le S s)
      have HO5 : Hid (OpsO w5 w4.heap.size (.slice ua n uc) s) := own_up HO.out U5.out
      go_loopw [14, 84] (fun cv iv wr => ∃ q : Nat, q ≤ S.length ∧ iv = .int .i64 q ∧ cv = .int .i64 (eqN S s q : Nat) ∧ Hid (Up w5 wr)) (fun _ iv _ => S.length - (intOf iv).toNat)
      case atStart => exact ⟨0, by omega, rfl, rfl, Up.refl _⟩
      case round =>
        obtain ⟨q, hq, rfl, rfl, HU6⟩ := hrel
        have hcl := HLE.out q
        by_cases hlt2 : q < S.length
        · have hlti : (q : Int) < (S.length : Int) := by omega
          obtain ⟨g6, u6, c6, rfl, hg6, t6, ho6, _⟩ := (T3.out.up ((HU.out.trans U5.out).trans HU6.out)).row hlt2
          have HEV := Lib.hid (equiv_any _ _ S[q] s _ _ wr ho6 (own_up HO5.out HU6.out) (HV.out _ (List.getElem_mem hlt2)) HVS.out)
          have HCN := Lib.hid (eqN_next S s hlt2)
          obtain ⟨c, hc⟩ : ∃ c, c = eqN S s q := ⟨_, rfl⟩
          rw [← hc] at HCN hcl ⊢
          clear ho6 hc
          by_cases hr : nfH S[q] = nfH s
          · rw [decide_eq_true hr] at HEV
            rw [if_pos hr] at HCN
            clear hr
            generalize S[q].length = y at *
            go_wp2_with (first
              | (go_at_call 14; with_reducible refine HEV.out.mono ?_; rintro e w7 ⟨rfl, h1⟩; have U7 := Lib.hid h1; clear h1)
              | fail)
            go_roundw
            case rel => exact ⟨q + 1, by omega, by go_num, by rw [HCN.out]; go_num, HU6.out.trans U7.out⟩
            case measure => simp [intOf]; omega
          · rw [decide_eq_false hr] at HEV
            rw [if_neg hr] at HCN
            clear hr
            generalize S[q].length = y at *
            go_wp2_with (first
              | (go_at_call 14; with_reducible refine HEV.out.mono ?_; rintro e w7 ⟨rfl, h1⟩; have U7 := Lib.hid h1; clear h1)
              | fail)
            go_roundw
            case rel => exact ⟨q + 1, by omega, by go_num, by rw [HCN.out, Nat.add_zero], HU6.out.trans U7.out⟩
            case measure => simp [intOf]; omega
        · obtain rfl : q = S.length := by omega
          rw [HEQ.out]
          go_wp2
          go_ret
          exact ⟨rfl, ((U3.out.trans HU.out).trans U5.out).trans HU6.out⟩
end Go.Proofs.Ythcldanmppkkjaa.In
