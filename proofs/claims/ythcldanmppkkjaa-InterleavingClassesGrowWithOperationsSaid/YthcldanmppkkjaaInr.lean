/- Interleavings: the classes grow with operations. Printed by gen5/in9.py. -/
import Derived.Test.YthcldanmppkkjaaIno
import Derived.Test.YthcldanmppkkjaaInm
namespace Go.Proofs.Ythcldanmppkkjaa.In
open Go Go.RowKit Hp
set_option linter.unusedVariables false

theorem TxO.row3' {w : World} {base n : Nat} {v : Value} {us : List Value} {L : List (List Hop)} (h : TxO w base v us L) (h3 : L.length = n) : w.ownsRow base 30 1 v n us := by
  have := h.row
  rw [h3] at this
  exact this
set_option maxRecDepth 100000 in
set_option maxHeartbeats 16000000 in
theorem walk15 (a2 : Option Addr) (len2 cap2 : Nat) (z2 : List Int) (last : Int) (w : World) (hE : Elems w a2 len2 z2) (hl : len2 ≤ cap2) (hm : cap2 ≤ 9223372036854775807) :
    Calls Try.prog 3 #[.slice a2 len2 cap2, .int .i64 last] w fun e w' => e = .returned (.bool true) ∧ Up w w' := by
  obtain ⟨i0, hi0, hz0, hz1, hz2⟩ := info_parts Try.infoO
  have HE := Lib.hid hE
  clear hE
  go_enter Try.func3, Try.ntmps3
  go_upto_region 6 with (first
    | (go_at_call 10; refine (modn_any _ _ _ (by decide) (by decide)).mono ?_; rintro e w' ⟨t, rfl, ht, rfl⟩)
    | (go_at_call 9; with_reducible refine (count_any _ L _ (HT.out.txR.base (Nat.zero_le _)) (HP.out.valid (by decide))).mono ?_; rintro e w3 ⟨rfl, h1⟩
       obtain ⟨n1, hn1⟩ : ∃ n1, n1 = (sch L).length := ⟨_, rfl⟩
       obtain ⟨s1, hs1⟩ : ∃ s1, s1 = serN L := ⟨_, rfl⟩
       rw [← hn1, ← hs1]
       have HN1 := Lib.hid hn1
       have HS1 := Lib.hid hs1
       have U3 := Lib.hid (U2.out.trans h1)
       have HTX := Lib.hid (HT.out.up h1)
       clear h1 hn1 hs1 HT)
    | (go_at_call 8; refine (programs_any 8 (by decide) a2 len2 cap2 z2 _ (elems_up HE.out U1.out) hl hm).mono ?_; rintro e w2 ⟨g, us, L, rfl, h1, h2, h3⟩; have HT := Lib.hid h1; have HP := Lib.hid h2; have U2 := Lib.hid h3; clear h1 h2 h3)
    | (go_at_call 7; refine (works_any _).mono ?_; rintro e w1 ⟨rfl, h1⟩; have U1 := Lib.hid h1; clear h1)
    | fail)
  have hL3 := HP.out.len
  have htl : t < L.length := by omega
  obtain ⟨u, hut, hou⟩ := HTX.out.rows t htl
  have c0 := own_cell (HTX.out.row3' hL3) hut
  have f0 := own_free (HTX.out.row3' hL3) t
  have hgl := own_glt (HTX.out.row3' hL3)
  obtain ⟨ua, uc, rfl, hv1, hv2, hv3⟩ := own_form hou
  have hnl : L[t].length ≤ 12 := by
    have h1 := mem_len (L := L) (by have := HP.out.tot; omega) t
    rwa [show L.getD t [] = L[t] by simp [List.getD, htl]] at h1
  have HOU := Lib.hid hou
  have HTL := Lib.hid htl
  have HUT := Lib.hid hut
  obtain ⟨y, hy⟩ : ∃ y, y = L[t]'htl := ⟨_, rfl⟩
  have HY := Lib.hid hy
  rw [← hy] at HOU HUT hnl c0
  have hwr : w1.heap.size ≤ w3.heap.size := U3.out.size
  have HL3 := Lib.hid hL3
  clear hou hut hy hL3 hv1 hv2 hv3
  have hcv := conv1 (P := Try.prog) 31 9 5 Try.underlying31 Try.underlying5 Try.underlying9
  have hcv2 : ∀ z : Int, (convert 31 9 (.slice (some ⟨w3.heap.size, 0, none⟩) 1 1)).run Try.prog (w3.alloc (.cells #[.int .u8 z] 5)).drew = .ok (.string (one z)) (w3.alloc (.cells #[.int .u8 z] 5)).drew := fun z => hcv w3.drew z 1 5
  clear hcv
  refine wp_region_held_last _ 22 (by kernel_rfl) rfl rfl rfl rfl (by kernel_rfl) (by kernel_rfl) (fun w' => w'.cell? ⟨g, t, none⟩ = some (.slice ua y.length uc)) ?xs (fun hHeld => ?xr)
  case xs => simpa using c0
  simp only [List.set_cons_succ, List.set_cons_zero, Hp.idle]
  refine wpAnyH_take (i := 0) (v := ?xv0) rfl (by kernel_rfl) (by kernel_rfl) (by kernel_rfl) (fun _ _ _ h => h) (Or.inl ⟨by rfl, ?xy0⟩) (by assumption) ?xr0
  case xy0 => (intro w hSw; (try dsimp only at hSw); go_simp; try with_reducible rfl)
  (try simp only [Act.put, List.setIfInBounds_toArray])
  refine wpAnyH_take (i := 1) (v := ?xv1) rfl (by kernel_rfl) (by kernel_rfl) (by kernel_rfl) (fun _ _ _ h => h) (Or.inl ⟨by rfl, ?xy1⟩) (by assumption) ?xr1
  case xy1 => (intro w hSw; (try dsimp only at hSw); go_simp; try with_reducible rfl)
  (try simp only [Act.put])
  refine wpAnyH_take (i := 2) (v := ?xv2) rfl (by kernel_rfl) (by kernel_rfl) (by kernel_rfl) (fun _ _ _ h => h) (Or.inl ⟨by rfl, ?xy2⟩) (by assumption) ?xr2
  case xy2 => (intro w hSw; (try dsimp only at hSw); go_simp; try with_reducible rfl)
  (try simp only [Act.put])
  refine wpAnyH_take (i := 3) (v := ?xv3) rfl (by kernel_rfl) (by kernel_rfl) (by kernel_rfl) (fun _ _ _ h => h) (Or.inl ⟨by rfl, ?xy3⟩) (by assumption) ?xr3
  case xy3 => (intro w hSw; (try dsimp only at hSw); go_simp; try with_reducible rfl)
  (try simp only [Act.put])
  refine wpAnyH_take (i := 4) (v := ?xv4) rfl (by kernel_rfl) (by kernel_rfl) (by kernel_rfl) (fun _ _ _ h => h) (Or.inl ⟨by rfl, ?xy4⟩) (by assumption) ?xr4
  case xy4 => (intro w hSw; (try dsimp only at hSw); go_simp; try with_reducible rfl)
  (try simp only [Act.put])
  refine wpAnyH_take (i := 5) (v := ?xv5) rfl (by kernel_rfl) (by kernel_rfl) (by kernel_rfl) (fun _ _ _ h => h) (Or.inl ⟨by rfl, ?xy5⟩) (by assumption) ?xr5
  case xy5 => (intro w hSw; (try dsimp only at hSw); go_simp; try with_reducible rfl)
  (try simp only [Act.put])
  refine wpAnyH_take (i := 6) (v := ?xv6) rfl (by kernel_rfl) (by kernel_rfl) (by kernel_rfl) (fun _ _ _ h => h) (Or.inl ⟨by rfl, ?xy6⟩) (by assumption) ?xr6
  case xy6 => (intro w hSw; (try dsimp only at hSw); go_simp; try with_reducible rfl)
  (try simp only [Act.put])
  refine wpAnyH_take (i := 7) (v := ?xv7) rfl (by kernel_rfl) (by kernel_rfl) (by kernel_rfl) (fun _ _ _ h => h) (Or.inl ⟨by rfl, ?xy7⟩) (by assumption) ?xr7
  case xy7 => (intro w hSw; (try dsimp only at hSw); go_simp; try with_reducible rfl)
  (try simp only [Act.put])
  refine wpAnyH_take (i := 8) (v := ?xv8) rfl (by kernel_rfl) (by kernel_rfl) (by kernel_rfl) (fun _ _ _ h => h) (Or.inl ⟨by rfl, ?xy8⟩) (by assumption) ?xr8
  case xy8 => (intro w hSw; (try dsimp only at hSw); go_simp; try with_reducible rfl)
  (try simp only [Act.put])
  refine wpAnyH_take (i := 11) (v := ?xv11) rfl (by kernel_rfl) (by kernel_rfl) (by kernel_rfl) (fun _ _ _ h => h) (Or.inl ⟨by rfl, ?xy11⟩) (by assumption) ?xr11
  case xy11 => (intro w hSw; (try dsimp only at hSw); go_simp; try with_reducible rfl)
  (try simp only [Act.put])
  refine wpAnyH_take (i := 12) (v := ?xv12) rfl (by kernel_rfl) (by kernel_rfl) (by kernel_rfl) (fun _ _ _ h => h) (Or.inl ⟨by rfl, ?xy12⟩) (by assumption) ?xr12
  case xy12 => (intro w hSw; (try dsimp only at hSw); go_simp; try with_reducible rfl)
  (try simp only [Act.put])
  refine wpAnyH_ready (rs := [9]) (by kernel_rfl) (by simp) (AllReadyH.cons rfl (fun K hK => ?xk9) AllReadyH.nil)
  go_simp
  go_wp2_with (first
    | (go_at_call 10; refine (modn_any _ 2 _ (by decide) (by decide)).mono ?_; rintro e w' ⟨q0, rfl, hq0, rfl⟩)
    | fail)
  have hkd : (q0 : Int) < 2 := by omega
  clear hq0
  obtain ⟨kd, rfl⟩ : ∃ kd : Nat, kd = q0 := ⟨_, rfl⟩
  have hwk : IntKind.i64.wrap (1 + (kd : Int)) = 1 + (kd : Int) := by rw [IntKind.wrap_i64]; omega
  refine hK.out _ _ ?xs9 (fun hHeld => ?xh9)
  case xs9 => (first | assumption | exact r1 | go_keep)
  clear hK K
  (try simp only [Act.put, List.setIfInBounds_toArray, List.set_cons_zero, List.set_cons_succ])
  refine wpAnyH_take (i := 10) (v := ?xv10) rfl (by kernel_rfl) (by kernel_rfl) (by kernel_rfl) (fun _ _ _ h => h) (Or.inl ⟨by rfl, ?xy10⟩) (by assumption) ?xr10
  case xy10 => (intro w hSw; (try dsimp only at hSw); go_simp; try with_reducible rfl)
  (try simp only [Act.put, List.setIfInBounds_toArray])
  refine wpAnyH_ready (rs := [13]) (by kernel_rfl) (by simp) (AllReadyH.cons rfl (fun K hK => ?xk13) AllReadyH.nil)
  go_simp
  go_wp2_with (first
    | (go_at_call 10; refine (modn_any _ 3 _ (by decide) (by decide)).mono ?_; rintro e w' ⟨q0, rfl, hq0, rfl⟩)
    | fail)
  have hq : (q0 : Int) < 3 := by omega
  clear hq0
  obtain ⟨q, rfl⟩ : ∃ q : Nat, q = q0 := ⟨_, rfl⟩
  have hwq : IntKind.u8.wrap (q : Int) = (q : Int) := by rw [IntKind.wrap_u8]; omega
  have hwrp : IntKind.u8.wrap (120 + (q : Int)) = 120 + (q : Int) := by rw [IntKind.wrap_u8]; omega
  refine hK.out _ _ ?xs13 (fun hHeld => ?xh13)
  case xs13 => (first | assumption | exact r1 | go_keep)
  clear hK K
  (try simp only [Act.put, List.setIfInBounds_toArray, List.set_cons_zero, List.set_cons_succ])
  refine wpAnyH_take (i := 14) (v := ?xv14) rfl (by kernel_rfl) (by kernel_rfl) (by kernel_rfl) (fun _ _ _ h => h) (Or.inl ⟨by rfl, ?xy14⟩) (by assumption) ?xr14
  case xy14 => (intro w hSw; (try dsimp only at hSw); go_simp; try with_reducible rfl)
  (try simp only [Act.put, List.setIfInBounds_toArray])
  refine wpAnyH_take (i := 15) (v := ?xv15) rfl (by kernel_rfl) (by kernel_rfl) (by kernel_rfl) (fun _ _ _ h => h) (Or.inl ⟨by rfl, ?xy15⟩) (by assumption) ?xr15
  case xy15 => (intro w hSw; (try dsimp only at hSw); go_simp; try with_reducible rfl)
  (try simp only [Act.put])
  refine wpAnyH_ready (rs := [16]) (by kernel_rfl) (by simp) (AllReadyH.cons rfl (fun K hK => ?xk16) AllReadyH.nil)
  go_simp
  refine hK.out _ _ ?xs16 (fun hHeld => ?xh16)
  case xs16 => (first | assumption | exact r1 | go_keep)
  clear hK K
  (try simp only [Act.put, List.setIfInBounds_toArray, List.set_cons_zero, List.set_cons_succ])
  refine wpAnyH_ready (rs := [17]) (by kernel_rfl) (by simp) (AllReadyH.cons rfl (fun K hK => ?xk17) AllReadyH.nil)
  go_simp
  refine hK.out _ _ ?xs17 (fun hHeld => ?xh17)
  case xs17 => (first | assumption | exact r1 | go_keep)
  clear hK K
  (try simp only [Act.put, List.setIfInBounds_toArray, List.set_cons_zero, List.set_cons_succ])
  refine wpAnyH_take (i := 18) (v := ?xv18) rfl (by kernel_rfl) (by kernel_rfl) (by kernel_rfl) (fun _ _ _ h => h) (Or.inl ⟨by rfl, ?xy18⟩) (by assumption) ?xr18
  case xy18 => (intro w hSw; (try dsimp only at hSw); go_simp; try with_reducible rfl)
  (try simp only [Act.put, List.setIfInBounds_toArray])
  refine wpAnyH_ready (rs := [19]) (by kernel_rfl) (by simp) (AllReadyH.cons rfl (fun K hK => ?xk19) AllReadyH.nil)
  go_simp
  refine hK.out _ _ ?xs19 (fun hHeld => ?xh19)
  case xs19 => (first | assumption | exact r1 | go_keep)
  clear hK K
  (try simp only [Act.put, List.setIfInBounds_toArray, List.set_cons_zero, List.set_cons_succ])
  refine wpAnyH_ready (rs := [20]) (by kernel_rfl) (by simp) (AllReadyH.cons rfl (fun K hK => ?xk20) AllReadyH.nil)
  refine step_append_lies _ rfl (.tmp 30) (.tmp 44) 30 rfl w1.heap.size 33 i0 (.agg #[.int .i64 0, .int .i64 0, .string ByteArray.empty]) 3 32 Try.underlying30 hi0 hz0 hz1 hz2 rfl (by decide) (.slice ua y.length uc) y.length (hpC y) (by simp [Act.eval]) (by exact own_up HOU.out (((Up.refl w3).alloc (.cells #[.int .u8 (120 + (q : Int))] 5)).alloc (.cells #[.int .i64 (t : Int), .int .i64 (1 + (kd : Int)), .string (one (120 + (q : Int)))] 33)).drew) ⟨w3.heap.size + 1, 0, none⟩ 1 1 [.int .i64 (t : Int), .int .i64 (1 + (kd : Int)), .string (one (120 + (q : Int)))] (by simp [Act.eval]) rfl (by intro j u hj; exact cells_at (w3.alloc (.cells #[.int .u8 (120 + (q : Int))] 5)) #[.int .i64 (t : Int), .int .i64 (1 + (kd : Int)), .string (one (120 + (q : Int)))] 33 (w3.heap.size + 1) (by simp) j u hj) (by intro u hu; simp at hu; rcases hu with rfl | rfl | rfl <;> rfl) (by omega) (by unfold maxLen; omega) (by omega) (by simp; omega) (w3.heap.size + 2) (by simp) ?ag
  intro g2 c2 w9 hown2 hgrow2 hat2 hlt2
  obtain ⟨r1, r2, r3, r4⟩ := HTX.out.far HL3.out HTL.out HUT.out (((Up.refl w3).alloc (.cells #[.int .u8 (120 + (q : Int))] 5)).alloc (.cells #[.int .i64 (t : Int), .int .i64 (1 + (kd : Int)), .string (one (120 + (q : Int)))] 33)).drew hgrow2
  have HC3 := Lib.hid r4
  have H3 := Lib.hid (And.intro hown2 (And.intro hgrow2 hat2))
  clear hown2 hgrow2 hat2 r4
  refine hK.out _ _ ?xs20 (fun hHeld => ?xh20)
  case xs20 => (first | assumption | exact r1 | go_keep)
  clear hK K
  (try simp only [Act.put, List.setIfInBounds_toArray])
  refine wpAnyH_take (i := 21) (v := ?xv21) rfl (by kernel_rfl) (by kernel_rfl) (by kernel_rfl) (fun _ _ _ h => h) (Or.inl ⟨by rfl, ?xy21⟩) (by assumption) ?xr21
  case xy21 => (intro w hSw; (try dsimp only at hSw); go_simp; try with_reducible rfl)
  (try simp only [Act.put])
  refine wpAnyH_take (i := 22) (v := ?xv22) rfl (by kernel_rfl) (by kernel_rfl) (by kernel_rfl) (fun _ _ _ h => h) (Or.inl ⟨by rfl, ?xy22⟩) (by assumption) ?xr22
  case xy22 => (intro w hSw; (try dsimp only at hSw); go_simp; try with_reducible rfl)
  (try simp only [Act.put])
  refine wpAnyH_done (by kernel_rfl) (Fin1.of ?xd) _
  obtain ⟨x, hx⟩ : ∃ x : Hop, x = ⟨t, 1 + (kd : Int), one (120 + (q : Int))⟩ := ⟨_, rfl⟩
  have hxt : x.tx = t := by rw [hx]
  have hxo : x.tx = t ∧ HOk x := by
    rw [hx]
    exact ⟨rfl, by show (1 + (kd : Int)) = 1 ∨ (1 + (kd : Int)) = 2; omega, by show (one _).size ≤ 24; rw [one_size]; omega⟩
  have NEW : Hid (TxO (w9.setCell ⟨g, t, none⟩ (.slice (some ⟨g2, 0, none⟩) (y.length + 1) c2)) w1.heap.size (.slice (some ⟨g, 0, none⟩) 3 3) (us.set t (.slice (some ⟨g2, 0, none⟩) (y.length + 1) c2)) (L.set t (y ++ [x]))) := by
    obtain ⟨e1, e2, e3⟩ := H3.out
    refine HTX.out.put HL3.out HTL.out HUT.out HC3.out (u' := .slice (some ⟨g2, 0, none⟩) (y.length + 1) c2) (l := y ++ [x]) ?_ ?_
    · unfold OpsO
      rw [List.length_append, hpC_app, hx]
      exact e1
    · rcases e3 with e | e
      · exact .inl e.symm
      · refine .inr fun k hk => ?_
        obtain rfl : g2 = k := by simpa [Value.ownBlock] using hk
        rw [e]; exact Nat.le_add_right _ _
  have P2 : Hid (PrgL (L.set t (y ++ [x])) 9) := by
    have := HP.out.snoc HTL.out hxo
    rw [← HY.out] at this
    exact this
  have U4 : Hid (Up w1 (w9.setCell ⟨g, t, none⟩ (.slice (some ⟨g2, 0, none⟩) (y.length + 1) c2))) := by
    refine Up.set (Below.trans U3.out (HC3.out.below U3.out.size fun k hk e => ?_)) (((own_ty HTX.out.row) g rfl).2) _ _ _
    have := ((own_ty HOU.out) k e).2
    omega
  obtain ⟨L2, hL2⟩ : ∃ L2, L2 = L.set t (y ++ [x]) := ⟨_, rfl⟩
  have hgr : n1 ≤ (sch L2).length := by
    have h1 := sch_grow (HP.out.valid (by decide)) HTL.out hxt
    rw [show L.getD t [] = y by rw [HY.out]; simp [List.getD, HTL.out], ← hL2, ← HN1.out] at h1
    exact h1
  rw [← hL2] at NEW P2
  have hp1 : 1 ≤ n1 := by
    have h1 := ser_pos (HP.out.valid (by decide))
    have h2 := ser_le L
    have h3 := HN1.out
    omega
  have hp2 := ser_pos (P2.out.valid (by decide))
  have hp3 := ser_le L2
  obtain ⟨n2, hn2⟩ : ∃ n2, n2 = (sch L2).length := ⟨_, rfl⟩
  obtain ⟨s2, hs2⟩ : ∃ s2, s2 = serN L2 := ⟨_, rfl⟩
  have HC : Hid (∀ W, Up (w9.setCell ⟨g, t, none⟩ (.slice (some ⟨g2, 0, none⟩) (y.length + 1) c2)) W → Calls Try.prog 9 #[.slice (some ⟨g, 0, none⟩) 3 3] W fun e w' => e = .returned (.tuple #[.int .i64 (n2 : Nat), .int .i64 (s2 : Nat), .int .i64 0]) ∧ Up W w') := fun W hW => by
    rw [hn2, hs2]
    exact count_any _ L2 _ ((NEW.out.up hW).txR.base (Nat.zero_le _)) (P2.out.valid (by decide))
  rw [← hn2] at hgr hp3
  rw [← hs2] at hp2 hp3
  have g1 : (1 : Int) ≤ (n1 : Int) := by omega
  have g2' : (n1 : Int) ≤ (n2 : Int) := by omega
  have g3 : (1 : Int) ≤ (s2 : Int) := by omega
  have g4 : (s2 : Int) ≤ (n2 : Int) := by omega
  clear hn2 hs2 hL2 hx hxt hxo hgr hp1 hp2 hp3
  go_wp2_with (first
    | (go_at_call 9; with_reducible refine (HC.out _ (Up.refl _)).mono ?_; rintro e w5 ⟨rfl, h1⟩; have U5 := Lib.hid h1; clear h1)
    | fail)
  go_ret
  exact ⟨rfl, (U1.out.trans U4.out).trans U5.out⟩
end Go.Proofs.Ythcldanmppkkjaa.In
