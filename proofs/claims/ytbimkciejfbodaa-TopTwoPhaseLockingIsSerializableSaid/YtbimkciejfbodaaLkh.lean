/- Locks: blockers. -/
import Derived.Test.YtbimkciejfbodaaLkg
namespace Go.Proofs.Ytbimkciejfbodaa.Lk
open Go Go.RowKit Hp
set_option linter.unusedVariables false

def colStep (l : Lk) (txs : List Int) (x : Lk) : List Int := if confl x l && !(txs.any fun y => decide (y = x.tx)) then txs ++ [x.tx] else txs
def colL (xs : List Lk) (l : Lk) : List Int := xs.foldl (colStep l) []
def blkL (xs : List Lk) (l : Lk) : List Int := srtI (colL xs l)
theorem colL_snoc (xs : List Lk) (l : Lk) (k : Nat) (h : k < xs.length) : colL (xs.take (k + 1)) l = colStep l (colL (xs.take k) l) xs[k] := by
  unfold colL
  rw [List.take_add_one, List.getElem?_eq_getElem h, Option.toList_some, List.foldl_append]
  rfl
theorem colStep_len (l : Lk) (txs : List Int) (x : Lk) : (colStep l txs x).length ≤ txs.length + 1 := by
  unfold colStep
  split <;> simp
theorem colL_len (xs : List Lk) (l : Lk) : (colL xs l).length ≤ xs.length := by
  suffices ∀ (xs : List Lk) (a : List Int), (xs.foldl (colStep l) a).length ≤ a.length + xs.length by simpa [colL] using this xs []
  intro xs
  induction xs with
  | nil => intro a; simp
  | cons x t ih => intro a; simp only [List.foldl_cons, List.length_cons]; have := ih (colStep l a x); have := colStep_len l a x; omega
theorem src_take {w : World} {B : Nat} {E : TypeId} {a : Option Addr} {m c n : Nat} {l : List Lk} (h : w.ownsRow B E 4 (.slice a m c) m (lkC l)) (hl : l.length = m) (hn : n ≤ m) : Src w 4 (.slice a n c) (l.take n).length (lkC (l.take n)) := by
  have e : (l.take n).length = n := by simp; omega
  obtain ⟨hx, h⟩ := own_src h
  rw [e]
  refine ⟨by rw [lkC_len, e], ?_⟩
  rcases h with ⟨h1, h2⟩ | ⟨b, off, cap, hv, h1, h2, h3⟩
  · simp only [Value.slice.injEq] at h1
    obtain ⟨rfl, rfl, rfl⟩ := h1
    obtain rfl : n = 0 := by omega
    exact .inl ⟨rfl, rfl⟩
  · simp only [Value.slice.injEq, true_and] at hv
    obtain ⟨rfl, rfl⟩ := hv
    refine .inr ⟨b, off, c, rfl, by omega, h2, fun j u hj => h3 j u ?_⟩
    unfold lkC at *
    rw [← fm_take (f := lkC1) (k := 4) (fun _ => rfl), List.getElem?_take] at hj
    split at hj
    · exact hj
    · cases hj
theorem colStep_hit {l : Lk} {txs : List Int} {x : Lk} (h1 : confl x l = true) (h2 : (txs.any fun y => decide (y = x.tx)) = false) : colStep l txs x = txs ++ [x.tx] := by unfold colStep; rw [h1, h2]; rfl
theorem colStep_no {l : Lk} {txs : List Int} {x : Lk} (h1 : confl x l = false) : colStep l txs x = txs := by unfold colStep; rw [h1]; rfl
theorem colStep_had {l : Lk} {txs : List Int} {x : Lk} (h2 : (txs.any fun y => decide (y = x.tx)) = true) : colStep l txs x = txs := by unfold colStep; rw [h2, Bool.not_true, Bool.and_false]; rfl
theorem cell_int (w : World) (v : Value) (E : TypeId) (g : Nat) (hg : w.heap.size = g) : ∀ (j : Nat) u, [v][j]? = some u → (w.alloc (.cells #[v] E)).cell? ((⟨g, 0, none⟩ : Addr).add j) = some u := by
  subst hg
  exact cells_new w #[v] E
theorem Try.infoI : (Try.prog.info? 3).map (fun i => (i.zero, i.size, i.bytes)) = some (some (.int .i64 0), 1, 8) := by kernel_rfl
theorem new_blk (w : World) (c : Array Value) (E : TypeId) (g : Nat) (hg : w.heap.size = g) : Blk (w.alloc (.cells c E)) g c.toList E := by
  subst hg
  exact Blk.new w c E
set_option maxRecDepth 100000 in
set_option maxHeartbeats 4000000 in
theorem blk_any (p : Nat) (M : Mg) (F : Nat → Prop) (l : Lk) (n : Nat) (w : World) (h : ManR w p M F) (hn : n ≤ M.qu.length) (hg : M.gr.length ≤ 10000) (hq : M.qu.length ≤ 10000) :
    Calls Try.prog 28 #[.pointer (some ⟨p, 0, none⟩), lkV l, .int .i64 n] w fun e w' => ∃ v, e = .returned v ∧ w'.ownsRow w.heap.size 3 1 v (blkL (M.gr ++ M.qu.take n) l).length (icI (blkL (M.gr ++ M.qu.take n) l)) ∧ Up w w' := by
  obtain ⟨gv, qv, hP⟩ := h
  obtain ⟨i1, hi1, hz3, hz4, hz5⟩ := info_parts Try.infoI
  have HL := LB.new w l
  have U0 := (Up.refl w).alloc (.cells #[.int .i64 l.tx, .string l.tab, .string l.key, .int .i64 l.mode] 33)
  obtain ⟨hpl, c0⟩ := hP.blk.at (i := 0) rfl
  obtain ⟨_, c1⟩ := hP.blk.at (i := 1) rfl
  obtain ⟨ga, gc, rfl, hg1, hg2, _⟩ := own_form hP.go
  obtain ⟨qa, qc, rfl, hq1, hq2, _⟩ := own_form hP.qo
  have S1 := Lib.hid (own_src hP.go)
  have S2 := Lib.hid (src_take hP.qo rfl hn)
  have hni : (n : Int) ≤ (M.qu.length : Int) := by omega
  have hnc : (n : Int) ≤ (qc : Int) := by omega
  have hnl : (M.qu.take n).length = n := by simp; omega
  rw [hnl] at S2
  have HXL : (M.gr ++ M.qu.take n).length ≤ 20000 := by simp; omega
  have HC := Lib.hid (fun b w' hb h1 h2 => concat_any b (.slice ga M.gr.length gc) (.slice qa n qc) M.gr (M.qu.take n) w' hb h1 h2 hg (by omega))
  rw [hnl] at HC
  have HU := Lib.hid U0
  have HBX := Lib.hid HL
  have HCF := Lib.hid (fun x => confl_any x l)
  generalize M.gr ++ M.qu.take n = xs at *
  clear hP HL U0
  unfold lkV
  go_enter Try.func28, Try.ntmps28
  go_wp2
  go_region_held3 (fun w' => w'.cell? ⟨p, 0, none⟩ = some (.slice ga M.gr.length gc) ∧ w'.cell? ⟨p, 1, none⟩ = some (.slice qa M.qu.length qc)) (go_keep)
    ((go_at_call 54
      have UX := (HU.out.alloc (.cells #[.slice ga M.gr.length gc, .slice qa n qc] 52)).drew
      have BX : Blk ((w.alloc (.cells #[.int .i64 l.tx, .string l.tab, .string l.key, .int .i64 l.mode] 33)).alloc (.cells #[.slice ga M.gr.length gc, .slice qa n qc] 52)).drew (w.heap.size + 1) [.slice ga M.gr.length gc, .slice qa n qc] 52 := (new_blk _ #[.slice ga M.gr.length gc, .slice qa n qc] _ _ (by simp)).drew
      refine (HC.out (w.heap.size + 1) _ BX (S1.out.up UX) (S2.out.up UX)).mono ?_
      rintro e w2 ⟨v, rfl, h2, h3⟩
      obtain ⟨va, vc, rfl, hv1, hv2, _⟩ := own_form h2
      have U2 := Lib.hid (UX.trans h3)
      have R2 := Lib.hid (own_src h2)
      have B2 := Lib.hid (HBX.out.up (((Up.refl _).alloc _).drew.trans h3))
      have k0 := (U2.out.cell (p := ⟨p, 0, none⟩) hpl).trans c0
      have k1 := (U2.out.cell (p := ⟨p, 1, none⟩) hpl).trans c1
      clear h2 h3 UX BX))
  clear k0 k1
  go_wp2
  go_loopw [7, 23] (fun tv iv wr => ∃ k : Nat, k ≤ xs.length ∧ iv = .int .i64 k ∧ Hid (wr.ownsRow w2.heap.size 3 1 tv (colL (xs.take k) l).length (icI (colL (xs.take k) l)) ∧ Up w2 wr)) (fun _ iv _ => xs.length - (intOf iv).toNat)
  case atStart => exact ⟨0, by omega, rfl, World.ownsRow_nil _ _ _ _, Up.refl _⟩
  case round =>
    obtain ⟨k, hk, rfl, HQ⟩ := hrel
    obtain ⟨wo, hwo⟩ : ∃ wo : World, wo = wr := ⟨_, rfl⟩
    rw [← hwo] at HQ ⊢
    clear hwo
    have hcl : (colL (xs.take k) l).length ≤ 20000 := by have := colL_len (xs.take k) l; simp at this; omega
    obtain ⟨ta, tc, rfl, _, _, _⟩ := own_form HQ.out.1
    by_cases hlt : k < xs.length
    · obtain ⟨b, off, rfl, hc⟩ := src_at R2.out (by omega)
      obtain ⟨g0, g1, g2, g3⟩ := lkC_get xs k hlt
      have d0 := ((hc _ _ g0).grow HQ.out.2).2
      have d1 := ((hc _ _ g1).grow HQ.out.2).2
      have d2 := ((hc _ _ g2).grow HQ.out.2).2
      have d3 := ((hc _ _ g3).grow HQ.out.2).2
      rw [← Nat.add_assoc] at d1 d2 d3
      have d4 := ((hc _ _ g0).grow HQ.out.2).1
      have hlk : (k : Int) < (xs.length : Int) := by omega
      have HSN := Lib.hid (colL_snoc xs l k hlt)
      obtain ⟨b0, b1, b2, b3⟩ : wo.cell? ⟨w.heap.size, 0, none⟩ = some (.int .i64 l.tx) ∧ wo.cell? ⟨w.heap.size, 1, none⟩ = some (.string l.tab) ∧ wo.cell? ⟨w.heap.size, 2, none⟩ = some (.string l.key) ∧ wo.cell? ⟨w.heap.size, 3, none⟩ = some (.int .i64 l.mode) := by
        have := B2.out.up HQ.out.2
        exact ⟨(Blk.at this (i := 0) rfl).2, (Blk.at this (i := 1) rfl).2, (Blk.at this (i := 2) rfl).2, (Blk.at this (i := 3) rfl).2⟩
      have bl := (B2.out.up HQ.out.2).lt
      have HK := HCF.out xs[k]
      have HT := Lib.hid (fun v w => contains_any v (colL (xs.take k) l) xs[k].tx w)
      have HH := Lib.hid (@colStep_hit l (colL (xs.take k) l) xs[k])
      have HN := Lib.hid (@colStep_no l (colL (xs.take k) l) xs[k])
      have HD := Lib.hid (@colStep_had l (colL (xs.take k) l) xs[k])
      generalize xs[k] = x at *
      clear hc g0 g1 g2 g3
      unfold lkV at HK
      by_cases hcf : confl x l = true
      · rw [hcf] at HK
        have HK := Lib.hid HK
        by_cases hany : ((colL (xs.take k) l).any fun y => decide (y = x.tx)) = true
        · go_wp2_with (first
            | (go_at_call 55; refine (HK.out _).mono ?_; rintro e w3 ⟨rfl, h3⟩; have X3 := Lib.hid ((Blk.new wo #[.int .i64 x.tx, .string x.tab, .string x.key, .int .i64 x.mode] 33).up h3); have U3 := Lib.hid (((Up.refl wo).alloc (.cells #[.int .i64 x.tx, .string x.tab, .string x.key, .int .i64 x.mode] 33)).trans h3); have x0 := (Blk.at X3.out (i := 0) rfl).2; have xl := Blk.lt X3.out; clear h3)
            | (go_at_call 56; refine (HT.out (.slice ta (colL (xs.take k) l).length tc) _ (own_src (own_up HQ.out.1 U3.out)) (by omega)).mono ?_; rw [hany]; rintro e w4 ⟨rfl, h4⟩; have X4 := Lib.hid (X3.out.up h4); have U4 := Lib.hid (U3.out.trans h4); have y0 := (Blk.at X4.out (i := 0) rfl).2; have yl := Blk.lt X4.out; clear h4)
            | fail)
          go_roundw
          case rel => exact ⟨k + 1, by omega, by go_num, by rw [HSN.out, HD.out hany]; exact own_up HQ.out.1 U4.out, HQ.out.2.trans U4.out⟩
          case measure => simp [intOf]; omega
        · have hany := eq_false_of_ne_true hany
          go_wp2_with (first
            | (go_at_call 55; refine (HK.out _).mono ?_; rintro e w3 ⟨rfl, h3⟩; have X3 := Lib.hid ((Blk.new wo #[.int .i64 x.tx, .string x.tab, .string x.key, .int .i64 x.mode] 33).up h3); have U3 := Lib.hid (((Up.refl wo).alloc (.cells #[.int .i64 x.tx, .string x.tab, .string x.key, .int .i64 x.mode] 33)).trans h3); have x0 := (Blk.at X3.out (i := 0) rfl).2; have xl := Blk.lt X3.out; clear h3)
            | (go_at_call 56; refine (HT.out (.slice ta (colL (xs.take k) l).length tc) _ (own_src (own_up HQ.out.1 U3.out)) (by omega)).mono ?_; rw [hany]; rintro e w4 ⟨rfl, h4⟩; have X4 := Lib.hid (X3.out.up h4); have U4 := Lib.hid (U3.out.trans h4); have y0 := (Blk.at X4.out (i := 0) rfl).2; have yl := Blk.lt X4.out; clear h4)
            | (at_builtin; refine wpList_append_lies _ rfl (.tmp 37) (.tmp 40) 23 rfl w2.heap.size 3 i1 (.int .i64 0) 1 8 Try.underlying23 hi1 hz3 hz4 hz5 rfl (by decide) (.slice ta (colL (xs.take k) l).length tc) (colL (xs.take k) l).length (icI (colL (xs.take k) l)) rfl (own_up HQ.out.1 (U4.out.alloc _)) ⟨w4.heap.size, 0, none⟩ 1 1 [.int .i64 x.tx] rfl rfl (cell_int _ _ _ _ rfl) (by intro u hu; rw [List.mem_singleton.1 hu]; rfl) (by decide) (by unfold maxLen; omega) (by omega) (by have := HQ.out.2.size; have := U4.out.size; simp; omega) _ rfl ?_; intro g2 c2 w5 hown2 hgrow2 hat2 hlt2; have N5 : Hid (w5.ownsRow w2.heap.size 3 1 (.slice (some ⟨g2, 0, none⟩) ((colL (xs.take k) l).length + 1) c2) (colL (xs.take (k + 1)) l).length (icI (colL (xs.take (k + 1)) l)) ∧ Up w2 w5) := ⟨by rw [HSN.out, HH.out hcf hany, List.length_append]; simpa [icI] using hown2, Below.grown (HQ.out.2.trans (U4.out.alloc _)) hgrow2 (HQ.out.2.trans (U4.out.alloc _)).size fun q hq => ((own_ty HQ.out.1) q hq).2⟩; clear hown2 hgrow2 hat2)
            | fail)
          go_roundw
          case rel => exact ⟨k + 1, by omega, by go_num, N5.out⟩
          case measure => simp [intOf]; omega
      · have hcf := eq_false_of_ne_true hcf
        rw [hcf] at HK
        have HK := Lib.hid HK
        go_wp2_with (first
          | (go_at_call 55; refine (HK.out _).mono ?_; rintro e w3 ⟨rfl, h3⟩; have X3 := Lib.hid ((Blk.new wo #[.int .i64 x.tx, .string x.tab, .string x.key, .int .i64 x.mode] 33).up h3); have U3 := Lib.hid (((Up.refl wo).alloc (.cells #[.int .i64 x.tx, .string x.tab, .string x.key, .int .i64 x.mode] 33)).trans h3); have x0 := (Blk.at X3.out (i := 0) rfl).2; have xl := Blk.lt X3.out; clear h3)
          | fail)
        go_roundw
        case rel => exact ⟨k + 1, by omega, by go_num, by rw [HSN.out, HN.out hcf]; exact own_up HQ.out.1 U3.out, HQ.out.2.trans U3.out⟩
        case measure => simp [intOf]; omega
    · obtain rfl : k = xs.length := by omega
      rw [List.take_length] at HQ hcl ⊢
      go_wp2_with (first
        | (go_at_call 57; refine (sortI_any w2.heap.size (.slice ta (colL xs l).length tc) (colL xs l) wo HQ.out.1 (by omega)).mono ?_; rintro e w3 ⟨rfl, h3, h4⟩; have H3 := Lib.hid h3; have H4 := Lib.hid h4; clear h3 h4)
        | fail)
      go_ret
      refine ⟨_, rfl, ?_, ?_⟩
      · rw [show (blkL xs l).length = (colL xs l).length from srtI_len _]
        exact own_base' H3.out fun q hq => Nat.le_trans U2.out.size ((own_ty HQ.out.1) q hq).2
      · exact U2.out.trans (((HQ.out.2.chg _).trans H4.out fun _ _ e => e).up fun k hk e => by have := ((own_ty HQ.out.1) k e).2; omega)
end Go.Proofs.Ytbimkciejfbodaa.Lk
