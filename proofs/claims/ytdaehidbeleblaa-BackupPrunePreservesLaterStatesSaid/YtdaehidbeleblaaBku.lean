/- The backup laws: histories, pruning, unchanged records: the walks. -/
import Derived.Test.YtdaehidbeleblaaBkt
namespace Go.Proofs.Ytdaehidbeleblaa.Bk
open Go Go.RowKit Hp
open Mv (Val rowC rowC_len rowC_one rowC_get RM rmC rmC1 rmC_len rmC_get erR RecsR RecsS Srt pos has pos_le has_pos fm_len fm_take fm_drop fm_get fm_set fm_one cloneR rowV row_any)
set_option linter.unusedVariables false

theorem sts_form {w w2 : World} {K : Nat → Prop} {A : Ar} {v : Value} {vs : List Value} {sts : List Recs} {n nb : Nat} (hS : StsR w w2 K v vs sts) (hA : Arc A sts n nb) : ∃ g c L, v = .slice (some ⟨g, 0, none⟩) L c ∧ L = n + 1 ∧ L ≤ c := by
  have hl : vs.length = n + 1 := by rw [hS.len, hA.sl]
  obtain ⟨g, c, hv, h1, _⟩ := own_some hS.own (by omega)
  exact ⟨g, c, vs.length, hv, hl, h1⟩
theorem sts_at {w w2 : World} {K : Nat → Prop} {A : Ar} {vs : List Value} {sts : List Recs} {n nb g c L tm : Nat} (hS : StsR w w2 K (.slice (some ⟨g, 0, none⟩) L c) vs sts) (hA : Arc A sts n nb) (ht : tm ≤ n) :
    ∃ xa xn xc, At w2 g tm (.slice xa xn xc) ∧ RecsS w2 (.slice xa xn xc) (sts.getD tm []) := by
  have hl : vs.length = n + 1 := by rw [hS.len, hA.sl]
  obtain ⟨g', c', hv, _, _, hg, hat, _⟩ := own_some hS.own (by omega)
  simp only [Value.slice.injEq, Option.some.injEq, Addr.mk.injEq, and_true] at hv
  obtain ⟨rfl, rfl, rfl⟩ := hv
  have hi : tm < vs.length := by omega
  have hx := hS.each tm hi
  have hk : ∀ r ∈ sts.getD tm [], r.2.length ≤ 1000 := fun r hr => by
    have hm : sts.getD tm [] ∈ sts := by
      have : tm < sts.length := by rw [hA.sl]; omega
      simp [List.getD, this]
    have := ((hA.ky _ hm).2.1 r hr).2
    omega
  obtain ⟨gs, _, h2, _⟩ := id hx
  obtain ⟨xa, xc, hxv, _⟩ := own_form h2
  have := hat tm vs[tm] (by simp [hi])
  rw [hxv] at this
  have hs := hx.src hk
  rw [hxv] at hs
  exact ⟨xa, _, xc, ⟨hg, this⟩, hs⟩
theorem sts_len {A : Ar} {sts : List Recs} {n nb tm : Nat} (hA : Arc A sts n nb) (ht : tm ≤ n) : (sts.getD tm []).length ≤ 1000 ∧ ∀ r ∈ sts.getD tm [], r.2.length ≤ 1000 := by
  have hm : sts.getD tm [] ∈ sts := by
    have : tm < sts.length := by rw [hA.sl]; omega
    simp [List.getD, this]
  have := hA.ky _ hm
  exact ⟨by omega, fun r hr => by have := (this.2.1 r hr).2; omega⟩
theorem mod_nat (t : Int) {L : Nat} (h : 0 < L) : ∃ m : Nat, modV t (L : Int) = (m : Int) ∧ m < L := by
  have h0 := modV_nonneg t (L : Int) (by omega)
  have h1 := modV_lt t (L : Int) (by omega)
  exact ⟨(modV t L).toNat, by omega, by omega⟩
theorem prune_len {A A' : Ar} {t : Int} {n : Nat} (h : PrA A A' t n) : (A'.chgs.length : Int) ≤ (A.chgs.length : Int) := by
  have := List.length_filter_le (fun c : Ch => !decide (c.time ≤ (A.baks.getD n (0, [])).1)) A.chgs
  rw [h.chgs]
  omega
theorem prune_st {A A' : Ar} {sts : List Recs} {n nb pm tm k : Nat} (hA : Arc A sts n nb) (h : PrA A A' (pm : Int) k) (ht : pm + tm ≤ n) : A'.earl ≤ (pm : Int) + (tm : Int) ∧ stA A' ((pm : Int) + (tm : Int)) = sts.getD (pm + tm) [] := by
  have h0 := hA.b0
  constructor
  · rw [h.earl]
    rcases h.nt with e | e
    · subst e; rw [h0]; omega
    · omega
  · rw [st_prune hA.bs h (by omega) (fun b hb => (hA.bt b hb).1) (by omega) (by rw [h0]; omega), ← Int.natCast_add, hA.st _ ht]
set_option maxRecDepth 100000 in
set_option maxHeartbeats 4000000 in
theorem walk39 (a : Option Addr) (len cap : Nat) (zs : List Int) (t : Int) (w : World) (hE : Elems w a len zs) (hl : len ≤ cap) (hm : cap ≤ 9223372036854775807) :
    Calls Try.prog 5 #[.slice a len cap, .int .i64 t] w fun e w' => e = .returned (.bool true) ∧ Up w w' := by
  have HE := Lib.hid hE
  clear hE
  go_enter Try.func5, Try.ntmps5
  go_wp2_with (first
    | (have tok := K4; go_at_call 19; refine (Mv.eqrecs_any _ _ _ _ K4.out ES.out.1.out LN.out.1).mono ?_; rintro e w5 ⟨rfl, h4⟩; have K5 := Lib.hid h4; clear h4)
    | (go_at_call 14; refine (stateO HO.out (t := (tm : Int)) (by rw [HA.out.earl]; omega)).mono ?_; rw [HA.out.st tm htn]; rintro e w4 ⟨v4, rfl, h5, h6⟩; obtain ⟨rs2, q1, q2, _, _⟩ := id h5; obtain ⟨ra2, rc2, rfl, _, _, _⟩ := own_form q2; obtain ⟨xa, xn, xc, hat, hxs⟩ := sts_at (HS.out.up h6) HA.out htn; have cat := hat.2; have cal := hat.1; have htc : (tm : Int) < (L : Int) := (by omega); have LN := Lib.hid (sts_len HA.out htn); have K4 := Lib.hid (h5.src LN.out.2); have ES := Lib.hid (And.intro (Lib.hid hxs) h6); clear h6 q1 q2 h5 hat hxs)
    | (go_at_call 18; refine (mod_any _ _ _ (by omega) (by omega)).mono ?_; rw [htm]; rintro e w' ⟨rfl, rfl⟩)
    | (go_at_call 16; refine (archive_any a len cap zs w1 (elems_up HE.out H1.out) hl hm).mono ?_; rintro e w2 ⟨p, v, K, A, vs, sts, n, nb, rfl, h2, h3, h4, hn, hnb⟩; obtain ⟨sg, sc, L, rfl, hL, hLc⟩ := sts_form h4 h3; obtain ⟨tm, htm, htl⟩ := mod_nat t (by omega : 0 < L); have htn : tm ≤ n := (by omega); have hLp : 0 < L := (by omega); have hLb : L ≤ 81 := (by omega); have HL := Lib.hid hL; have HO := Lib.hid h2; have HA := Lib.hid h3; have HS := Lib.hid h4; clear h2 h3 h4 hL)
    | (go_at_call 7; refine (works_any _).mono ?_; rintro e w1 ⟨rfl, h1⟩; have H1 := Lib.hid h1; clear h1)
    | fail)
  go_ret
  exact ⟨rfl, ((H1.out.trans HO.out.upw).trans ES.out.2).trans K5.out⟩
set_option maxRecDepth 100000 in
set_option maxHeartbeats 4000000 in
theorem walk43 (a : Option Addr) (len cap : Nat) (zs : List Int) (pt t : Int) (w : World) (hE : Elems w a len zs) (hl : len ≤ cap) (hm : cap ≤ 9223372036854775807) :
    Calls Try.prog 6 #[.slice a len cap, .int .i64 pt, .int .i64 t] w fun e w' => e = .returned (.bool true) ∧ Up w w' := by
  have HE := Lib.hid hE
  clear hE
  go_enter Try.func6, Try.ntmps6
  go_wp2_with (first
    | (have tok := K6; go_at_call 19; refine (Mv.eqrecs_any _ _ _ _ (K6.out.up H7.out) ES.out LN.out.1).mono ?_; rintro e w8 ⟨rfl, h4⟩; have K8 := Lib.hid h4; clear h4)
    | (have tok := K6; go_at_call 17; refine (sizeO (H5.out.1.up H6.out)).mono ?_; rintro e w7 ⟨rfl, h7⟩; obtain ⟨xa, xn, xc, hat, hxs⟩ := sts_at (((HS.out.up H3.out).step H5.out).up (H6.out.trans h7)) HA.out htl; have cat := hat.2; have cal := hat.1; have ES := Lib.hid hxs; have H7 := Lib.hid h7; clear h7 hat hxs)
    | (have tok := H5; go_at_call 14; refine (stateO H5.out.1 (t := (pm : Int) + (tm : Int)) TL.out.1).mono ?_; rw [TL.out.2]; rintro e w6 ⟨v6, rfl, h5, h6⟩; obtain ⟨rs2, q1, q2, _, _⟩ := id h5; obtain ⟨ra2, rc2, rfl, _, _, _⟩ := own_form q2; have LN := Lib.hid (sts_len HA.out htl); have K6 := Lib.hid (h5.src LN.out.2); have H6 := Lib.hid h6; clear h6 q1 q2 h5)
    | (have tok := H3; go_at_call 20; refine (pruneO (HO.out.up H3.out) (t := (pm : Int)) (by omega) (by omega)).mono ?_; rintro e w5 ⟨A', n', rfl, h5, h6⟩; have TL := Lib.hid (prune_st HA.out h6 htl); have hcl := prune_len h6; have H5 := Lib.hid h5; clear h5 h6)
    | (go_at_call 17; refine (sizeO HO.out).mono ?_; rintro e w3 ⟨rfl, h3⟩; have H3 := Lib.hid h3; clear h3)
    | (have tok := htm; go_at_call 18; refine (mod_any _ _ _ (by omega) (by omega)).mono ?_; rw [htm]; rintro e w' ⟨rfl, rfl⟩)
    | (go_at_call 18; refine (mod_any _ _ _ (by omega) (by omega)).mono ?_; rw [hpm]; rintro e w' ⟨rfl, rfl⟩; obtain ⟨tm, htm', htl'⟩ := mod_nat t (by omega : 0 < L - pm); have htm : modV t ((L : Int) - (pm : Int)) = (tm : Int) := (by rw [← htm']; congr 1; omega); have htl : pm + tm ≤ n := (by have := HL.out; omega); have hix : (pm : Int) + (tm : Int) < (L : Int) := (by omega); clear htm' htl')
    | (go_at_call 16; refine (archive_any a len cap zs w1 (elems_up HE.out H1.out) hl hm).mono ?_; rintro e w2 ⟨p, v, K, A, vs, sts, n, nb, rfl, h2, h3, h4, hn, hnb⟩; obtain ⟨sg, sc, L, rfl, hL, hLc⟩ := sts_form h4 h3; obtain ⟨pm, hpm, hpl⟩ := mod_nat pt (by omega : 0 < L); have hLp : 0 < L := (by omega); have hLb : L ≤ 81 := (by omega); have HL := Lib.hid hL; have HO := Lib.hid h2; have HA := Lib.hid h3; have HS := Lib.hid h4; clear h2 h3 h4 hL)
    | (go_at_call 7; refine (works_any _).mono ?_; rintro e w1 ⟨rfl, h1⟩; have H1 := Lib.hid h1; clear h1)
    | fail)
  go_ret
  exact ⟨rfl, (((H1.out.trans H5.out.1.upw).trans H6.out).trans H7.out).trans K8.out⟩
theorem all_in {A A' : Ar} {S : Recs} {idx : List Nat} {st t : Int} (h : FB A S S.length A'.recs A'.refs idx st) : AllIn A' S := fun r hr => by
  have h1 := h.new.1
  rw [List.take_length] at h1
  rw [← h1] at hr
  obtain ⟨i, hi, rfl⟩ := List.mem_map.1 hr
  have hl := h.new.2 i hi
  refine ⟨i, hl, ?_, rfl⟩
  rw [h.cnt i (by rw [h.rl]; exact hl)]
  exact List.count_pos_iff.2 (List.mem_append.2 (.inr hi))
/-- The second backup stores nothing. -/
theorem full_twice {A A' A2 : Ar} {sts : List Recs} {n nb : Nat} {idx idx2 : List Nat} {st st2 : Int} (hA : Arc A sts n nb) (hf : FB A (stA A ((n : Int) + 1)) (stA A ((n : Int) + 1)).length A'.recs A'.refs idx st) (hb : A'.baks = A.baks ++ [((n : Int) + 1, idx)]) (hc : A'.chgs = A.chgs) (he : A'.earl = A.earl)
    (hf2 : FB A' (stA A' ((n : Int) + 1 + 1)) (stA A' ((n : Int) + 1 + 1)).length A2.recs A2.refs idx2 st2) : st2 = 0 ∧ live A2.refs = live A'.refs := by
  have hA' := arc_full hA hf hb hc he
  have e : stA A' ((n : Int) + 1 + 1) = stA A ((n : Int) + 1) := by
    have h1 := hA'.now
    rw [hA'.st (n + 1) (Nat.le_refl _), getD_snoc, if_pos hA.sl.symm] at h1
    push_cast at h1
    rw [h1, hA.now, hA.st n (Nat.le_refl _)]
  rw [e] at hf2
  obtain ⟨h1, h2, h3⟩ := hf2.all (all_in (t := 0) hf)
  refine ⟨h1, live_congr ?_ h3⟩
  rw [hf2.rl, h2, hf.rl]
set_option maxRecDepth 100000 in
set_option maxHeartbeats 4000000 in
theorem walk37 (a : Option Addr) (len cap : Nat) (zs : List Int) (w : World) (hE : Elems w a len zs) (hl : len ≤ cap) (hm : cap ≤ 9223372036854775807) :
    Calls Try.prog 4 #[.slice a len cap] w fun e w' => e = .returned (.bool true) ∧ Up w w' := by
  have HE := Lib.hid hE
  clear hE
  go_enter Try.func4, Try.ntmps4
  go_wp2_with (first
    | (have tok := H5; go_at_call 17; refine (sizeO H5.out.1).mono ?_; rw [F5.out.2]; rintro e w6 ⟨rfl, h6⟩; have H6 := Lib.hid h6; clear h6)
    | (have tok := H4; go_at_call 15; refine (fullO (H3.out.1.up H4.out) (t := (L : Int) + 1) BD2.out.1 BD2.out.2.1 BD2.out.2.2.1 BD2.out.2.2.2.1 BD2.out.2.2.2.2.1 BD2.out.2.2.2.2.2.1).mono ?_; rintro e w5 ⟨A2, st2, idx2, rfl, h5, h6, _⟩; rw [HL.out] at h6; have F5 := Lib.hid (full_twice HA.out F3.out.1 F3.out.2.1 F3.out.2.2.1 F3.out.2.2.2 h6); rw [F5.out.1]; have H5 := Lib.hid h5; clear h5 h6)
    | (have tok := H3; go_at_call 17; refine (sizeO H3.out.1).mono ?_; rintro e w4 ⟨rfl, h4⟩; have H4 := Lib.hid h4; clear h4)
    | (go_at_call 15; refine (fullO HO.out (t := (L : Int)) BD.out.1 BD.out.2.1 BD.out.2.2.1 BD.out.2.2.2.1 BD.out.2.2.2.2.1 BD.out.2.2.2.2.2.1).mono ?_; rintro e w3 ⟨A', st, idx, rfl, h3, h4, h5, h6, h7⟩; rw [HL.out] at h4 h5; have BD2 := arc_bd (arc_full HA.out h4 h5 h6 h7) (by omega) (by omega); push_cast at BD2; rw [← HL.out] at BD2; have BD2 := Lib.hid BD2; have F3 := Lib.hid (And.intro h4 (And.intro h5 (And.intro h6 h7))); have H3 := Lib.hid h3; clear h3 h4 h5 h6 h7)
    | (go_at_call 16; refine (archive_any a len cap zs w1 (elems_up HE.out H1.out) hl hm).mono ?_; rintro e w2 ⟨p, v, K, A, vs, sts, n, nb, rfl, h2, h3, h4, hn, hnb⟩; obtain ⟨sg, sc, L, rfl, hL, hLc⟩ := sts_form h4 h3; have hLb : L ≤ 81 := (by omega); have HL : Hid ((L : Int) = (n : Int) + 1) := (by unfold Hid; omega); have BD := arc_bd h3 (by omega) (by omega); rw [← HL.out] at BD; have BD := Lib.hid BD; have HO := Lib.hid h2; have HA := Lib.hid h3; have HS := Lib.hid h4; clear h2 h3 h4 hL)
    | (go_at_call 7; refine (works_any _).mono ?_; rintro e w1 ⟨rfl, h1⟩; have H1 := Lib.hid h1; clear h1)
    | fail)
  go_ret
  exact ⟨rfl, (H1.out.trans H5.out.1.upw).trans H6.out⟩
end Go.Proofs.Ytdaehidbeleblaa.Bk
