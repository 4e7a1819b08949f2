/- SnapshotFirstCommitterWins. -/
import Derived.Test.YtinmpodnfofmdaaSny
import Derived.Deep.DeepCutAuto
import Derived.Deep.CutRange
namespace Go.Proofs.Ytinmpodnfofmdaa.Sn
open Go Go.RowKit Hp
open Mv (Val PC PV rowC rowC_one fm_len fm_take fm_drop fm_get fm_set fm_one RowIn StR Srt SOk pos has fx_lt fx_up ty_chg has_pos pos_le vacuumL cloneR latL cnt addL adL rowV kA row_any getL GetPost lastTs equalR_same)
set_option linter.unusedVariables false

theorem Own.grown {w0 W w' : World} {K K' : Nat → Prop} {p : Nat} {d : Db} {row : Option Nat} (h : Own w0 K W p d) (hg : W.grownBy w' row) (hr : ∀ k, row = some k → K k ∧ w0.heap.size ≤ k) (hK : ∀ k, K' k → (K k ∨ W.heap.size ≤ k) ∧ k < w'.heap.size) : Own w0 K' w' p d := by
  obtain ⟨F, h1, h2, h3, h4⟩ := h
  have C : Chg (fun k => row = some k) W w' := (Chg.refl _ W).grown hg fun k hk => .inl hk
  refine ⟨F, h1.chg C fun k hk e => (h2 k hk).2 (hr k e).1, fun k hk => ⟨(h2 k hk).1, fun e => ?_⟩, fun k hk => (hK k hk).2, Below.grown h4 hg (h4.size) fun k hk => (hr k hk).2⟩
  rcases (hK k e).1 with e | e
  · exact (h2 k hk).2 e
  · have := h1.lt k hk; omega
/-- The database and a slice of numbers, both new since w1. -/
def LS (w1 w : World) (p : Nat) (d : Db) (v : Value) (L : List Int) : Prop := Own w1 (fun k => v.ownBlock = some k) w p d ∧ w.ownsRow w1.heap.size 3 1 v L.length (ic L)
theorem LS.up {w1 w w' : World} {p : Nat} {d : Db} {v : Value} {L : List Int} (h : LS w1 w p d v L) (hu : Up w w') : LS w1 w' p d v L := ⟨h.1.up hu, own_up h.2 hu⟩
theorem LS.step {w1 w w' : World} {p : Nat} {d d' : Db} {v : Value} {L : List Int} (h : LS w1 w p d v L) (hc : OwnP w1 (fun k => v.ownBlock = some k) p d' w w') : LS w1 w' p d' v L := ⟨hc.1, own_chg h.2 hc.2 fun k hk e => e.2 hk⟩
theorem LS.snoc {w1 W w' : World} {p : Nat} {d : Db} {v v' : Value} {L : List Int} {x : Int} (h : LS w1 W p d v L) (hown : w'.ownsRow w1.heap.size 3 1 v' (L.length + 1) (ic L ++ [.int .i64 x])) (hg : W.grownBy w' v.ownBlock)
    (hat : v'.ownBlock = v.ownBlock ∨ v'.ownBlock = some W.heap.size) : LS w1 w' p d v' (L ++ [x]) := by
  refine ⟨h.1.grown hg (fun k hk => ⟨hk, ((own_ty h.2) k hk).2⟩) fun k hk => ⟨?_, own_lt hown k hk⟩, by simpa [ic] using hown⟩
  rcases hat with e | e
  · exact .inl (e ▸ hk)
  · rw [e] at hk; cases hk; exact .inr (Nat.le_refl _)
theorem LS.cells {w1 w : World} {p : Nat} {d : Db} {v : Value} {L : List Int} (h : LS w1 w p d v L) (hL : 0 < L.length) : ∃ g cap, v = .slice (some ⟨g, 0, none⟩) L.length cap ∧ L.length ≤ cap ∧ cap ≤ 9223372036854775807 ∧ g < w.heap.size ∧ ∀ j (hj : j < L.length), w.cell? ⟨g, j, none⟩ = some (.int .i64 L[j]) := by
  obtain ⟨g, cap, rfl, h1, h2, h3, h4, _⟩ := own_some h.2 hL
  exact ⟨g, cap, rfl, h1, h2, h3, fun j hj => h4 j _ (by simp [ic, hj])⟩
theorem LS.del {w1 W w' : World} {p g cap i : Nat} {d : Db} {L : List Int} (h : LS w1 W p d (.slice (some ⟨g, 0, none⟩) L.length cap) L) (hown : w'.ownsRow w1.heap.size 3 1 (.slice (some ⟨g, 0, none⟩) (L.length - 1) cap) (L.eraseIdx i).length (ic (L.eraseIdx i))) (hg : W.grownBy w' (some g)) :
    LS w1 w' p d (.slice (some ⟨g, 0, none⟩) (L.length - 1) cap) (L.eraseIdx i) :=
  ⟨h.1.grown hg (fun k hk => ⟨hk, ((own_ty h.2) k hk).2⟩) fun k hk => ⟨.inl hk, own_lt hown k hk⟩, hown⟩
theorem Try.infoInt : (Try.prog.info? 3).map (fun i => (i.zero, i.size, i.bytes)) = some (some (.int .i64 0), 1, 8) := by kernel_rfl
/-- Loop 2's state. -/
def L2 (w1 w : World) (p : Nat) (c f x : Int) (N i : Nat) (v : Value) : Prop :=
  ∃ d L, LS w1 w p d v L ∧ L.length = N - i ∧ ((i = 0 ∧ x = 0 ∧ L = idl f N ∧ J d c f N) ∨ (0 < i ∧ ∃ k : Nat, k < N ∧ x = f + (k : Int) ∧ Q d c (rowV (100 + (k : Int))) L))
set_option maxRecDepth 100000 in
set_option maxHeartbeats 4000000 in
theorem walk44 (a : Option Addr) (len cap : Nat) (zs : List Int) (wn : Int) (a2 : Option Addr) (len2 cap2 : Nat) (zs2 : List Int) (w : World) (hE : Elems w a len zs) (hl : len ≤ cap) (hm : cap ≤ 9223372036854775807) (hE2 : Elems w a2 len2 zs2) (hl2 : len2 ≤ cap2) (hm2 : cap2 ≤ 9223372036854775807) :
    Calls Try.prog 10 #[.slice a len cap, .int .i64 wn, .slice a2 len2 cap2] w fun e w' => e = .returned (.bool true) ∧ Up w w' := by
  obtain ⟨i0, hi0, hz0, hz1, hz2⟩ := info_parts Try.infoInt
  have HWK := Lib.hid fun W (hu : Up w W) => workload_any a len cap zs W (elems_up hE hu) hl hm
  have HE2 := Lib.hid hE2
  obtain ⟨n5, hn5⟩ : ∃ n : Nat, modV wn 5 = (n : Int) := ⟨(modV wn 5).toNat, by have := modV_nonneg wn 5 (by omega); omega⟩
  have hn6 : n5 ≤ 4 := by have := modV_lt wn 5 (by omega); omega
  obtain ⟨N, hN⟩ : ∃ N : Nat, N = 2 + n5 := ⟨_, rfl⟩
  have hNi : (2 : Int) + (n5 : Int) = (N : Int) := by omega
  have hN2 : 2 ≤ N ∧ N ≤ 6 := by omega
  clear hE hE2 hN
  go_enter Try.func10, Try.ntmps10
  go_wp2_with (first
    | (go_at_call 22; refine (mod_any _ _ _ (by omega) (by omega)).mono ?_; rw [hn5]; rintro e w' ⟨rfl, rfl⟩)
    | (go_at_call 38; refine (HWK.out w1 H1.out).mono ?_; rintro e w2 ⟨p, d, rfl, h2, h3, h4, h5, h6⟩; have H2 := Lib.hid h2; have HJ := Lib.hid (j_zero h2.ok h3 h4 h5 h6); clear h2 h3 h4 h5 h6)
    | (go_at_call 31; refine (works_any w).mono ?_; rintro e w1 ⟨rfl, h1⟩; have H1 := Lib.hid h1; clear h1)
    | fail)
  have LS0 : Hid (LS w1 w2 p d (.slice none 0 0) (idl (d.last + 1) 0)) := ⟨H2.out.lose (fun k e => by cases e), World.ownsRow_nil _ _ _ _⟩
  generalize d.last + 1 = f at *
  generalize d.clock = c at *
  go_loopw [9, 36] (fun v iv wr => ∃ n : Nat, n ≤ N ∧ iv = .int .i64 n ∧ Hid (∃ d, LS w1 wr p d v (idl f n) ∧ J d c f n)) (fun _ iv _ => N - (intOf iv).toNat)
  case atStart => exact ⟨0, by omega, rfl, d, LS0.out, HJ.out⟩
  case round =>
    obtain ⟨n, hn, rfl, HD⟩ := hrel
    obtain ⟨d1, hL, hJ⟩ := HD.out
    by_cases hlt : n < N
    · have RL : Hid ((rowV (100 + (n : Int))).length ≤ 6) := rowV_len _
      have HL := Lib.hid hL
      have HJ1 := Lib.hid hJ
      clear hL hJ HD
      have hact := HJ1.out.act
      have hlb : d1.last < 1000000 := by have := HJ1.out.last; have := HJ1.out.f1; omega
      have TB : Hid (tr (begD d1) (f + n) = some ⟨f + n, c, []⟩) := by have := j_beg HL.out.1.ok HJ1.out; rwa [HJ1.out.last] at this
      have PB : Hid (∀ ok1 : DOk (begD d1), (bufP (begD d1) (f + n) kK ⟨false, rowV (100 + n)⟩).2 = 0 ∧ J (bufP (begD d1) (f + n) kK ⟨false, rowV (100 + n)⟩).1 c f (n + 1)) := fun ok1 => by have := j_put HL.out.1.ok ok1 HJ1.out; rwa [HJ1.out.last] at this
      go_wp2_with (first
        | (have tok := H4; go_at_call 34; refine (putO (H3.out.1.up H4.out) TB.out (k := kK) (by decide) RL.out (own_src R4.out)).mono ?_; rw [(PB.out H3.out.1.ok).1]; rintro e w5 ⟨rfl, h5⟩; have L5 := Lib.hid (((HL.out.step H3.out).up H4.out).step h5); have J5 := Lib.hid (PB.out H3.out.1.ok).2; clear h5)
        | (have tok := H3; go_at_call 21; refine (row_any _ _).mono ?_; rintro e w4 ⟨rfl, h4, h4u⟩; have R4 := Lib.hid h4; have H4 := Lib.hid h4u; clear h4 h4u)
        | (go_at_call 33; refine (beginO HL.out.1 hlb (by omega)).mono ?_; rw [HJ1.out.last]; rintro e w3 ⟨rfl, h3⟩; have H3 := Lib.hid h3; clear h3)
        | (have tok := L5; at_builtin; refine wl_append_any rfl _ _ 22 rfl w1.heap.size 3 i0 (.int .i64 0) 1 8 Try.underlying22 hi0 hz0 hz1 hz2 rfl (by decide) _ _ _ rfl (own_up L5.out.2 ((Up.refl _).alloc _)) (some ⟨w5.heap.size, 0, none⟩) 1 1 [.int .i64 (f + n)] rfl (fun e => by cases e) rfl ?c1 ?c2 ?c3 ?c4 ?c5 ?_)
        | fail)
      case c1 => intro y hy; cases hy; exact cells_new w5 #[.int .i64 (f + n)] 3
      case c2 => intro u hu; rw [List.mem_singleton.1 hu]; rfl
      case c3 => have := idl_len f n; unfold maxLen; omega
      case c4 => have := idl_len f n; omega
      case c5 => have := L5.out.1.upw.size; simp; omega
      intro v' w6 hown' hgrow hat
      have L6 : Hid (LS w1 w6 p (bufP (begD d1) (f + n) kK ⟨false, rowV (100 + n)⟩).1 v' (idl f (n + 1))) := by
        rw [idl_succ]
        exact (L5.out.up ((Up.refl _).alloc _)).snoc hown' hgrow (hat.imp id fun e => by simpa using e)
      clear hown' hgrow hat
      go_wp2
      go_roundw
      case rel => exact ⟨n + 1, by omega, by go_num, _, L6.out, J5.out⟩
      case measure => simp [intOf]; omega
    · obtain rfl : n = N := by omega
      have hll := idl_len f n
      obtain ⟨g, cg, rfl, hg1, hg2, hgl, hgc⟩ := hL.cells (by rw [hll]; omega)
      have hg0 := hgc 0 (by rw [hll]; omega)
      rw [idl_get] at hg0
      rw [show f + ((0 : Nat) : Int) = f by simp] at hg0
      have HL := Lib.hid hL
      have HJ1 := Lib.hid hJ
      have hl0 : (0 : Int) < ((idl f n).length : Int) := by rw [hll]; omega
      have LL2 : Hid (L2 w1 wr p c f 0 n 0 (.slice (some ⟨g, 0, none⟩) (idl f n).length cg)) := ⟨d1, _, hL, by rw [hll]; rfl, .inl ⟨rfl, rfl, rfl, hJ⟩⟩
      clear hL hJ HD hgc hll
      go_wp2
      go_loopw [9, 14, 64] (fun v xv iv wr => ∃ i : Nat, ∃ x : Int, i ≤ n ∧ iv = .int .i64 i ∧ xv = .int .i64 x ∧ Hid (L2 w1 wr p c f x n i v)) (fun _ _ iv _ => n - (intOf iv).toNat)
      case atStart => exact ⟨0, 0, by omega, rfl, rfl, LL2.out⟩
      case round =>
        obtain ⟨i, x, hi, rfl, rfl, HD⟩ := hrel
        by_cases hin : i < n
        · obtain ⟨d2, L, hL, hm, hcase⟩ := HD.out
          have hLpos : 0 < L.length := by omega
          obtain ⟨g, cg, rfl, hg1, hg2, hgl, hgc⟩ := hL.cells hLpos
          have HL := Lib.hid hL
          have HC := Lib.hid hcase
          have HM := Lib.hid hm
          have HGC := Lib.hid hgc
          have hL6 : L.length ≤ 6 := by omega
          clear hL hcase hm hgc HD
          go_upto_if 70 with fail
          go_cut [16] from 67 to 77 (fun s16 wx => wx = wr ∧ ∃ kk : Nat, kk < L.length ∧ s16 = .int .i64 kk)
          case first =>
            by_cases hio : i < len2
            · obtain ⟨b2, off2, rfl, hb2, hx2⟩ := elems_up HE2.out (H1.out.trans HL.out.1.upw) i hio
              have hio2 : (i : Int) < (len2 : Int) := by omega
              obtain ⟨kk, hkk⟩ : ∃ kk : Nat, modV (zs2.getD i 0) (L.length : Int) = (kk : Int) := ⟨(modV (zs2.getD i 0) (L.length : Int)).toNat, by have := modV_nonneg (zs2.getD i 0) (L.length : Int) (by omega); omega⟩
              have hkl : kk < L.length := by have := modV_lt (zs2.getD i 0) (L.length : Int) (by omega); omega
              generalize zs2.getD i 0 = z at *
              go_wp2_with (first
                | (go_at_call 22; refine (mod_any _ _ _ (by omega) (by omega)).mono ?_; rw [hkk]; rintro e w' ⟨rfl, rfl⟩)
                | fail)
              go_meet
              exact ⟨rfl, kk, hkl, rfl⟩
            · have hio2 : ¬ (i : Int) < (len2 : Int) := by omega
              go_wp2
              go_meet
              exact ⟨rfl, 0, hLpos, rfl⟩
          case rest =>
            obtain ⟨rfl, kk, hkl, rfl⟩ := hcut
            have hkc := HGC.out kk hkl
            have hkL : (kk : Int) < (L.length : Int) := by omega
            have hwk : IntKind.i64.wrap ((kk : Int) + 1) = (kk : Int) + 1 := IntWalk.i64_in _ (by omega)
            rcases HC.out with ⟨hi0', hx0', hLe, hJ2⟩ | ⟨hip, k0, hk0, hx0', hQ⟩
            · have HJ2 := Lib.hid hJ2
              have hkn : kk < n := by rw [hLe, idl_len] at hkl; exact hkl
              have QF := q_first HL.out.1.ok hJ2 hN2.2 hkn
              have hte := hJ2.tr kk hkn
              have hLk : L[kk] = f + kk := by subst hLe; exact idl_get _ _ _ _
              rw [hLk] at hkc
              have QF := Lib.hid QF
              have TE := Lib.hid hte
              have hcl : d2.clock < 1000000 := by rw [hJ2.clock]; have := hJ2.c0.2; omega
              have HLE := Lib.hid hLe
              subst hi0' hx0'
              have hf1 := HJ1.out.f1
              clear hJ2 hte hLk hLe HC
              go_wp2_with (first
                | (go_at_call 36; refine (commitO HL.out.1 TE.out hcl).mono ?_; rw [QF.out.1]; rintro e w5 ⟨rfl, h5⟩; have L5 := Lib.hid (HL.out.step h5); have c5 := (L5.out.cells hLpos); obtain ⟨g5, cg5, e5, _, _, hgl5, hgc5⟩ := c5; simp only [Value.slice.injEq, Option.some.injEq, Addr.mk.injEq, and_true, true_and] at e5; obtain ⟨rfl, rfl⟩ := e5; have hkc5 := hgc5 kk hkl; rw [show L[kk] = f + kk by have := HLE.out; subst this; exact idl_get _ _ _ _] at hkc5; have H5 := Lib.hid h5; clear h5 hgc5)
                | (go_at_call 39; refine (Hp.del_any g cg kk w1.heap.size L w5 L5.out.2 hkl).mono ?_; rintro e w6 ⟨rfl, h6, h7⟩; have L6 := Lib.hid (L5.out.del h6 h7); clear h6 h7)
                | fail)
              go_roundw
              case rel => exact ⟨1, f + kk, by omega, by first | rfl | go_num, by first | rfl | go_num, _, _, L6.out, by rw [List.length_eraseIdx_of_lt hkl, HM.out]; omega, .inr ⟨by omega, kk, hkn, rfl, by have := QF.out.2; rw [← HLE.out] at this; exact this⟩⟩
              case measure => simp [intOf]; omega
            · have QN := Lib.hid (q_next HL.out.1.ok hQ hkl)
              obtain ⟨r, hte⟩ := hQ.tr _ (List.getElem_mem hkl)
              have TE := Lib.hid hte
              have hcl : d2.clock < 1000000 := by rw [hQ.clock]; have := hQ.c0.2; omega
              have hi1 : ¬ (i : Int) = 0 := by omega
              have hi2 : ((i : Int) == 0) = false := beq_eq_false_iff_ne.2 hi1
              have HX0 := Lib.hid hx0'
              have XB : 1 ≤ x ∧ x ≤ 160 := by have := HJ1.out.f1; omega
              generalize hid : L[kk] = idk at *
              clear hQ hte HC hx0'
              go_wp2_with (first
                | (go_at_call 36; refine (commitO HL.out.1 TE.out hcl).mono ?_; rw [QN.out.1]; rintro e w5 ⟨rfl, h5⟩; have L5 := Lib.hid (HL.out.step h5); have H5 := Lib.hid h5; clear h5)
                | (go_at_call 39; refine (Hp.del_any g cg kk w1.heap.size L w5 L5.out.2 hkl).mono ?_; rintro e w6 ⟨rfl, h6, h7⟩; have L6 := Lib.hid (L5.out.del h6 h7); clear h6 h7)
                | fail)
              go_roundw
              case rel => exact ⟨i + 1, x, by omega, by first | rfl | go_num, by first | rfl | go_num, _, _, L6.out, by rw [List.length_eraseIdx_of_lt hkl, HM.out]; omega, .inr ⟨by omega, k0, hk0, HX0.out, QN.out.2⟩⟩
              case measure => simp [intOf]; omega
        · obtain rfl : i = n := by omega
          obtain ⟨d2, L, hL, hm, hcase⟩ := HD.out
          rcases hcase with ⟨h0, _⟩ | ⟨hip, k0, hk0, hx0', hQ⟩
          · omega
          · have HL := Lib.hid hL
            have HQ := Lib.hid hQ
            have hlb : d2.last < 1000000 := by have := hQ.last; omega
            have hab : d2.act.length ≠ 60 := by have := hQ.act; omega
            have hrw : 100 + x - f = 100 + (k0 : Int) := by omega
            have HRW := Lib.hid hrw
            have XB : 1 ≤ x ∧ x ≤ 160 := by have := HJ1.out.f1; omega
            have hf1 := HJ1.out.f1
            have RL : Hid ((rowV (100 + (k0 : Int))).length ≤ 6) := rowV_len _
            clear hL hQ HD hx0' hm hrw
            go_wp2_with (first
              | (go_at_call 24; refine (equalR_same _ _ (rowV (100 + (k0 : Int))) _ ((own_src R6.out).up H7.out) (own_src R7.out) (by have := RL.out; omega)).mono ?_; rintro e w8 ⟨rfl, h8⟩; have H8 := Lib.hid h8; clear h8)
              | (have tok := H6; go_at_call 21; refine (row_any _ _).mono ?_; rw [HRW.out]; rintro e w7 ⟨rfl, h7, h7u⟩; have R7 := Lib.hid h7; have H7 := Lib.hid h7u; clear h7 h7u)
              | (go_at_call 40; refine (getO H5.out.1 QG.out.1 kK).mono ?_; rw [QG.out.2]; rintro e w6 ⟨gv, rfl, h6, h6u⟩; obtain ⟨ga, gc, rfl, _, _, _⟩ := own_form h6; have R6 := Lib.hid h6; have H6 := Lib.hid h6u; clear h6 h6u)
              | (go_at_call 33; refine (beginO HL.out.1 hlb hab).mono ?_; rintro e w5 ⟨rfl, h5⟩; have QG := Lib.hid (q_get HL.out.1.ok h5.1.ok HQ.out); have H5 := Lib.hid h5; clear h5)
              | fail)
            go_ret
            exact ⟨rfl, (((H1.out.trans H5.out.1.upw).trans H6.out).trans H7.out).trans H8.out⟩
end Go.Proofs.Ytinmpodnfofmdaa.Sn
