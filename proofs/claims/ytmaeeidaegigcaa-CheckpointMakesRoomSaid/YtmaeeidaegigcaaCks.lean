/- CheckpointMakesRoom. -/
import Derived.Test.YtmaeeidaegigcaaCkr
import Derived.Deep.CutBlock
namespace Go.Proofs.Ytmaeeidaegigcaa.Ck
open Go Go.RowKit Hp So
open Dk (Elems elems_up)
open Wl (Log St)
set_option linter.unusedVariables false

theorem flat_len (c : Nat) : ∀ (us : Ws), (∀ u ∈ us, (recU u).length + 2 ≤ c) → (Wl.flat (us.map recU)).length ≤ c * us.length
  | [], _ => Nat.zero_le _
  | u :: us, h => by
    have h1 := flat_len c us fun x hx => h x (List.mem_cons_of_mem _ hx)
    have h2 := h u (List.mem_cons_self ..)
    rw [List.map_cons, Wl.flat_cons, List.length_append, Wl.enc_len, List.length_cons, Nat.mul_add]
    omega
/-- Where the store stands behind k updates. -/
structure Rm (k i : Nat) (C : Ck) (base us : Ws) (d : Nat) : Prop where
  cs : Cs 12 i C base us d
  i : i ≤ 2 * k
  len : us.length = k % 5
  nx : C.next < 0
  ck : C.cks = k / 5
theorem Rm.full {k i d : Nat} {C : Ck} {base us : Ws} (h : Rm k i C base us d) (op : Int) : C.log.full (recU (updB op)).length = false := by
  have h1 := flat_len 27 us fun u hu => by have := h.cs.ci.key u hu; rw [recU_len]; omega
  have h2 := h.len
  have h3 := updB_rec op
  have : k % 5 < 5 := Nat.mod_lt _ (by decide)
  refine notfull_log h.cs.st _ ?_
  have : 27 * us.length ≤ 27 * 4 := Nat.mul_le_mul_left _ (by omega)
  omega
set_option maxRecDepth 100000 in
set_option maxHeartbeats 4000000 in
theorem walk45 (a0 : Option Addr) (len0 cap0 : Nat) (z0 : List Int) (w : World) (hE : Elems w a0 len0 z0) (hl : len0 ≤ cap0) (hm : cap0 ≤ 9223372036854775807) :
    Calls Try.prog 10 #[.slice a0 len0 cap0] w fun e w' => e = .returned (.bool true) ∧ Up w w' := by
  have HE := Lib.hid hE
  clear hE
  have hz : len0 = 0 ∨ 0 < len0 := by omega
  go_enter Try.func10, Try.ntmps10
  go_wp2_with (first
    | (go_at_call 32; refine (hnew 12 _ (by decide) (by decide)).mono ?_; rintro e w2 ⟨p, rfl, H2, U2⟩)
    | (go_at_call 31; refine (works_any w).mono ?_; rintro e w1 ⟨rfl, h1⟩; have U1 := Lib.hid h1; clear h1)
    | fail)
  have UW := Lib.hid (U1.out.trans U2.out)
  have H0 : Hid (Hold w w2 p (newC 12) (.slice none 0 0) []) := by
    obtain ⟨F, a1, a2, a3, a4, a5⟩ := H2.out
    exact ⟨F, a1, fun k hk => Nat.le_trans U1.out.size (a2 k hk), a3, fun k hk => (by cases hk), UW.out⟩
  clear H2 U1 U2 UW
  go_loopw [23] (fun iv wr => ∃ (k i d : Nat) (C : Ck) (base us : Ws), k ≤ 120 ∧ iv = .int .i64 (k : Int) ∧ Hid (Rm k i C base us d) ∧ Hid (Hold w wr p C (.slice none 0 0) [])) (fun iv _ => 120 - (intOf iv).toNat)
  case atStart => exact ⟨0, 0, 0, newC 12, [], [], Nat.zero_le _, rfl, ⟨Cs.new 12 (by decide), Nat.le_refl _, rfl, by show (-1 : Int) < 0; decide, rfl⟩, H0.out⟩
  case round =>
    obtain ⟨k, i, d, C, base, us, hk, rfl, HR, HH⟩ := hrel
    by_cases hlt : k < 120
    · have hli : (k : Int) < 120 := by omega
      have hi2 : ¬ (k : Int) < 0 := by omega
      go_upto_if 29 with fail
      go_cut [6] from 29 to 36 (fun s6 wx => ∃ x, s6 = .int .i64 x ∧ wr = wx)
      case first =>
        rcases hz with rfl | hz
        · go_wp2
          go_meet
          exact ⟨_, rfl, rfl⟩
        · have hz1 : (0 : Int) < (len0 : Int) := by omega
          have hz2 : ¬ (len0 : Int) = 0 := by omega
          have hmlt : k % len0 < len0 := Nat.mod_lt _ hz
          have htm : (k : Int).tmod (len0 : Int) = ((k % len0 : Nat) : Int) := by rw [Int.tmod_eq_emod_of_nonneg (by omega)]; omega
          obtain ⟨b, off, rfl, hb1, hb2⟩ := (elems_up HE.out HH.out.world) (k % len0) hmlt
          have hmi2 : ((k % len0 : Nat) : Int) < (len0 : Int) := by omega
          obtain ⟨y, hy⟩ : ∃ y, y = k % len0 := ⟨_, rfl⟩
          rw [← hy] at htm hb2 hmi2 hmlt
          clear hy
          go_wp2
          go_meet
          exact ⟨_, rfl, rfl⟩
      case rest =>
        obtain ⟨op, rfl, rfl⟩ := hcut
        have hi := HR.out.i
        have HPUT : Hid (Calls Try.prog 33 #[.pointer (some ⟨p, 0, none⟩), .int .i64 op] wr fun e w' => e = .returned (.tuple #[.agg #[.string (updB op).1, .string (updB op).2], .int .i64 0]) ∧ ∃ C', Hid (Cs 12 (i + 1) C' base (us ++ [updB op]) d) ∧ Hid (C'.next = C.next ∧ C'.cks = C.cks) ∧ Hid (Hold w w' p C' (.slice none 0 0) [])) := by
          refine (hput HH.out HR.out.cs (by decide) (by decide) (by omega) op).mono ?_
          rintro e w' ⟨k', rfl, h1⟩
          unfold PutR at h1
          rw [HR.out.full op, if_neg (by decide)] at h1
          obtain ⟨rfl, L', h2, h3⟩ := h1
          exact ⟨rfl, _, h2, ⟨rfl, rfl⟩, h3⟩
        have hmod : (k : Int).tmod 5 = ((k % 5 : Nat) : Int) := by rw [Int.tmod_eq_emod_of_nonneg (by omega)]; omega
        by_cases hk5 : k % 5 < 4
        · have hk5i : ((k % 5 : Nat) : Int) < 4 := by omega
          obtain ⟨y, hy⟩ : ∃ y, y = k % 5 := ⟨_, rfl⟩
          rw [← hy] at hmod hk5i
          have HY := Lib.hid hy
          clear hy
          go_wp2_with (first
            | (go_at_call 33; refine HPUT.out.mono ?_; rintro e w3 ⟨rfl, C3, S3, N3, H3⟩)
            | fail)
          go_roundw
          case rel =>
            have hl := HR.out.len
            have hn := HR.out.nx
            have hc := HR.out.ck
            refine ⟨k + 1, i + 1, d, C3, base, us ++ [updB op], by omega, by go_num, ⟨S3.out, by omega, by rw [List.length_append, List.length_singleton]; omega, by rw [N3.out.1]; exact hn, by rw [N3.out.2]; omega⟩, H3.out.mv ((Up.refl _).alloc _)⟩
          case measure => simp [intOf]; omega
        · have hk5i : ¬ ((k % 5 : Nat) : Int) < 4 := by omega
          obtain ⟨y, hy⟩ : ∃ y, y = k % 5 := ⟨_, rfl⟩
          rw [← hy] at hmod hk5i
          have HY := Lib.hid hy
          clear hy
          go_upto_block 2 with (first
            | (go_at_call 34; refine (hbegin (H3.out.mv ((Up.refl _).alloc _)) S3.out (by omega) (by rw [N3.out.1]; exact HR.out.nx)).mono ?_; rintro e w4 ⟨rfl, S4, H4⟩)
            | (go_at_call 33; refine HPUT.out.mono ?_; rintro e w3 ⟨rfl, C3, S3, N3, H3⟩)
            | fail)
          have hcl := HR.out.len
          have hnx := HR.out.nx
          have hck := HR.out.ck
          have HCK : Hid (C3.cks < 1000) := by unfold Hid; rw [N3.out.2]; omega
          have HUL : Hid ((us ++ [updB op]).length = 5) := by unfold Hid; rw [List.length_append, List.length_singleton]; have := HY.out; omega
          have HPL : Hid (C3.ents.length ≤ 20) := S3.out.ci.ewok.len
          have HKI : Hid (i ≤ 300) := by unfold Hid; omega
          go_cut [9, 10] from 51 to 61 (fun s9 s10 wx => ∃ C' base' d' x y, s9 = .bool x ∧ s10 = .int .i64 y ∧ Hid (Rm (k + 1) (i + 2) C' base' [] d') ∧ Hid (Hold w wx p C' (.slice none 0 0) []))
          case first =>
            clear hcl hnx hck
            go_wp2
            go_loopw [51] (fun s51 wr => ∃ (j : Nat) (C : Ck), s51 = .int .i64 (j : Int) ∧ j ≤ C3.ents.length ∧ Hid (C.next = (j : Int) ∧ C.pend = C3.ents ∧ C.cks = C3.cks ∧ C.cov = (us ++ [updB op]).length) ∧ Hid (Cs 12 (i + 1) C base (us ++ [updB op]) d) ∧ Hid (Hold w wr p C (.slice none 0 0) [])) (fun s51 _ => 21 - (intOf s51).toNat)
            case atStart => exact ⟨0, { C3 with pend := C3.ents, next := 0, cov := (us ++ [updB op]).length }, rfl, Nat.zero_le _, ⟨rfl, rfl, rfl, rfl⟩, S4.out, H4.out⟩
            case round =>
              obtain ⟨j, C5, rfl, hj, HC5, S5, H5⟩ := hrel
              have hj21 : (j : Int) < 21 := by have := HPL.out; omega
              by_cases hjl : j < C3.ents.length
              · have HST := Lib.hid (hstep1 H5.out S5.out j HC5.out.1 (by rw [HC5.out.2.1]; exact hjl) (by rw [HC5.out.2.2.1]; exact HCK.out))
                go_wp2_with (first
                  | (go_at_call 35; refine HST.out.mono ?_; rintro e w6 ⟨rfl, S6, H6⟩)
                  | fail)
                go_roundw
                case rel => exact ⟨j + 1, C5.step1 (C5.pend[j]'(by rw [HC5.out.2.1]; exact hjl)), by go_num, hjl, ⟨by show C5.next + 1 = _; rw [HC5.out.1]; omega, HC5.out.2.1, HC5.out.2.2.1, HC5.out.2.2.2⟩, S6.out, H6.out⟩
                case measure => simp [intOf]; omega
              · have HST := Lib.hid (hstep2 H5.out S5.out (by rw [HC5.out.1, HC5.out.2.1]; omega) (by rw [HC5.out.2.2.1]; exact HCK.out) (by decide) (by decide) (by have := HKI.out; omega))
                go_wp2_with (first
                  | (go_at_call 35; refine HST.out.mono ?_; rintro e w6 ⟨rfl, L6, S6, H6⟩)
                  | fail)
                go_meet
                have hcov := HC5.out.2.2.2
                have hc5 := HC5.out.2.2.1
                have hi3 := HR.out.i
                have hck3 := N3.out.2
                have hck := HR.out.ck
                have hy := HY.out
                have s6 := S6.out
                rw [hcov, List.drop_of_length_le (Nat.le_refl _)] at s6
                exact ⟨_, _, _, _, _, rfl, rfl, ⟨s6, by omega, by show 0 = _; omega, by show (-1 : Int) < 0; decide, by show C5.cks + 1 = _; omega⟩, H6.out⟩
          case rest =>
            obtain ⟨C9, base9, d9, x9, y9, rfl, rfl, R9, H9⟩ := hcut
            go_wp2_with (first
              | (go_at_call 36; refine (hloglen H9.out R9.out.cs (by have := HKI.out; omega)).mono ?_; rintro e w7 ⟨rfl, H7⟩)
              | fail)
            go_roundw
            case rel => exact ⟨k + 1, i + 2, d9, C9, base9, [], by omega, by go_num, R9.out, H7.out⟩
            case measure => simp [intOf]; omega
    · obtain rfl : k = 120 := by omega
      go_wp2
      go_ret
      exact ⟨rfl, HH.out.world⟩
end Go.Proofs.Ytmaeeidaegigcaa.Ck
