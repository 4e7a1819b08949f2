/- CheckpointTruncatesLog. -/
import Derived.Test.YtmaeeidaegigcaaCkt
namespace Go.Proofs.Ytmaeeidaegigcaa.Ck
open Go Go.RowKit Hp So
open Dk (Elems elems_up)
open Wl (Log St)
set_option linter.unusedVariables false

theorem flat_len5 : ∀ (us : Ws), (∀ u ∈ us, (recU u).length ≤ 3) → (Wl.flat (us.map recU)).length ≤ 5 * us.length
  | [], _ => Nat.zero_le _
  | u :: us, h => by
    have h1 := flat_len5 us fun x hx => h x (List.mem_cons_of_mem _ hx)
    have h2 := h u (List.mem_cons_self ..)
    rw [List.map_cons, Wl.flat_cons, List.length_append, Wl.enc_len, List.length_cons, Nat.mul_add]
    omega
/-- The store has no base yet: all of U is in the log; the law's row holds V. -/
def T8 (w wr : World) (p : Nat) (uv : Value) (U V : Ws) (nx : Int) (pd : Ws) (cv : Nat) : Prop :=
  ∃ C i d, Hold w wr p C uv V ∧ Cs 60 i C [] U d ∧ i ≤ U.length ∧ (∀ u ∈ U, (recU u).length ≤ 3) ∧ C.cks = 0 ∧ (nx < 0 → C.next < 0) ∧ (0 ≤ nx → C.next = nx ∧ C.pend = pd ∧ C.cov = cv)
section
variable {w wr w' : World} {p : Nat} {uv uv' : Value} {U V : Ws} {nx : Int} {pd : Ws} {cv : Nat}
theorem T8.up (h : T8 w wr p uv U V nx pd cv) : Up w wr := by obtain ⟨C, i, d, h, _⟩ := h; exact h.world
theorem T8.mv (h : T8 w wr p uv U V nx pd cv) (hu : Up wr w') : T8 w w' p uv U V nx pd cv := by obtain ⟨C, i, d, h, r⟩ := h; exact ⟨C, i, d, h.mv hu, r⟩
theorem T8.own (h : T8 w wr p uv U V nx pd cv) : wr.ownsRow 0 62 2 uv V.length (ec V) := by obtain ⟨C, i, d, ⟨F, _, _, h3, _⟩, _⟩ := h; exact h3
theorem T8.app (h : T8 w wr p uv U V nx pd cv) {u : ByteArray × ByteArray} (h1 : w'.ownsRow 0 62 2 uv' (V.length + 1) (ec V ++ [.string u.1, .string u.2])) (hg : wr.grownBy w' uv.ownBlock) (hat : uv'.ownBlock = uv.ownBlock ∨ ∃ g, uv'.ownBlock = some g ∧ wr.heap.size ≤ g) : T8 w w' p uv' U (V ++ [u]) nx pd cv := by
  obtain ⟨C, i, d, h, r⟩ := h
  exact ⟨C, i, d, h.app h1 hg hat, r⟩
theorem t8put (h : T8 w wr p uv U V nx pd cv) (hl : U.length ≤ 59) (op : Int) :
    Calls Try.prog 33 #[.pointer (some ⟨p, 0, none⟩), .int .i64 op] wr fun e w' => e = .returned (.tuple #[.agg #[.string (updB op).1, .string (updB op).2], .int .i64 0]) ∧ Hid (T8 w w' p uv (U ++ [updB op]) V nx pd cv) := by
  obtain ⟨C, i, d, h, hc, hi, hs, hk, hx⟩ := h
  have hf : C.log.full (recU (updB op)).length = false := by
    refine notfull_log hc.st _ ?_
    have := flat_len5 U hs
    have := updB_rec op
    omega
  refine (hput h hc (by decide) (by decide) (by omega) op).mono ?_
  rintro e w' ⟨k, rfl, h1⟩
  unfold PutR at h1
  rw [hf, if_neg (by decide)] at h1
  obtain ⟨rfl, L', a1, a2⟩ := h1
  refine ⟨rfl, ⟨_, i + 1, d, a2, a1, by rw [List.length_append, List.length_singleton]; omega, fun u hu => ?_, hk, hx⟩⟩
  rcases List.mem_append.1 hu with e | e
  · exact hs u e
  · rw [List.mem_singleton.1 e]; exact updB_rec op
theorem t8new (w : World) :
    Calls Try.prog 32 #[.int .i64 60] w fun e w' => ∃ p, e = .returned (.tuple #[.pointer (some ⟨p, 0, none⟩), .int .i64 0]) ∧ Hid (T8 w w' p (.slice none 0 0) [] [] (-1) [] 0) ∧ Hid (Up w w') := by
  refine (hnew 60 w (by decide) (by decide)).mono ?_
  rintro e w' ⟨p, rfl, a1, a2⟩
  exact ⟨p, rfl, ⟨newC 60, 0, 0, a1.out, Cs.new 60 (by decide), Nat.le_refl _, (fun u hu => (by cases hu)), rfl, (fun _ => (by show (-1 : Int) < 0; decide)), fun h => absurd h (by decide)⟩, a2⟩
theorem T8.from {w0 : World} (h : T8 w wr p uv U V nx pd cv) (hu : Up w0 w) : T8 w0 wr p uv U V nx pd cv := by
  obtain ⟨C, i, d, h, r⟩ := h
  refine ⟨C, i, d, ?_, r⟩
  obtain ⟨F, a1, a2, a3, a4, a5⟩ := h
  exact ⟨F, a1, fun k hk => Nat.le_trans hu.size (a2 k hk), a3, fun k hk => ⟨Nat.le_trans hu.size (a4 k hk).1, (a4 k hk).2⟩, hu.trans a5⟩
theorem t8begin (h : T8 w wr p uv U V nx pd cv) (hn : nx < 0) (hl : U.length ≤ 60) :
    Calls Try.prog 34 #[.pointer (some ⟨p, 0, none⟩)] wr fun e w' => e = .returned (.int .i64 0) ∧ Hid (T8 w w' p uv U V 0 (U.foldl apL []) U.length) := by
  obtain ⟨C, i, d, h, hc, hi, hs, hk, hx, _⟩ := h
  refine (hbegin h hc (by omega) (hx hn)).mono ?_
  rintro e w' ⟨rfl, a1, a2⟩
  exact ⟨rfl, _, i, d, a2.out, a1.out, hi, hs, hk, fun h => absurd h (by decide), fun _ => ⟨rfl, hc.ci.ents, rfl⟩⟩
theorem T8.pdl (h : T8 w wr p uv U V nx pd cv) (hn : 0 ≤ nx) : pd.length ≤ 20 := by
  obtain ⟨C, i, d, h, hc, hi, hs, hk, _, hx⟩ := h
  obtain ⟨h1, h2, h3⟩ := hx hn
  rw [← h2]
  exact (hc.ci.pwok (by omega)).len
theorem t8step (h : T8 w wr p uv U V nx pd cv) (j : Nat) (hj : nx = (j : Int)) (hjl : j < pd.length) :
    Calls Try.prog 35 #[.pointer (some ⟨p, 0, none⟩)] wr fun e w' => e = .returned (.tuple #[.bool false, .int .i64 0]) ∧ Hid (T8 w w' p uv U V ((j + 1 : Nat) : Int) pd cv) := by
  obtain ⟨C, i, d, h, hc, hi, hs, hk, _, hx⟩ := h
  obtain ⟨h1, h2, h3⟩ := hx (by omega)
  have hm2 : j < C.pend.length := by rw [h2]; exact hjl
  refine (hstep1 h hc j (by omega) hm2 (by omega)).mono ?_
  rintro e w' ⟨rfl, a1, a2⟩
  exact ⟨rfl, C.step1 (C.pend[j]'hm2), i, d, a2.out, a1.out, hi, hs, hk, fun h => by omega, fun _ => ⟨by show C.next + 1 = _; omega, h2, h3⟩⟩
/-- The checkpoint is complete: the log holds what came behind it. -/
def T9 (w wr : World) (p : Nat) (uv : Value) (U : Ws) (cv : Nat) : Prop :=
  ∃ C i d, Hold w wr p C uv U ∧ Cs 60 i C ((U.take cv).foldl apL []) (U.drop cv) d ∧ i ≤ 100 ∧ C.cks ≤ 1
theorem t8done (h : T8 w wr p uv U U nx pd cv) (hj : nx = (pd.length : Int)) (hl : U.length ≤ 60) (hcv : pd = (U.take cv).foldl apL []) :
    Calls Try.prog 35 #[.pointer (some ⟨p, 0, none⟩)] wr fun e w' => e = .returned (.tuple #[.bool true, .int .i64 0]) ∧ Hid (T9 w w' p uv U cv) := by
  obtain ⟨C, i, d, h, hc, hi, hs, hk, _, hx⟩ := h
  obtain ⟨h1, h2, h3⟩ := hx (by omega)
  refine (hstep2 h hc (by rw [h2]; omega) (by omega) (by decide) (by decide) (by omega)).mono ?_
  rintro e w' ⟨rfl, L', a1, a2⟩
  have a1 := a1.out
  rw [h2, h3, hcv] at a1
  exact ⟨rfl, _, i + 1, _, a2.out, a1, by omega, by show C.cks + 1 ≤ 1; omega⟩
theorem T9.mv (h : T9 w wr p uv U cv) (hu : Up wr w') : T9 w w' p uv U cv := by obtain ⟨C, i, d, h, r⟩ := h; exact ⟨C, i, d, h.mv hu, r⟩
theorem T9.up (h : T9 w wr p uv U cv) : Up w wr := by obtain ⟨C, i, d, h, _⟩ := h; exact h.world
theorem t9len (h : T9 w wr p uv U cv) :
    Calls Try.prog 36 #[.pointer (some ⟨p, 0, none⟩)] wr fun e w' => e = .returned (.int .i64 ((U.length - cv : Nat) : Int)) ∧ Hid (T9 w w' p uv U cv) := by
  obtain ⟨C, i, d, h, hc, hi, hk⟩ := h
  refine (hloglen h hc (by omega)).mono ?_
  rintro e w' ⟨rfl, a2⟩
  rw [List.length_drop]
  exact ⟨rfl, C, i, d, a2.out, hc, hi, hk⟩
/-- Synced and crashed. -/
def TA (w wr : World) (p : Nat) (uv : Value) (U : Ws) (cv : Nat) : Prop := ∃ C i d, Hold w wr p C uv U ∧ Cs 60 i C ((U.take cv).foldl apL []) (U.drop cv) d ∧ i ≤ 102 ∧ C.ents = U.foldl apL []
theorem t9sync (h : T9 w wr p uv U cv) :
    Calls Try.prog 37 #[.pointer (some ⟨p, 0, none⟩)] wr fun e w' => e = .returned (.tuple #[]) ∧ ∃ C i, Hid (Hold w w' p C uv U ∧ Cs 60 i C ((U.take cv).foldl apL []) (U.drop cv) (U.drop cv).length ∧ i ≤ 101 ∧ C.cks ≤ 1) := by
  obtain ⟨C, i, d, h, hc, hi, hk⟩ := h
  refine (hsync h hc).mono ?_
  rintro e w' ⟨rfl, L', a1, a2⟩
  exact ⟨rfl, _, i + 1, a2.out, a1.out, by omega, hk⟩
theorem tacrash {C : Ck} {i : Nat} (h : Hold w wr p C uv U ∧ Cs 60 i C ((U.take cv).foldl apL []) (U.drop cv) (U.drop cv).length ∧ i ≤ 101 ∧ C.cks ≤ 1) :
    Calls Try.prog 41 #[.pointer (some ⟨p, 0, none⟩), .slice none 0 0, .slice none 0 0] wr fun e w' => e = .returned (.tuple #[]) ∧ Hid (TA w w' p uv U cv) := by
  obtain ⟨h, hc, hi, hk⟩ := h
  refine (hcrash h hc (by decide) (by decide) (by omega) (by omega) [] [] _ _ (Arr.nil _ _ _) (Arr.nil _ _ _)).mono ?_
  rintro e w' ⟨rfl, C', j, g1, g2, g3, g4, g5⟩
  obtain rfl : j = (U.drop cv).length := Nat.le_antisymm g2 g1
  have g4 := g4.out
  rw [List.take_length] at g3 g4
  rw [← List.foldl_append, List.take_append_drop] at g3
  exact ⟨rfl, C', i + 1, _, g5.out, g4, by omega, g3⟩
theorem taall (h : TA w wr p uv U cv) :
    Calls Try.prog 39 #[.pointer (some ⟨p, 0, none⟩)] wr fun e w' => ∃ v, e = .returned v ∧ Hid (w'.ownsRow 0 62 2 v (U.foldl apL []).length (ec (U.foldl apL []))) ∧ Hid (TA w w' p uv U cv) := by
  obtain ⟨C, i, d, h, hc, hi, he⟩ := h
  refine (hall h hc).mono ?_
  rintro e w' ⟨v, rfl, a1, a2, a3⟩
  rw [he] at a1
  exact ⟨v, rfl, a1, C, i, d, a3.out, hc, hi, he⟩
theorem TA.mv (h : TA w wr p uv U cv) (hu : Up wr w') : TA w w' p uv U cv := by obtain ⟨C, i, d, h, r⟩ := h; exact ⟨C, i, d, h.mv hu, r⟩
theorem TA.up (h : TA w wr p uv U cv) : Up w wr := by obtain ⟨C, i, d, h, _⟩ := h; exact h.world
theorem TA.own (h : TA w wr p uv U cv) : wr.ownsRow 0 62 2 uv U.length (ec U) := by obtain ⟨C, i, d, ⟨F, _, _, h3, _⟩, _⟩ := h; exact h3
theorem talen (h : TA w wr p uv U cv) :
    Calls Try.prog 36 #[.pointer (some ⟨p, 0, none⟩)] wr fun e w' => e = .returned (.int .i64 ((U.length - cv : Nat) : Int)) ∧ Hid (TA w w' p uv U cv) := by
  obtain ⟨C, i, d, h, hc, hi, he⟩ := h
  refine (hloglen h hc (by omega)).mono ?_
  rintro e w' ⟨rfl, a2⟩
  rw [List.length_drop]
  exact ⟨rfl, C, i, d, a2.out, hc, hi, he⟩
end
/-- The prefixes of the law's updates are whole. -/
structure Pre8 (U : Ws) : Prop where
  wok : ∀ j, j ≤ U.length → WOk ((U.take j).foldl apL [])
  key : ∀ u ∈ U, u.1.size ≤ 12 ∧ u.2.size ≤ 12
theorem T8.pre {w wr : World} {p : Nat} {uv : Value} {U V : Ws} {nx : Int} {pd : Ws} {cv : Nat} (h : T8 w wr p uv U V nx pd cv) : Pre8 U := by
  obtain ⟨C, i, d, h, hc, _⟩ := h
  exact ⟨hc.ci.wok, fun u hu => (hc.ci.key u hu).2⟩
set_option maxRecDepth 100000 in
set_option maxHeartbeats 4000000 in
theorem walk48 (a0 : Option Addr) (len0 cap0 : Nat) (z0 : List Int) (a1 : Option Addr) (len1 cap1 : Nat) (z1 : List Int) (w : World) (hE : Elems w a0 len0 z0) (hl : len0 ≤ cap0) (hm : cap0 ≤ 9223372036854775807) (hE1 : Elems w a1 len1 z1) (hl1 : len1 ≤ cap1) (hm1 : cap1 ≤ 9223372036854775807) :
    Calls Try.prog 12 #[.slice a0 len0 cap0, .slice a1 len1 cap1] w fun e w' => e = .returned (.bool true) ∧ Up w w' := by
  have HE := Lib.hid hE
  have HE1 := Lib.hid hE1
  clear hE hE1
  obtain ⟨N, hN⟩ : ∃ N : Nat, N = min len0 30 := ⟨_, rfl⟩
  have hmin : (if (30 : Int) < (len0 : Int) then (30 : Int) else (len0 : Int)) = (N : Int) := by split <;> omega
  have hN1 : N ≤ 30 := by omega
  have hN2 : N ≤ len0 := by omega
  have hN3 : N ≤ cap0 := by omega
  obtain ⟨M, hM⟩ : ∃ M : Nat, M = min len1 30 := ⟨_, rfl⟩
  have HMIN : Hid ((if (30 : Int) < (len1 : Int) then (30 : Int) else (len1 : Int)) = (M : Int)) := by unfold Hid; split <;> omega
  have hM1 : M ≤ 30 := by omega
  have hM2 : M ≤ len1 := by omega
  have hM3 : M ≤ cap1 := by omega
  clear hN hM
  obtain ⟨ie, hie, hze0, hze1, hze2⟩ := info_parts Try.infoEntry
  go_enter Try.func12, Try.ntmps12
  go_wp2_with (first
    | (go_at_call 32; refine (t8new _).mono ?_; rintro e w2 ⟨p, rfl, H3, U2⟩)
    | (go_at_call 31; refine (works_any w).mono ?_; rintro e w1 ⟨rfl, h1⟩; have U1 := Lib.hid h1; clear h1)
    | fail)
  clear hmin
  have H0 := Lib.hid (H3.out.from U1.out)
  clear H3 U1 U2
  go_loopw [7, 36] (fun uv iv wr => ∃ (k : Nat) (U : Ws), k ≤ N ∧ iv = .int .i64 (k : Int) ∧ Hid (U.length = k) ∧ Hid (T8 w wr p uv U U (-1) [] 0)) (fun _ iv _ => N - (intOf iv).toNat)
  case atStart => exact ⟨0, [], Nat.zero_le _, rfl, rfl, H0.out⟩
  case round =>
    obtain ⟨k, U, hk, rfl, HUL, HT⟩ := hrel
    obtain ⟨ua, uc, rfl, _, _, _⟩ := own_form HT.out.own
    have hUL : Hid (U.length ≤ 30) := by unfold Hid; rw [HUL.out]; omega
    by_cases hlt : k < N
    · have hli : (k : Int) < (N : Int) := by omega
      obtain ⟨b, off, rfl, hb1, hb2⟩ := (elems_up HE.out HT.out.up) k (by omega)
      obtain ⟨x, hx⟩ : ∃ x, x = z0.getD k 0 := ⟨_, rfl⟩
      rw [← hx] at hb2
      clear hx
      have HPT := Lib.hid (t8put HT.out (by have := hUL.out; omega) x)
      obtain ⟨u, hu⟩ : ∃ u, u = updB x := ⟨_, rfl⟩
      rw [← hu] at HPT
      clear hu
      go_upto_region 13 with (first
        | (go_at_call 33; refine HPT.out.mono ?_; rintro e w4 ⟨rfl, H4⟩)
        | fail)
      have H5 := Lib.hid (H4.out.mv (((Up.refl w4).alloc (.cells #[.string u.1, .string u.2] 62)).alloc (.cells #[.string u.1, .string u.2] 62)))
      have HNEWS := Lib.hid (cells_new (w4.alloc (.cells #[.string u.1, .string u.2] 62)) #[.string u.1, .string u.2] 62)
      rw [show (w4.alloc (.cells #[.string u.1, .string u.2] 62)).heap.size = w4.heap.size + 1 by simp] at HNEWS
      go_wp2_with (at_builtin; refine wpList_append_own_at _ rfl (.tmp 48) (.tmp 50) 67 rfl 0 62 ie (.agg #[.string ByteArray.empty, .string ByteArray.empty]) 2 32 Try.underlying67 hie hze0 hze1 hze2 rfl (by decide) (.slice ua U.length uc) U.length _ rfl H5.out.own ⟨w4.heap.size + 1, 0, none⟩ 1 1 [.string u.1, .string u.2] rfl rfl HNEWS.out (by intro u' hu'; simp at hu'; rcases hu' with rfl | rfl <;> rfl) (by unfold maxLen; have := hUL.out; omega) (by have := hUL.out; omega) (by omega) ?_)
      intro v6 w6 hown6 hg6 _ hat6
      obtain ⟨a6, c6, rfl, _, _, _⟩ := own_form hown6
      have H6 : Hid (T8 w w6 p (.slice a6 (U.length + 1) c6) (U ++ [u]) (U ++ [u]) (-1) [] 0) := H5.out.app hown6 hg6 (by
        rcases hat6 with e | e
        · exact .inl e
        · exact .inr ⟨_, e, by simp⟩)
      clear hown6 hg6 hat6
      go_wp2
      go_roundw
      case rel => exact ⟨k + 1, U ++ [u], hlt, by go_num, by unfold Hid; rw [List.length_append, List.length_singleton, HUL.out], H6.out⟩
      case measure => simp [intOf]; omega
    · obtain rfl : k = N := by omega
      have HBG := Lib.hid (t8begin HT.out (by decide) (by have := hUL.out; omega))
      have hmin := HMIN.out
      go_wp2_with (first
        | (go_at_call 34; refine HBG.out.mono ?_; rintro e w7 ⟨rfl, H7⟩)
        | fail)
      clear hmin
      obtain ⟨P, hP⟩ : ∃ P, P = U.foldl apL [] := ⟨_, rfl⟩
      obtain ⟨nb, hnb⟩ : ∃ nb, nb = U.length := ⟨_, rfl⟩
      have H7' : Hid (T8 w w7 p (.slice ua U.length uc) U U 0 P nb) := by rw [hP, hnb]; exact H7
      clear H7
      have HP : Hid (P = (U.take nb).foldl apL [] ∧ nb = U.length) := ⟨by rw [hnb, List.take_length]; exact hP, hnb⟩
      clear hP hnb
      go_loopw [7, 63] (fun uv iv wr => ∃ (j : Nat) (V : Ws), j ≤ M ∧ iv = .int .i64 (j : Int) ∧ Hid (V.length = nb + j ∧ V.take nb = U) ∧ Hid (T8 w wr p uv V V 0 P nb)) (fun _ iv _ => M - (intOf iv).toNat)
      case atStart => exact ⟨0, U, Nat.zero_le _, rfl, ⟨HP.out.2.symm, by rw [HP.out.2, List.take_length]⟩, H7'.out⟩
      case round =>
        obtain ⟨j, V, hj, rfl, HVL, HV⟩ := hrel
        obtain ⟨va, vc, rfl, _, _, _⟩ := own_form HV.out.own
        have hVL : Hid (V.length ≤ 60) := by unfold Hid; have := HVL.out.1; have := HP.out.2; have := hUL.out; omega
        by_cases hlt2 : j < M
        · have hli : (j : Int) < (M : Int) := by omega
          have hVL2 : Hid (V.length ≤ 59) := by unfold Hid; have := HVL.out.1; have := HP.out.2; have := hUL.out; omega
          obtain ⟨b, off, rfl, hb1, hb2⟩ := (elems_up HE1.out HV.out.up) j (by omega)
          obtain ⟨x, hx⟩ : ∃ x, x = z1.getD j 0 := ⟨_, rfl⟩
          rw [← hx] at hb2
          clear hx
          have HPT := Lib.hid (t8put HV.out hVL2.out x)
          obtain ⟨u, hu⟩ : ∃ u, u = updB x := ⟨_, rfl⟩
          rw [← hu] at HPT
          clear hu
          go_upto_region 24 with (first
            | (go_at_call 33; refine HPT.out.mono ?_; rintro e w4 ⟨rfl, H4⟩)
            | fail)
          have H5 := Lib.hid (H4.out.mv (((Up.refl w4).alloc (.cells #[.string u.1, .string u.2] 62)).alloc (.cells #[.string u.1, .string u.2] 62)))
          have HNEWS := Lib.hid (cells_new (w4.alloc (.cells #[.string u.1, .string u.2] 62)) #[.string u.1, .string u.2] 62)
          rw [show (w4.alloc (.cells #[.string u.1, .string u.2] 62)).heap.size = w4.heap.size + 1 by simp] at HNEWS
          go_wp2_with (at_builtin; refine wpList_append_own_at _ rfl (.tmp 75) (.tmp 77) 67 rfl 0 62 ie (.agg #[.string ByteArray.empty, .string ByteArray.empty]) 2 32 Try.underlying67 hie hze0 hze1 hze2 rfl (by decide) (.slice va V.length vc) V.length _ rfl H5.out.own ⟨w4.heap.size + 1, 0, none⟩ 1 1 [.string u.1, .string u.2] rfl rfl HNEWS.out (by intro u' hu'; simp at hu'; rcases hu' with rfl | rfl <;> rfl) (by unfold maxLen; have := hVL.out; omega) (by have := hVL.out; omega) (by omega) ?_)
          intro v6 w6 hown6 hg6 _ hat6
          obtain ⟨a6, c6, rfl, _, _, _⟩ := own_form hown6
          have H6 : Hid (T8 w w6 p (.slice a6 (V.length + 1) c6) (V ++ [u]) (V ++ [u]) 0 P nb) := H5.out.app hown6 hg6 (by
            rcases hat6 with e | e
            · exact .inl e
            · exact .inr ⟨_, e, by simp⟩)
          clear hown6 hg6 hat6
          go_wp2
          go_roundw
          case rel => exact ⟨j + 1, V ++ [u], hlt2, by go_num, ⟨by rw [List.length_append, List.length_singleton, HVL.out.1]; omega, by rw [List.take_append_of_le_length (by rw [HVL.out.1]; omega)]; exact HVL.out.2⟩, H6.out⟩
          case measure => simp [intOf]; omega
        · obtain rfl : j = M := by omega
          have HPC : Hid (P = (V.take nb).foldl apL []) := by
            have h1 := HP.out.1
            have h2 := HVL.out.2
            unfold Hid
            rw [h1, ← h2, List.take_take, Nat.min_self]
          have HPL : Hid (P.length ≤ 20) := HV.out.pdl (by decide)
          have HPR := Lib.hid HV.out.pre
          have HJ : Hid (V.length - nb = j) := by unfold Hid; rw [HVL.out.1]; omega
          have HFE : Hid ((V.foldl apL []).length ≤ 1000) := by have := (HPR.out.wok V.length (Nat.le_refl _)).len; rw [List.take_length] at this; exact Nat.le_trans this (by decide)
          go_wp2
          go_loopw [80] (fun iv wr => ∃ i : Nat, iv = .int .i64 (i : Int) ∧ i ≤ P.length ∧ Hid (T8 w wr p (.slice va V.length vc) V V (i : Int) P nb)) (fun iv _ => 21 - (intOf iv).toNat)
          case atStart => exact ⟨0, rfl, Nat.zero_le _, HV.out⟩
          case round =>
            obtain ⟨i, rfl, hi, HI⟩ := hrel
            have hi21 : (i : Int) < 21 := by have := HPL.out; omega
            by_cases hlt3 : i < P.length
            · have HST := Lib.hid (t8step HI.out i rfl hlt3)
              go_wp2_with (first
                | (go_at_call 35; refine HST.out.mono ?_; rintro e w8 ⟨rfl, H8⟩)
                | fail)
              go_roundw
              case rel => exact ⟨i + 1, by go_num, hlt3, H8.out⟩
              case measure => simp [intOf]; omega
            · have hiP : i = P.length := by omega
              have HST := Lib.hid (t8done HI.out (by rw [hiP]) hVL.out HPC.out)
              clear hiP
              go_wp2_with (first
                | (go_at_call 36; refine (talen HA3.out).mono ?_; rintro e wd ⟨rfl, HA4⟩; rw [HJ.out])
                | (go_at_call 38; refine (equalE_any v1 v2 _ _ _ (own_src (own_up O1.out U2.out)) (own_src O2.out) HFE.out HFE.out).mono ?_; rintro e wc ⟨rfl, hc9⟩; rw [decide_eq_true rfl]; have HA3 := Lib.hid ((HA2.out.mv U2.out).mv hc9); clear hc9)
                | (go_at_call 40; refine (replay_pre HA2.out.own (Nat.le_refl _) (Nat.le_trans hVL.out (by decide)) HPR.out.wok HPR.out.key).mono ?_; rintro e wb ⟨v2, rfl, O2, U2⟩; rw [List.take_length] at O2)
                | (go_at_call 39; refine (taall HA1.out).mono ?_; rintro e wa ⟨v1, rfl, O1, HA2⟩)
                | (go_at_call 41; refine (tacrash HS1.out).mono ?_; rintro e w9 ⟨rfl, HA1⟩)
                | (go_at_call 37; refine (t9sync H9.out).mono ?_; rintro e wS ⟨rfl, CS, iS, HS1⟩)
                | (go_at_call 36; refine (t9len H8.out).mono ?_; rintro e w9 ⟨rfl, H9⟩; rw [HJ.out])
                | (go_at_call 35; refine HST.out.mono ?_; rintro e w8 ⟨rfl, H8⟩)
                | fail)
              go_ret
              exact ⟨by first | rfl | simp, HA4.out.up⟩
end Go.Proofs.Ytmaeeidaegigcaa.Ck
