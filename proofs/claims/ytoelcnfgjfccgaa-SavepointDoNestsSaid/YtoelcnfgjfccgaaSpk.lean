/- savepoint.New. -/
import Derived.Test.YtoelcnfgjfccgaaSpj
namespace Go.Proofs.Ytoelcnfgjfccgaa.Sp
open Go Go.RowKit Hp So
set_option linter.unusedVariables false

theorem put_end {l : Ws} (h : WOk l) {k : Nat} (hk : k < l.length) : putL (l.take k) l[k].1 l[k].2 = (l.take (k + 1), 0) := by
  have hl : (l.take k).length = k := by rw [List.length_take]; exact Nat.min_eq_left (by omega)
  have hp : pos (l.take k) l[k].1 = k := by
    refine pos_eq (by omega) (fun j hj hjk => ?_) (fun hh => absurd hh (by omega))
    rw [List.getElem_take]; exact h.srt.get hjk hk
  have hh : has (l.take k) l[k].1 = false := decide_eq_false fun ⟨a, _⟩ => by rw [hp, hl] at a; omega
  have h24 := h.key _ (List.getElem_mem hk)
  have h40 := h.len
  unfold putL
  rw [if_neg (by omega), hh, hp, hl, if_neg (by simp), if_neg (by omega), List.take_take, Nat.min_self, List.drop_of_length_le (by omega), List.take_succ_eq_append_getElem hk]
theorem WOk.take {l : Ws} (h : WOk l) (k : Nat) : WOk (l.take k) := ⟨h.srt.sublist (List.take_sublist _ _), Nat.le_trans (by rw [List.length_take]; exact Nat.min_le_right _ _) h.len, fun e he => h.key _ (List.mem_of_mem_take he)⟩
/-- An empty workspace. -/
theorem tx_new (w : World) : TxR (w.alloc (.cells #[.slice none 0 0, .slice none 0 0] 78)) w.heap.size [] [] (fun j => w.heap.size ≤ j ∧ j < (w.alloc (.cells #[.slice none 0 0, .slice none 0 0] 78)).heap.size) :=
  ⟨.slice none 0 0, .slice none 0 0, [], WOk.nil, (fun s hs => by cases hs), by simp, fun k hk => hk.2, ⟨Nat.le_refl _, by simp⟩, Blk.new w _ _, World.ownsRow_nil _ _ _ _, fun k hk => (by cases hk), World.ownsRow_nil _ _ _ _, fun k hk => (by cases hk), rfl, fun i hi => absurd hi (by simp)⟩

/-- A round of New. -/
theorem new_round {w wr W w3 : World} {p k : Nat} {l l' : Ws} {iv : Value} {n : Nat} (hT : TxR wr p l' [] (fun j => w.heap.size ≤ j ∧ j < wr.heap.size)) (hu : Up w wr) (hW : Up wr W)
    (h : TxR w3 p (l.take (k + 1)) [] (Fx (fun j => w.heap.size ≤ j ∧ j < wr.heap.size) W w3) ∧ Chg (fun j => w.heap.size ≤ j ∧ j < wr.heap.size) W w3) (hk : k + 1 ≤ n) (hiv : iv = .int .i64 ((k + 1 : Nat) : Int)) :
    ∃ k, k ≤ n ∧ iv = .int .i64 (k : Int) ∧ TxR w3 p (l.take k) [] (fun j => w.heap.size ≤ j ∧ j < w3.heap.size) ∧ Up w w3 := by
  have s1 := hW.size
  have s2 := h.2.size
  have s3 := hu.size
  refine ⟨k + 1, hk, hiv, h.1.mono (fun j hj => ?_) (fun j hj => hj.2), (((hu.trans hW).chg fun _ => False).trans h.2 fun j hj e => by omega).up fun _ _ e => e⟩
  rcases hj with hj | hj
  · exact ⟨hj.1, by omega⟩
  · exact ⟨by omega, hj.2⟩
set_option maxRecDepth 100000 in
set_option maxHeartbeats 1000000 in
theorem new_any (v : Value) (l : Ws) (w : World) (h : Src w 2 v l.length (ec l)) (hok : WOk l) :
    Calls Try.prog 22 #[v] w fun e w' => ∃ p, e = .returned (.tuple #[.pointer (some ⟨p, 0, none⟩), .int .i64 0]) ∧ TxR w' p l [] (fun j => w.heap.size ≤ j ∧ j < w'.heap.size) ∧ Up w w' := by
  have HS := Lib.hid h
  have HK := Lib.hid hok
  have T0 := Lib.hid (tx_new w)
  have hlen := hok.len
  obtain ⟨a, cap, rfl⟩ : ∃ a cap, v = .slice a l.length cap := by
    rcases h.2 with ⟨e, h0⟩ | ⟨b, off, c, e, _⟩
    · exact ⟨none, 0, by rw [h0]; exact e⟩
    · exact ⟨_, _, e⟩
  clear h hok
  go_enter Try.func22, Try.ntmps22
  go_wp2
  go_loopw [12] (fun iv wr => ∃ k : Nat, k ≤ l.length ∧ iv = .int .i64 k ∧ TxR wr w.heap.size (l.take k) [] (fun j => w.heap.size ≤ j ∧ j < wr.heap.size) ∧ Up w wr) (fun iv _ => l.length - (intOf iv).toNat)
  case atStart => exact ⟨0, by omega, rfl, T0.out, (Up.refl w).alloc _⟩
  case round =>
    obtain ⟨k, hk, rfl, hT, hu⟩ := hrel
    have HT := Lib.hid hT
    have HU := Lib.hid hu
    clear hT hu
    by_cases hlt : k < l.length
    · obtain ⟨b, off, hv, hc⟩ : ∃ b off, a = some ⟨b, off, none⟩ ∧ ∀ j u, (ec l)[j]? = some u → At w b (off + j) u := by
        rcases HS.out.2 with ⟨e, h0⟩ | ⟨b, off, c, e, _, _, hc⟩
        · omega
        · simp only [Value.slice.injEq] at e
          exact ⟨b, off, e.1, hc⟩
      subst hv
      have d1 := ((hc _ _ (ec_get l k hlt).1).grow HU.out).2
      have d2 := ((hc _ _ (ec_get l k hlt).2).grow HU.out).2
      rw [← Nat.add_assoc] at d2
      have hcb := hc _ _ (ec_get l k hlt).1
      have PE := Lib.hid (put_end HK.out hlt)
      obtain ⟨s, hs⟩ : ∃ s, s = l[k].1 := ⟨_, rfl⟩
      obtain ⟨x, hx⟩ : ∃ x, x = l[k].2 := ⟨_, rfl⟩
      rw [← hs] at d1 PE
      rw [← hx] at d2 PE
      have hlk : (k : Int) < (l.length : Int) := by omega
      rcases Nat.eq_zero_or_pos k with h0 | h0
      · subst h0
        clear hs hx hc
        rw [Nat.zero_mul, Nat.add_zero] at d1 d2
        go_wp2
        obtain ⟨W, hW⟩ : ∃ W, W = wr.alloc (.cells #[.string s, .int .i64 x] 48) := ⟨_, rfl⟩
        rw [← hW]
        have g1 : W.cell? ⟨wr.heap.size, 0, none⟩ = some (.string s) := by rw [hW, World.cell?_alloc_new]; rfl
        have g2 : W.cell? ⟨wr.heap.size, 1, none⟩ = some (.int .i64 x) := by rw [hW, World.cell?_alloc_new]; rfl
        have hUW : Up wr W := by rw [hW]; exact (Up.refl wr).alloc _
        have hb3 : wr.heap.size < W.heap.size := by rw [hW]; simp
        have HT2 := Lib.hid (HT.out.up hUW)
        have HUW := Lib.hid hUW
        clear hW d1 d2 hUW hcb
        refine wp_region_gr (by kernel_rfl) (by kernel_rfl) ?_
        repeat (go_big_quiet_step (fail))
        refine wpQuiet_nil ?_
        intro _ hw'
        obtain ⟨gg, rfl⟩ := hw'
        have HT2 := Lib.hid (HT2.out.up (gr_up W gg))
        go_wp2_with (go_at_call 44; refine (put_any _ _ [] _ s x _ HT2.out).mono ?_; rw [PE.out]; rintro e w3 ⟨rfl, h3⟩; have H3 := Lib.hid h3; clear h3)
        go_roundw
        case rel => exact new_round HT.out HU.out (HUW.out.trans (gr_up W gg)) H3.out (by omega) (by first | rfl | go_num)
        case measure => simp [intOf]; omega
      · obtain ⟨k0, rfl⟩ : ∃ k0, k = k0 + 1 := ⟨k - 1, by omega⟩
        have d3 := ((hc _ _ (ec_get l k0 (by omega)).1).grow HU.out).2
        obtain ⟨s0, hs0⟩ : ∃ s, s = l[k0].1 := ⟨_, rfl⟩
        rw [← hs0] at d3
        have hls : Op.bytesLess s0.toList s.toList = true := by rw [less_iff, hs, hs0]; exact HK.out.srt.get (Nat.lt_succ_self _) hlt
        clear hs hx hc hs0
        go_wp2
        obtain ⟨W, hW⟩ : ∃ W, W = wr.alloc (.cells #[.string s, .int .i64 x] 48) := ⟨_, rfl⟩
        rw [← hW]
        have g1 : W.cell? ⟨wr.heap.size, 0, none⟩ = some (.string s) := by rw [hW, World.cell?_alloc_new]; rfl
        have g2 : W.cell? ⟨wr.heap.size, 1, none⟩ = some (.int .i64 x) := by rw [hW, World.cell?_alloc_new]; rfl
        have hUW : Up wr W := by rw [hW]; exact (Up.refl wr).alloc _
        have hb3 : wr.heap.size < W.heap.size := by rw [hW]; simp
        have HT2 := Lib.hid (HT.out.up hUW)
        have HUW := Lib.hid hUW
        have hb1 : b < wr.heap.size := ((hcb).grow HU.out).1
        have g3 := (hUW.cell (p := ⟨b, off + k0 * 2, none⟩) hb1).trans d3
        have hb2 : b < W.heap.size := Nat.lt_of_lt_of_le hb1 hUW.size
        clear hW d1 d2 d3 hUW hcb
        refine wp_region_gr (by kernel_rfl) (by kernel_rfl) ?_
        repeat (go_big_quiet_step (fail))
        refine wpQuiet_nil ?_
        intro _ hw'
        obtain ⟨gg, rfl⟩ := hw'
        have HT2 := Lib.hid (HT2.out.up (gr_up W gg))
        go_wp2_with (go_at_call 44; refine (put_any _ _ [] _ s x _ HT2.out).mono ?_; rw [PE.out]; rintro e w3 ⟨rfl, h3⟩; have H3 := Lib.hid h3; clear h3)
        go_roundw
        case rel => exact new_round HT.out HU.out (HUW.out.trans (gr_up W gg)) H3.out (by omega) (by first | rfl | go_num)
        case measure => simp [intOf]; omega
    · obtain rfl : k = l.length := by omega
      go_wp2
      go_ret2
      exact ⟨_, rfl, by have := HT.out; rw [List.take_length] at this; exact this, HU.out⟩
end Go.Proofs.Ytoelcnfgjfccgaa.Sp
