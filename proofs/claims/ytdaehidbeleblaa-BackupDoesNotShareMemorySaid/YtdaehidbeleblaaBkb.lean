/- The archive: New, latest, Record. -/
import Derived.Test.YtdaehidbeleblaaBka
namespace Go.Proofs.Ytdaehidbeleblaa.Bk
open Go Go.RowKit Hp
open Mv (Val rowC rowC_len rowC_one rowC_get RM rmC rmC1 rmC_len rmC_get erR RecsR RecsS Srt pos has pos_le has_pos fm_len fm_take fm_drop fm_get fm_set fm_one)
set_option linter.unusedVariables false

def ar0 : Ar := ⟨[], [], [(0, [])], [], 0⟩
theorem ar0_ok : AOk ar0 :=
  ⟨by decide, by decide, by decide, rfl, by decide, fun b hb => by rw [List.mem_singleton.1 hb]; exact List.Pairwise.nil, fun b hb => by rw [List.mem_singleton.1 hb]; decide, fun b hb i hi => (by rw [List.mem_singleton.1 hb] at hi; cases hi),
    fun i hi => (by cases hi), fun c hc => (by cases hc), fun r hr => (by cases hr)⟩
set_option maxRecDepth 100000 in
set_option maxHeartbeats 1000000 in
theorem new_any (w : World) : Calls Try.prog 8 #[] w fun e w' => ∃ p, e = .returned (.pointer (some ⟨p, 0, none⟩)) ∧ ArR w' p ar0 (fun k => w.heap.size ≤ k ∧ k < w'.heap.size) ∧ Up w w' := by
  go_enter Try.func8, Try.ntmps8
  go_wp2
  go_ret
  have hu : Up w (w.alloc (.cells #[.int .i64 0, .slice none 0 0] 55)) := (Up.refl w).alloc _
  have hu2 := hu.alloc (.cells #[.slice none 0 0, .slice none 0 0, .slice (some ⟨w.heap.size, 0, none⟩) 1 1, .slice none 0 0, .int .i64 0] 59)
  have B : (w.alloc (.cells #[.int .i64 0, .slice none 0 0] 55)).ownsRow w.heap.size 55 2 (.slice (some ⟨w.heap.size, 0, none⟩) 1 1) 1 (bmC [⟨0, .slice none 0 0, []⟩]) := own_of_blk (Blk.new w _ _) rfl (by omega)
  have nn : ∀ k, (Value.slice none 0 0).ownBlock = some k → False := fun k hk => by cases hk
  refine ⟨w.heap.size + 1, rfl, ⟨[], [⟨0, .slice none 0 0, []⟩], [], _, _, _, _, ⟨fun k hk => hk.2, by constructor <;> simp, ?_, World.ownsRow_nil _ _ _ _, fun k hk => (nn k hk).elim, World.ownsRow_nil _ _ _ _, fun k hk => (nn k hk).elim, own_base' (own_up B ((Up.refl _).alloc _)) (fun _ _ => Nat.zero_le _), fun k hk => ?_,
    World.ownsRow_nil _ _ _ _, fun k hk => (nn k hk).elim, (fun r hr => by cases hr), (fun r hr => by cases hr), (fun r hr => by cases hr), (fun r hr => by cases hr), (fun b hb => by rw [List.mem_singleton.1 hb]; exact World.ownsRow_nil _ _ _ _), (fun b hb k hk => by rw [List.mem_singleton.1 hb] at hk; exact (nn k hk).elim),
    fun b hb k hk => by rw [List.mem_singleton.1 hb] at hk; exact (nn k hk).elim⟩, rfl, rfl, rfl, ar0_ok⟩, hu2⟩
  · have := Blk.new (w.alloc (.cells #[.int .i64 0, .slice none 0 0] 55)) #[.slice none 0 0, .slice none 0 0, .slice (some ⟨w.heap.size, 0, none⟩) 1 1, .slice none 0 0, .int .i64 0] 59
    rw [show (w.alloc (.cells #[.int .i64 0, .slice none 0 0] 55)).heap.size = w.heap.size + 1 by simp] at this
    exact this
  · obtain rfl : w.heap.size = k := by simpa [Value.ownBlock] using hk
    refine ⟨Nat.le_refl _, ?_⟩
    simp
    omega
theorem bak_form {w : World} {bv : Value} {bs : List BM} (h : w.ownsRow 0 55 2 bv bs.length (bmC bs)) (hne : 0 < bs.length) : ∃ g c, bv = .slice (some ⟨g, 0, none⟩) bs.length c ∧ bs.length ≤ c ∧ c ≤ 9223372036854775807 ∧ ∀ i (hi : i < bs.length), At w g (i * 2) (.int .i64 bs[i].time) ∧ At w g (i * 2 + 1) bs[i].iv := by
  obtain ⟨g, c, e, h1, h2, hg, hc, _⟩ := own_some h hne
  exact ⟨g, c, e, h1, h2, fun i hi => ⟨⟨hg, hc _ _ (bmC_get bs i hi).1⟩, ⟨hg, hc _ _ (bmC_get bs i hi).2⟩⟩⟩
theorem chg_form {w : World} {cv : Value} {cs : List CM} (h : w.ownsRow 0 63 3 cv cs.length (cmC cs)) (hne : 0 < cs.length) : ∃ g c, cv = .slice (some ⟨g, 0, none⟩) cs.length c ∧ cs.length ≤ c ∧ c ≤ 9223372036854775807 ∧ ∀ i (hi : i < cs.length), At w g (i * 3) (.int .i64 cs[i].time) ∧ At w g (i * 3 + 1) (.string cs[i].key) ∧ At w g (i * 3 + 2) cs[i].rv := by
  obtain ⟨g, c, e, h1, h2, hg, hc, _⟩ := own_some h hne
  exact ⟨g, c, e, h1, h2, fun i hi => ⟨⟨hg, hc _ _ (cmC_get cs i hi).1⟩, ⟨hg, hc _ _ (cmC_get cs i hi).2.1⟩, ⟨hg, hc _ _ (cmC_get cs i hi).2.2⟩⟩⟩
theorem getLastD_get {α : Type} (l : List α) (d : α) (h : 0 < l.length) : l.getLastD d = l[l.length - 1] := by
  rw [List.getLastD_eq_getLast?, List.getLast?_eq_getElem?, List.getElem?_eq_getElem (by omega)]
  rfl
set_option maxRecDepth 100000 in
set_option maxHeartbeats 2000000 in
theorem latest_any (p : Nat) (A : Ar) (F : Nat → Prop) (w : World) (h : ArR w p A F) :
    Calls Try.prog 21 #[.pointer (some ⟨p, 0, none⟩)] w fun e w' => e = .returned (.int .i64 (latA A)) ∧ Up w w' := by
  obtain ⟨rs, bs, cs, rv, fv, bv, cv, h, e1, e2, e3, ok⟩ := h
  have hbl : bs.length = A.baks.length := by rw [← e2, List.length_map]
  have hcl : cs.length = A.chgs.length := by rw [← e3, List.length_map]
  have hb0 : 0 < bs.length := by rw [hbl]; exact ok.ne
  have hb1 : bs.length ≤ 20 := by rw [hbl]; exact ok.bl
  have hc1 : cs.length ≤ 200 := by rw [hcl]; exact ok.cl
  obtain ⟨g, c, rfl, hgc, hgm, hat⟩ := bak_form h.bak hb0
  have a2 := (h.blk.at (i := 2) rfl)
  have a3 := (h.blk.at (i := 3) rfl)
  have b2 := (hat (bs.length - 1) (by omega)).1
  have hbt : (A.baks.getLastD (0, [])).1 = bs[bs.length - 1].time := by
    rw [← e2, getLastD_get _ _ (by rw [List.length_map]; exact hb0), List.getElem_map]
    simp [erB]
  obtain ⟨tb, htb⟩ : ∃ tb, tb = bs[bs.length - 1].time := ⟨_, rfl⟩
  rw [← htb] at b2 hbt
  obtain ⟨nb, hnb⟩ : ∃ nb, bs.length = nb + 1 := ⟨bs.length - 1, by omega⟩
  rw [show bs.length - 1 = nb by omega] at b2
  rcases Nat.eq_zero_or_pos cs.length with h0 | h0
  · have L : Hid (latA A = tb) := by
      unfold Hid latA
      have : A.chgs = [] := List.eq_nil_of_length_eq_zero (by omega)
      rw [this]
      exact hbt
    obtain ⟨ca, cc, hcv, _⟩ := own_form h.chg
    rw [hcv, h0] at a3
    rw [hnb] at a2 hgc
    clear hat h e1 e2 e3 ok hbl hcl hbt htb hcv h0 hb0
    go_enter Try.func21, Try.ntmps21
    obtain ⟨hp, c2⟩ := a2
    obtain ⟨_, c3⟩ := a3
    obtain ⟨hg, d2⟩ := b2
    go_wp2
    refine wp_region_gr (by kernel_rfl) (by kernel_rfl) ?_
    repeat (go_big_quiet_step (fail))
    refine wpQuiet_nil ?_
    intro _ hw'
    obtain ⟨gg, rfl⟩ := hw'
    go_wp2
    go_ret
    exact ⟨by rw [L.out]; rfl, gr_up w gg⟩
  · obtain ⟨g2, c2', hcv, hgc2, hgm2, hat2⟩ := chg_form h.chg h0
    rw [hcv] at a3
    have b3 := (hat2 (cs.length - 1) (by omega)).1
    obtain ⟨nc, hnc⟩ : ∃ nc, cs.length = nc + 1 := ⟨cs.length - 1, by omega⟩
    obtain ⟨tc, htc⟩ : ∃ tc, tc = cs[cs.length - 1].time := ⟨_, rfl⟩
    have L : Hid (latA A = if tb < tc then tc else tb) := by
      unfold Hid latA
      have : A.chgs.getLast? = some (erCh cs[cs.length - 1]) := by rw [← e3, List.getLast?_eq_getElem?, List.length_map, List.getElem?_map, List.getElem?_eq_getElem (by omega)]; rfl
      rw [this, hbt, htc]
      rfl
    rw [← htc] at b3
    rw [show cs.length - 1 = nc by omega] at b3
    rw [hnb] at a2 hgc
    rw [hnc] at a3 hgc2 hc1
    clear hat h e1 e2 e3 ok hbl hcl hbt htb hcv h0 hb0 hat2 htc hnc
    obtain ⟨hp, k2⟩ := a2
    obtain ⟨_, k3⟩ := a3
    obtain ⟨hg, d2⟩ := b2
    obtain ⟨hg2, d3⟩ := b3
    go_enter Try.func21, Try.ntmps21
    go_wp2
    refine wp_region_gr (by kernel_rfl) (by kernel_rfl) ?_
    repeat (go_big_quiet_step (fail))
    refine wpQuiet_nil ?_
    intro _ hw'
    obtain ⟨gg, rfl⟩ := hw'
    go_wp2
    all_goals
      go_ret
      refine ⟨?_, gr_up w gg⟩
      rw [L.out]
      split
      all_goals first
        | rfl
        | omega
theorem latest_of {w : World} {p : Nat} {A : Ar} {F : Nat → Prop} (h : ArR w p A F) {t : Int} (ht : latA A = t) : Calls Try.prog 21 #[.pointer (some ⟨p, 0, none⟩)] w fun e w' => e = .returned (.int .i64 t) ∧ Up w w' := by
  subst ht; exact latest_any p A F w h
/-! ### Record -/
def recP (A : Ar) (t : Int) (k : ByteArray) (row : List Val) : Ar × Int :=
  if t ≤ latA A then (A, 6) else if 1099511627776 < t ∨ 24 < k.size ∨ 6 < row.length then (A, 2) else if A.chgs.length = 200 then (A, 18) else ({ A with chgs := A.chgs ++ [⟨t, k, row⟩] }, 0)
theorem ar_same {w w' : World} {p : Nat} {A : Ar} {F : Nat → Prop} (h : ArR w p A F) (hu : Up w w') : ArPost p A F w w' :=
  ⟨(h.up hu).mono (fun _ hk => .inl hk) fun k hk => by
    rcases hk with hk | hk
    · exact Nat.lt_of_lt_of_le (h.lt k hk) hu.size
    · exact hk.2, Below.chg F hu⟩
set_option maxRecDepth 100000 in
set_option maxHeartbeats 2000000 in
theorem rec_no (p : Nat) (A : Ar) (F : Nat → Prop) (t : Int) (k : ByteArray) (rv : Value) (row : List Val) (w : World) (h : ArR w p A F) (hv : ∃ a c, rv = .slice a row.length c) (hno : t ≤ latA A ∨ 1099511627776 < t ∨ 24 < k.size ∨ 6 < row.length) :
    Calls Try.prog 10 #[.pointer (some ⟨p, 0, none⟩), .int .i64 t, .string k, rv] w fun e w' => e = .returned (.int .i64 (recP A t k row).2) ∧ ArPost p (recP A t k row).1 F w w' := by
  obtain ⟨a, c, rfl⟩ := hv
  have HR := Lib.hid h
  obtain ⟨L, hL⟩ : ∃ L, latA A = L := ⟨_, rfl⟩
  have HL := Lib.hid hL
  have hno' : t ≤ L ∨ ¬ t ≤ L ∧ (1099511627776 < t ∨ 24 < k.size ∨ 6 < row.length) := by rw [hL] at hno; omega
  clear hno h hL
  rcases hno' with h1 | ⟨h1, h2⟩
  · have HP : Hid (recP A t k row = (A, 6)) := by unfold Hid recP; rw [HL.out, if_pos h1]
    go_enter Try.func10, Try.ntmps10
    go_wp2_with (first
      | (go_at_call 21; refine (latest_of HR.out HL.out).mono ?_; rintro e w1 ⟨rfl, h3⟩; have H1 := Lib.hid h3; clear h3)
      | fail)
    go_ret
    rw [HP.out]
    exact ⟨rfl, ar_same HR.out H1.out⟩
  · have HP : Hid (recP A t k row = (A, 2)) := by unfold Hid recP; rw [HL.out, if_neg h1, if_pos h2]
    have h2' : 1099511627776 < t ∨ (¬ 1099511627776 < t ∧ (24 < (k.size : Int))) ∨ (¬ 1099511627776 < t ∧ ¬ 24 < (k.size : Int) ∧ 6 < (row.length : Int)) := by omega
    clear h2
    rcases h2' with h2 | ⟨h2, h3⟩ | ⟨h2, h3, h4⟩
    all_goals
      go_enter Try.func10, Try.ntmps10
      go_wp2_with (first
        | (go_at_call 21; refine (latest_of HR.out HL.out).mono ?_; rintro e w1 ⟨rfl, h3⟩; have H1 := Lib.hid h3; clear h3)
        | fail)
      go_ret
      rw [HP.out]
      exact ⟨rfl, ar_same HR.out H1.out⟩
end Go.Proofs.Ytdaehidbeleblaa.Bk
