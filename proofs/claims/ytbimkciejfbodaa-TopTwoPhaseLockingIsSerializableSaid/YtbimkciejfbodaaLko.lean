/- Locks: WaitsFor. -/
import Derived.Test.YtbimkciejfbodaaLkn
namespace Go.Proofs.Ytbimkciejfbodaa.Lk
open Go Go.RowKit Hp
set_option linter.unusedVariables false

def WaitPost (M : Mg) (t : Int) (w : World) (e : Ending) (w' : World) : Prop :=
  ((∀ j (h : j < M.qu.length), M.qu[j].tx ≠ t) ∧ e = .returned (.tuple #[.slice none 0 0, .int .i64 4]) ∧ Up w w') ∨
      ∃ i, ∃ hi : i < M.qu.length, M.qu[i].tx = t ∧ (∀ j (hj : j < M.qu.length), j < i → M.qu[j].tx ≠ t) ∧ ∃ v, e = .returned (.tuple #[v, .int .i64 0]) ∧ w'.ownsRow w.heap.size 3 1 v (blkL (M.gr ++ M.qu.take i) M.qu[i]).length (icI (blkL (M.gr ++ M.qu.take i) M.qu[i])) ∧ Up w w'
set_option maxRecDepth 100000 in
set_option maxHeartbeats 1000000 in
theorem waits_any (p : Nat) (M : Mg) (F : Nat → Prop) (t : Int) (w : World) (h : ManR w p M F) (hg : M.gr.length ≤ 1000) (hq : M.qu.length ≤ 1000) :
    Calls Try.prog 12 #[.pointer (some ⟨p, 0, none⟩), .int .i64 t] w (WaitPost M t w) := by
  have HR := Lib.hid h
  obtain ⟨gv, qv, hP⟩ := h
  have U0 := (Up.refl w).alloc (.cells #[.int .i64 t] 3)
  have HA : At (w.alloc (.cells #[.int .i64 t] 3)) w.heap.size 0 (.int .i64 t) := At.new w #[.int .i64 t] _ 0 _ rfl
  have HIX := Lib.hid (ix_W w.heap.size (fun x => decide (x.tx = t)) qv M.qu _ (cl_W _ _ t HA) (own_src (own_up hP.qo U0)) (by omega))
  obtain ⟨hpl, c0⟩ := hP.blk.at (i := 1) rfl
  have QO := Lib.hid (own_src hP.qo)
  obtain ⟨qa, qc, rfl, hq1, hq2, _⟩ := own_form hP.qo
  have HU := Lib.hid U0
  rcases idx_cases (fun x : Lk => decide (x.tx = t)) M.qu with ⟨hi, hn⟩ | ⟨i, hil, hi, ht, hn⟩
  · rw [hi] at HIX
    have HN := Lib.hid hn
    clear hi hn hP U0 HA
    go_enter Try.func12, Try.ntmps12
    go_wp2_with (first
      | (go_at_call 26; refine HIX.out.mono ?_; rintro e w2 ⟨rfl, h2⟩; have H2 := Lib.hid (HU.out.trans h2); clear h2)
      | fail)
    go_ret2
    exact .inl ⟨fun j h => of_decide_eq_false (HN.out j h), rfl, H2.out⟩
  · rw [hi] at HIX
    have HT := Lib.hid (of_decide_eq_true ht)
    have HN := Lib.hid hn
    obtain ⟨b, off, rfl, hc⟩ := src_at QO.out (by omega)
    obtain ⟨g0, g1, g2, g3⟩ := lkC_get M.qu i hil
    have D0 := Lib.hid (hc _ _ g0)
    have D1 := Lib.hid (hc _ _ g1)
    have D2 := Lib.hid (hc _ _ g2)
    have D3 := Lib.hid (hc _ _ g3)
    have hii : (i : Int) < (M.qu.length : Int) := by omega
    have HBL := Lib.hid (fun W hu => blk_any p M F M.qu[i] i W (HR.out.up hu) (by omega) (by omega) (by omega))
    have FIN : Hid (∀ v W W', Up w W → W'.ownsRow W.heap.size 3 1 v (blkL (M.gr ++ M.qu.take i) M.qu[i]).length (icI (blkL (M.gr ++ M.qu.take i) M.qu[i])) → Up W W' → WaitPost M t w (.returned (.tuple #[v, .int .i64 0])) W') := fun v W W' h1 h2 h3 =>
      .inr ⟨i, hil, HT.out, fun j hj hji => of_decide_eq_false (HN.out j hj hji), v, rfl, own_base' h2 fun k hk => Nat.le_trans h1.size ((own_ty h2) k hk).2, h1.trans h3⟩
    unfold lkV at HBL
    generalize M.qu[i] = q at *
    clear hi hn hP U0 HA ht hc g0 g1 g2 g3
    go_enter Try.func12, Try.ntmps12
    go_wp2_with (first
      | (go_at_call 26; refine HIX.out.mono ?_; rintro e w2 ⟨rfl, h2⟩; have H2 := Lib.hid (HU.out.trans h2); have c2 := (H2.out.cell (p := ⟨p, 1, none⟩) hpl).trans c0; have hp2 := Nat.lt_of_lt_of_le hpl H2.out.size; have d0 := (D0.out.grow H2.out).2; have d1 := (D1.out.grow H2.out).2; have d2 := (D2.out.grow H2.out).2; have d3 := (D3.out.grow H2.out).2; rw [← Nat.add_assoc] at d1 d2 d3; have d4 := (D0.out.grow H2.out).1; clear h2)
      | (go_at_call 28; refine (HBL.out _ H2.out).mono ?_; rintro e w3 ⟨v, rfl, h3, h4⟩; have FF := Lib.hid (FIN.out v _ _ H2.out h3 h4); clear h3 h4)
      | fail)
    go_ret2
    exact FF.out
end Go.Proofs.Ytbimkciejfbodaa.Lk
