/- slices.Equal at rows, any rows. -/
import Derived.Test.YtdaehidbeleblaaRwf
namespace Go.Proofs.Ytdaehidbeleblaa.Mv
open Go Go.RowKit Hp So
set_option linter.unusedVariables false

theorem toList_inj {s s' : ByteArray} (h : s.toList = s'.toList) : s = s' := by
  rw [tl, tl] at h
  exact ByteArray.ext (Array.toList_inj.1 h)
theorem val_eq2 (W : World) (a b a' b' : Int) (s s' : ByteArray) : (Op.equalIn 10000 34 (.agg #[.int .i64 a, .int .i64 b, .string s]) (.agg #[.int .i64 a', .int .i64 b', .string s'])).run Try.prog W = .ok (decide (a = a' ∧ b = b' ∧ s = s')) W := by
  rw [show (10000 : Nat) = 9999 + 1 from rfl, Op.equalIn]
  simp only [Sem.run_bind, run_underlying Try.underlying34, Result.andThen_ok]
  simp only [part]
  have ha : ∀ W : World, (isAgg 3).run Try.prog W = .ok false W := Try.isAgg3
  have ha2 : ∀ W : World, (isAgg 9).run Try.prog W = .ok false W := Try.isAgg9
  by_cases h1 : a = a'
  · by_cases h2 : b = b'
    · by_cases h3 : s = s'
      · simp [ha, ha2, go_sem, h1, h2, h3]
      · have h4 : ¬ s.toList = s'.toList := fun e => h3 (toList_inj e)
        simp [ha, ha2, go_sem, h1, h2, h3, h4]
    · simp [ha, ha2, go_sem, h1, h2]
  · simp [ha, ha2, go_sem, h1]
instance : DecidableEq Val := fun a b =>
  if h : a.kind = b.kind ∧ a.int = b.int ∧ a.text = b.text then .isTrue (by cases a; cases b; simp at h; simp [h]) else .isFalse fun e => h (by subst e; exact ⟨rfl, rfl, rfl⟩)
set_option maxRecDepth 100000 in
set_option maxHeartbeats 2000000 in
theorem equalR_diff (v v' : Value) (l l' : List Val) (w : World) (h : Src w 3 v l.length (rowC l)) (h' : Src w 3 v' l'.length (rowC l')) (hl : l.length ≤ 1000) (hl' : l'.length ≤ 1000) (hne : l ≠ l') :
    Calls Try.prog 12 #[v, v'] w fun e w' => e = .returned (.bool false) ∧ Up w w' := by
  have HS := Lib.hid h
  have HS' := Lib.hid h'
  have HNE := Lib.hid hne
  obtain ⟨a, cap, rfl⟩ := src_rn h
  obtain ⟨a', cap', rfl⟩ := src_rn h'
  clear h h' hne
  by_cases hlen : l.length = l'.length
  · have HL := Lib.hid hlen
    have hnb : ((l.length : Int) != (l.length : Int)) = false := by simp
    rw [← hlen] at HS' 
    rw [← hlen]
    clear hlen hl'
    go_enter Try.func12, Try.ntmps12
    go_wp2
    go_loopw [13] (fun iv wr => ∃ k : Nat, k ≤ l.length ∧ iv = .int .i64 k ∧ Up w wr ∧ Hid (l.take k = l'.take k)) (fun iv _ => l.length - (intOf iv).toNat)
    case atStart => exact ⟨0, by omega, rfl, Up.refl _, rfl⟩
    case round =>
      obtain ⟨k, hk, rfl, hu, HT⟩ := hrel
      have HU := Lib.hid hu
      clear hu
      by_cases hlt : k < l.length
      · obtain ⟨b, off, rfl, hc⟩ := src_at HS.out (by omega)
        obtain ⟨b', off', rfl, hc'⟩ := src_at HS'.out (by omega)
        have hlt' : k < l'.length := by rw [← HL.out]; exact hlt
        obtain ⟨g0, g1, g2⟩ := rowC_get l k hlt
        obtain ⟨g0', g1', g2'⟩ := rowC_get l' k hlt'
        have d1 := ((hc _ _ g0).grow HU.out).2
        have d2 := ((hc _ _ g1).grow HU.out).2
        have d3 := ((hc _ _ g2).grow HU.out).2
        have d4 := ((hc' _ _ g0').grow HU.out).2
        have d5 := ((hc' _ _ g1').grow HU.out).2
        have d6 := ((hc' _ _ g2').grow HU.out).2
        rw [← Nat.add_assoc] at d2 d3 d5 d6
        have hlk : (k : Int) < (l.length : Int) := by omega
        have hpn := val_eq2
        have hgd := guardV
        have TK : Hid (l[k] = l'[k] → l.take (k + 1) = l'.take (k + 1)) := fun e => by rw [List.take_succ_eq_append_getElem hlt, List.take_succ_eq_append_getElem hlt', HT.out, e]
        have EQ : Hid (decide (l[k].kind = l'[k].kind ∧ l[k].int = l'[k].int ∧ l[k].text = l'[k].text) = true → l[k] = l'[k]) := fun h => by
          have h := of_decide_eq_true h
          have ext : ∀ x y : Val, x.kind = y.kind → x.int = y.int → x.text = y.text → x = y := fun x y h1 h2 h3 => by cases x; cases y; simp at h1 h2 h3; simp [h1, h2, h3]
          exact ext _ _ h.1 h.2.1 h.2.2
        generalize hx0 : l[k].kind = x0 at *
        generalize hx1 : l[k].int = x1 at *
        generalize hx2 : l[k].text = x2 at *
        generalize hy0 : l'[k].kind = y0 at *
        generalize hy1 : l'[k].int = y1 at *
        generalize hy2 : l'[k].text = y2 at *
        obtain ⟨q, hq⟩ : ∃ q, q = decide (x0 = y0 ∧ x1 = y1 ∧ x2 = y2) := ⟨_, rfl⟩
        have hpn2 : ∀ W : World, (Op.equalIn 10000 34 (.agg #[.int .i64 x0, .int .i64 x1, .string x2]) (.agg #[.int .i64 y0, .int .i64 y1, .string y2])).run Try.prog W = .ok q W := fun W => by rw [hq]; exact val_eq2 W _ _ _ _ _ _
        rw [← hq] at EQ
        clear hc hc' g0 g1 g2 g0' g1' g2' hpn hx0 hx1 hx2 hy0 hy1 hy2 hq
        cases q with
        | true =>
          have EQ2 := Lib.hid (EQ.out rfl)
          clear EQ
          go_wp2
          go_quiet (fail)
          go_wp2
          go_roundw
          case rel => exact ⟨k + 1, by omega, by go_num, HU.out.drewN _, TK.out EQ2.out⟩
          case measure => simp [intOf]; omega
        | false =>
          go_wp2
          go_quiet (fail)
          go_wp2
          go_ret
          exact ⟨rfl, HU.out.drewN _⟩
      · obtain rfl : k = l.length := by omega
        exact absurd (by have := HT.out; rwa [List.take_length, HL.out, List.take_length] at this) HNE.out
  · have hnb : ((l.length : Int) != (l'.length : Int)) = true := by simp; omega
    have hnb2 : ¬ (l.length : Int) = (l'.length : Int) := by omega
    clear hlen
    go_enter Try.func12, Try.ntmps12
    go_wp2
    go_ret
    exact ⟨rfl, Up.refl _⟩
end Go.Proofs.Ytdaehidbeleblaa.Mv
