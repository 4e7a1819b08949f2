/- Replication: slices.Equal at entries; startsWith. -/
import Derived.Test.YthhkekmeginooaaRqb
import Derived.Test.YthhkekmeginooaaSo
namespace Go.Proofs.Ythhkekmeginooaa.Rp
open Go Go.RowKit Hp
set_option linter.unusedVariables false

theorem ent_ext {a b : Ent} (h1 : a.term = b.term) (h2 : a.pay = b.pay) : a = b := by cases a; cases b; simp at h1 h2; rw [h1, h2]
theorem ent_eq (W : World) (s : Nat) (x : ByteArray) (s' : Nat) (x' : ByteArray) : (Op.equalIn 10000 44 (.agg #[nv s, .string x]) (.agg #[nv s', .string x'])).run Try.prog W = .ok (decide (s = s') && decide (x = x')) W := by
  rw [show (10000 : Nat) = 9999 + 1 from rfl, Op.equalIn]
  simp only [Sem.run_bind, run_underlying Try.underlying44, Result.andThen_ok]
  simp only [part]
  have ha1 : ∀ W : World, (isAgg 3).run Try.prog W = .ok false W := Try.isAgg3
  have ha2 : ∀ W : World, (isAgg 9).run Try.prog W = .ok false W := Try.isAgg9
  have hi : ∀ a b : ByteArray, ¬ a = b → ¬ a.toList = b.toList := fun a b h e => h (_root_.Go.Proofs.Ythhkekmeginooaa.So.ba_inj (by rw [_root_.Go.Proofs.Ythhkekmeginooaa.So.tl, _root_.Go.Proofs.Ythhkekmeginooaa.So.tl] at e; exact e))
  have hn : ∀ a b : Nat, ¬ a = b → ¬ (a : Int) = (b : Int) := fun a b h e => h (by omega)
  by_cases h1 : s = s' <;> by_cases h2 : x = x' <;> simp [ha1, ha2, go_sem, h1, h2]
  · exact hi _ _ h2
  · exact hn _ _ h1
  · exact fun e => absurd e (hn _ _ h1)
theorem guardE : Try.prog.eqGuardType Try.prog.depth 44 = false := by kernel_rfl

set_option maxRecDepth 100000 in
set_option maxHeartbeats 1000000 in
theorem equalE_any (v v' : Value) (l l' : Lg) (w : World) (h : Src w 2 v l.length (enC l)) (h' : Src w 2 v' l'.length (enC l')) (hl : l.length ≤ 1000) (hl' : l'.length ≤ 1000) :
    Calls Try.prog 22 #[v, v'] w fun e w' => e = .returned (.bool (decide (l = l'))) ∧ Up w w' := by
  have HS := Lib.hid h
  have HS' := Lib.hid h'
  obtain ⟨a, cap, rfl⟩ : ∃ a cap, v = .slice a l.length cap := by
    rcases h.2 with ⟨e, h0⟩ | ⟨b, off, c, e, _⟩
    · exact ⟨none, 0, by rw [h0]; exact e⟩
    · exact ⟨_, _, e⟩
  obtain ⟨a', cap', rfl⟩ : ∃ a cap, v' = .slice a l'.length cap := by
    rcases h'.2 with ⟨e, h0⟩ | ⟨b, off, c, e, _⟩
    · exact ⟨none, 0, by rw [h0]; exact e⟩
    · exact ⟨_, _, e⟩
  clear h h'
  by_cases hll : l.length = l'.length
  · have hne : ((l.length : Int) != (l'.length : Int)) = false := by rw [hll]; simp
    have HLL := Lib.hid hll
    rw [← hll]
    rw [← hll] at hne
    clear hll
    go_enter Try.func22, Try.ntmps22
    go_wp2
    go_loopw [13] (fun iv wr => ∃ k : Nat, k ≤ l.length ∧ iv = .int .i64 k ∧ Hid (Up w wr) ∧ Hid (l.take k = l'.take k)) (fun iv _ => l.length - (intOf iv).toNat)
    case atStart => exact ⟨0, by omega, rfl, Up.refl _, rfl⟩
    case round =>
      obtain ⟨k, hk, rfl, HU, HT⟩ := hrel
      by_cases hlt : k < l.length
      · have hlt' : k < l'.length := by have := HLL.out; omega
        obtain ⟨b, off, hv, c1, c2⟩ : ∃ b off, a = some ⟨b, off, none⟩ ∧ At w b (off + k * 2) (nv l[k].term) ∧ At w b (off + (k * 2 + 1)) (.string l[k].pay) := by
          rcases HS.out.2 with ⟨e, h0⟩ | ⟨b, off, c, e, _, _, hc⟩
          · omega
          · simp only [Value.slice.injEq] at e
            exact ⟨b, off, e.1, hc _ _ (enC_get l k hlt).1, hc _ _ (enC_get l k hlt).2⟩
        obtain ⟨b', off', hv', c1', c2'⟩ : ∃ b off, a' = some ⟨b, off, none⟩ ∧ At w b (off + k * 2) (nv l'[k].term) ∧ At w b (off + (k * 2 + 1)) (.string l'[k].pay) := by
          rcases HS'.out.2 with ⟨e, h0⟩ | ⟨b, off, c, e, _, _, hc⟩
          · omega
          · simp only [Value.slice.injEq] at e
            exact ⟨b, off, e.1, hc _ _ (enC_get l' k hlt').1, hc _ _ (enC_get l' k hlt').2⟩
        subst hv
        subst hv'
        obtain ⟨s, hs⟩ : ∃ s, s = l[k].term := ⟨_, rfl⟩
        obtain ⟨x, hx⟩ : ∃ x, x = l[k].pay := ⟨_, rfl⟩
        obtain ⟨s', hs'⟩ : ∃ s, s = l'[k].term := ⟨_, rfl⟩
        obtain ⟨x', hx'⟩ : ∃ x, x = l'[k].pay := ⟨_, rfl⟩
        rw [← hs] at c1
        rw [← hx] at c2
        rw [← hs'] at c1'
        rw [← hx'] at c2'
        have HE : Hid ((decide (s = s') && decide (x = x')) = true ↔ l[k] = l'[k]) := by
          unfold Hid
          rw [Bool.and_eq_true, decide_eq_true_eq, decide_eq_true_eq, hs, hx, hs', hx']
          exact ⟨fun h => ent_ext h.1 h.2, fun h => by rw [h]; exact ⟨rfl, rfl⟩⟩
        clear hs hx hs' hx'
        have d1 := (c1.grow HU.out).2
        have d2 := (c2.grow HU.out).2
        have d3 := (c1'.grow HU.out).2
        have d4 := (c2'.grow HU.out).2
        rw [← Nat.add_assoc] at d2 d4
        have hlk : (k : Int) < (l.length : Int) := by omega
        clear c1 c2 c1' c2'
        have hpn := fun W => ent_eq W s x s' x'
        have hgd := guardE
        generalize (decide (s = s') && decide (x = x')) = bb at *
        cases bb with
        | true =>
          have HEQ : Hid (l[k] = l'[k]) := HE.out.1 rfl
          go_wp2
          go_quiet (fail)
          go_wp2
          go_roundw
          case rel => exact ⟨k + 1, by omega, by go_num, HU.out.drewN _, by unfold Hid; rw [List.take_add_one, List.take_add_one, HT.out, List.getElem?_eq_getElem hlt, List.getElem?_eq_getElem hlt', HEQ.out]⟩
          case measure => simp [intOf]; omega
        | false =>
          have HNE : Hid (¬ l = l') := fun e => by
            subst e
            have := HE.out.2 rfl
            cases this
          go_wp2
          go_quiet (fail)
          go_wp2
          go_ret
          exact ⟨by rw [decide_eq_false HNE.out]; rfl, HU.out.drewN _⟩
      · obtain rfl : k = l.length := by omega
        have HEQ : Hid (l = l') := by
          have h1 := HT.out
          have h2 := HLL.out
          rw [List.take_length, h2, List.take_length] at h1
          exact h1
        go_wp2
        go_ret
        exact ⟨by rw [decide_eq_true HEQ.out]; rfl, HU.out⟩
  · have hne : ((l.length : Int) != (l'.length : Int)) = true := by simp; omega
    have HNE : Hid (¬ l = l') := fun e => hll (by rw [e])
    have hne2 : ¬ (l.length : Int) = (l'.length : Int) := by omega
    clear hll
    go_enter Try.func22, Try.ntmps22
    go_wp2
    go_ret
    exact ⟨by rw [decide_eq_false HNE.out]; rfl, Up.refl _⟩
/-- p is a prefix of l. -/
def pre (l p : Lg) : Bool := decide (p <+: l)
theorem pre_if (l p : Lg) : pre l p = if p.length ≤ l.length then decide (l.take p.length = p) else false := by
  unfold pre
  split
  · rename_i h
    rw [decide_eq_decide]
    constructor
    · rintro ⟨c, rfl⟩; simp
    · intro e; rw [← e]; exact List.take_prefix _ _
  · rename_i h
    exact decide_eq_false fun e => h e.length_le
set_option maxRecDepth 100000 in
set_option maxHeartbeats 1000000 in
theorem starts_any (v v' : Value) (l l' : Lg) (w : World) (h : Src w 2 v l.length (enC l)) (h' : Src w 2 v' l'.length (enC l')) (hl : l.length ≤ 1000) (hl' : l'.length ≤ 1000) :
    Calls Try.prog 20 #[v, v'] w fun e w' => e = .returned (.bool (pre l l')) ∧ Up w w' := by
  have HS := Lib.hid h
  have HS' := Lib.hid h'
  obtain ⟨a, cap, rfl⟩ := src_rn h
  obtain ⟨a', cap', rfl⟩ := src_rn h'
  have HCP : Hid (l.length ≤ cap ∧ cap ≤ 9223372036854775807) := by
    rcases h.2 with ⟨e, h0⟩ | ⟨b, off, c, e, h1, h2, _⟩
    · simp only [Value.slice.injEq] at e; exact ⟨by omega, by omega⟩
    · simp only [Value.slice.injEq] at e; obtain ⟨_, _, rfl⟩ := e; exact ⟨h1, h2⟩
  clear h h'
  have HPI := Lib.hid (pre_if l l')
  by_cases hle : l'.length ≤ l.length
  · have hlei : (l'.length : Int) ≤ (l.length : Int) := by omega
    have hcap : (l'.length : Int) ≤ (cap : Int) := by have := HCP.out; omega
    rw [if_pos hle] at HPI
    have HT : Hid ((l.take l'.length).length = l'.length) := by unfold Hid; rw [List.length_take]; omega
    have HEQ := Lib.hid (equalE_any (.slice a l'.length cap) (.slice a' l'.length cap') (l.take l'.length) l' w (by rw [HT.out]; exact src_preE HS.out hle) HS'.out (by rw [HT.out]; exact hl') hl')
    rw [HPI.out]
    generalize decide (l.take l'.length = l') = bb at *
    clear hle HPI
    go_enter Try.func20, Try.ntmps20
    go_wp2_with (first
      | (go_at_call 22; refine HEQ.out.mono ?_; rintro e w1 ⟨rfl, h1⟩; have U1 := Lib.hid h1; clear h1)
      | fail)
    go_ret
    exact ⟨rfl, U1.out⟩
  · have hlei : ¬ (l'.length : Int) ≤ (l.length : Int) := by omega
    rw [if_neg hle] at HPI
    rw [HPI.out]
    clear hle
    go_enter Try.func20, Try.ntmps20
    go_wp2
    go_ret
    exact ⟨rfl, Up.refl _⟩
end Go.Proofs.Ythhkekmeginooaa.Rp
