/- The write-ahead log across a crash: what readBlocks reads; the records. -/
import Derived.Test.YtmaeeidaegigcaaWpb
namespace Go.Proofs.Ytmaeeidaegigcaa.Wl
open Go Go.RowKit Hp
open Dk (Dsk DOk pad applyW surv)
set_option linter.unusedVariables false

/-- Reading from block b on: the data up to some E, of which every full block holds the right bytes. -/
theorem read_from {L : Log} {R S : Nat} (h : Inv L R S) (hp : L.dsk.pend = []) : ∀ (k b : Nat) (ip : Int), L.fst ≤ b → b + k = L.fst + L.bl → b * 20 ≤ L.en → ip ≤ (L.inc : Int) →
    (∀ b', b ≤ b' → b' < R → ip ≤ un32 ((L.V b').drop 4)) → (R < b → ip = (L.inc : Int)) →
    ∃ E, S ≤ E ∧ max (b * 20) L.st ≤ E ∧ E ≤ L.en ∧ rdB L.dsk L.bl L.st k b ip (L.dat.take (max (b * 20) L.st - L.st)) = L.dat.take (E - L.st) ∧
      (∀ b', b ≤ b' → b' * 20 + 20 ≤ E → ∃ c, c ≤ L.inc ∧ Rt L.st L.dat b' (b' * 20 + 20) c (L.V b')) ∧ (∀ b', b ≤ b' → b' * 20 + 20 ≤ E → ip ≤ un32 ((L.V b').drop 4)) ∧
      ∀ b' b'', b ≤ b' → b' < b'' → b'' * 20 + 20 ≤ E → un32 ((L.V b').drop 4) ≤ un32 ((L.V b'').drop 4)
  | 0, b, ip, h1, h2, h3, h4, h5, h6 => by
    have h7 := h.fit
    have h8 := h.S1
    have h9 := h.S2
    refine ⟨max (b * 20) L.st, by omega, Nat.le_refl _, by omega, rfl, fun b' g1 g2 => ?_, fun b' g1 g2 => ?_, fun b' b'' g1 g2 g3 => ?_⟩
    · have : b * 20 ≤ b' * 20 := Nat.mul_le_mul_right _ g1
      unfold Log.fst at h1 h2 h7
      omega
    · unfold Log.fst at h1 h2 h7
      omega
    · unfold Log.fst at h1 h2 h7
      omega
  | k + 1, b, ip, h1, h2, h3, h4, h5, h6 => by
    have h7 := h.fit
    have h8 := h.S1
    have h9 := h.S2
    have hst : L.st < b * 20 + 20 := by unfold Log.fst at h1; omega
    have hVr : L.dsk.read (2 + b % L.bl) = L.V b := by
      unfold Dsk.read
      rw [hp]
      rfl
    have hstop : ∀ E, E = max (b * 20) L.st → S ≤ E → (un32 (L.V b) ≠ (b : Int) ∨ un32 ((L.V b).drop 4) < ip ∨ 20 < (L.V b).getD 8 0) →
        ∃ E, S ≤ E ∧ max (b * 20) L.st ≤ E ∧ E ≤ L.en ∧ rdB L.dsk L.bl L.st (k + 1) b ip (L.dat.take (max (b * 20) L.st - L.st)) = L.dat.take (E - L.st) ∧
      (∀ b', b ≤ b' → b' * 20 + 20 ≤ E → ∃ c, c ≤ L.inc ∧ Rt L.st L.dat b' (b' * 20 + 20) c (L.V b')) ∧ (∀ b', b ≤ b' → b' * 20 + 20 ≤ E → ip ≤ un32 ((L.V b').drop 4)) ∧
      ∀ b' b'', b ≤ b' → b' < b'' → b'' * 20 + 20 ≤ E → un32 ((L.V b').drop 4) ≤ un32 ((L.V b'').drop 4) := fun E hE hS hs =>
      ⟨E, hS, by omega, by omega, by rw [rdB_stop _ _ _ _ _ _ _ (by rw [hVr]; exact hs), hE], fun b' g1 g2 => by omega, fun b' g1 g2 => by omega, fun b' b'' g1 g2 g3 => by omega⟩
    have hgo : ∀ c hh, Rt L.st L.dat b hh c (L.V b) → ip ≤ (c : Int) → rdB L.dsk L.bl L.st (k + 1) b ip (L.dat.take (max (b * 20) L.st - L.st)) = if (L.V b).getD 8 0 < 20 then L.dat.take (max hh (max (b * 20) L.st) - L.st) else rdB L.dsk L.bl L.st k (b + 1) (c : Int) (L.dat.take (max hh (max (b * 20) L.st) - L.st)) := fun c hh r hc => by
      have r1 := r.lo
      have r2 := r.hi
      rw [rdB_go _ _ _ _ _ _ _ (by
        rw [hVr, r.num, r.inc, r.used]
        rintro (e | e | e)
        · exact e rfl
        · omega
        · omega), hVr, r.acc hst, r.inc]
    have hnext : ∀ c, c ≤ L.inc → Rt L.st L.dat b (b * 20 + 20) c (L.V b) → ip ≤ (c : Int) → (∀ b', b + 1 ≤ b' → b' < R → (c : Int) ≤ un32 ((L.V b').drop 4)) → (R < b + 1 → (c : Int) = (L.inc : Int)) →
        ∃ E, S ≤ E ∧ max (b * 20) L.st ≤ E ∧ E ≤ L.en ∧ rdB L.dsk L.bl L.st (k + 1) b ip (L.dat.take (max (b * 20) L.st - L.st)) = L.dat.take (E - L.st) ∧
      (∀ b', b ≤ b' → b' * 20 + 20 ≤ E → ∃ c, c ≤ L.inc ∧ Rt L.st L.dat b' (b' * 20 + 20) c (L.V b')) ∧ (∀ b', b ≤ b' → b' * 20 + 20 ≤ E → ip ≤ un32 ((L.V b').drop 4)) ∧
      ∀ b' b'', b ≤ b' → b' < b'' → b'' * 20 + 20 ≤ E → un32 ((L.V b').drop 4) ≤ un32 ((L.V b'').drop 4) := fun c hc r hip q5 q6 => by
      have re : b * 20 + 20 ≤ L.en := r.en
      obtain ⟨E, e1, e2, e3, e4, e5, e6, e7⟩ := read_from h hp k (b + 1) (c : Int) (by omega) (by omega) (by omega) (by omega) q5 q6
      refine ⟨E, e1, by omega, e3, ?_, fun b' g1 g2 => ?_, fun b' g1 g2 => ?_, fun b' b'' g1 g2 g3 => ?_⟩
      · rw [hgo c _ r hip, r.used, if_neg (by omega), ← e4]
        congr 2
        omega
      · rcases Nat.eq_or_lt_of_le g1 with e | e
        · rw [← e]; exact ⟨c, hc, r⟩
        · exact e5 b' e g2
      · rcases Nat.eq_or_lt_of_le g1 with e | e
        · rw [← e, r.inc]; exact hip
        · exact Int.le_trans hip (e6 b' e g2)
      · rcases Nat.eq_or_lt_of_le g1 with e | e
        · rw [← e, r.inc]; exact e6 b'' (by omega) g3
        · exact e7 b' b'' e g2 g3
    by_cases hbR : b < R
    · obtain ⟨c, hc, r⟩ := h.full b h1 hbR
      have hm := h5 b (Nat.le_refl _) hbR
      rw [r.inc] at hm
      refine hnext c hc r hm (fun b' g1 g2 => ?_) (fun g => by omega)
      have := h.mono b b' h1 (by omega) g2
      rw [r.inc] at this
      exact this
    · rcases h.tail b (by omega) (by omega) with ⟨hh, g1, r⟩ | ⟨g1, g2⟩
      · have r1 := r.lo
        have r2 := r.hi
        have r3 : hh ≤ L.en := r.en
        by_cases hf : hh = b * 20 + 20
        · subst hf
          exact hnext L.inc (Nat.le_refl _) r h4 (fun b' g1 g2 => by omega) (fun _ => rfl)
        · refine ⟨max hh (max (b * 20) L.st), by omega, by omega, by omega, ?_, fun b' g1 g2 => by omega, fun b' g1 g2 => by omega, fun b' b'' g1 g2 g3 => by omega⟩
          rw [hgo L.inc hh r h4, r.used, if_pos (by omega)]
      · refine hstop _ rfl (by omega) ?_
        rcases g2 with g2 | ⟨g2, g3⟩
        · exact .inl g2
        · exact .inr (.inl (by rw [h6 g2]; exact g3))
/-- What the log reads back. -/
theorem Inv.read {L : Log} {R S : Nat} (h : Inv L R S) (hp : L.dsk.pend = []) : ∃ E, S ≤ E ∧ L.st ≤ E ∧ E ≤ L.en ∧ L.rd = L.dat.take (E - L.st) ∧
    (∀ b, L.fst ≤ b → b * 20 + 20 ≤ E → ∃ c, c ≤ L.inc ∧ Rt L.st L.dat b (b * 20 + 20) c (L.V b)) ∧
    ∀ b b', L.fst ≤ b → b < b' → b' * 20 + 20 ≤ E → un32 ((L.V b).drop 4) ≤ un32 ((L.V b').drop 4) := by
  have hst : L.fst * 20 ≤ L.st := by unfold Log.fst; omega
  have hen : L.st ≤ L.en := Nat.le_add_right _ _
  obtain ⟨E, e1, e2, e3, e4, e5, _, e7⟩ := read_from h hp L.bl L.fst 0 (Nat.le_refl _) rfl (by omega) (by omega) (fun b g1 g2 => by obtain ⟨c, _, r⟩ := h.full b g1 g2; rw [r.inc]; omega) (fun g => by have := h.R1; omega)
  refine ⟨E, e1, by omega, e3, ?_, e5, e7⟩
  rw [← e4, show max (L.fst * 20) L.st - L.st = 0 by omega]
  rfl

/-! ### The records -/
def enc (r : List Int) : List Int := [((r.length / 256 : Nat) : Int), ((r.length % 256 : Nat) : Int)] ++ r
def flat (rs : List (List Int)) : List Int := (rs.map enc).flatten
def endsG : Nat → List (List Int) → List Nat
  | _, [] => []
  | b, r :: rs => (b + 2 + r.length) :: endsG (b + 2 + r.length) rs
/-- The records that lie within n bytes. -/
def fitL : Nat → List (List Int) → List (List Int)
  | _, [] => []
  | n, r :: rs => if 2 + r.length ≤ n then r :: fitL (n - (2 + r.length)) rs else []
theorem enc_len (r : List Int) : (enc r).length = 2 + r.length := by simp [enc]; omega
theorem flat_cons (r : List Int) (rs : List (List Int)) : flat (r :: rs) = enc r ++ flat rs := rfl
theorem flat_app (a b : List (List Int)) : flat (a ++ b) = flat a ++ flat b := by unfold flat; rw [List.map_append, List.flatten_append]
theorem endsG_app : ∀ (a c : List (List Int)) (b : Nat), endsG b (a ++ c) = endsG b a ++ endsG (b + (flat a).length) c
  | [], c, b => rfl
  | r :: a, c, b => by
    show _ :: endsG _ (a ++ c) = _ :: (endsG _ a ++ _)
    rw [endsG_app a c, flat_cons, List.length_append, enc_len]
    congr 3
    omega
theorem endsG_len : ∀ (b : Nat) (rs : List (List Int)), (endsG b rs).length = rs.length
  | _, [] => rfl
  | b, r :: rs => congrArg (· + 1) (endsG_len _ rs)
theorem endsG_last : ∀ (rs : List (List Int)) (b : Nat), (endsG b rs).getLast?.getD b = b + (flat rs).length
  | [], b => rfl
  | r :: rs, b => by
    have h := endsG_last rs (b + 2 + r.length)
    show ((b + 2 + r.length) :: endsG (b + 2 + r.length) rs).getLast?.getD b = _
    rw [List.getLast?_cons, Option.getD_some, h, flat_cons, List.length_append, enc_len]
    omega
theorem recsG_flat : ∀ (rs : List (List Int)) (pre : List Int), recsG (pre ++ flat rs) pre.length (endsG pre.length rs) = rs
  | [], pre => rfl
  | r :: rs, pre => by
    show ((pre ++ flat (r :: rs)).take (pre.length + 2 + r.length)).drop (pre.length + 2) :: recsG (pre ++ flat (r :: rs)) (pre.length + 2 + r.length) (endsG (pre.length + 2 + r.length) rs) = _
    have h := recsG_flat rs (pre ++ enc r)
    have hl : (pre ++ enc r).length = pre.length + 2 + r.length := by rw [List.length_append, enc_len]; omega
    rw [hl, List.append_assoc, ← flat_cons] at h
    rw [h, flat_cons, ← List.append_assoc]
    congr 1
    rw [List.take_append_of_le_length (by rw [hl]; exact Nat.le_refl _), List.take_of_length_le (by rw [hl]; exact Nat.le_refl _), List.drop_append, List.drop_eq_nil_of_le (Nat.le_add_right _ _), List.nil_append, show pre.length + 2 - pre.length = 2 by omega]
    rfl
theorem endsOk_G : ∀ (rs : List (List Int)) (b n : Nat), b + (flat rs).length ≤ n → endsOk n b (endsG b rs)
  | [], _, _, _ => trivial
  | r :: rs, b, n, h => by
    rw [flat_cons, List.length_append, enc_len] at h
    exact ⟨by omega, by omega, endsOk_G rs _ n (by omega)⟩
theorem fitL_take : ∀ (rs : List (List Int)) (n : Nat), ∃ j, j ≤ rs.length ∧ fitL n rs = rs.take j ∧ (flat (rs.take j)).length ≤ n ∧ ∀ d, d ≤ rs.length → (flat (rs.take d)).length ≤ n → d ≤ j
  | [], n => ⟨0, Nat.le_refl _, rfl, Nat.zero_le _, fun d hd _ => hd⟩
  | r :: rs, n => by
    by_cases h : 2 + r.length ≤ n
    · obtain ⟨j, h1, h2, h3, h4⟩ := fitL_take rs (n - (2 + r.length))
      refine ⟨j + 1, by simpa using h1, ?_, ?_, ?_⟩
      · show (if _ then _ else _) = _
        rw [if_pos h, h2]
        rfl
      · rw [List.take_succ_cons, flat_cons, List.length_append, enc_len]; omega
      · intro d hd hn
        cases d with
        | zero => omega
        | succ d =>
          rw [List.take_succ_cons, flat_cons, List.length_append, enc_len] at hn
          have := h4 d (by simpa using hd) (by omega)
          omega
    · refine ⟨0, Nat.zero_le _, ?_, Nat.zero_le _, ?_⟩
      · show (if _ then _ else _) = _
        rw [if_neg h]
        rfl
      · intro d hd hn
        cases d with
        | zero => omega
        | succ d =>
          rw [List.take_succ_cons, flat_cons, List.length_append, enc_len] at hn
          omega
/-- The ends that a crash finds in a prefix of the data. -/
theorem parse_flat : ∀ (rs : List (List Int)) (pre : List Int) (k f : Nat), (∀ r ∈ rs, r.length ≤ 65535) → pre.length ≤ k → k ≤ pre.length + (flat rs).length → k ≤ f + pre.length → parseE ((pre ++ flat rs).take k) f pre.length = endsG pre.length (fitL (k - pre.length) rs)
  | [], pre, k, f, hr, h1, h2, h3 => by
    have h0 : (flat []).length = 0 := rfl
    cases f with
    | zero => rfl
    | succ f =>
      show (if _ then _ else _) = _
      rw [if_neg]
      · rfl
      · rintro ⟨h, _⟩
        rw [List.length_take, List.length_append] at h
        omega
  | r :: rs, pre, k, 0, hr, h1, h2, h3 => by
    show [] = endsG pre.length (if _ then _ else _)
    rw [if_neg (by omega)]
    rfl
  | r :: rs, pre, k, f + 1, hr, h1, h2, h3 => by
    have hrl := hr r (List.mem_cons_self ..)
    have hl : (pre ++ enc r).length = pre.length + 2 + r.length := by rw [List.length_append, enc_len]; omega
    rw [flat_cons, List.length_append, enc_len] at h2
    have hkl : ((pre ++ flat (r :: rs)).take k).length = k := by rw [List.length_take, List.length_append, flat_cons, List.length_append, enc_len]; omega
    show (if _ then _ else _) = endsG pre.length (if _ then _ else _)
    by_cases hk : pre.length + 2 ≤ k
    · have d0 : ((pre ++ flat (r :: rs)).take k).getD pre.length 0 = ((r.length / 256 : Nat) : Int) := by
        rw [getD_take _ _ _ (by omega), getD_app2 _ _ _ (Nat.le_refl _), Nat.sub_self, flat_cons, getD_app _ _ _ (by rw [enc_len]; omega)]
        rfl
      have d1 : ((pre ++ flat (r :: rs)).take k).getD (pre.length + 1) 0 = ((r.length % 256 : Nat) : Int) := by
        rw [getD_take _ _ _ (by omega), getD_app2 _ _ _ (by omega), show pre.length + 1 - pre.length = 1 by omega, flat_cons, getD_app _ _ _ (by rw [enc_len]; omega)]
        rfl
      have dn : (((pre ++ flat (r :: rs)).take k).getD pre.length 0 * 256 + ((pre ++ flat (r :: rs)).take k).getD (pre.length + 1) 0).toNat = r.length := by rw [d0, d1]; omega
      rw [dn, hkl]
      by_cases hf : 2 + r.length ≤ k - pre.length
      · rw [if_pos ⟨hk, by omega⟩, if_pos hf]
        show _ :: _ = (pre.length + 2 + r.length) :: endsG (pre.length + 2 + r.length) _
        have h := parse_flat rs (pre ++ enc r) k f (fun r hr' => hr r (List.mem_cons_of_mem _ hr')) (by rw [hl]; omega) (by rw [hl]; omega) (by rw [hl]; omega)
        rw [hl, List.append_assoc, ← flat_cons] at h
        rw [h]
        congr 3
        omega
      · rw [if_neg (fun h => hf (by omega)), if_neg hf]
        rfl
    · rw [if_neg (fun h => hk (by rw [hkl] at h; exact h.1)), if_neg (by omega)]
      rfl
end Go.Proofs.Ytmaeeidaegigcaa.Wl
