/- The write-ahead log: Append, Sync, New keep what is told of it. -/
import Derived.Test.YtmaeeidaegigcaaWpd
namespace Go.Proofs.Ytmaeeidaegigcaa.Wl
open Go Go.RowKit Hp
open Dk (Dsk DOk pad applyW surv)
set_option linter.unusedVariables false

/-- All that is told of a log that holds rs, of which the bytes up to S are synced. -/
structure Ok (L : Log) (R S : Nat) (rs : List (List Int)) : Prop where
  inv : Inv L R S
  last : Last L R
  hdr : Hdr L
  byt : BytD L.dsk
  pl : L.dsk.pend.length ≤ 1000
  dat : L.dat = flat rs
  ends : L.ends = endsG 0 rs
  rl : ∀ r ∈ rs, r.length ≤ 1000 ∧ IsB r
theorem isB_len (n : Nat) (h : n ≤ 1000) : IsB [((n / 256 : Nat) : Int), ((n % 256 : Nat) : Int)] := fun x hx => by
  simp only [List.mem_cons, List.not_mem_nil, or_false] at hx
  omega
theorem flat_isB : ∀ (rs : List (List Int)), (∀ r ∈ rs, r.length ≤ 1000 ∧ IsB r) → IsB (flat rs)
  | [], _ => fun x hx => by cases hx
  | r :: rs, h => by
    rw [flat_cons]
    exact ((isB_len _ (h r (List.mem_cons_self ..)).1).app (h r (List.mem_cons_self ..)).2).app (flat_isB rs fun r hr => h r (List.mem_cons_of_mem _ hr))
theorem Ok.recs {L : Log} {R S : Nat} {rs : List (List Int)} (h : Ok L R S rs) : L.recs = rs := by
  unfold Log.recs
  rw [h.dat, h.ends]
  exact recsG_flat rs []
theorem Ok.endsOk {L : Log} {R S : Nat} {rs : List (List Int)} (h : Ok L R S rs) : endsOk L.dat.length 0 L.ends := by
  rw [h.dat, h.ends]
  exact endsOk_G rs 0 _ (by omega)
theorem Ok.en {L : Log} {R S : Nat} {rs : List (List Int)} (h : Ok L R S rs) : L.en = L.st + (flat rs).length := by unfold Log.en; rw [h.dat]
theorem put_en (L : Log) (r : List Int) : (L.put r).en = L.en + 2 + r.length := by
  show L.st + (L.put r).dat.length = _
  rw [put_len]
  unfold Log.en
  omega
theorem put_dat (L : Log) (r : List Int) : (L.put r).dat = L.dat ++ enc r := by
  show L.dat ++ [_, _] ++ r = L.dat ++ ([_, _] ++ r)
  rw [List.append_assoc]
section
variable {L : Log} {R S : Nat} {rs : List (List Int)}
theorem not_full (n : Nat) (h : L.full n = false) : (L.en + 2 + n - 1) / 20 - L.fst + 1 ≤ L.bl := by
  unfold Log.full at h
  have := of_decide_eq_false h
  unfold Log.fst
  omega
theorem Inv.put (h : Inv L R S) (r : List Int) (hf : L.full r.length = false) : Inv (L.put r) R S := by
  have h1 := not_full _ hf
  have h2 := h.more (enc r) (L.ends ++ [L.dat.length + 2 + r.length]) (by rw [enc_len]; omega)
  have e : L.put r = { L with dat := L.dat ++ enc r, ends := L.ends ++ [L.dat.length + 2 + r.length] } := by
    unfold Log.put enc
    rw [List.append_assoc]
  rw [e]
  exact h2
/-- The blocks b0 .. b0 + k - 1 written. -/
theorem Inv.wbs (h : Inv L R S) (b0 n : Nat) (h1 : R ≤ b0) (hi : L.inc < 4294967296) (hd : IsB L.dat) (hn : ∀ i, i < n → b0 + i < L.fst + L.bl ∧ (b0 + i) * 20 ≤ L.en ∧ b0 + i < 4294967296) : ∀ k, k ≤ n → BytD L.dsk →
    Inv (wbs L b0 k) R S ∧ BytD (wbs L b0 k).dsk ∧ (∀ s, s < 2 → (wbs L b0 k).dsk.dur.getD s [] = L.dsk.dur.getD s []) ∧
    (∀ b, L.fst ≤ b → b < b0 → (wbs L b0 k).dsk.read (L.sec b) = L.dsk.read (L.sec b)) ∧ ∀ i, i < k → (wbs L b0 k).dsk.read (L.sec (b0 + i)) = pad (L.blk (b0 + i))
  | 0, _, hb => ⟨h, hb, fun s hs => rfl, fun b _ _ => rfl, fun i hi => absurd hi (Nat.not_lt_zero _)⟩
  | k + 1, hk, hb => by
    obtain ⟨g1, g2, g3, g4, g5⟩ := Inv.wbs h b0 n h1 hi hd hn k (by omega) hb
    obtain ⟨w1, w2, w3, w4, w5, w6⟩ := wbs_same L b0 k
    obtain ⟨n1, n2, n3⟩ := hn k (by omega)
    have e : Go.Proofs.Ytmaeeidaegigcaa.Wl.wbs L b0 (k + 1) = (Go.Proofs.Ytmaeeidaegigcaa.Wl.wbs L b0 k).wb (b0 + k) := rfl
    have hR := h.R1
    generalize Go.Proofs.Ytmaeeidaegigcaa.Wl.wbs L b0 k = M at *
    have hbl : M.bl = L.bl := by unfold Log.bl; rw [w6]
    have hsec : ∀ b, M.sec b = L.sec b := fun b => by unfold Log.sec; rw [hbl]
    have hfst : M.fst = L.fst := by unfold Log.fst; rw [w3]
    have hen : M.en = L.en := by unfold Log.en; rw [w3, w4]
    have hblk : M.blk (b0 + k) = L.blk (b0 + k) := by unfold Log.blk Log.low Log.high; rw [hen, w2, w3, w4]
    have hs : M.sec (b0 + k) < M.dsk.dur.length := g1.sec_lt _
    rw [e]
    refine ⟨g1.wb (b0 + k) (by omega) (by rw [hfst, hbl]; exact n1) (by rw [hen]; exact n2) n3 (by rw [w2]; exact hi), g2.wb _ hs n3 (by rw [w2]; exact hi) (by rw [w4]; exact hd), ?_, ?_, ?_⟩
    · intro s hs2
      rw [← g3 s hs2]
      unfold Log.wb
      show (if M.dsk.pend.length = 1000 then M.dsk.flush else M.dsk).dur.getD s [] = _
      split
      · exact g1.low _ (fun x hx => hx) s hs2
      · rfl
    · intro b q1 q2
      rw [wb_read _ _ _ hs, hsec, if_neg (h.sec_ne (by omega) n1 q1 (by omega) (by omega))]
      exact g4 b q1 q2
    · intro i hik
      rw [wb_read _ _ _ hs, hsec]
      rcases Nat.lt_succ_iff_lt_or_eq.1 hik with hlt | rfl
      · have := (hn i (by omega)).1
        rw [if_neg (h.sec_ne (by omega) n1 (by omega) this (by omega))]
        exact g5 i hlt
      · rw [if_pos rfl, hblk]
theorem Ok.app (h : Ok L R S rs) (r : List Int) (hr : r.length ≤ 1000) (hb : IsB r) (hf : L.full r.length = false) (hi : L.inc < 4294967296) (he : L.en ≤ 1000000000) : Ok (L.app r) R S (rs ++ [r]) := by
  have hv := h.inv.put r hf
  have hnf := not_full _ hf
  have hR2 := h.inv.R2
  have hR1 := h.inv.R1
  have hfit := h.inv.fit
  have hen := put_en L r
  obtain ⟨n, hn⟩ : ∃ n, n = (L.en + 2 + r.length - 1) / 20 - L.en / 20 + 1 := ⟨_, rfl⟩
  have hdat : (L.put r).dat = flat (rs ++ [r]) := by rw [put_dat, h.dat, flat_app]; congr 1; exact (List.append_nil _).symm
  have hrl : ∀ x ∈ rs ++ [r], x.length ≤ 1000 ∧ IsB x := fun x hx => by
    rcases List.mem_append.1 hx with hx | hx
    · exact h.rl x hx
    · rw [List.mem_singleton.1 hx]; exact ⟨hr, hb⟩
  have hpb : IsB (L.put r).dat := by rw [hdat]; exact flat_isB _ hrl
  have hbl : (L.put r).bl = L.bl := rfl
  have hfs : (L.put r).fst = L.fst := rfl
  have hw := hv.wbs (L.en / 20) n (by omega) hi hpb (fun i hi => by rw [hbl, hfs, hen]; omega) n (Nat.le_refl _) h.byt
  obtain ⟨g1, g2, g3, g4, g5⟩ := hw
  obtain ⟨a1, a2, a3, a4, a5, a6⟩ := app_same L r
  have hA : L.app r = wbs (L.put r) (L.en / 20) n := by rw [hn]; rfl
  rw [← hA] at g1 g2 g3 g4 g5
  have hbl2 : (L.app r).bl = L.bl := by unfold Log.bl; rw [a6]
  have hsec : ∀ b, (L.app r).sec b = L.sec b := fun b => by unfold Log.sec; rw [hbl2]
  have hen2 : (L.app r).en = L.en + 2 + r.length := by unfold Log.en; rw [a3, a4]; exact hen
  refine ⟨g1, ?_, ?_, g2, app_pend L r h.pl, by rw [a4, hdat], ?_, hrl⟩
  · intro b b1 b2
    rw [hen2] at b2 ⊢
    rw [a3, a4, a2, hsec]
    by_cases hlt : b < L.en / 20
    · have e := g4 b (by rw [hfs]; omega) hlt
      have e2 : (L.put r).sec b = L.sec b := rfl
      rw [e2] at e
      rw [e]
      have hl := h.last b b1 (by omega)
      rw [show min (b * 20 + 20) L.en = b * 20 + 20 by omega] at hl
      rw [show min (b * 20 + 20) (L.en + 2 + r.length) = b * 20 + 20 by omega, put_dat]
      exact hl.app _
    · have e := g5 (b - L.en / 20) (by omega)
      have e2 : (L.put r).sec b = L.sec b := rfl
      rw [show L.en / 20 + (b - L.en / 20) = b by omega, e2] at e
      rw [e]
      have hbr := blk_right (L.put r) b (by rw [hen]; omega) (by unfold Log.fst at hR1; show L.st < _; omega) (by omega) hi
      have hh : (L.put r).high b = min (b * 20 + 20) (L.en + 2 + r.length) := by unfold Log.high; rw [hen, Nat.add_mul]
      rw [hh] at hbr
      exact hbr
  · have h0 := h.hdr
    unfold Hdr at h0 ⊢
    rw [a1, a2, a3, g3 _ (by omega), g3 _ (by omega)]
    exact h0
  · rw [a5, h.ends, h.dat, endsG_app]
    congr 1
    show [_] = [_]
    rw [Nat.zero_add]
theorem Ok.sync (h : Ok L R S rs) : Ok { L with dsk := L.dsk.flush } R L.en rs := by
  have hbl : ({ L with dsk := L.dsk.flush } : Log).bl = L.bl := by show (applyW _ _).length - 2 = _; rw [Dk.applyW_len]; rfl
  refine ⟨h.inv.synced h.last, ?_, h.hdr.flush h.inv, h.byt.flush, Nat.zero_le _, h.dat, h.ends, h.rl⟩
  intro b b1 b2
  have e : ({ L with dsk := L.dsk.flush } : Log).sec b = L.sec b := by unfold Log.sec; rw [hbl]
  rw [e]
  exact h.last b b1 b2
theorem newL_num (n : Nat) (s : Nat) : un32 ((newL n).dsk.dur.getD s []) = 0 ∧ un32 (((newL n).dsk.dur.getD s []).drop 4) = 0 ∧ ((newL n).dsk.dur.getD s []).getD 8 0 = 0 := by
  have : (newL n).dsk.dur.getD s [] = List.replicate 32 0 ∨ (newL n).dsk.dur.getD s [] = [] := by
    show (List.replicate n (List.replicate 32 (0 : Int))).getD s [] = _ ∨ _
    rw [List.getD_eq_getElem?_getD, List.getElem?_replicate]
    by_cases hs : s < n
    · rw [if_pos hs]; exact .inl rfl
    · refine .inr ?_
      show (List.replicate n (List.replicate 32 (0 : Int))).getD s [] = []
      rw [List.getD_eq_getElem?_getD, List.getElem?_replicate, if_neg hs]
      rfl
  rcases this with e | e
  · rw [e]; exact ⟨by decide, by decide, by decide⟩
  · rw [e]; exact ⟨by decide, by decide, by decide⟩
theorem Ok.new (n : Nat) (h1 : 4 ≤ n) : Ok (newL n).head 0 0 [] := by
  have hl : (newL n).dsk.dur.length = n := List.length_replicate ..
  have hbl : (newL n).bl = n - 2 := by unfold Log.bl; rw [hl]
  have h0 : Inv (newL n) 0 0 := by
    refine ⟨by rw [hl, hbl]; omega, by rw [hbl]; omega, Nat.le_refl _, Nat.zero_le _, Nat.zero_le _, (by show 0 / 20 ≤ 0; decide), (by show 0 * 20 ≤ 0 + 0; decide), fun b _ hb => absurd hb (Nat.not_lt_zero _), fun b b' _ _ hb => absurd hb (Nat.not_lt_zero _), fun x hx => (by cases hx), ?_, ?_⟩
    · intro b b1 b2
      obtain ⟨n1, n2, n3⟩ := newL_num n ((newL n).sec b)
      by_cases hb : b = 0
      · subst hb
        refine .inl ⟨0, Nat.zero_le _, n1, n2, n3, ?_, Nat.le_refl _, Nat.zero_le _, Nat.zero_le _, fun o _ _ ho => absurd ho (Nat.not_lt_zero _)⟩
        have hs : (newL n).sec 0 < n := by unfold Log.sec; rw [Nat.zero_mod]; omega
        show ((List.replicate n (List.replicate 32 (0 : Int))).getD ((newL n).sec 0) []).length = 32
        rw [List.getD_eq_getElem?_getD, List.getElem?_replicate, if_pos hs]
        rfl
      · refine .inr ⟨Nat.zero_le _, .inl ?_⟩
        show un32 ((newL n).dsk.dur.getD _ []) ≠ _
        rw [n1]
        omega
    · intro s _ _
      rw [(newL_num n s).1, hbl]
      show (0 : Int) < ((0 / 20 + (n - 2) : Nat) : Int)
      omega
  refine ⟨h0.head, fun b _ hb => ?_, head_hdr _ 0 (by rw [hl]; omega) (by show (0 : Nat) + 1 < 4294967296; decide) (by show (0 : Nat) < 4294967296; decide) (by show (0 : Nat) < 4294967296; decide) ?_, (BytD.new n).head (by rw [hl]; omega) (by show (0 : Nat) + 1 < 4294967296; decide) (by show (0 : Nat) < 4294967296; decide) (by show (0 : Nat) < 4294967296; decide), Nat.zero_le _, rfl, rfl, fun r hr => (by cases hr)⟩
  · have : (newL n).head.en = 0 := rfl
    omega
  · show un32 ((newL n).dsk.dur.getD _ []) ≤ 0
    rw [(newL_num n _).1]
    exact Int.le_refl _
end
end Go.Proofs.Ytmaeeidaegigcaa.Wl
