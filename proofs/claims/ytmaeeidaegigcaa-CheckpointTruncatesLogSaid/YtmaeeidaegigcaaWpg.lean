/- The write-ahead log: a crash keeps a prefix of the records, all synced ones among them. -/
import Derived.Test.YtmaeeidaegigcaaWpf
namespace Go.Proofs.Ytmaeeidaegigcaa.Wl
open Go Go.RowKit Hp
open Dk (Dsk DOk pad applyW surv)
set_option linter.unusedVariables false

section
variable {L : Log} {R S : Nat} {rs : List (List Int)}
/-- The header that a crash finds is the last one. -/
theorem hdr_found (h : Inv L R S) (hh : Hdr L) (sv : List Bool) : un32 (hdrOf (L.dsk.crash sv)) = (L.hd : Int) ∧ un32 ((hdrOf (L.dsk.crash sv)).drop 4) = (L.st : Int) ∧ un32 ((hdrOf (L.dsk.crash sv)).drop 8) = (L.inc : Int) := by
  have hr : ∀ s, s < 2 → (L.dsk.crash sv).read s = L.dsk.dur.getD s [] := fun s hs => h.low _ (surv_sub sv _) s hs
  obtain ⟨h1, h2, h3, h4⟩ := hh
  have key : hdrOf (L.dsk.crash sv) = L.dsk.dur.getD (L.hd % 2) [] := by
    unfold hdrOf
    rw [hr 0 (by decide), hr 1 (by decide)]
    rcases Nat.mod_two_eq_zero_or_one L.hd with e | e
    · rw [e] at h1 ⊢
      rw [show (L.hd + 1) % 2 = 1 by omega] at h4
      rw [if_neg (by omega)]
    · rw [e] at h1 ⊢
      rw [show (L.hd + 1) % 2 = 0 by omega] at h4
      rw [if_pos (by omega)]
  rw [key]
  exact ⟨h1, h2, h3⟩
/-- The log after the blocks are read back, the header and the root block written. -/
theorem Inv.rooted {L' : Log} (h : Inv L R S) (E : Nat) (e : Nat) (hE1 : L.st + e ≤ E) (hE2 : E ≤ L.en)
    (hfull : ∀ b, L.fst ≤ b → b * 20 + 20 ≤ E → ∃ c, c ≤ L.inc ∧ Rt L.st L.dat b (b * 20 + 20) c (L.V b))
    (hmono : ∀ b b', L.fst ≤ b → b < b' → b' * 20 + 20 ≤ E → un32 ((L.V b).drop 4) ≤ un32 ((L.V b').drop 4))
    (h1 : L'.st = L.st) (h2 : L'.dat = L.dat.take e) (h3 : L'.inc = L.inc + 1) (h4 : L'.dsk.pend = []) (h5 : L'.dsk.dur.length = L.dsk.dur.length)
    (h6 : ∀ s, 2 ≤ s → (L.st + e) / 20 < L.fst + L.bl → s ≠ L.sec ((L.st + e) / 20) → L'.dsk.dur.getD s [] = L.dsk.dur.getD s [])
    (h6' : ∀ s, 2 ≤ s → ¬ (L.st + e) / 20 < L.fst + L.bl → L'.dsk.dur.getD s [] = L.dsk.dur.getD s [])
    (h7 : (L.st + e) / 20 < L.fst + L.bl → Rt L'.st L'.dat ((L.st + e) / 20) (min ((L.st + e) / 20 * 20 + 20) (L.st + e)) L'.inc (L'.dsk.dur.getD (L.sec ((L.st + e) / 20)) [])) :
    Inv L' ((L.st + e) / 20) L'.en ∧ Last L' ((L.st + e) / 20) := by
  have hbl : L'.bl = L.bl := by unfold Log.bl; rw [h5]
  have hsec : ∀ b, L'.sec b = L.sec b := fun b => by unfold Log.sec; rw [hbl]
  have hfst : L'.fst = L.fst := by unfold Log.fst; rw [h1]
  have hel : e ≤ L.dat.length := by unfold Log.en at hE2; omega
  have hen : L'.en = L.st + e := by unfold Log.en; rw [h1, h2, List.length_take]; omega
  obtain ⟨R', hR'⟩ : ∃ R', R' = (L.st + e) / 20 := ⟨_, rfl⟩
  rw [← hR'] at h6 h6' h7 ⊢
  have hfit := h.fit
  have hfs : L.fst ≤ R' := by unfold Log.fst; omega
  have hV : ∀ b, L.fst ≤ b → b < L.fst + L.bl → b ≠ R' → L'.V b = L.V b := fun b b1 b2 b3 => by
    unfold Log.V
    rw [hsec]
    by_cases hr : R' < L.fst + L.bl
    · exact h6 _ (Nat.le_add_right _ _) hr (h.sec_ne b1 b2 hfs hr b3)
    · exact h6' _ (Nat.le_add_right _ _) hr
  have hbelow : ∀ b, b < R' → b < L.fst + L.bl := fun b hb => by omega
  have hRd : ∀ s, L'.dsk.read s = L'.dsk.dur.getD s [] := fun s => by unfold Dsk.read; rw [h4]; rfl
  rw [hen]
  refine ⟨⟨by rw [hbl, h5]; exact h.dl, by rw [hbl]; exact h.bl2, by rw [h1]; omega, by rw [hen]; exact Nat.le_refl _, by rw [hen, hfst, hbl]; omega, by rw [hfst]; exact hfs, by rw [hen]; omega, ?_, ?_, fun x hx => by rw [h4] at hx; (cases hx), ?_, ?_⟩, ?_⟩
  · intro b b1 b2
    rw [hfst] at b1
    rw [hV b b1 (hbelow b b2) (by omega), h1, h2, h3]
    obtain ⟨c, hc, r⟩ := hfull b b1 (by omega)
    exact ⟨c, by omega, r.take e (by omega)⟩
  · intro b b' b1 b2 b3
    rw [hfst] at b1
    rw [hV b b1 (hbelow b (by omega)) (by omega), hV b' (by omega) (hbelow b' b3) (by omega)]
    exact hmono b b' b1 b2 (by omega)
  · intro b b1 b2
    rw [hfst, hbl] at b2
    by_cases hb : b = R'
    · subst hb
      have r := h7 b2
      refine .inl ⟨_, Nat.le_refl _, ?_⟩
      unfold Log.V
      rw [hsec]
      exact r
    · rw [hV b (by omega) b2 hb, h3]
      refine .inr ⟨by omega, ?_⟩
      by_cases hbR : b < R
      · obtain ⟨c, hc, r⟩ := h.full b (by omega) hbR
        refine .inr ⟨by omega, ?_⟩
        rw [r.inc]; omega
      · rcases h.tail b (by omega) b2 with ⟨x, y, z⟩ | ⟨g1, g2⟩
        · refine .inr ⟨by omega, ?_⟩
          rw [z.inc]; omega
        · refine g2.imp id fun ⟨q1, q2⟩ => ⟨by omega, by omega⟩
  · intro s s1 s2
    rw [h5] at s2
    rw [hfst, hbl]
    by_cases hr : R' < L.fst + L.bl
    · by_cases hs : s = L.sec R'
      · rw [hs, (h7 hr).num]; omega
      · rw [h6 s s1 hr hs]; exact h.num s s1 s2
    · rw [h6' s s1 hr]; exact h.num s s1 s2
  · intro b b1 b2
    rw [hen] at b2 ⊢
    obtain rfl : b = R' := by omega
    rw [hRd, hsec]
    exact h7 (by omega)
theorem root_same (L : Log) : L.root.hd = L.hd ∧ L.root.inc = L.inc ∧ L.root.st = L.st ∧ L.root.dat = L.dat ∧ L.root.ends = L.ends ∧ L.root.dsk.dur.length = L.dsk.dur.length := by
  unfold Log.root
  split
  · refine ⟨rfl, rfl, rfl, rfl, rfl, ?_⟩
    show (applyW _ _).length = _
    rw [Dk.applyW_len]
    exact wb_dur L _
  · exact ⟨rfl, rfl, rfl, rfl, rfl, rfl⟩
theorem Ok.crash (h : Ok L R S rs) (sv : List Bool) (d : Nat) (hd : d ≤ rs.length) (hS : L.st + (flat (rs.take d)).length ≤ S) (hhd : L.hd + 1 < 4294967296) (hi : L.inc + 1 < 4294967296) (he : L.en ≤ 1000000000) :
    ∃ R' j, d ≤ j ∧ j ≤ rs.length ∧ Ok (L.crash sv) R' (L.crash sv).en (rs.take j) ∧ (L.crash sv).hd = L.hd + 1 ∧ (L.crash sv).inc = L.inc + 1 ∧ (L.crash sv).st = L.st ∧ (L.crash sv).dsk.dur.length = L.dsk.dur.length ∧ (L.crash sv).en ≤ L.en ∧ (L.crash sv).dsk.pend = [] := by
  obtain ⟨q1, q2, q3⟩ := hdr_found h.inv h.hdr sv
  have hc := h.inv.crashed sv
  obtain ⟨E, e1, e2, e3, e4, e5, e6⟩ := hc.read rfl
  have hlen : (L.dsk.crash sv).dur.length = L.dsk.dur.length := Dk.applyW_len _ _
  have hbk : L.back sv = ⟨L.dsk.crash sv, L.hd, L.inc, L.st, [], []⟩ := by unfold Log.back; rw [q1, q2, q3]; rfl
  have hrd : (L.back sv).rd = (flat rs).take (E - L.st) := by
    rw [hbk, ← h.dat]
    exact e4
  have hen := h.en
  have e2' : L.st ≤ E := e2
  have e3' : E ≤ L.en := e3
  obtain ⟨k, hk⟩ : ∃ k, k = E - L.st := ⟨_, rfl⟩
  rw [← hk] at hrd
  have hkl : k ≤ (flat rs).length := by omega
  have hrl : (L.back sv).rd.length = k := by rw [hrd, List.length_take]; omega
  obtain ⟨j, j1, j2, j3, j4⟩ := fitL_take rs k
  have hpe : parseE (L.back sv).rd (L.back sv).rd.length 0 = endsG 0 (rs.take j) := by
    have hp := parse_flat rs [] k k (fun r hr => by have := (h.rl r hr).1; omega) (Nat.zero_le _) (by show k ≤ 0 + _; omega) (by show k ≤ k + 0; omega)
    rw [hrl, hrd]
    rw [List.nil_append] at hp
    rw [← j2]
    exact hp
  obtain ⟨e, hee⟩ : ∃ e, e = (flat (rs.take j)).length := ⟨_, rfl⟩
  rw [← hee] at j3
  have hlast : (parseE (L.back sv).rd (L.back sv).rd.length 0).getLast?.getD 0 = e := by rw [hpe, endsG_last, Nat.zero_add, hee]
  have hdj : d ≤ j := j4 d hd (by omega)
  have hdat : (L.back sv).rd.take e = flat (rs.take j) := by rw [hrd, List.take_take, show min e k = e by omega, hee, flat_take]
  have hP : (L.back sv).parsed = ⟨L.dsk.crash sv, L.hd, L.inc + 1, L.st, flat (rs.take j), endsG 0 (rs.take j)⟩ := by
    unfold Log.parsed
    rw [hlast, hdat, hpe, hbk]
  obtain ⟨P, hPP⟩ : ∃ P, P = (L.back sv).parsed := ⟨_, rfl⟩
  have hC : L.crash sv = P.head.root := by rw [hPP]; rfl
  rw [← hPP] at hP
  have p1 : P.dsk = L.dsk.crash sv := by rw [hP]
  have p2 : P.hd = L.hd := by rw [hP]
  have p3 : P.inc = L.inc + 1 := by rw [hP]
  have p4 : P.st = L.st := by rw [hP]
  have p5 : P.dat = flat (rs.take j) := by rw [hP]
  have p6 : P.ends = endsG 0 (rs.take j) := by rw [hP]
  clear hP hPP
  have hrlj : ∀ r ∈ rs.take j, r.length ≤ 1000 ∧ IsB r := fun r hr => h.rl r (List.mem_of_mem_take hr)
  have hbP : BytD P.dsk := by rw [p1]; exact h.byt.crash sv
  have hlP : P.dsk.dur.length = L.dsk.dur.length := by rw [p1]; exact hlen
  have hbl2 := h.inv.bl2
  have hdl := h.inv.dl
  -- the header
  have hH1 : BytD P.head.dsk := hbP.head (by omega) (by rw [p2]; exact hhd) (by rw [p4]; unfold Log.en at he; omega) (by rw [p3]; exact hi)
  have hH2 : Hdr P.head := head_hdr P 0 (by omega) (by rw [p2]; exact hhd) (by rw [p4]; unfold Log.en at he; omega) (by rw [p3]; exact hi) (by
    rw [p1, p2]
    show un32 ((L.dsk.crash sv).dur.getD _ []) ≤ _
    have := h.inv.low _ (surv_sub sv L.dsk.pend) (L.hd % 2) (by omega)
    show un32 ((applyW L.dsk.dur _).getD _ []) ≤ _
    rw [this]
    exact Int.le_of_eq h.hdr.1)
  have hH3 : P.head.dsk.dur.length = L.dsk.dur.length := by rw [head_dur]; exact hlP
  have hH4 : P.head.dsk.pend = [] := rfl
  have hH5 : ∀ s, 2 ≤ s → P.head.dsk.dur.getD s [] = (L.dsk.crash sv).dur.getD s [] := fun s hs => by
    rw [head_dur_eq, getD_set2 _ _ _ _ (by omega), p1]
    rfl
  obtain ⟨H, hH⟩ : ∃ H, H = P.head := ⟨_, rfl⟩
  rw [← hH] at hH1 hH2 hH3 hH4 hH5 hC
  have a1 : H.hd = L.hd + 1 := by rw [hH, ← p2]; rfl
  have a2 : H.inc = L.inc + 1 := by rw [hH, ← p3]; rfl
  have a3 : H.st = L.st := by rw [hH, ← p4]; rfl
  have a4 : H.dat = flat (rs.take j) := by rw [hH, ← p5]; rfl
  have a5 : H.ends = endsG 0 (rs.take j) := by rw [hH, ← p6]; rfl
  clear hH
  have hel : e ≤ L.dat.length := by rw [h.dat]; omega
  have hHd : H.dat = L.dat.take e := by rw [a4, h.dat, hee, flat_take]
  have hHen : H.en = L.st + e := by unfold Log.en; rw [a3, a4, hee]
  have hHb : H.bl = L.bl := by unfold Log.bl; rw [hH3]
  have hHs : ∀ b, H.sec b = L.sec b := fun b => by unfold Log.sec; rw [hHb]
  obtain ⟨r1, r2, r3, r4, r5, r6⟩ := root_same H
  obtain ⟨b0, hb0⟩ : ∃ b0, b0 = (L.st + e) / 20 := ⟨_, rfl⟩
  have hb0e : H.en / 20 = b0 := by rw [hHen, hb0]
  have hcb : ({ L with dsk := L.dsk.crash sv } : Log).bl = L.bl := by show (applyW _ _).length - 2 = _; rw [Dk.applyW_len]; rfl
  have hcs : ∀ b, ({ L with dsk := L.dsk.crash sv } : Log).sec b = L.sec b := fun b => by unfold Log.sec; rw [hcb]
  have hcond : (H.en / 20 - H.st / 20 + 1 ≤ H.bl) ↔ b0 < L.fst + L.bl := by
    rw [hb0e, a3, hHb]
    unfold Log.fst
    omega
  have hfl : b0 < L.fst + L.bl → H.root.dsk = ⟨H.dsk.dur.set (L.sec b0) (pad (H.blk b0)), []⟩ := fun hc => by
    unfold Log.root
    rw [if_pos (hcond.2 hc), hb0e]
    show (H.wb b0).dsk.flush = _
    rw [wb_flush, hHs]
    unfold Dsk.flush
    rw [hH4]
    rfl
  have hnf : ¬ b0 < L.fst + L.bl → H.root.dsk = H.dsk := fun hc => by
    unfold Log.root
    rw [if_neg (fun hh => hc (hcond.1 hh))]
  have hslt : L.sec b0 < H.dsk.dur.length := by rw [hH3]; exact h.inv.sec_lt b0
  have hR := hc.rooted (L' := H.root) E e (by show L.st + e ≤ E; omega) e3 e5 e6 (by rw [r3, a3]) (by rw [r4, hHd]) (by rw [r2, a2]) (by
      by_cases hcc : b0 < L.fst + L.bl
      · rw [hfl hcc]
      · rw [hnf hcc]; exact hH4) (by rw [r6, hH3]; exact hlen.symm) (by
      intro s s1 s2 s3
      rw [hcb] at s2
      rw [hcs] at s3
      have s2' : b0 < L.fst + L.bl := by rw [hb0]; exact s2
      have s3' : s ≠ L.sec b0 := by rw [hb0]; exact s3
      rw [hfl s2']
      show (H.dsk.dur.set _ _).getD s [] = (L.dsk.crash sv).dur.getD s []
      rw [getD_set2 _ _ _ _ (Ne.symm s3')]
      exact hH5 s s1) (by
      intro s s1 s2
      rw [hcb] at s2
      have s2' : ¬ b0 < L.fst + L.bl := by rw [hb0]; exact s2
      rw [hnf s2']
      exact hH5 s s1) (by
      intro s2
      rw [hcb] at s2
      rw [hcs]
      show Rt _ _ ((L.st + e) / 20) (min ((L.st + e) / 20 * 20 + 20) (L.st + e)) _ _
      have s2' : b0 < L.fst + L.bl := by rw [hb0]; exact s2
      rw [← hb0, hfl s2', r2, r3, r4]
      show Rt _ _ _ _ _ ((H.dsk.dur.set _ _).getD _ [])
      rw [getD_set1 _ _ _ hslt]
      have hblk := blk_right H b0 (by rw [hHen]; omega) (by rw [a3]; omega) (by unfold Log.en at he; omega) (by rw [a2]; exact hi)
      have hhigh : H.high b0 = min (b0 * 20 + 20) (L.st + e) := by unfold Log.high; rw [hHen, Nat.add_mul]
      rw [hhigh] at hblk
      exact hblk)
  have hcr : (L.crash sv).dsk.pend = [] := by
    rw [hC]
    by_cases hcc : b0 < L.fst + L.bl
    · rw [hfl hcc]
    · rw [hnf hcc]; exact hH4
  refine ⟨(L.st + e) / 20, j, hdj, j1, ?_, by rw [hC, r1, a1], by rw [hC, r2, a2], by rw [hC, r3, a3], by rw [hC, r6, hH3], ?_, hcr⟩
  · rw [hC] at hcr ⊢
    refine ⟨hR.1, hR.2, ?_, ?_, by rw [hcr]; exact Nat.zero_le _, by rw [r4, a4], by rw [r5, a5], hrlj⟩
    · unfold Hdr at hH2 ⊢
      rw [r1, r2, r3]
      have hlow : ∀ s, s < 2 → H.root.dsk.dur.getD s [] = H.dsk.dur.getD s [] := fun s hs => by
        by_cases hcc : b0 < L.fst + L.bl
        · rw [hfl hcc]
          exact getD_set2 _ _ _ _ (by have : 2 ≤ L.sec b0 := Nat.le_add_right _ _; omega)
        · rw [hnf hcc]
      rw [hlow _ (by omega), hlow _ (by omega)]
      exact hH2
    · unfold Log.root
      split
      · exact (hH1.wb _ (by rw [hHs, hb0e]; exact hslt) (by rw [hb0e]; unfold Log.en at he; omega) (by rw [a2]; exact hi) (by rw [a4]; exact flat_isB _ hrlj)).flush
      · exact hH1
  · rw [hC]
    show H.root.st + H.root.dat.length ≤ _
    rw [r3, r4, a3, a4, ← hee]
    omega
end
end Go.Proofs.Ytmaeeidaegigcaa.Wl
