/- The write-ahead log: Truncate and Crash keep what is told of it. -/
import Derived.Test.YtmaeeidaegigcaaWpe
namespace Go.Proofs.Ytmaeeidaegigcaa.Wl
open Go Go.RowKit Hp
open Dk (Dsk DOk pad applyW surv)
set_option linter.unusedVariables false

theorem endsG_drop : ∀ (n : Nat) (rs : List (List Int)) (b : Nat), (endsG b rs).drop n = endsG (b + (flat (rs.take n)).length) (rs.drop n)
  | 0, rs, b => rfl
  | n + 1, [], b => rfl
  | n + 1, r :: rs, b => by
    show (endsG (b + 2 + r.length) rs).drop n = _
    rw [endsG_drop n rs, List.take_succ_cons, flat_cons, List.length_append, enc_len, List.drop_succ_cons]
    congr 1
    omega
theorem endsG_sub (m : Nat) : ∀ (rs : List (List Int)) (b : Nat), m ≤ b → (endsG b rs).map (· - m) = endsG (b - m) rs
  | [], b, _ => rfl
  | r :: rs, b, h => by
    show (b + 2 + r.length - m) :: _ = (b - m + 2 + r.length) :: _
    rw [endsG_sub m rs _ (by omega), show b + 2 + r.length - m = b - m + 2 + r.length by omega]
theorem endsG_nth : ∀ (rs : List (List Int)) (b n : Nat), n < rs.length → (endsG b rs).getD n 0 = b + (flat (rs.take (n + 1))).length
  | r :: rs, b, 0, _ => by
    show b + 2 + r.length = _
    rw [List.take_succ_cons, flat_cons, List.length_append, enc_len, List.take_zero]
    show _ = b + (2 + r.length + 0)
    omega
  | r :: rs, b, n + 1, h => by
    show (endsG (b + 2 + r.length) rs).getD n 0 = _
    rw [endsG_nth rs _ n (by simpa using h), List.take_succ_cons, flat_cons, List.length_append, enc_len]
    omega
theorem flat_split (rs : List (List Int)) (n : Nat) : flat rs = flat (rs.take n) ++ flat (rs.drop n) := by rw [← flat_app, List.take_append_drop]
theorem flat_drop (rs : List (List Int)) (n : Nat) : (flat rs).drop (flat (rs.take n)).length = flat (rs.drop n) := by
  rw [flat_split rs n]
  exact List.drop_left
theorem flat_take (rs : List (List Int)) (n : Nat) : (flat rs).take (flat (rs.take n)).length = flat (rs.take n) := by
  rw [flat_split rs n]
  exact List.take_left
theorem good_cut {L L' : Log} {S b m : Nat} {s : List Int} (g : Good L S b s) (hm : m ≤ L.dat.length) (h1 : L'.st = L.st + m) (h2 : L'.dat = L.dat.drop m) (h3 : L'.inc = L.inc) : Good L' S b s := by
  obtain ⟨x, y, z⟩ := g
  exact ⟨x, y, by rw [h1, h2, h3]; exact z.cut m hm⟩
/-- The first bytes dropped. -/
theorem Inv.cut {L L' : Log} {R : Nat} (h : Inv L R L.en) (hp : L.dsk.pend = []) (m : Nat) (hm : m ≤ L.dat.length) (h1 : L'.st = L.st + m) (h2 : L'.dat = L.dat.drop m) (h3 : L'.inc = L.inc) (h4 : L'.dsk = L.dsk)
    (hroot : R < L'.fst → L'.fst < L.fst + L.bl → Good L L.en L'.fst (L.V L'.fst)) : Inv L' (max R L'.fst) L'.en := by
  have hbl : L'.bl = L.bl := by unfold Log.bl; rw [h4]
  have hsec : ∀ b, L'.sec b = L.sec b := fun b => by unfold Log.sec; rw [hbl]
  have hV : ∀ b, L'.V b = L.V b := fun b => by unfold Log.V; rw [hsec, h4]
  have hen : L'.en = L.en := by unfold Log.en; rw [h1, h2, List.length_drop]; omega
  have hfs : L.fst ≤ L'.fst := by unfold Log.fst; rw [h1]; omega
  have hf20 : L'.fst * 20 ≤ L.st + m := by unfold Log.fst; rw [h1]; omega
  have hle : L.st + m ≤ L.en := by unfold Log.en; omega
  have hfit := h.fit
  have hR2 := h.R2
  have hR1 := h.R1
  rw [hen]
  refine ⟨by rw [hbl, h4]; exact h.dl, by rw [hbl]; exact h.bl2, by rw [h1]; exact hle, by rw [hen]; exact Nat.le_refl _, by rw [hen, hbl]; omega, Nat.le_max_right _ _, by rw [hen]; omega, ?_, ?_, fun x hx => by rw [h4, hp] at hx; (cases hx), ?_, ?_⟩
  · intro b b1 b2
    rw [hV, h1, h2, h3]
    obtain ⟨c, hc, r⟩ := h.full b (by omega) (by omega)
    exact ⟨c, hc, r.cut m hm⟩
  · intro b b' b1 b2 b3
    rw [hV, hV]
    exact h.mono b b' (by omega) b2 (by omega)
  · intro b b1 b2
    rw [hV, h3]
    rw [hbl] at b2
    by_cases hb : b < L.fst + L.bl
    · by_cases he : b = L'.fst ∧ R < L'.fst
      · obtain ⟨rfl, e2⟩ := he
        exact .inl (good_cut (hroot e2 hb) hm h1 h2 h3)
      · rcases h.tail b (by omega) hb with g | ⟨g1, g2⟩
        · exact .inl (good_cut g hm h1 h2 h3)
        · exact .inr ⟨g1, g2.imp id fun ⟨q1, q2⟩ => ⟨by omega, q2⟩⟩
    · refine .inr ⟨by omega, .inl ?_⟩
      have := h.num (L.sec b) (Nat.le_add_right _ _) (h.sec_lt b)
      unfold Log.V
      omega
  · intro s s1 s2
    rw [h4, hbl] at *
    have := h.num s s1 s2
    omega
/-- A log emptied at a block's head: that block is written anew. -/
theorem Inv.fresh {L L' : Log} {R : Nat} (h : Inv L R L.en) (hp : L.dsk.pend = []) (b0 : Nat) (hb0 : b0 * 20 = L.en) (h1 : L'.st = L.en) (h2 : L'.dat = []) (h3 : L'.inc = L.inc) (h4 : L'.dsk.pend = []) (h5 : L'.dsk.dur.length = L.dsk.dur.length)
    (h6 : ∀ s, 2 ≤ s → s ≠ L.sec b0 → L'.dsk.dur.getD s [] = L.dsk.dur.getD s []) (h7 : Rt L'.st L'.dat b0 (b0 * 20) L'.inc (L'.dsk.dur.getD (L.sec b0) [])) : Inv L' b0 L'.en := by
  have hbl : L'.bl = L.bl := by unfold Log.bl; rw [h5]
  have hsec : ∀ b, L'.sec b = L.sec b := fun b => by unfold Log.sec; rw [hbl]
  have hen : L'.en = L.en := by unfold Log.en; rw [h1, h2]; rfl
  have hfs : L'.fst = b0 := by unfold Log.fst; rw [h1]; omega
  have hfit := h.fit
  have hR2 := h.R2
  have hR1 := h.R1
  rw [hen]
  refine ⟨by rw [hbl, h5]; exact h.dl, by rw [hbl]; exact h.bl2, by rw [h1]; exact Nat.le_refl _, by rw [hen]; exact Nat.le_refl _, by rw [hen, hfs]; omega, by rw [hfs]; exact Nat.le_refl _, by rw [hen]; omega, fun b b1 b2 => by omega, fun b b' b1 b2 b3 => by omega, fun x hx => by rw [h4] at hx; (cases hx), ?_, ?_⟩
  · intro b b1 b2
    rw [hfs, hbl] at b2
    by_cases hb : b = b0
    · subst hb
      refine .inl ⟨b * 20, by omega, ?_⟩
      unfold Log.V
      rw [hsec]
      exact h7
    · have hne : L.sec b ≠ L.sec b0 := ring_ne (f := b0) (by omega) b2 (Nat.le_refl _) (by have := h.bl2; omega) hb
      have hV : L'.V b = L.V b := by unfold Log.V; rw [hsec]; exact h6 _ (Nat.le_add_right _ _) hne
      rw [hV, h3]
      refine .inr ⟨by omega, ?_⟩
      by_cases hb2 : b < L.fst + L.bl
      · rcases h.tail b (by omega) hb2 with ⟨x, y, z⟩ | ⟨g1, g2⟩
        · have z1 := z.lo
          have z2 : x ≤ L.en := z.en
          omega
        · exact g2.imp id fun ⟨q1, q2⟩ => ⟨by omega, q2⟩
      · have := h.num (L.sec b) (Nat.le_add_right _ _) (h.sec_lt b)
        unfold Log.V
        omega
  · intro s s1 s2
    rw [h5] at s2
    by_cases hs : s = L.sec b0
    · rw [hs, h7.num, hfs, hbl]
      have := h.bl2
      omega
    · rw [h6 s s1 hs, hfs, hbl]
      have := h.num s s1 s2
      omega
theorem wb_flush (L : Log) (b : Nat) : (L.wb b).dsk.flush = ⟨L.dsk.flush.dur.set (L.sec b) (pad (L.blk b)), []⟩ := by
  unfold Log.wb
  show ((if L.dsk.pend.length = 1000 then L.dsk.flush else L.dsk).write (L.sec b) (L.blk b)).flush = _
  split
  · rfl
  · unfold Dsk.flush Dsk.write
    simp only [Dk.applyW_snoc]
section
variable {L : Log} {R S : Nat} {rs : List (List Int)}
theorem Ok.trunc (h : Ok L R S rs) (n : Nat) (hn1 : 1 ≤ n) (hn2 : n ≤ rs.length) (hhd : L.hd + 1 < 4294967296) (hi : L.inc < 4294967296) (he : L.en ≤ 1000000000) : ∃ R', Ok (L.trunc n) R' (L.trunc n).en (rs.drop n) ∧ (L.trunc n).en = L.en := by
  obtain ⟨m, hm⟩ : ∃ m, m = L.ends.getD (n - 1) 0 := ⟨_, rfl⟩
  have hme : m = (flat (rs.take n)).length := by rw [hm, h.ends, endsG_nth rs 0 (n - 1) (by omega), show n - 1 + 1 = n by omega, Nat.zero_add]
  have hml : m ≤ L.dat.length := by rw [hme, h.dat, flat_split rs n, List.length_append]; exact Nat.le_add_right _ _
  obtain ⟨t1, t2, t3, t4, t5, t6, t7⟩ := trunc_same L n
  have c3 : (L.cutD n).st = L.st + m := by rw [hm]; rfl
  have c4 : (L.cutD n).dat = L.dat.drop m := by rw [hm]; rfl
  have c5 : (L.cutD n).ends = (L.ends.drop n).map (· - m) := by rw [hm]; rfl
  have c6 : (L.cutD n).dsk = L.dsk := rfl
  have c7 : (L.cutD n).inc = L.inc := rfl
  have hcen : (L.cutD n).en = L.en := by unfold Log.en; rw [c3, c4, List.length_drop]; omega
  have hten : (L.trunc n).en = L.en := by unfold Log.en; rw [t3, t4, c3, c4, List.length_drop]; omega
  have hdd : (L.cutD n).dat = flat (rs.drop n) := by rw [c4, h.dat, hme, flat_drop]
  have hee : (L.cutD n).ends = endsG 0 (rs.drop n) := by
    rw [c5, h.ends, endsG_drop, Nat.zero_add, ← hme, endsG_sub _ _ _ (Nat.le_refl _), Nat.sub_self]
  have hrl : ∀ r ∈ rs.drop n, r.length ≤ 1000 ∧ IsB r := fun r hr => h.rl r (List.mem_of_mem_drop hr)
  have hs := h.inv.synced h.last
  have hsl := h.sync
  have hcb : (L.cutD n).bl = L.bl := rfl
  have hbl := h.inv.bl2
  have hdl := h.inv.dl
  have hst : L.st + m ≤ 1000000000 := by unfold Log.en at he; omega
  have hsec : ∀ b, ({ L with dsk := L.dsk.flush } : Log).sec b = L.sec b := fun b => by
    show 2 + b % ((applyW _ _).length - 2) = _
    rw [Dk.applyW_len]; rfl
  have hsb : ({ L with dsk := L.dsk.flush } : Log).bl = L.bl := by show (applyW _ _).length - 2 = _; rw [Dk.applyW_len]; rfl
  have hbyt : IsB (L.cutD n).dat := by rw [hdd]; exact flat_isB _ hrl
  -- the headers
  have hold : ∀ d : Dsk, (∀ s, s < 2 → d.flush.dur.getD s [] = L.dsk.flush.dur.getD s []) → un32 (d.flush.dur.getD (L.hd % 2) []) ≤ (L.hd : Int) := fun d hd => by
    rw [hd _ (by omega)]
    have := (h.hdr.flush h.inv).1
    exact Int.le_of_eq this
  by_cases hx : (L.cutD n).dat.length = 0 ∧ (L.cutD n).st % 20 = 0
  · have hT : L.trunc n = ((L.cutD n).wb ((L.cutD n).st / 20)).head := by unfold Log.trunc; rw [if_pos hx]
    obtain ⟨b0, hb0⟩ : ∃ b0, b0 = (L.cutD n).st / 20 := ⟨_, rfl⟩
    rw [← hb0] at hT
    have hb20 : b0 * 20 = (L.cutD n).st := by omega
    have hce : (L.cutD n).st = L.en := by rw [← hcen]; unfold Log.en; omega
    have hd0 : (L.cutD n).dat = [] := List.eq_nil_of_length_eq_zero hx.1
    have hsecc : (L.cutD n).sec b0 = L.sec b0 := rfl
    have hslt : L.sec b0 < L.dsk.dur.length := h.inv.sec_lt b0
    have hblk := blk_right (L.cutD n) b0 (by rw [hcen]; omega) (by omega) (by omega) hi
    have hhigh : (L.cutD n).high b0 = b0 * 20 := by unfold Log.high; rw [hcen, Nat.add_mul]; omega
    rw [hhigh] at hblk
    have hfl : ((L.cutD n).wb b0).dsk.flush = ⟨L.dsk.flush.dur.set (L.sec b0) (pad ((L.cutD n).blk b0)), []⟩ := wb_flush (L.cutD n) b0
    have hfdl : L.dsk.flush.dur.length = L.dsk.dur.length := Dk.applyW_len _ _
    have hdur : ∀ s, 2 ≤ s → (L.trunc n).dsk.dur.getD s [] = (L.dsk.flush.dur.set (L.sec b0) (pad ((L.cutD n).blk b0))).getD s [] := fun s hs2 => by
      rw [hT, head_dur_eq, hfl]
      exact getD_set2 _ _ _ _ (by omega)
    have hI : Inv (L.trunc n) b0 (L.trunc n).en := by
      refine hs.fresh rfl b0 (by show b0 * 20 = L.en; omega) (by rw [t3]; exact hce) (by rw [t4]; exact hd0) t2 t7 (by rw [t6]; exact hfdl.symm) ?_ ?_
      · intro s s1 s2
        rw [hsec] at s2
        rw [hdur s s1, getD_set2 _ _ _ _ (Ne.symm s2)]
      · rw [hsec, hdur (L.sec b0) (Nat.le_add_right _ _), getD_set1 _ _ _ (by rw [hfdl]; exact hslt), t2, t3, t4]
        exact hblk
    refine ⟨b0, ⟨hI, fun b b1 b2 => by omega, ?_, ?_, by rw [t7]; exact Nat.zero_le _, by rw [t4, hdd], by rw [t5, hee], hrl⟩, hten⟩
    · rw [hT]
      refine head_hdr _ 0 (by rw [wb_dur]; show 2 ≤ L.dsk.dur.length; omega) hhd (by show (L.cutD n).st < _; omega) hi ?_
      refine hold _ fun s hs2 => ?_
      rw [hfl]
      exact getD_set2 _ _ _ _ (by have : 2 ≤ L.sec b0 := Nat.le_add_right _ _; omega)
    · rw [hT]
      exact (BytD.wb (L := L.cutD n) h.byt b0 hslt (by omega) hi hbyt).head (by rw [wb_dur]; show 2 ≤ L.dsk.dur.length; omega) hhd (by show (L.cutD n).st < _; omega) hi
  · have hT : L.trunc n = (L.cutD n).head := by unfold Log.trunc; rw [if_neg hx]
    have hI0 : Inv { L.cutD n with dsk := L.dsk.flush } (max R ({ L.cutD n with dsk := L.dsk.flush } : Log).fst) ({ L.cutD n with dsk := L.dsk.flush } : Log).en := by
      refine Inv.cut (L' := { L.cutD n with dsk := L.dsk.flush }) hs rfl m hml c3 c4 rfl rfl ?_
      intro q1 q2
      obtain ⟨f, hf⟩ : ∃ f, f = ({ L.cutD n with dsk := L.dsk.flush } : Log).fst := ⟨_, rfl⟩
      rw [← hf] at q1 q2 ⊢
      have hf2 : f = (L.cutD n).st / 20 := hf
      have hlt : f * 20 < L.en := by
        rcases Nat.lt_or_ge (f * 20) L.en with hlt | hge
        · exact hlt
        · exfalso
          have e1 : (L.cutD n).st ≤ (L.cutD n).en := Nat.le_add_right _ _
          rw [hcen] at e1
          refine hx ⟨?_, by omega⟩
          have e2 : (L.cutD n).en = (L.cutD n).st + (L.cutD n).dat.length := rfl
          rw [hcen] at e2
          omega
      have hL := hsl.last f (by omega) hlt
      exact ⟨_, Nat.le_refl _, hL⟩
    have hH := hI0.head
    have hTe : L.trunc n = ({ L.cutD n with dsk := L.dsk.flush } : Log).head := by rw [hT]; rfl
    rw [← hTe] at hH
    have hfT : (L.trunc n).fst = ({ L.cutD n with dsk := L.dsk.flush } : Log).fst := by unfold Log.fst; rw [t3]
    have heT : ({ L.cutD n with dsk := L.dsk.flush } : Log).en = (L.trunc n).en := by rw [hten, ← hcen]; rfl
    rw [heT] at hH
    refine ⟨_, ⟨hH, ?_, ?_, ?_, by rw [t7]; exact Nat.zero_le _, by rw [t4, hdd], by rw [t5, hee], hrl⟩, hten⟩
    · intro b b1 b2
      rw [hten] at b2 ⊢
      have hL := hsl.last b (by omega) b2
      have hsT : (L.trunc n).sec b = L.sec b := by unfold Log.sec Log.bl; rw [t6]
      have hrd : (L.trunc n).dsk.read ((L.trunc n).sec b) = ({ L with dsk := L.dsk.flush } : Log).dsk.read (({ L with dsk := L.dsk.flush } : Log).sec b) := by
        rw [hsT, hsec, hT, head_dur_eq]
        show (List.set _ _ _).getD _ [] = (L.dsk.flush.dur).getD _ []
        exact getD_set2 _ _ _ _ (by have : 2 ≤ L.sec b := Nat.le_add_right _ _; omega)
      rw [hrd, t2, t3, t4, c3, c4]
      exact hL.cut m hml
    · rw [hT]
      exact head_hdr _ 0 (by show 2 ≤ L.dsk.dur.length; omega) hhd (by rw [c3]; omega) hi (hold _ fun s _ => rfl)
    · rw [hT]
      exact BytD.head (L := L.cutD n) h.byt (by show 2 ≤ L.dsk.dur.length; omega) hhd (by rw [c3]; omega) hi
end
end Go.Proofs.Ytmaeeidaegigcaa.Wl
