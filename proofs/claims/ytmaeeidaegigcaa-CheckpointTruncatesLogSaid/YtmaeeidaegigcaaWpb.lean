/- The write-ahead log's invariant: blocks and pending writes. -/
import Derived.Test.YtmaeeidaegigcaaWpa
namespace Go.Proofs.Ytmaeeidaegigcaa.Wl
open Go Go.RowKit Hp
open Dk (Dsk DOk pad applyW surv)
set_option linter.unusedVariables false

/-! ### The disk -/
/-- After some of the writes a sector holds what it held, or what one of them wrote. -/
theorem applyW_or (l : List (Nat × List Int)) : ∀ (dur : List (List Int)) (s : Nat), s < dur.length → (applyW dur l).getD s [] = dur.getD s [] ∨ ∃ x ∈ l, x.1 = s ∧ (applyW dur l).getD s [] = x.2 := by
  induction l with
  | nil => intro dur s _; exact .inl rfl
  | cons y l ih =>
    intro dur s hs
    show (applyW (dur.set y.1 y.2) l).getD s [] = _ ∨ _
    rcases ih (dur.set y.1 y.2) s (by rw [List.length_set]; exact hs) with h | ⟨x, hx, h1, h2⟩
    · rw [Dk.getD_set] at h
      by_cases e : y.1 = s ∧ y.1 < dur.length
      · rw [if_pos e] at h
        exact .inr ⟨y, List.mem_cons_self .., e.1, h⟩
      · rw [if_neg e] at h
        exact .inl h
    · exact .inr ⟨x, List.mem_cons_of_mem _ hx, h1, h2⟩
theorem surv_sub (sv : List Bool) (l : List (Nat × List Int)) : ∀ x ∈ surv sv l l.length, x ∈ l := fun x hx => Dk.mem_surv (Nat.le_refl _) hx
theorem ring_ne {B f b b' : Nat} (h1 : f ≤ b) (h2 : b < f + B) (h3 : f ≤ b') (h4 : b' < f + B) (hne : b ≠ b') : 2 + b % B ≠ 2 + b' % B := by
  intro h
  have hB : 0 < B := by omega
  have hm : b % B = b' % B := by omega
  have e1 := Nat.div_add_mod b B
  have e2 := Nat.div_add_mod b' B
  rw [hm] at e1
  have key : ∀ x y : Nat, B * x + b' % B = b → B * y + b' % B = b' → b < b' → b' < b + B → False := fun x y hx hy hlt hlt2 => by
    have : x < y := by
      rcases Nat.lt_or_ge x y with h | h
      · exact h
      · have := Nat.mul_le_mul_left B h; omega
    have := Nat.mul_le_mul_left B this
    rw [Nat.mul_succ] at this
    omega
  have key2 : ∀ x y : Nat, B * x + b' % B = b → B * y + b' % B = b' → b' < b → b < b' + B → False := fun x y hx hy hlt hlt2 => by
    have : y < x := by
      rcases Nat.lt_or_ge y x with h | h
      · exact h
      · have := Nat.mul_le_mul_left B h; omega
    have := Nat.mul_le_mul_left B this
    rw [Nat.mul_succ] at this
    omega
  rcases Nat.lt_or_gt_of_ne hne with h | h
  · exact key _ _ e1 e2 h (by omega)
  · exact key2 _ _ e1 e2 h (by omega)

/-! ### The blocks -/
/-- The durable sector of block b. -/
def Log.V (L : Log) (b : Nat) : List Int := L.dsk.dur.getD (L.sec b) []
def Log.fst (L : Log) : Nat := L.st / 20
/-- A version of block b that holds all that is synced. -/
def Good (L : Log) (S b : Nat) (s : List Int) : Prop := ∃ h, min (b * 20 + 20) S ≤ h ∧ Rt L.st L.dat b h L.inc s
structure Inv (L : Log) (R S : Nat) : Prop where
  dl : L.dsk.dur.length = L.bl + 2
  bl2 : 2 ≤ L.bl
  S1 : L.st ≤ S
  S2 : S ≤ L.en
  fit : L.en ≤ 20 * (L.fst + L.bl)
  R1 : L.fst ≤ R
  R2 : R * 20 ≤ L.en
  full : ∀ b, L.fst ≤ b → b < R → ∃ c, c ≤ L.inc ∧ Rt L.st L.dat b (b * 20 + 20) c (L.V b)
  mono : ∀ b b', L.fst ≤ b → b < b' → b' < R → un32 ((L.V b).drop 4) ≤ un32 ((L.V b').drop 4)
  pen : ∀ x ∈ L.dsk.pend, ∃ b, R ≤ b ∧ b < L.fst + L.bl ∧ x.1 = L.sec b ∧ Good L S b x.2
  tail : ∀ b, R ≤ b → b < L.fst + L.bl → Good L S b (L.V b) ∨ (S ≤ b * 20 ∧ (un32 (L.V b) ≠ (b : Int) ∨ (R < b ∧ un32 ((L.V b).drop 4) < (L.inc : Int))))
  num : ∀ s, 2 ≤ s → s < L.dsk.dur.length → un32 (L.dsk.dur.getD s []) < ((L.fst + L.bl : Nat) : Int)
/-- The latest version of each block holds all bytes. -/
def Last (L : Log) (R : Nat) : Prop := ∀ b, R ≤ b → b * 20 < L.en → Rt L.st L.dat b (min (b * 20 + 20) L.en) L.inc (L.dsk.read (L.sec b))
section
variable {L : Log} {R S : Nat}
theorem Inv.sec_lt (h : Inv L R S) (b : Nat) : L.sec b < L.dsk.dur.length := by
  have := Nat.mod_lt b (y := L.bl) (by have := h.bl2; omega)
  have := h.dl
  unfold Log.sec
  omega
theorem Inv.sec_ge (b : Nat) : 2 ≤ L.sec b := Nat.le_add_right _ _
theorem Inv.sec_ne (h : Inv L R S) {b b' : Nat} (h1 : L.fst ≤ b) (h2 : b < L.fst + L.bl) (h3 : L.fst ≤ b') (h4 : b' < L.fst + L.bl) (hne : b ≠ b') : L.sec b ≠ L.sec b' := ring_ne h1 h2 h3 h4 hne
theorem Inv.below (h : Inv L R S) {b : Nat} (hb : b < R) : b < L.fst + L.bl := by have := h.R2; have := h.fit; omega
theorem good_same {L' : Log} {S b : Nat} {s : List Int} (h : Good L S b s) (h1 : L'.st = L.st) (h2 : L'.dat = L.dat) (h3 : L'.inc = L.inc) : Good L' S b s := by
  obtain ⟨x, y, z⟩ := h
  exact ⟨x, y, by rw [h1, h2, h3]; exact z⟩
/-- The disk's durable part told anew, by what each sector holds. -/
theorem Inv.redo (h : Inv L R S) (dur : List (List Int)) (pend : List (Nat × List Int)) (hl : dur.length = L.dsk.dur.length) (hp : ∀ x ∈ pend, x ∈ L.dsk.pend) (hd : ∀ s, s < L.dsk.dur.length → dur.getD s [] = L.dsk.dur.getD s [] ∨ ∃ x ∈ L.dsk.pend, x.1 = s ∧ dur.getD s [] = x.2) :
    Inv { L with dsk := ⟨dur, pend⟩ } R S := by
  have hbl : ({ L with dsk := ⟨dur, pend⟩ } : Log).bl = L.bl := by show dur.length - 2 = L.dsk.dur.length - 2; rw [hl]
  have hsec : ∀ b, ({ L with dsk := ⟨dur, pend⟩ } : Log).sec b = L.sec b := fun b => by show 2 + b % ({ L with dsk := ⟨dur, pend⟩ } : Log).bl = _; rw [hbl]; rfl
  have hV : ∀ b, ({ L with dsk := ⟨dur, pend⟩ } : Log).V b = L.V b ∨ ∃ x ∈ L.dsk.pend, x.1 = L.sec b ∧ ({ L with dsk := ⟨dur, pend⟩ } : Log).V b = x.2 := fun b => by
    have e : ({ L with dsk := ⟨dur, pend⟩ } : Log).V b = dur.getD (L.sec b) [] := by unfold Log.V; rw [hsec]
    rw [e]
    exact hd _ (h.sec_lt b)
  have hVl : ∀ b, L.fst ≤ b → b < R → ({ L with dsk := ⟨dur, pend⟩ } : Log).V b = L.V b := fun b h1 h2 => by
    rcases hV b with e | ⟨x, hx, e1, e2⟩
    · exact e
    · obtain ⟨b', g1, g2, g3, g4⟩ := h.pen x hx
      exact absurd (e1.symm.trans g3) (h.sec_ne h1 (h.below h2) (Nat.le_trans h.R1 g1) g2 (by omega))
  refine ⟨by rw [hbl]; exact hl.trans h.dl, by rw [hbl]; exact h.bl2, h.S1, h.S2, by rw [hbl]; exact h.fit, h.R1, h.R2, ?_, ?_, ?_, ?_, ?_⟩
  · intro b h1 h2
    rw [hVl b h1 h2]
    exact h.full b h1 h2
  · intro b b' h1 h2 h3
    rw [hVl b h1 (by omega), hVl b' (by have : L.fst ≤ b := h1; show L.fst ≤ b'; omega) h3]
    exact h.mono b b' h1 h2 h3
  · intro x hx
    obtain ⟨b', g1, g2, g3, g4⟩ := h.pen x (hp x hx)
    exact ⟨b', g1, by rw [hbl]; exact g2, by rw [hsec]; exact g3, good_same g4 rfl rfl rfl⟩
  · intro b h1 h2
    rw [hbl] at h2
    rcases hV b with e | ⟨x, hx, e1, e2⟩
    · rw [e]
      rcases h.tail b h1 h2 with g | g
      · exact .inl (good_same g rfl rfl rfl)
      · exact .inr g
    · obtain ⟨b', g1, g2, g3, g4⟩ := h.pen x hx
      have hb : b = b' := Classical.byContradiction fun hne => h.sec_ne (Nat.le_trans h.R1 h1) h2 (Nat.le_trans h.R1 g1) g2 hne (e1.symm.trans g3)
      rw [e2, hb]
      exact .inl (good_same g4 rfl rfl rfl)
  · intro s h1 h2
    rw [hbl]
    rcases hd s (by rw [← hl]; exact h2) with e | ⟨x, hx, e1, e2⟩
    · show un32 (dur.getD s []) < _
      rw [e]
      exact h.num s h1 (by rw [← hl]; exact h2)
    · show un32 (dur.getD s []) < _
      rw [e2]
      obtain ⟨b', g1, g2, g3, ⟨hh, _, r⟩⟩ := h.pen x hx
      rw [r.num]
      show (b' : Int) < ((L.fst + L.bl : Nat) : Int)
      omega
theorem Inv.flush (h : Inv L R S) : Inv { L with dsk := L.dsk.flush } R S :=
  h.redo _ [] (Dk.applyW_len _ _) (fun x hx => by cases hx) fun s hs => applyW_or _ _ s hs
theorem Inv.crashed (h : Inv L R S) (sv : List Bool) : Inv { L with dsk := L.dsk.crash sv } R S :=
  h.redo _ [] (Dk.applyW_len _ _) (fun x hx => by cases hx) fun s hs => by
    rcases applyW_or (surv sv L.dsk.pend L.dsk.pend.length) L.dsk.dur s hs with e | ⟨x, hx, e⟩
    · exact .inl e
    · exact .inr ⟨x, surv_sub sv _ x hx, e⟩
/-- A block written. -/
theorem Inv.wb (h : Inv L R S) (b : Nat) (h1 : R ≤ b) (h2 : b < L.fst + L.bl) (h3 : b * 20 ≤ L.en) (hb : b < 4294967296) (hi : L.inc < 4294967296) : Inv (L.wb b) R S := by
  have hg : Good L S b (pad (L.blk b)) := by
    refine ⟨L.high b, ?_, blk_right L b h3 (by have := h.R1; unfold Log.fst at this; omega) hb hi⟩
    unfold Log.high
    have := h.S2
    rw [Nat.add_mul]
    omega
  have key : ∀ d : Dsk, d.dur.length = L.dsk.dur.length → Inv { L with dsk := d } R S → Inv { L with dsk := d.write (L.sec b) (L.blk b) } R S := fun d hl hd => by
    have hbl : ({ L with dsk := d.write (L.sec b) (L.blk b) } : Log).bl = L.bl := by show d.dur.length - 2 = L.dsk.dur.length - 2; rw [hl]
    refine ⟨hd.dl, hd.bl2, hd.S1, hd.S2, hd.fit, hd.R1, hd.R2, hd.full, hd.mono, ?_, hd.tail, hd.num⟩
    intro x hx
    rcases List.mem_append.1 hx with hx | hx
    · obtain ⟨b', g⟩ := hd.pen x hx
      exact ⟨b', g⟩
    · rw [List.mem_singleton.1 hx]
      exact ⟨b, h1, by rw [hbl]; exact h2, by show L.sec b = 2 + b % _; rw [hbl]; rfl, good_same hg rfl rfl rfl⟩
  unfold Log.wb
  split
  · exact key _ (Dk.applyW_len _ _) h.flush
  · exact key _ rfl h
/-- What a read finds after a block has been written. -/
theorem wb_read (L : Log) (b s : Nat) (hs : L.sec b < L.dsk.dur.length) : (L.wb b).dsk.read s = if L.sec b = s then pad (L.blk b) else L.dsk.read s := by
  unfold Log.wb
  show ((if L.dsk.pend.length = 1000 then L.dsk.flush else L.dsk).write (L.sec b) (L.blk b)).read s = _
  split
  · rw [Dk.read_write _ _ _ _ (by show L.sec b < (applyW _ _).length; rw [Dk.applyW_len]; exact hs), Dk.read_flush]
  · rw [Dk.read_write _ _ _ _ hs]
/-- More data. -/
theorem Inv.more (h : Inv L R S) (d : List Int) (es : List Nat) (hf : L.en + d.length ≤ 20 * (L.fst + L.bl)) : Inv { L with dat := L.dat ++ d, ends := es } R S := by
  have he : ({ L with dat := L.dat ++ d, ends := es } : Log).en = L.en + d.length := by
    show L.st + (L.dat ++ d).length = L.st + L.dat.length + d.length
    rw [List.length_append]; omega
  have hg : ∀ b s, Good L S b s → Good { L with dat := L.dat ++ d, ends := es } S b s := fun b s ⟨x, y, z⟩ => ⟨x, y, z.app d⟩
  refine ⟨h.dl, h.bl2, h.S1, by rw [he]; have := h.S2; omega, by rw [he]; exact hf, h.R1, by rw [he]; have := h.R2; omega, ?_, h.mono, ?_, ?_, h.num⟩
  · intro b h1 h2
    obtain ⟨c, hc, r⟩ := h.full b h1 h2
    exact ⟨c, hc, r.app d⟩
  · intro x hx
    obtain ⟨b, g1, g2, g3, g4⟩ := h.pen x hx
    exact ⟨b, g1, g2, g3, hg _ _ g4⟩
  · intro b h1 h2
    exact (h.tail b h1 h2).imp (hg _ _) id
/-- All written and flushed: all is synced. -/
theorem Inv.synced (h : Inv L R S) (hl : Last L R) : Inv { L with dsk := L.dsk.flush } R L.en := by
  have hf := h.flush
  have hbl : ({ L with dsk := L.dsk.flush } : Log).bl = L.bl := by show (applyW _ _).length - 2 = _; rw [Dk.applyW_len]; rfl
  refine ⟨hf.dl, hf.bl2, Nat.le_trans h.S1 h.S2, Nat.le_refl _, hf.fit, hf.R1, hf.R2, hf.full, hf.mono, fun x hx => (by cases hx), ?_, hf.num⟩
  intro b h1 h2
  have hsec : ({ L with dsk := L.dsk.flush } : Log).sec b = L.sec b := by show 2 + b % ({ L with dsk := L.dsk.flush } : Log).bl = _; rw [hbl]; rfl
  by_cases hb : b * 20 < L.en
  · have r := hl b h1 hb
    refine .inl ⟨_, Nat.le_refl _, ?_⟩
    show Rt L.st L.dat b _ L.inc ((applyW _ _).getD (({ L with dsk := L.dsk.flush } : Log).sec b) [])
    rw [hsec]
    exact r
  · rcases hf.tail b h1 h2 with ⟨x, _, z⟩ | g
    · have z1 := z.lo
      have z2 := z.en
      exact .inl ⟨x, by have : x ≤ L.en := z2; omega, z⟩
    · exact .inr ⟨by omega, g.2⟩
end
end Go.Proofs.Ytmaeeidaegigcaa.Wl
