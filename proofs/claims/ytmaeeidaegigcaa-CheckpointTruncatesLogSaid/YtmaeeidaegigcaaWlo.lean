/- The write-ahead log as a law holds it. -/
import Derived.Test.YtmaeeidaegigcaaWpg
namespace Go.Proofs.Ytmaeeidaegigcaa.Wl
open Go Go.RowKit Hp
open Dk (Dsk DiskR bc DOk Bytes)
set_option linter.unusedVariables false

/-- A log of n sectors that holds rs, the first d of them synced, after i calls at most. -/
structure St (n i : Nat) (L : Log) (d : Nat) (rs : List (List Int)) : Prop where
  ok : ∃ R S, Ok L R S rs ∧ L.st + (flat (rs.take d)).length ≤ S
  d : d ≤ rs.length
  dur : L.dsk.dur.length = n
  hd : L.hd ≤ i + 1
  inc : L.inc ≤ i
  en : L.en ≤ 42 * i
  cnt : rs.length ≤ i
theorem St.mono {n i j d : Nat} {L : Log} {rs : List (List Int)} (h : St n i L d rs) (hij : i ≤ j) : St n j L d rs :=
  ⟨h.ok, h.d, h.dur, Nat.le_trans h.hd (by omega), Nat.le_trans h.inc hij, Nat.le_trans h.en (Nat.mul_le_mul_left _ hij), Nat.le_trans h.cnt hij⟩
theorem St.new (n : Nat) (h : 4 ≤ n) : St n 0 (newL n).head 0 [] :=
  ⟨⟨0, 0, Ok.new n h, Nat.le_refl _⟩, Nat.le_refl _, by rw [head_dur]; exact List.length_replicate .., Nat.le_refl _, Nat.le_refl _, Nat.le_refl _, Nat.le_refl _⟩
section
variable {n i d : Nat} {L : Log} {rs : List (List Int)} {p : Nat} {F : Nat → Prop} {w2 W : World}
theorem St.pl (h : St n i L d rs) : L.dsk.pend.length ≤ 1000 := by obtain ⟨R, S, h1, _⟩ := h.ok; exact h1.pl
theorem St.ends (h : St n i L d rs) : L.ends = endsG 0 rs := by obtain ⟨R, S, h1, _⟩ := h.ok; exact h1.ends
theorem St.dat (h : St n i L d rs) : L.dat = flat rs := by obtain ⟨R, S, h1, _⟩ := h.ok; exact h1.dat
theorem St.len (h : St n i L d rs) : L.st + L.dat.length ≤ 42 * i := h.en
theorem St.cut (h : St n i L d rs) (e : Nat) (he : e ≤ d) : St n i L e rs := by
  obtain ⟨R, S, h1, h2⟩ := h.ok
  refine ⟨⟨R, S, h1, ?_⟩, Nat.le_trans he h.d, h.dur, h.hd, h.inc, h.en, h.cnt⟩
  have : (flat (rs.take e)).length ≤ (flat (rs.take d)).length := by
    rw [show rs.take e = (rs.take d).take e by rw [List.take_take, Nat.min_eq_left he], flat_split (rs.take d) e, List.length_append]
    exact Nat.le_add_right _ _
  omega
theorem sync_st (h : St n i L d rs) (hP : LogPost p L F w2 W) (hl : ∀ k, F k → k < w2.heap.size) :
    Calls Try.prog 27 #[.pointer (some ⟨p, 0, none⟩)] W fun e w' => e = .returned (.int .i64 0) ∧ ∃ L', Hid (St n (i + 1) L' rs.length rs) ∧ Hid (LogPost p L' F w2 w') := by
  refine (sync_any p L _ W hP.1).mono ?_
  rintro e w' ⟨rfl, h1⟩
  obtain ⟨R, S, o, _⟩ := h.ok
  have o2 := o.sync
  refine ⟨rfl, _, ?_, hP.trans h1 hl⟩
  refine ⟨⟨R, _, o2, ?_⟩, Nat.le_refl _, ?_, ?_, ?_, ?_, ?_⟩
  · rw [List.take_length]
    exact Nat.le_of_eq o.en.symm
  · show (Dk.applyW _ _).length = _
    rw [Dk.applyW_len]; exact h.dur
  · have := h.hd; show L.hd ≤ _; omega
  · have := h.inc; show L.inc ≤ _; omega
  · have := h.en; show L.en ≤ _; omega
  · have := h.cnt; omega
theorem recs_st (h : St n i L d rs) (hP : LogPost p L F w2 W) (hi : i ≤ 1000) :
    Calls Try.prog 26 #[.pointer (some ⟨p, 0, none⟩)] W fun e w' => ∃ v, e = .returned v ∧ Hid (RecP w' W.heap.size v rs) ∧ Hid (Up W w') := by
  obtain ⟨R, S, o, _⟩ := h.ok
  have h1 := h.len
  have h2 := h.cnt
  refine (recs_any p L _ W hP.1 o.endsOk (by rw [o.ends, endsG_len]; omega) (by omega)).mono ?_
  rintro e w' ⟨v, rfl, h1, h2⟩
  rw [o.recs] at h1
  exact ⟨v, rfl, h1, h2⟩
theorem crash_st (h : St n i L d rs) (hP : LogPost p L F w2 W) (hl : ∀ k, F k → k < w2.heap.size) (hn1 : 4 ≤ n) (hn2 : n ≤ 256) (hi : i ≤ 1000) (sv : List Bool) (vs : Value) (hv : Bools W vs sv) (hvF : sv ≠ [] → ∀ a n c, vs = .slice (some a) n c → ¬ Fx F w2 W a.block) :
    Calls Try.prog 28 #[.pointer (some ⟨p, 0, none⟩), vs] W fun e w' => e = .returned (.int .i64 0) ∧ ∃ L' j, d ≤ j ∧ j ≤ rs.length ∧ Hid (St n (i + 1) L' j (rs.take j)) ∧ Hid (LogPost p L' F w2 w') := by
  obtain ⟨R, S, o, hs⟩ := h.ok
  have h1 := h.len
  have h2 := h.hd
  have h3 := h.inc
  have h4 := h.en
  obtain ⟨q1, q2, q3⟩ := hdr_found o.inv o.hdr sv
  have hcb := o.byt.crash sv
  have hcl : (L.dsk.crash sv).dur.length = L.dsk.dur.length := Dk.applyW_len _ _
  refine (crash_any p L _ sv vs W hP.1 hv hvF (by rw [h.dur]; omega) (by rw [h.dur]; exact hn2) (fun s hs => (hcb.read (by rw [hcl]; exact hs)).2) (by rw [q2]; omega) (by rw [q1]; omega) (by rw [q3]; omega)).mono ?_
  rintro e w' ⟨rfl, hp⟩
  obtain ⟨R', j, j1, j2, o', a1, a2, a3, a4, a5, a6⟩ := o.crash sv d h.d hs (by omega) (by omega) (by omega)
  have hjl : (rs.take j).length = j := by rw [List.length_take]; omega
  refine ⟨rfl, _, j, j1, j2, ⟨⟨R', _, o', ?_⟩, by rw [hjl]; exact Nat.le_refl _, by rw [a4]; exact h.dur, by rw [a1]; omega, by rw [a2]; omega, by omega, by rw [hjl]; have := h.cnt; omega⟩, hP.trans hp hl⟩
  rw [List.take_take, Nat.min_self]
  exact Nat.le_of_eq o'.en.symm
theorem app_st (h : St n i L d rs) (hP : LogPost p L F w2 W) (hl : ∀ k, F k → k < w2.heap.size) (hn1 : 4 ≤ n) (hn2 : n ≤ 256) (hi : i ≤ 1000) (w' : World) (g : Nat) (r : List Int) (c : List Value) (hu : Up W w') (hg : W.heap.size ≤ g) (hb0 : Blk w' g (bc r ++ c) 5) (hr : r.length ≤ 40) (hrb : IsB r) :
    Calls Try.prog 24 #[.pointer (some ⟨p, 0, none⟩), .slice (some ⟨g, 0, none⟩) r.length r.length] w' fun e w'' => ∃ L' rs' k, e = .returned (.int .i64 k) ∧ Hid (if L.full r.length then k = 18 ∧ rs' = rs else k = 0 ∧ rs' = rs ++ [r]) ∧ Hid (St n (i + 1) L' d rs') ∧ Hid (LogPost p L' F w2 w'') ∧ Hid (Blk w'' g (bc r ++ c) 5) := by
  obtain ⟨R, S, o, hs⟩ := h.ok
  have h1 := h.len
  have h2 := h.hd
  have h3 := h.inc
  have h4 := h.en
  have h5 := h.cnt
  have h6 := h.d
  refine (app_rec p L F w2 W w' g r c hP hl hu hg hb0 (by rw [h.dur]; omega) (by rw [h.dur]; exact hn2) (by omega) (by omega) h.pl (by omega) (by rw [h.ends, endsG_len]; omega)).mono ?_
  rintro e w'' ⟨hh, hb⟩
  cases hf : L.full r.length with
  | true =>
    rw [hf, if_pos rfl] at hh
    exact ⟨L, rs, 18, hh.1, by rw [if_pos rfl]; exact ⟨rfl, rfl⟩, h.mono (Nat.le_succ _), hh.2, hb⟩
  | false =>
    rw [hf, if_neg (by decide)] at hh
    obtain ⟨a1, a2, a3, a4, a5, a6⟩ := app_same L r
    refine ⟨L.app r, rs ++ [r], 0, hh.1, by rw [if_neg (by decide)]; exact ⟨rfl, rfl⟩, ⟨⟨R, S, o.app r (by omega) hrb hf (by omega) (by omega), ?_⟩, by rw [List.length_append]; omega, by rw [a6]; exact h.dur, by rw [a1]; omega, by rw [a2]; omega, ?_, by rw [List.length_append, List.length_singleton]; omega⟩, hh.2, hb⟩
    · rw [a3, List.take_append_of_le_length h6]
      exact hs
    · show (L.app r).st + (L.app r).dat.length ≤ _
      rw [a3, a4, put_len]
      omega
theorem trunc_st (h : St n i L d rs) (hP : LogPost p L F w2 W) (hl : ∀ k, F k → k < w2.heap.size) (hn1 : 4 ≤ n) (hn2 : n ≤ 256) (hi : i ≤ 1000) (m : Nat) (hm1 : 1 ≤ m) (hm2 : m ≤ rs.length) :
    Calls Try.prog 30 #[.pointer (some ⟨p, 0, none⟩), .int .i64 (m : Int)] W fun e w' => e = .returned (.int .i64 0) ∧ ∃ L', Hid (St n (i + 1) L' (rs.length - m) (rs.drop m)) ∧ Hid (LogPost p L' F w2 w') := by
  obtain ⟨R, S, o, hs⟩ := h.ok
  have h1 := h.len
  have h2 := h.hd
  have h3 := h.inc
  have h4 := h.en
  have h5 := h.cnt
  have he : L.ends.getD (m - 1) 0 = (flat (rs.take m)).length := by rw [o.ends, endsG_nth rs 0 (m - 1) (by omega), show m - 1 + 1 = m by omega, Nat.zero_add]
  have hle : (flat (rs.take m)).length ≤ L.dat.length := by rw [o.dat, flat_split rs m, List.length_append]; exact Nat.le_add_right _ _
  have hge : ∀ e ∈ endsG 0 rs, e ≤ L.dat.length := by
    have key : ∀ (rs : List (List Int)) (b : Nat), ∀ e ∈ endsG b rs, e ≤ b + (flat rs).length := by
      intro rs
      induction rs with
      | nil => intro b e he; cases he
      | cons r rs ih =>
        intro b e he
        rw [flat_cons, List.length_append, enc_len]
        rcases List.mem_cons.1 he with rfl | he
        · omega
        · have := ih _ e he; omega
    intro e he
    have := key rs 0 e he
    rw [o.dat]; omega
  have hgl : ∀ e ∈ L.ends.drop m, (flat (rs.take m)).length ≤ e := by
    have key : ∀ (rs : List (List Int)) (b : Nat), ∀ e ∈ endsG b rs, b ≤ e := by
      intro rs
      induction rs with
      | nil => intro b e he; cases he
      | cons r rs ih =>
        intro b e he
        rcases List.mem_cons.1 he with rfl | he
        · omega
        · have := ih _ e he; omega
    rw [o.ends, endsG_drop]
    intro e he
    have := key _ _ e he
    omega
  have h1m : 1 ≤ (flat (rs.take m)).length := by
    obtain ⟨r, rs', hr⟩ : ∃ r rs', rs.take m = r :: rs' := by
      cases hrs : rs with
      | nil => rw [hrs] at hm2; simp at hm2; omega
      | cons r rs' => exact ⟨r, rs'.take (m - 1), by rw [show m = (m - 1) + 1 by omega, List.take_succ_cons]; rfl⟩
    rw [hr, flat_cons, List.length_append, enc_len]
    omega
  refine (trunc_any p L _ m W hP.1 hm1 (by rw [o.ends, endsG_len]; exact hm2) (by rw [o.ends, endsG_len]; omega) (by rw [he]; exact h1m) (by rw [he]; exact hle) (by rw [he]; exact hgl) (by rw [o.ends]; intro e hx; have := hge e hx; omega) (by omega) (by rw [h.dur]; omega) (by rw [h.dur]; exact hn2) (by omega) (by omega) h.pl).mono ?_
  rintro e w' ⟨rfl, hp⟩
  obtain ⟨R', o', e'⟩ := o.trunc m hm1 hm2 (by omega) (by omega) (by omega)
  obtain ⟨t1, t2, t3, t4, t5, t6, t7⟩ := trunc_same L m
  have hdl : (rs.drop m).length = rs.length - m := List.length_drop ..
  refine ⟨rfl, _, ⟨⟨R', _, o', ?_⟩, by rw [hdl]; exact Nat.le_refl _, by rw [t6]; exact h.dur, by rw [t1]; omega, by rw [t2]; omega, by rw [e']; omega, by rw [hdl]; omega⟩, hP.trans hp hl⟩
  rw [List.take_of_length_le (by rw [hdl]; exact Nat.le_refl _)]
  exact Nat.le_of_eq o'.en.symm
end
theorem trunc0_any (p : Nat) (L : Log) (F : Nat → Prop) (w : World) (h : LogR w p L F) (hL : L.ends.length ≤ 100000) :
    Calls Try.prog 30 #[.pointer (some ⟨p, 0, none⟩), .int .i64 0] w fun e w' => e = .returned (.int .i64 0) ∧ Hid (Up w w') := by
  obtain ⟨q, G, dv, ev, hP⟩ := h
  obtain ⟨ga, ec, rfl, _, _, _⟩ := own_form hP.eow
  have c5 := (hP.blk.at (i := 5) rfl).2
  have hpl := hP.blk.lt
  clear hP
  have hz : ¬ (L.ends.length : Int) < 0 := by omega
  go_enter Try.func30, Try.ntmps30
  go_wp2
  go_ret
  exact ⟨rfl, Up.refl _⟩
theorem recd_isB (i k : Int) : IsB (recd i k) := fun x hx => by
  have hb : ∀ y : Int, 0 ≤ byt y ∧ byt y < 256 := fun y => by unfold byt; omega
  unfold recd at hx
  rcases List.mem_cons.1 hx with rfl | hx
  · exact hb i
  · rw [List.eq_of_mem_replicate hx]; exact hb k
end Go.Proofs.Ytmaeeidaegigcaa.Wl
