/- Replication in plain words: each step keeps what is told. -/
import Derived.Test.YthhkekmeginooaaRpa
namespace Go.Proofs.Ythhkekmeginooaa.Rp
set_option linter.unusedVariables false

def upd (sv : Nat → Srv) (i : Nat) (s : Srv) : Nat → Srv := fun v => if v = i then s else sv v
theorem upd_at (sv : Nat → Srv) (i : Nat) (s : Srv) : upd sv i s i = s := if_pos rfl
theorem upd_ne (sv : Nat → Srv) (i : Nat) (s : Srv) {v : Nat} (h : v ≠ i) : upd sv i s v = sv v := if_neg h
def updL (LL : Nat → Lg) (t : Nat) (l : Lg) : Nat → Lg := fun u => if u = t then l else LL u
theorem updL_at (LL : Nat → Lg) (t : Nat) (l : Lg) : updL LL t l t = l := if_pos rfl
theorem updL_ne (LL : Nat → Lg) (t : Nat) (l : Lg) {u : Nat} (h : u ≠ t) : updL LL t l u = LL u := if_neg h
def updA (ack : Nat → Nat → Nat) (t v k : Nat) : Nat → Nat → Nat := fun u w => if u = t ∧ w = v then k else ack u w
theorem updA_at (ack : Nat → Nat → Nat) (t v k : Nat) : updA ack t v k t v = k := if_pos ⟨rfl, rfl⟩
theorem updA_ne (ack : Nat → Nat → Nat) (t v k : Nat) {u w : Nat} (h : u ≠ t ∨ w ≠ v) : updA ack t v k u w = ack u w := if_neg fun e => h.elim (fun h => h e.1) fun h => h e.2
/-- The ghosts grow. -/
structure Ext (n T : Nat) (LL LL' : Nat → Lg) (ack ack' : Nat → Nat → Nat) : Prop where
  L : ∀ t, 1 ≤ t → t < T → LL t <+: LL' t
  A : ∀ t v, v < n → ack t v ≤ ack' t v
theorem Ext.refl (n T : Nat) (LL : Nat → Lg) (ack : Nat → Nat → Nat) : Ext n T LL LL ack ack := ⟨fun _ _ _ => List.prefix_refl _, fun _ _ _ => Nat.le_refl _⟩
theorem Ext.trans {n T T' : Nat} {LL LL' LL2 : Nat → Lg} {ack ack' ack2 : Nat → Nat → Nat} (h : Ext n T LL LL' ack ack') (k : Ext n T' LL' LL2 ack' ack2) (hT : T ≤ T') : Ext n T LL LL2 ack ack2 :=
  ⟨fun t h1 h2 => (h.L t h1 h2).trans (k.L t h1 (by omega)), fun t v hv => Nat.le_trans (h.A t v hv) (k.A t v hv)⟩
theorem MOk.ext {n T T' : Nat} {lead lead' : Nat → Nat} {LL LL' : Nat → Lg} {ack ack' : Nat → Nat → Nat} {m : Msg} (h : MOk n T lead LL ack m) (hT : T ≤ T') (hl : ∀ t, t < T → lead' t = lead t) (x : Ext n T LL LL' ack ack') : MOk n T' lead' LL' ack' m := by
  have hp := x.L m.term h.t1 h.tT
  refine ⟨h.frm, h.to, h.ne, h.t1, Nat.lt_of_lt_of_le h.tT hT, ?_⟩
  rcases h.knd with ⟨a1, a2, a3, a4, a5, a6, a7⟩ | ⟨a1, a2⟩
  · have hle := hp.length_le
    obtain ⟨c, hc⟩ := hp
    refine .inl ⟨a1, by rw [hl _ h.tT]; exact a2, by omega, ?_, ?_, Nat.le_trans a6 (x.A _ _ h.to), a7.ext h.tT (Nat.le_refl _) x.L x.A fun t0 k0 _ _ _ _ _ hh => hh.trans (x.L _ h.t1 h.tT)⟩
    · rw [← hc, List.drop_append_of_le_length (by omega), List.take_append_of_le_length (by rw [List.length_drop]; omega)]
      exact a4
    · rw [a5]
      by_cases h0 : m.idx = 0
      · rw [if_pos h0, if_pos h0]
      · rw [if_neg h0, if_neg h0, ← hc, List.getElem?_append_left (by omega)]
  · exact .inr ⟨a1, Nat.le_trans a2 (x.A _ _ h.frm)⟩
section
variable {n T : Nat} {lead : Nat → Nat} {sv : Nat → Srv} {net : List Msg} {LL : Nat → Lg} {ack : Nat → Nat → Nat}

/-- A leader appends an entry. -/
theorem Inv.append (h : Inv n T lead sv net LL ack) (i : Nat) (hi : i < n) (hd : lead (sv i).term = i) (e : Ent) (he : e.term = (sv i).term) (hlen : (sv i).log.length < 60) :
    Inv n T lead (upd sv i { sv i with log := (sv i).log ++ [e] }) net (updL LL (sv i).term ((sv i).log ++ [e])) (updA ack (sv i).term i ((sv i).log.length + 1)) ∧ Ext n T LL (updL LL (sv i).term ((sv i).log ++ [e])) ack (updA ack (sv i).term i ((sv i).log.length + 1)) := by
  obtain ⟨t, ht⟩ : ∃ t, t = (sv i).term := ⟨_, rfl⟩
  rw [← ht] at hd he ⊢
  have hlog := h.ldl i hi (by rw [← ht]; exact hd)
  rw [← ht] at hlog
  have htm := h.tm i hi
  rw [← ht] at htm
  rw [hlog] at hlen ⊢
  obtain ⟨LL', hLL⟩ : ∃ LL', LL' = updL LL t (LL t ++ [e]) := ⟨_, rfl⟩
  obtain ⟨ack', hack⟩ : ∃ ack', ack' = updA ack t i ((LL t).length + 1) := ⟨_, rfl⟩
  obtain ⟨sv', hsv⟩ : ∃ sv', sv' = upd sv i { sv i with log := LL t ++ [e] } := ⟨_, rfl⟩
  rw [← hLL, ← hack, ← hsv]
  have lt_ : LL' t = LL t ++ [e] := by rw [hLL]; exact updL_at _ _ _
  have ln_ : ∀ u, u ≠ t → LL' u = LL u := fun u hu => by rw [hLL]; exact updL_ne _ _ _ hu
  have at_ : ack' t i = (LL t).length + 1 := by rw [hack]; exact updA_at _ _ _ _
  have an_ : ∀ u w, u ≠ t ∨ w ≠ i → ack' u w = ack u w := fun u w hu => by rw [hack]; exact updA_ne _ _ _ _ hu
  have st : ∀ v, (sv' v).term = (sv v).term := fun v => by
    rw [hsv]; unfold upd; split
    · rename_i e; rw [e]
    · rfl
  have sl : (sv' i).log = LL t ++ [e] := by rw [hsv, upd_at]
  have sn : ∀ v, v ≠ i → sv' v = sv v := fun v hv => by rw [hsv]; exact upd_ne _ _ _ hv
  have hp : ∀ u, LL u <+: LL' u := fun u => by
    by_cases hu : u = t
    · rw [hu, lt_]; exact List.prefix_append _ _
    · rw [ln_ u hu]; exact List.prefix_refl _
  have hak : ∀ u w, w < n → ack u w ≤ ack' u w := fun u w hw => by
    by_cases hu : u = t ∧ w = i
    · rw [hu.1, hu.2, at_]; have := h.akL t i hi htm.1 htm.2; omega
    · rw [an_ u w (by by_cases e : u = t; exact .inr fun e2 => hu ⟨e, e2⟩; exact .inl e)]; exact Nat.le_refl _
  have x : Ext n T LL LL' ack ack' := ⟨fun u _ _ => hp u, hak⟩
  have hb : ∀ u k, Blocked n sv ack u k → Blocked n sv' ack' u k := fun u k hb => hb.ext (fun v _ => by rw [st]; exact Nat.le_refl _) fun v hv hlt => an_ u v (by
    by_cases hu : u = t
    · right; intro e; rw [e, ← ht, hu] at hlt; omega
    · exact .inl hu)
  -- a place of the new entry is barred from every later term
  have hnew : ∀ k t', t < t' → t' < T → Own LL' t k → ¬ Own LL t k → Blocked n sv' ack' t k := fun k t' h1 h2 ho hno => (h.maj t' (by omega) h2).mono fun v hv hvt => by
    rw [st]
    refine ⟨by omega, ?_⟩
    have hvi : v ≠ i := fun e => by rw [e, ← ht] at hvt; omega
    rw [an_ t v (.inr hvi)]
    have := h.akL t v hv htm.1 htm.2
    have : ¬ k ≤ (LL t).length := fun e => hno (ho.back (hp t) e)
    omega
  have gnew : Good T LL' (LL t ++ [e]) := fun k e1 he1 => by
    rcases Nat.lt_or_ge k (LL t).length with hk | hk
    · rw [List.getElem?_append_left hk] at he1
      obtain ⟨g1, g2, g3⟩ := h.gL t htm.1 htm.2 k e1 he1
      rw [List.take_append_of_le_length (by omega)]
      exact ⟨g1, g2, g3.trans (hp _)⟩
    · have hl := get_lt he1
      rw [List.length_append, List.length_singleton] at hl
      rw [List.getElem?_append_right hk, show k - (LL t).length = 0 by omega] at he1
      obtain rfl := Option.some.inj he1
      rw [he, lt_]
      exact ⟨htm.1, htm.2, List.take_prefix _ _⟩
  have hl1 : (LL t ++ [e]).length = (LL t).length + 1 := by rw [List.length_append, List.length_singleton]
  refine ⟨{
    ldn := h.ldn
    tm := fun v hv => by rw [st]; exact h.tm v hv
    ldt := fun u h1 h2 => by rw [st]; exact h.ldt u h1 h2
    ldl := fun v hv hdv => ?_
    gl := fun v hv => ?_
    gL := fun u h1 h2 => ?_
    tL := fun u h1 h2 => ?_
    len := fun u h1 h2 => ?_
    mat := fun v hv hdv => ?_
    akL := fun u v hv h1 h2 => ?_
    akt := fun u v hv ha => ?_
    akl := fun v hv => ?_
    akd := fun u h1 h2 => ?_
    maj := fun u h1 h2 => (h.maj u h1 h2).mono fun v _ hv => by rw [st]; exact hv
    i1 := fun u t' k h1 h2 h3 h4 => ?_
    i2 := fun u v k h1 h2 h3 h4 h5 => ?_
    com := fun v hv => ?_
    net := fun m hm => (h.net m hm).ext (Nat.le_refl _) (fun _ _ => rfl) x }, x⟩
  · rw [st] at hdv ⊢
    by_cases hv2 : v = i
    · rw [hv2, sl, ← ht, lt_]
    · rw [sn v hv2, ln_ _ (fun e => hv2 (by rw [e, hd] at hdv; exact hdv.symm))]
      exact h.ldl v hv hdv
  · by_cases hv2 : v = i
    · rw [hv2, sl]; exact gnew
    · rw [sn v hv2]; exact (h.gl v hv).ext (Nat.le_refl _) fun u _ _ => hp u
  · by_cases hu : u = t
    · rw [hu, lt_]; exact gnew
    · rw [ln_ u hu]; exact (h.gL u h1 h2).ext (Nat.le_refl _) fun u _ _ => hp u
  · by_cases hu : u = t
    · rw [hu, lt_]
      intro e1 he1
      rcases List.mem_append.1 he1 with h3 | h3
      · exact h.tL t htm.1 htm.2 e1 h3
      · rw [List.mem_singleton.1 h3, he]; exact Nat.le_refl _
    · rw [ln_ u hu]; exact h.tL u h1 h2
  · by_cases hu : u = t
    · rw [hu, lt_, hl1]; omega
    · rw [ln_ u hu]; exact h.len u h1 h2
  · rw [st] at hdv ⊢
    have hm : (sv' v).mat = (sv v).mat := by
      rw [hsv]; unfold upd; split
      · rename_i e; rw [e]
      · rfl
    rw [hm]
    obtain ⟨m1, m2⟩ := h.mat v hv hdv
    exact ⟨m1, fun j hj => Nat.le_trans (m2 j hj) (hak _ j hj)⟩
  · by_cases hu : u = t
    · rw [hu, lt_, hl1]
      by_cases hv2 : v = i
      · rw [hv2, at_]; exact Nat.le_refl _
      · rw [an_ t v (.inr hv2)]; have := h.akL t v hv htm.1 htm.2; omega
    · rw [ln_ u hu, an_ u v (.inl hu)]; exact h.akL u v hv h1 h2
  · rw [st]
    by_cases hu : u = t ∧ v = i
    · rw [hu.1, hu.2, ← ht]; exact Nat.le_refl _
    · rw [an_ u v (by by_cases e : u = t; exact .inr fun e2 => hu ⟨e, e2⟩; exact .inl e)] at ha
      exact h.akt u v hv ha
  · rw [st]
    by_cases hv2 : v = i
    · rw [hv2, ← ht, at_, sl, lt_]; exact List.take_prefix _ _
    · rw [sn v hv2, an_ _ v (.inr hv2)]
      by_cases hu : (sv v).term = t
      · have h3 := h.akl v hv
        rw [hu] at h3 ⊢
        rw [lt_, List.take_append_of_le_length (h.akL t v hv htm.1 htm.2)]
        exact h3
      · rw [ln_ _ hu]; exact h.akl v hv
  · by_cases hu : u = t
    · rw [hu, hd, at_, lt_, hl1]
    · rw [an_ u _ (.inl hu), ln_ u hu]; exact h.akd u h1 h2
  · by_cases hu : u = t
    · rw [hu] at h4 h2 ⊢
      by_cases ho : Own LL t k
      · rw [pre_take (hp t) k ho.le]
        exact (h.i1 t t' k htm.1 h2 h3 ho).imp (fun g => g.trans (hp t')) (hb t k)
      · exact .inr (hnew k t' h2 h3 h4 ho)
    · have ho : Own LL u k := by
        obtain ⟨g1, g2⟩ := h4
        rw [ln_ u hu] at g2
        exact ⟨g1, g2⟩
      rw [ln_ u hu]
      exact (h.i1 u t' k h1 h2 h3 ho).imp (fun g => g.trans (hp t')) (hb u k)
  · by_cases hv2 : v = i
    · rw [hv2] at h5 ⊢
      rw [sl]
      by_cases hu : u = t
      · rw [hu, lt_]; exact .inl (List.take_prefix _ _)
      · have ho : Own LL u k := by
          obtain ⟨g1, g2⟩ := h4
          rw [ln_ u hu] at g2
          exact ⟨g1, g2⟩
        rw [ln_ u hu]
        rw [an_ u i (.inl hu)] at h5
        have := h.i2 u i k h1 h2 hi ho h5
        rw [hlog] at this
        exact this.imp (fun g => g.trans (List.prefix_append _ _)) (hb u k)
    · rw [an_ u v (.inr hv2)] at h5
      rw [sn v hv2]
      have ho : Own LL u k := h4.back (hp u) (Nat.le_trans h5 (h.akL u v h3 h1 h2))
      rw [pre_take (hp u) k ho.le]
      exact (h.i2 u v k h1 h2 h3 ho h5).imp id (hb u k)
  · rw [st]
    have hc : (sv' v).com = (sv v).com := by
      rw [hsv]; unfold upd; split
      · rename_i e; rw [e]
      · rfl
    rw [hc]
    refine (h.com v hv).ext (h.tm v hv).2 (Nat.le_refl _) (fun u _ _ => hp u) hak fun t0 k0 _ _ _ _ _ g => ?_
    by_cases hv2 : v = i
    · rw [hv2] at g ⊢
      rw [sl]
      rw [hlog] at g
      exact g.trans (List.prefix_append _ _)
    · rw [sn v hv2]; exact g

/-- A server takes a message's term, and perhaps its entries. -/
theorem Inv.recv (h : Inv n T lead sv net LL ack) (m : Msg) (hm : MOk n T lead LL ack m) (hk : m.kind = 1) (htm : (sv m.to).term ≤ m.term) (L : Lg) (c A : Nat)
    (hc : (L = (sv m.to).log ∧ c = (sv m.to).com ∧ A = ack m.term m.to) ∨
      (A = max (ack m.term m.to) (m.idx + m.ents.length) ∧ c = max (sv m.to).com (min m.com (m.idx + m.ents.length)) ∧
        (((LL m.term).take (m.idx + m.ents.length) <+: (sv m.to).log ∧ L = (sv m.to).log) ∨ (¬ (LL m.term).take (m.idx + m.ents.length) <+: (sv m.to).log ∧ L = (LL m.term).take (m.idx + m.ents.length))))) :
    Inv n T lead (upd sv m.to { sv m.to with term := m.term, com := c, log := L }) net LL (updA ack m.term m.to A) ∧ Ext n T LL LL ack (updA ack m.term m.to A) := by
  obtain ⟨_, kl, k3, k4, k5, k6, k7⟩ := hm.knd.resolve_right fun e => by rw [hk] at e; exact absurd e.1 (by decide)
  have hto := hm.to
  have t1 := hm.t1
  have tT := hm.tT
  have hne := hm.ne
  generalize m.to = i at *
  generalize m.term = t at *
  generalize hlast : m.idx + m.ents.length = last at *
  obtain ⟨ack', hack⟩ : ∃ ack', ack' = updA ack t i A := ⟨_, rfl⟩
  obtain ⟨sv', hsv⟩ : ∃ sv', sv' = upd sv i { sv i with term := t, com := c, log := L } := ⟨_, rfl⟩
  rw [← hack, ← hsv]
  have hA1 : ack t i ≤ A := by rcases hc with h | h <;> omega
  have hA2 : A ≤ (LL t).length := by have := h.akL t i hto t1 tT; rcases hc with h | h <;> omega
  have at_ : ack' t i = A := by rw [hack]; exact updA_at _ _ _ _
  have an_ : ∀ u w, u ≠ t ∨ w ≠ i → ack' u w = ack u w := fun u w hu => by rw [hack]; exact updA_ne _ _ _ _ hu
  have si : sv' i = { sv i with term := t, com := c, log := L } := by rw [hsv]; exact upd_at _ _ _
  have sn : ∀ v, v ≠ i → sv' v = sv v := fun v hv => by rw [hsv]; exact upd_ne _ _ _ hv
  have st : ∀ v, (sv v).term ≤ (sv' v).term := fun v => by
    by_cases hv : v = i
    · rw [hv, si]; exact htm
    · rw [sn v hv]; exact Nat.le_refl _
  have sT : ∀ v, v < n → 1 ≤ (sv' v).term ∧ (sv' v).term < T := fun v hv => by
    by_cases hv2 : v = i
    · rw [hv2, si]; exact ⟨t1, tT⟩
    · rw [sn v hv2]; exact h.tm v hv
  have hak : ∀ u w, w < n → ack u w ≤ ack' u w := fun u w _ => by
    by_cases hu : u = t ∧ w = i
    · rw [hu.1, hu.2, at_]; exact hA1
    · rw [an_ u w (by by_cases e : u = t; exact .inr fun e2 => hu ⟨e, e2⟩; exact .inl e)]; exact Nat.le_refl _
  have x : Ext n T LL LL ack ack' := ⟨fun u _ _ => List.prefix_refl _, hak⟩
  have hb : ∀ u k, Blocked n sv ack u k → Blocked n sv' ack' u k := fun u k hb => hb.ext (fun v _ => st v) fun v hv hlt => an_ u v (by
    by_cases hu : u = t
    · right; intro e; rw [e, hu] at hlt; omega
    · exact .inl hu)
  have hnl : lead t ≠ i := by rw [kl]; exact hne
  have hold : ∀ u, 0 < ack u i → u ≤ t := fun u hu => Nat.le_trans (h.akt u i hto hu) htm
  have hL : L = (sv i).log ∨ (¬ (LL t).take last <+: (sv i).log ∧ L = (LL t).take last ∧ A = max (ack t i) last) := by
    rcases hc with h | ⟨hA, _, h | h⟩
    · exact .inl h.1
    · exact .inl h.2
    · exact .inr ⟨h.1, h.2, hA⟩
  -- what lies in the leader's log and lay in the old log lies in the new one
  have keep : ∀ P : Lg, P <+: LL t → P <+: (sv i).log → P <+: L := fun P h1 h2 => by
    rcases hL with e | ⟨h3, e, _⟩
    · rw [e]; exact h2
    · rw [e]
      rcases Nat.le_total P.length ((LL t).take last).length with h4 | h4
      · exact List.prefix_of_prefix_length_le h1 (List.take_prefix _ _) h4
      · exact absurd ((List.prefix_of_prefix_length_le (List.take_prefix _ _) h1 h4).trans h2) h3
  have hacc : (LL t).take A <+: L := by
    have old : (LL t).take (ack t i) <+: (sv i).log := by
      rcases Nat.eq_or_lt_of_le htm with e | e
      · have := h.akl i hto; rw [e] at this; exact this
      · have : ack t i = 0 := by rcases Nat.eq_zero_or_pos (ack t i) with h0 | h0; exact h0; have := h.akt t i hto h0; omega
        rw [this]; exact List.nil_prefix
    have k1 := keep _ (List.take_prefix _ _) old
    rcases hc with ⟨_, _, e⟩ | ⟨e, _, h2⟩
    · rw [e]; exact k1
    · have k2 : (LL t).take last <+: L := by
        rcases h2 with ⟨h3, h4⟩ | ⟨h3, h4⟩
        · rw [h4]; exact h3
        · rw [h4]; exact List.prefix_refl _
      rw [e]
      rcases Nat.le_total (ack t i) last with h5 | h5
      · rw [Nat.max_eq_right h5]; exact k2
      · rw [Nat.max_eq_left h5]; exact k1
  refine ⟨{
    ldn := h.ldn
    tm := sT
    ldt := fun u h1 h2 => Nat.le_trans (h.ldt u h1 h2) (st _)
    ldl := fun v hv hdv => ?_
    gl := fun v hv => ?_
    gL := h.gL
    tL := h.tL
    len := h.len
    mat := fun v hv hdv => ?_
    akL := fun u v hv h1 h2 => ?_
    akt := fun u v hv ha => ?_
    akl := fun v hv => ?_
    akd := fun u h1 h2 => ?_
    maj := fun u h1 h2 => (h.maj u h1 h2).mono fun v _ hv => Nat.le_trans hv (st v)
    i1 := fun u t' k h1 h2 h3 h4 => (h.i1 u t' k h1 h2 h3 h4).imp id (hb u k)
    i2 := fun u v k h1 h2 h3 h4 h5 => ?_
    com := fun v hv => ?_
    net := fun m hm => (h.net m hm).ext (Nat.le_refl _) (fun _ _ => rfl) x }, x⟩
  · by_cases hv2 : v = i
    · rw [hv2, si] at hdv; exact absurd hdv hnl
    · rw [sn v hv2] at hdv ⊢; exact h.ldl v hv hdv
  · by_cases hv2 : v = i
    · rw [hv2, si]
      rcases hL with e | ⟨_, e, _⟩
      · rw [show ({ sv i with term := t, com := c, log := L } : Srv).log = L from rfl, e]; exact h.gl i hto
      · rw [show ({ sv i with term := t, com := c, log := L } : Srv).log = L from rfl, e]; exact (h.gL t t1 tT).pre (List.take_prefix _ _)
    · rw [sn v hv2]; exact h.gl v hv
  · by_cases hv2 : v = i
    · rw [hv2, si] at hdv; exact absurd hdv hnl
    · rw [sn v hv2] at hdv ⊢
      obtain ⟨m1, m2⟩ := h.mat v hv hdv
      exact ⟨m1, fun j hj => Nat.le_trans (m2 j hj) (hak _ j hj)⟩
  · by_cases hu : u = t ∧ v = i
    · rw [hu.1, hu.2, at_]; exact hA2
    · rw [an_ u v (by by_cases e : u = t; exact .inr fun e2 => hu ⟨e, e2⟩; exact .inl e)]; exact h.akL u v hv h1 h2
  · by_cases hu : u = t ∧ v = i
    · rw [hu.1, hu.2, si]; exact Nat.le_refl _
    · rw [an_ u v (by by_cases e : u = t; exact .inr fun e2 => hu ⟨e, e2⟩; exact .inl e)] at ha
      exact Nat.le_trans (h.akt u v hv ha) (st v)
  · by_cases hv2 : v = i
    · rw [hv2, si]
      show (LL t).take (ack' t i) <+: L
      rw [at_]; exact hacc
    · rw [sn v hv2, an_ _ v (.inr hv2)]; exact h.akl v hv
  · rw [an_ u _ (by by_cases e : u = t; exact .inr fun e2 => hnl (by rw [← e]; exact e2); exact .inl e)]; exact h.akd u h1 h2
  · by_cases hv2 : v = i
    · rw [hv2] at h5 ⊢
      rw [si]
      show _ <+: L ∨ _
      by_cases hu : u = t
      · rw [hu] at h5 h4 ⊢
        rw [at_] at h5
        exact .inl ((take_pre_take _ h5).trans hacc)
      · rw [an_ u i (.inl hu)] at h5
        have hk1 := h4.1
        have hut : u < t := by have := hold u (by omega); omega
        rcases h.i2 u i k h1 h2 hto h4 h5 with g | g
        · rcases h.i1 u t k h1 hut tT h4 with g2 | g2
          · exact .inl (keep _ g2 g)
          · exact .inr (hb u k g2)
        · exact .inr (hb u k g)
    · rw [an_ u v (.inr hv2)] at h5
      rw [sn v hv2]
      exact (h.i2 u v k h1 h2 h3 h4 h5).imp id (hb u k)
  · by_cases hv2 : v = i
    · rw [hv2, si]
      show ComOk n LL ack' t c L
      have old : ComOk n LL ack' t (sv i).com L := (h.com i hto).ext (h.tm i hto).2 htm x.L hak fun t0 k0 h0 h1 h2 ho hq g => keep _ ((take_pre_take _ h2).trans (h.held h0 (Nat.le_trans h1 htm) tT ho hq)) g
      rcases hc with ⟨_, e, _⟩ | ⟨_, e, h2⟩
      · rw [e]; exact old
      · rcases Nat.le_total (min m.com last) (sv i).com with h5 | h5
        · rw [e, Nat.max_eq_left h5]; exact old
        · rw [e, Nat.max_eq_right h5]
          have k2 : (LL t).take last <+: L := by
            rcases h2 with ⟨h3, h4⟩ | ⟨h3, h4⟩
            · rw [h4]; exact h3
            · rw [h4]; exact List.prefix_refl _
          rcases k7 with h0 | ⟨t0, k0, h0, h1, h3, ho, hq, g⟩
          · exact .inl (by omega)
          · refine .inr ⟨t0, k0, h0, h1, by omega, ho, hq.mono fun w hw hk => Nat.le_trans hk (hak t0 w hw), ?_⟩
            refine List.IsPrefix.trans ?_ k2
            have hle := ho.le
            refine List.prefix_of_prefix_length_le ((take_pre_take _ (by omega)).trans g) (List.take_prefix _ _) ?_
            rw [List.length_take, List.length_take]
            omega
    · rw [sn v hv2]
      exact (h.com v hv).ext (h.tm v hv).2 (Nat.le_refl _) x.L hak fun _ _ _ _ _ _ _ g => g
/-- An election. -/
theorem Inv.elect (h : Inv n T lead sv net LL ack) (i : Nat) (hi : i < n) (hT : 1 ≤ T) (V : List Nat) (hV : V.Nodup) (hVn : ∀ v ∈ V, v < n) (hiV : i ∈ V) (hq : n < 2 * V.length)
    (hup : ∀ v ∈ V, v ≠ i → (((sv v).log.getLast?.map Ent.term).getD 0 < ((sv i).log.getLast?.map Ent.term).getD 0) ∨ (((sv v).log.getLast?.map Ent.term).getD 0 = ((sv i).log.getLast?.map Ent.term).getD 0 ∧ (sv v).log.length ≤ (sv i).log.length))
    (sv' : Nat → Srv) (hsV : ∀ v ∈ V, (sv' v).term = T) (hsN : ∀ v, v ∉ V → (sv' v).term = (sv v).term) (hsl : ∀ v, (sv' v).log = (sv v).log) (hsc : ∀ v, (sv' v).com = (sv v).com) (hsm : ∀ v, v ≠ i → (sv' v).mat = (sv v).mat) (hsi : (sv' i).mat = List.replicate n 0)
    (lead' : Nat → Nat) (hl1 : lead' T = i) (hl2 : ∀ t, t < T → lead' t = lead t) :
    Inv n (T + 1) lead' sv' net (updL LL T (sv i).log) (updA ack T i (sv i).log.length) ∧ Ext n T LL (updL LL T (sv i).log) ack (updA ack T i (sv i).log.length) := by
  obtain ⟨LL', hLL⟩ : ∃ LL', LL' = updL LL T (sv i).log := ⟨_, rfl⟩
  obtain ⟨ack', hack⟩ : ∃ ack', ack' = updA ack T i (sv i).log.length := ⟨_, rfl⟩
  rw [← hLL, ← hack]
  have lt_ : LL' T = (sv i).log := by rw [hLL]; exact updL_at _ _ _
  have ln_ : ∀ u, u ≠ T → LL' u = LL u := fun u hu => by rw [hLL]; exact updL_ne _ _ _ hu
  have at_ : ack' T i = (sv i).log.length := by rw [hack]; exact updA_at _ _ _ _
  have an_ : ∀ u w, u ≠ T ∨ w ≠ i → ack' u w = ack u w := fun u w hu => by rw [hack]; exact updA_ne _ _ _ _ hu
  have a0 : ∀ u v, v < n → T ≤ u → ack u v = 0 := fun u v hv hu => by
    rcases Nat.eq_zero_or_pos (ack u v) with h0 | h0
    · exact h0
    · have := h.akt u v hv h0; have := (h.tm v hv).2; omega
  have st : ∀ v, v < n → (sv v).term ≤ (sv' v).term := fun v hv => by
    by_cases hv2 : v ∈ V
    · rw [hsV v hv2]; have := (h.tm v hv).2; omega
    · rw [hsN v hv2]; exact Nat.le_refl _
  have hp : ∀ u, u < T → LL u <+: LL' u := fun u hu => by rw [ln_ u (by omega)]; exact List.prefix_refl _
  have hak : ∀ u w, w < n → ack u w ≤ ack' u w := fun u w hw => by
    by_cases hu : u = T ∧ w = i
    · rw [hu.1, hu.2, a0 T i hi (Nat.le_refl _)]; exact Nat.zero_le _
    · rw [an_ u w (by by_cases e : u = T; exact .inr fun e2 => hu ⟨e, e2⟩; exact .inl e)]; exact Nat.le_refl _
  have x : Ext n T LL LL' ack ack' := ⟨fun u _ hu => hp u hu, hak⟩
  have hb : ∀ u k, u < T → Blocked n sv ack u k → Blocked n sv' ack' u k := fun u k hu hb => hb.ext st fun v hv hlt => an_ u v (.inl (by omega))
  have gi : Good (T + 1) LL' (sv i).log := (h.gl i hi).ext (Nat.le_succ _) fun u _ hu => hp u hu
  have own : ∀ u k, u ≠ T → Own LL' u k → Own LL u k := fun u k hu ho => by
    obtain ⟨g1, g2⟩ := ho
    rw [ln_ u hu] at g2
    exact ⟨g1, g2⟩
  have low : ∀ e ∈ (sv i).log, e.term < T := fun e he => by
    obtain ⟨k, hk⟩ := List.getElem?_of_mem he
    exact (h.gl i hi k e hk).2.1
  have noOwn : ∀ k, ¬ Own LL' T k := fun k ⟨_, e, h2, h3⟩ => by
    rw [lt_] at h2
    have := low e (List.mem_of_getElem? h2)
    omega
  have ilen : (sv i).log.length ≤ 60 := by
    rcases Nat.eq_zero_or_pos (sv i).log.length with h0 | h0
    · omega
    · obtain ⟨e, he⟩ : ∃ e, (sv i).log[(sv i).log.length - 1]? = some e := ⟨_, List.getElem?_eq_getElem (by omega)⟩
      obtain ⟨g1, g2, g3⟩ := h.gl i hi _ e he
      have := g3.length_le
      rw [List.length_take] at this
      have := h.len _ g1 g2
      omega
  -- the terms of a log rise
  have mono : ∀ l, Good T LL l → ∀ (a b : Nat) (ea eb : Ent), a ≤ b → l[a]? = some ea → l[b]? = some eb → ea.term ≤ eb.term := fun l hl a b ea eb hab ha hb => by
    obtain ⟨g1, g2, g3⟩ := hl b eb hb
    have : (l.take (b + 1))[a]? = some ea := by rw [List.getElem?_take_of_lt (by omega)]; exact ha
    exact h.tL _ g1 g2 ea (List.mem_of_getElem? (pre_get g3 this))
  -- the new leader holds what a voter acknowledged
  have vote : ∀ u k, 1 ≤ u → u < T → Own LL u k → (LL u).take k <+: (sv i).log ∨ Blocked n sv' ack' u k := fun u k h1 h2 ho => by
    by_cases hx : ∃ v, v ∈ V ∧ k ≤ ack u v
    · obtain ⟨v, hv, hkv⟩ := hx
      have hvn := hVn v hv
      rcases h.i2 u v k h1 h2 hvn ho hkv with g | g
      · by_cases hvi : v = i
        · rw [hvi] at g; exact .inl g
        · obtain ⟨k1, e, he1, he2⟩ := ho
          have hle := get_lt he1
          have hvk : (sv v).log[k - 1]? = some e := pre_get g (by rw [List.getElem?_take_of_lt (by omega)]; exact he1)
          have hvl := get_lt hvk
          obtain ⟨f, hf⟩ : ∃ f, (sv v).log[(sv v).log.length - 1]? = some f := ⟨_, List.getElem?_eq_getElem (by omega)⟩
          have hfu : u ≤ f.term := by rw [← he2]; exact mono _ (h.gl v hvn) _ _ e f (by omega) hvk hf
          have hlast : ((sv v).log.getLast?.map Ent.term).getD 0 = f.term := by rw [List.getLast?_eq_getElem?, hf]; rfl
          have hupv := hup v hv hvi
          rw [hlast] at hupv
          have hin : 0 < (sv i).log.length := by
            rcases Nat.eq_zero_or_pos (sv i).log.length with h0 | h0
            · rw [List.length_eq_zero_iff.1 h0] at hupv
              rcases hupv with h3 | ⟨_, h3⟩
              · exact absurd h3 (Nat.not_lt_zero _)
              · rw [List.length_nil] at h3; omega
            · exact h0
          obtain ⟨c, hc⟩ : ∃ c, (sv i).log[(sv i).log.length - 1]? = some c := ⟨_, List.getElem?_eq_getElem (by omega)⟩
          have hcl : ((sv i).log.getLast?.map Ent.term).getD 0 = c.term := by rw [List.getLast?_eq_getElem?, hc]; rfl
          rw [hcl] at hupv
          obtain ⟨c1, c2, c3⟩ := h.gl i hi _ c hc
          rw [show (sv i).log.length - 1 + 1 = (sv i).log.length by omega, List.take_length] at c3
          rcases hupv with hlt | ⟨heq, hlen⟩
          · rcases h.i1 u c.term k h1 (by omega) c2 ⟨k1, e, he1, he2⟩ with g2 | g2
            · refine .inl (List.prefix_of_prefix_length_le g2 c3 ?_)
              rw [List.length_take, Nat.min_eq_left (by omega)]
              rcases Nat.lt_or_ge (sv i).log.length k with hlk | hlk
              · exfalso
                have hq1 : ((LL u).take k)[(sv i).log.length - 1]? = some c := by
                  have h6 := pre_get c3 hc
                  have h7 : ((LL u).take k)[(sv i).log.length - 1]? = (LL c.term)[(sv i).log.length - 1]? := by
                    obtain ⟨z, hz⟩ := g2
                    rw [← hz, List.getElem?_append_left (by rw [List.length_take]; omega)]
                  rw [h7]; exact h6
                have := h.tL u h1 h2 c (List.mem_of_mem_take (List.mem_of_getElem? hq1))
                omega
              · exact hlk
            · exact .inr (hb u k h2 g2)
          · have hf2 := h.gl v hvn _ f hf
            obtain ⟨f1, f2, f3⟩ := hf2
            rw [show (sv v).log.length - 1 + 1 = (sv v).log.length by omega, List.take_length, heq] at f3
            exact .inl (g.trans (List.prefix_of_prefix_length_le f3 c3 hlen))
      · exact .inr (hb u k h2 g)
    · refine .inr ⟨V, hV, fun v hv => ⟨hVn v hv, ?_, ?_⟩, hq⟩
      · rw [hsV v hv]; exact h2
      · rw [an_ u v (.inl (by omega))]
        rcases Nat.lt_or_ge (ack u v) k with h3 | h3
        · exact h3
        · exact absurd ⟨v, hv, h3⟩ hx
  refine ⟨{
    ldn := fun t ht => ?_
    tm := fun v hv => ?_
    ldt := fun u h1 h2 => ?_
    ldl := fun v hv hdv => ?_
    gl := fun v hv => by rw [hsl]; exact (h.gl v hv).ext (Nat.le_succ _) fun u _ hu => hp u hu
    gL := fun u h1 h2 => ?_
    tL := fun u h1 h2 => ?_
    len := fun u h1 h2 => ?_
    mat := fun v hv hdv => ?_
    akL := fun u v hv h1 h2 => ?_
    akt := fun u v hv ha => ?_
    akl := fun v hv => ?_
    akd := fun u h1 h2 => ?_
    maj := fun u h1 h2 => ?_
    i1 := fun u t' k h1 h2 h3 h4 => ?_
    i2 := fun u v k h1 h2 h3 h4 h5 => ?_
    com := fun v hv => ?_
    net := fun m hm => (h.net m hm).ext (Nat.le_succ _) hl2 x }, x⟩
  · by_cases e : t = T
    · rw [e, hl1]; exact hi
    · rw [hl2 t (by omega)]; exact h.ldn t (by omega)
  · by_cases hv2 : v ∈ V
    · rw [hsV v hv2]; omega
    · rw [hsN v hv2]; have := h.tm v hv; omega
  · by_cases e : u = T
    · rw [e, hl1, hsV i hiV]; exact Nat.le_refl _
    · rw [hl2 u (by omega)]
      exact Nat.le_trans (h.ldt u h1 (by omega)) (st _ (h.ldn u (by omega)))
  · rw [hsl]
    by_cases hv2 : v ∈ V
    · rw [hsV v hv2] at hdv ⊢
      rw [hl1] at hdv
      rw [lt_, hdv]
    · rw [hsN v hv2] at hdv ⊢
      have := (h.tm v hv).2
      rw [hl2 _ this] at hdv
      rw [ln_ _ (by omega)]
      exact h.ldl v hv hdv
  · by_cases e : u = T
    · rw [e, lt_]; exact gi
    · rw [ln_ u e]; exact (h.gL u h1 (by omega)).ext (Nat.le_succ _) fun u _ hu => hp u hu
  · by_cases e : u = T
    · rw [e, lt_]; intro e1 he1; have := low e1 he1; omega
    · rw [ln_ u e]; exact h.tL u h1 (by omega)
  · by_cases e : u = T
    · rw [e, lt_]; exact ilen
    · rw [ln_ u e]; exact h.len u h1 (by omega)
  · by_cases hv2 : v ∈ V
    · rw [hsV v hv2, hl1] at hdv
      rw [← hdv, hsi]
      refine ⟨List.length_replicate .., fun j hj => ?_⟩
      have : (List.replicate n 0).getD j 0 = 0 := by simp [List.getD, hj]
      rw [this]; exact Nat.zero_le _
    · have hvi : v ≠ i := fun e => hv2 (by rw [e]; exact hiV)
      have := (h.tm v hv).2
      rw [hsN v hv2, hl2 _ this] at hdv
      rw [hsN v hv2, hsm v hvi]
      obtain ⟨m1, m2⟩ := h.mat v hv hdv
      exact ⟨m1, fun j hj => Nat.le_trans (m2 j hj) (hak _ j hj)⟩
  · by_cases e : u = T ∧ v = i
    · rw [e.1, e.2, at_, lt_]; exact Nat.le_refl _
    · rw [an_ u v (by by_cases e1 : u = T; exact .inr fun e2 => e ⟨e1, e2⟩; exact .inl e1)]
      by_cases e1 : u = T
      · rw [e1, a0 T v hv (Nat.le_refl _)]; exact Nat.zero_le _
      · rw [ln_ u e1]; exact h.akL u v hv h1 (by omega)
  · by_cases e : u = T ∧ v = i
    · rw [e.1, e.2, hsV i hiV]; exact Nat.le_refl _
    · rw [an_ u v (by by_cases e1 : u = T; exact .inr fun e2 => e ⟨e1, e2⟩; exact .inl e1)] at ha
      exact Nat.le_trans (h.akt u v hv ha) (st v hv)
  · rw [hsl]
    by_cases hv2 : v ∈ V
    · rw [hsV v hv2]
      by_cases e : v = i
      · rw [e, lt_]; exact List.take_prefix _ _
      · rw [an_ T v (.inr e), a0 T v hv (Nat.le_refl _)]; exact List.nil_prefix
    · have := (h.tm v hv).2
      rw [hsN v hv2, an_ _ v (.inl (by omega)), ln_ _ (by omega)]
      exact h.akl v hv
  · by_cases e : u = T
    · rw [e, hl1, at_, lt_]
    · rw [hl2 u (by omega), an_ u _ (.inl e), ln_ u e]; exact h.akd u h1 (by omega)
  · by_cases e : u = T
    · exact ⟨V, hV, fun v hv => ⟨hVn v hv, by show u ≤ (sv' v).term; rw [hsV v hv, e]; exact Nat.le_refl _⟩, hq⟩
    · exact (h.maj u h1 (by omega)).mono fun v hv hu => Nat.le_trans hu (st v hv)
  · have ho := own u k (by omega) h4
    rw [ln_ u (by omega)]
    by_cases e : t' = T
    · rw [e, lt_]; exact vote u k h1 (by omega) ho
    · rw [ln_ t' e]; exact (h.i1 u t' k h1 h2 (by omega) ho).imp id (hb u k (by omega))
  · rw [hsl]
    by_cases e : u = T
    · rw [e] at h4; exact absurd h4 (noOwn k)
    · rw [ln_ u e]
      rw [an_ u v (.inl e)] at h5
      exact (h.i2 u v k h1 (by omega) h3 (own u k e h4) h5).imp id (hb u k (by omega))
  · rw [hsl, hsc]
    exact (h.com v hv).ext (h.tm v hv).2 (st v hv) x.L hak fun _ _ _ _ _ _ _ g => g
end
end Go.Proofs.Ythhkekmeginooaa.Rp
