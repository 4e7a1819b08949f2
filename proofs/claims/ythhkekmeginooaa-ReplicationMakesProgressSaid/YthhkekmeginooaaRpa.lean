/- Replication in plain words: the safety of the log. -/
import Derived.Test.YthhkekmeginooaaRows
namespace Go.Proofs.Ythhkekmeginooaa.Rp
set_option linter.unusedVariables false

structure Ent where
  term : Nat
  pay : ByteArray
deriving DecidableEq
abbrev Lg := List Ent
structure Srv where
  term : Nat
  com : Nat
  log : Lg
  mat : List Nat
structure Msg where
  kind : Nat
  frm : Nat
  to : Nat
  term : Nat
  idx : Nat
  prev : Nat
  com : Nat
  ents : Lg

/-! ### Majorities -/
theorem nodup_len : ∀ (n : Nat) (V : List Nat), V.Nodup → (∀ v ∈ V, v < n) → V.length ≤ n
  | 0, V, _, h => by
    cases V with
    | nil => exact Nat.le_refl _
    | cons a V => have := h a (List.mem_cons_self ..); omega
  | n + 1, V, hn, h => by
    have h1 := nodup_len n (V.erase n) (hn.erase n) fun v hv => by
      have := h v (List.mem_of_mem_erase hv)
      have : v ≠ n := fun e => by subst e; exact (List.Nodup.not_mem_erase hn) hv
      omega
    have : V.length ≤ (V.erase n).length + 1 := by rw [List.length_erase]; split <;> omega
    omega
def Maj (n : Nat) (p : Nat → Prop) : Prop := ∃ V : List Nat, V.Nodup ∧ (∀ v ∈ V, v < n ∧ p v) ∧ n < 2 * V.length
theorem Maj.meet {n : Nat} {p q : Nat → Prop} (h1 : Maj n p) (h2 : Maj n q) : ∃ v, v < n ∧ p v ∧ q v := by
  obtain ⟨V, a1, a2, a3⟩ := h1
  obtain ⟨W, b1, b2, b3⟩ := h2
  by_cases h : ∃ v, v ∈ V ∧ v ∈ W
  · obtain ⟨v, hv, hw⟩ := h
    exact ⟨v, (a2 v hv).1, (a2 v hv).2, (b2 v hw).2⟩
  · have := nodup_len n (V ++ W) (List.nodup_append.2 ⟨a1, b1, fun a ha b hb e => h ⟨a, ha, by rw [e]; exact hb⟩⟩) fun v hv => (List.mem_append.1 hv).elim (fun h => (a2 v h).1) fun h => (b2 v h).1
    rw [List.length_append] at this
    omega
theorem Maj.mono {n : Nat} {p q : Nat → Prop} (h : Maj n p) (hpq : ∀ v, v < n → p v → q v) : Maj n q := by
  obtain ⟨V, a1, a2, a3⟩ := h
  exact ⟨V, a1, fun v hv => ⟨(a2 v hv).1, hpq v (a2 v hv).1 (a2 v hv).2⟩, a3⟩

/-! ### What is told of logs -/
def Good (T : Nat) (LL : Nat → Lg) (l : Lg) : Prop := ∀ k e, l[k]? = some e → 1 ≤ e.term ∧ e.term < T ∧ l.take (k + 1) <+: LL e.term
def Own (LL : Nat → Lg) (t k : Nat) : Prop := 1 ≤ k ∧ ∃ e, (LL t)[k - 1]? = some e ∧ e.term = t
def Blocked (n : Nat) (sv : Nat → Srv) (ack : Nat → Nat → Nat) (t k : Nat) : Prop := Maj n fun v => t < (sv v).term ∧ ack t v < k
def Quor (n : Nat) (ack : Nat → Nat → Nat) (t k : Nat) : Prop := Maj n fun v => k ≤ ack t v
/-- The first c entries of a log are committed, by a quorum of a term up to t. -/
def ComOk (n : Nat) (LL : Nat → Lg) (ack : Nat → Nat → Nat) (t c : Nat) (log : Lg) : Prop :=
  c = 0 ∨ ∃ t0 k0, 1 ≤ t0 ∧ t0 ≤ t ∧ c ≤ k0 ∧ Own LL t0 k0 ∧ Quor n ack t0 k0 ∧ (LL t0).take c <+: log
structure MOk (n T : Nat) (lead : Nat → Nat) (LL : Nat → Lg) (ack : Nat → Nat → Nat) (m : Msg) : Prop where
  frm : m.frm < n
  to : m.to < n
  ne : m.frm ≠ m.to
  t1 : 1 ≤ m.term
  tT : m.term < T
  knd : (m.kind = 1 ∧ lead m.term = m.frm ∧ m.idx + m.ents.length ≤ (LL m.term).length ∧ m.ents = ((LL m.term).drop m.idx).take m.ents.length ∧ (m.prev = if m.idx = 0 then 0 else ((LL m.term)[m.idx - 1]?.map Ent.term).getD 0) ∧ m.idx ≤ ack m.term m.to ∧ ComOk n LL ack m.term m.com (LL m.term)) ∨
    (m.kind = 2 ∧ m.idx ≤ ack m.term m.frm)
structure Inv (n T : Nat) (lead : Nat → Nat) (sv : Nat → Srv) (net : List Msg) (LL : Nat → Lg) (ack : Nat → Nat → Nat) : Prop where
  ldn : ∀ t, t < T → lead t < n
  tm : ∀ v, v < n → 1 ≤ (sv v).term ∧ (sv v).term < T
  ldt : ∀ t, 1 ≤ t → t < T → t ≤ (sv (lead t)).term
  ldl : ∀ v, v < n → lead (sv v).term = v → (sv v).log = LL (sv v).term
  gl : ∀ v, v < n → Good T LL (sv v).log
  gL : ∀ t, 1 ≤ t → t < T → Good T LL (LL t)
  tL : ∀ t, 1 ≤ t → t < T → ∀ e ∈ LL t, e.term ≤ t
  len : ∀ t, 1 ≤ t → t < T → (LL t).length ≤ 60
  mat : ∀ v, v < n → lead (sv v).term = v → (sv v).mat.length = n ∧ ∀ j, j < n → (sv v).mat.getD j 0 ≤ ack (sv v).term j
  akL : ∀ t v, v < n → 1 ≤ t → t < T → ack t v ≤ (LL t).length
  akt : ∀ t v, v < n → 0 < ack t v → t ≤ (sv v).term
  akl : ∀ v, v < n → (LL (sv v).term).take (ack (sv v).term v) <+: (sv v).log
  akd : ∀ t, 1 ≤ t → t < T → ack t (lead t) = (LL t).length
  maj : ∀ t, 1 ≤ t → t < T → Maj n fun v => t ≤ (sv v).term
  i1 : ∀ t t' k, 1 ≤ t → t < t' → t' < T → Own LL t k → (LL t).take k <+: LL t' ∨ Blocked n sv ack t k
  i2 : ∀ t v k, 1 ≤ t → t < T → v < n → Own LL t k → k ≤ ack t v → (LL t).take k <+: (sv v).log ∨ Blocked n sv ack t k
  com : ∀ v, v < n → ComOk n LL ack (sv v).term (sv v).com (sv v).log
  net : ∀ m ∈ net, MOk n T lead LL ack m

/-! ### What stays -/
theorem pre_take {a b : Lg} (h : a <+: b) (k : Nat) (hk : k ≤ a.length) : b.take k = a.take k := by
  obtain ⟨c, rfl⟩ := h
  exact List.take_append_of_le_length hk
theorem take_pre_take (a : Lg) {i j : Nat} (h : i ≤ j) : a.take i <+: a.take j := by
  rw [show a.take i = (a.take j).take i by rw [List.take_take, Nat.min_eq_left h]]
  exact List.take_prefix _ _
theorem pre_get {a b : Lg} (h : a <+: b) {k : Nat} {e : Ent} (hk : a[k]? = some e) : b[k]? = some e := by
  obtain ⟨c, rfl⟩ := h
  have : k < a.length := by
    rcases Nat.lt_or_ge k a.length with h | h
    · exact h
    · rw [List.getElem?_eq_none h] at hk; cases hk
  rw [List.getElem?_append_left this]
  exact hk
theorem get_lt {a : Lg} {k : Nat} {e : Ent} (hk : a[k]? = some e) : k < a.length := by
  rcases Nat.lt_or_ge k a.length with h | h
  · exact h
  · rw [List.getElem?_eq_none h] at hk; cases hk
theorem Own.le {LL : Nat → Lg} {t k : Nat} (h : Own LL t k) : k ≤ (LL t).length := by
  obtain ⟨h1, e, h2, _⟩ := h
  have := get_lt h2
  omega
theorem Own.ext {LL LL' : Nat → Lg} {t k : Nat} (h : Own LL t k) (hp : LL t <+: LL' t) : Own LL' t k := by
  obtain ⟨h1, e, h2, h3⟩ := h
  exact ⟨h1, e, pre_get hp h2, h3⟩
theorem Own.back {LL LL' : Nat → Lg} {t k : Nat} (h : Own LL' t k) (hp : LL t <+: LL' t) (hk : k ≤ (LL t).length) : Own LL t k := by
  obtain ⟨h1, e, h2, h3⟩ := h
  refine ⟨h1, e, ?_, h3⟩
  obtain ⟨c, hc⟩ := hp
  rw [← hc, List.getElem?_append_left (by omega)] at h2
  exact h2
theorem Good.ext {T T' : Nat} {LL LL' : Nat → Lg} {l : Lg} (h : Good T LL l) (hT : T ≤ T') (hL : ∀ t, 1 ≤ t → t < T → LL t <+: LL' t) : Good T' LL' l := fun k e he => by
  obtain ⟨h1, h2, h3⟩ := h k e he
  exact ⟨h1, by omega, h3.trans (hL _ h1 h2)⟩
theorem Good.pre {T : Nat} {LL : Nat → Lg} {l a : Lg} (h : Good T LL l) (hp : a <+: l) : Good T LL a := fun k e he => by
  obtain ⟨h1, h2, h3⟩ := h k e (pre_get hp he)
  have := get_lt he
  rw [pre_take hp _ (by omega)] at h3
  exact ⟨h1, h2, h3⟩
/-- Log matching. -/
theorem Good.agree {T : Nat} {LL : Nat → Lg} {a b : Lg} (ha : Good T LL a) (hb : Good T LL b) {k : Nat} {x y : Ent} (hx : a[k]? = some x) (hy : b[k]? = some y) (ht : x.term = y.term) : a.take (k + 1) = b.take (k + 1) := by
  obtain ⟨_, _, h1⟩ := ha k x hx
  obtain ⟨_, _, h2⟩ := hb k y hy
  rw [ht] at h1
  have l1 := get_lt hx
  have l2 := get_lt hy
  have e1 : (a.take (k + 1)).length = k + 1 := by rw [List.length_take]; omega
  have e2 : (b.take (k + 1)).length = k + 1 := by rw [List.length_take]; omega
  exact (List.prefix_of_prefix_length_le h1 h2 (by omega)).eq_of_length (by omega)
theorem ComOk.ext {n T : Nat} {LL LL' : Nat → Lg} {ack ack' : Nat → Nat → Nat} {t t' c : Nat} {log log' : Lg} (h : ComOk n LL ack t c log) (hT : t < T) (ht : t ≤ t') (hL : ∀ t, 1 ≤ t → t < T → LL t <+: LL' t) (hA : ∀ t v, v < n → ack t v ≤ ack' t v)
    (hlog : ∀ t0 k0, 1 ≤ t0 → t0 ≤ t → c ≤ k0 → Own LL t0 k0 → Quor n ack t0 k0 → (LL t0).take c <+: log → (LL t0).take c <+: log') : ComOk n LL' ack' t' c log' := by
  rcases h with h | ⟨t0, k0, h0, h1, h2, h3, h4, h5⟩
  · exact .inl h
  · refine .inr ⟨t0, k0, h0, by omega, h2, h3.ext (hL _ h0 (by omega)), h4.mono fun v hv hk => Nat.le_trans hk (hA t0 v hv), ?_⟩
    rw [pre_take (hL _ h0 (by omega)) c (Nat.le_trans h2 h3.le)]
    exact hlog _ _ h0 h1 h2 h3 h4 h5
theorem ComOk.le {n : Nat} {LL : Nat → Lg} {ack : Nat → Nat → Nat} {t c : Nat} {log : Lg} (h : ComOk n LL ack t c log) : c ≤ log.length := by
  rcases h with h | ⟨t0, k0, h0, h1, h2, h3, h4, h5⟩
  · omega
  · have h6 := h3.le
    have := h5.length_le
    rw [List.length_take] at this
    omega
theorem Quor.free {n : Nat} {sv : Nat → Srv} {ack : Nat → Nat → Nat} {t k : Nat} (h : Quor n ack t k) : ¬ Blocked n sv ack t k := fun hb => by
  obtain ⟨v, _, h1, _, h2⟩ := Maj.meet h hb
  omega
theorem Blocked.ext {n : Nat} {sv sv' : Nat → Srv} {ack ack' : Nat → Nat → Nat} {t k : Nat} (h : Blocked n sv ack t k) (hs : ∀ v, v < n → (sv v).term ≤ (sv' v).term) (ha : ∀ v, v < n → t < (sv v).term → ack' t v = ack t v) : Blocked n sv' ack' t k :=
  h.mono fun v hv h => ⟨Nat.lt_of_lt_of_le h.1 (hs v hv), by rw [ha v hv h.1]; exact h.2⟩
section
variable {n T : Nat} {lead : Nat → Nat} {sv sv' : Nat → Srv} {net net' : List Msg} {LL : Nat → Lg} {ack : Nat → Nat → Nat}
theorem Inv.msgs (h : Inv n T lead sv net LL ack) (hn : ∀ m ∈ net', MOk n T lead LL ack m) : Inv n T lead sv net' LL ack := { h with net := hn }
theorem Inv.same (h : Inv n T lead sv net LL ack) (ht : ∀ v, (sv' v).term = (sv v).term) (hl : ∀ v, (sv' v).log = (sv v).log) (hm : ∀ v, v < n → lead (sv v).term = v → (sv' v).mat.length = n ∧ ∀ j, j < n → (sv' v).mat.getD j 0 ≤ ack (sv v).term j)
    (hc : ∀ v, v < n → ComOk n LL ack (sv v).term (sv' v).com (sv v).log) : Inv n T lead sv' net LL ack := by
  have hb : ∀ t k, Blocked n sv ack t k → Blocked n sv' ack t k := fun t k hb => hb.ext (fun v _ => by rw [ht]; exact Nat.le_refl _) fun _ _ _ => rfl
  exact {
    ldn := h.ldn
    tm := fun v hv => by rw [ht]; exact h.tm v hv
    ldt := fun t h1 h2 => by rw [ht]; exact h.ldt t h1 h2
    ldl := fun v hv hd => by rw [ht] at hd ⊢; rw [hl]; exact h.ldl v hv hd
    gl := fun v hv => by rw [hl]; exact h.gl v hv
    gL := h.gL
    tL := h.tL
    len := h.len
    mat := fun v hv hd => by rw [ht] at hd ⊢; exact hm v hv hd
    akL := h.akL
    akt := fun t v hv ha => by rw [ht]; exact h.akt t v hv ha
    akl := fun v hv => by rw [ht, hl]; exact h.akl v hv
    akd := h.akd
    maj := fun t h1 h2 => (h.maj t h1 h2).mono fun v _ hv => by rw [ht]; exact hv
    i1 := fun t t' k h1 h2 h3 h4 => (h.i1 t t' k h1 h2 h3 h4).imp id (hb t k)
    i2 := fun t v k h1 h2 h3 h4 h5 => by rw [hl]; exact (h.i2 t v k h1 h2 h3 h4 h5).imp id (hb t k)
    com := fun v hv => by rw [ht, hl]; exact hc v hv
    net := h.net }
/-- What a quorum holds lies in every later leader's log. -/
theorem Inv.held (h : Inv n T lead sv net LL ack) {t t' k : Nat} (h1 : 1 ≤ t) (h2 : t ≤ t') (h3 : t' < T) (ho : Own LL t k) (hq : Quor n ack t k) : (LL t).take k <+: LL t' := by
  rcases Nat.lt_or_ge t t' with h4 | h4
  · exact (h.i1 t t' k h1 h4 h3 ho).resolve_right hq.free
  · obtain rfl : t = t' := by omega
    exact List.take_prefix _ _
/-- Two committed prefixes agree. -/
theorem Inv.two (h : Inv n T lead sv net LL ack) {t1 t2 k1 k2 c1 c2 : Nat} (a1 : 1 ≤ t1) (a2 : t1 < T) (b1 : 1 ≤ t2) (b2 : t2 < T) (o1 : Own LL t1 k1) (o2 : Own LL t2 k2) (q1 : Quor n ack t1 k1) (q2 : Quor n ack t2 k2) (e1 : c1 ≤ k1) (e2 : c2 ≤ k2) (hc : c1 ≤ c2) : (LL t1).take c1 <+: (LL t2).take c2 := by
  have key : ∃ t, (LL t1).take c1 <+: LL t ∧ (LL t2).take c2 <+: LL t := by
    rcases Nat.le_total t1 t2 with h4 | h4
    · exact ⟨t2, (take_pre_take _ e1).trans (h.held a1 h4 b2 o1 q1), List.take_prefix _ _⟩
    · exact ⟨t1, List.take_prefix _ _, (take_pre_take _ e2).trans (h.held b1 h4 a2 o2 q2)⟩
  obtain ⟨t, g1, g2⟩ := key
  refine List.prefix_of_prefix_length_le g1 g2 ?_
  have := o1.le
  have := o2.le
  rw [List.length_take, List.length_take]
  omega
end

/-! ### Entries received -/
def recvL : Lg → Nat → Lg → Lg
  | l, _, [] => l
  | l, n, e :: es => recvL (if l[n]?.map Ent.term = some e.term then l else l.take n ++ [e]) (n + 1) es
theorem recv_spec {T : Nat} {LL : Nat → Lg} {L : Lg} (hL : Good T LL L) : ∀ (es l : Lg) (n : Nat), Good T LL l → l.take n = L.take n → n ≤ l.length → n + es.length ≤ L.length → es = (L.drop n).take es.length →
    (L.take (n + es.length) <+: l ∧ recvL l n es = l) ∨ (¬ L.take (n + es.length) <+: l ∧ recvL l n es = L.take (n + es.length))
  | [], l, n, _, h2, h3, h4, _ => .inl ⟨by rw [List.length_nil, Nat.add_zero, ← h2]; exact List.take_prefix _ _, rfl⟩
  | e :: es, l, n, h1, h2, h3, h4, h5 => by
    rw [List.length_cons] at h4 h5
    have hn : n < L.length := by omega
    have he : L[n]? = some e := by
      have := congrArg (fun x => x[0]?) h5
      simp only [List.getElem?_cons_zero] at this
      rw [List.getElem?_take_of_lt (by omega), List.getElem?_drop] at this
      exact this.symm
    have hes : es = (L.drop (n + 1)).take es.length := by
      have h6 : L.drop n = e :: L.drop (n + 1) := by
        rw [List.drop_eq_getElem_cons hn]
        rw [List.getElem?_eq_getElem hn] at he
        rw [Option.some.inj he]
      rw [h6, List.take_succ_cons] at h5
      exact (List.cons.inj h5).2
    have hT1 : L.take (n + 1) = L.take n ++ [e] := by rw [List.take_add_one, he]; rfl
    rw [List.length_cons, show n + (es.length + 1) = n + 1 + es.length by omega]
    unfold recvL
    by_cases hm : l[n]?.map Ent.term = some e.term
    · rw [if_pos hm]
      cases hx : l[n]? with
      | none => rw [hx] at hm; cases hm
      | some x =>
        rw [hx] at hm
        have hl := get_lt hx
        exact recv_spec hL es l (n + 1) h1 (h1.agree hL hx he (Option.some.inj hm)) (by omega) (by omega) hes
    · rw [if_neg hm, h2, ← hT1]
      have hlen : (L.take (n + 1)).length = n + 1 := by rw [List.length_take]; omega
      have key := recv_spec hL es (L.take (n + 1)) (n + 1) (hL.pre (List.take_prefix _ _)) (by rw [List.take_take, Nat.min_self]) (by omega) (by omega) hes
      refine .inr ⟨fun hp => hm ?_, ?_⟩
      · have : (L.take (n + 1 + es.length))[n]? = some e := by rw [List.getElem?_take_of_lt (by omega)]; exact he
        rw [pre_get hp this]; rfl
      · rcases key with ⟨k1, k2⟩ | ⟨_, k2⟩
        · rw [k2]
          have := k1.length_le
          rw [hlen, List.length_take] at this
          have : es.length = 0 := by omega
          rw [this, Nat.add_zero]
        · exact k2
end Go.Proofs.Ythhkekmeginooaa.Rp
