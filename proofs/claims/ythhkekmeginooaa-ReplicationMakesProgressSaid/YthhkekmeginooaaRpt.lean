/- Replication in plain words: Elect and New. -/
import Derived.Test.YthhkekmeginooaaRpr
namespace Go.Proofs.Ythhkekmeginooaa.Rp
set_option linter.unusedVariables false

def othS (i : Nat) (acc : List Nat) (v : Nat) : List Nat := if v = i ∨ v ∈ acc then acc else acc ++ [v]
/-- The voters besides i, each once. -/
def oth (i : Nat) (V : List Nat) : List Nat := V.foldl (othS i) []
theorem othS_ok {i n : Nat} {acc : List Nat} (h : acc.Nodup ∧ i ∉ acc ∧ ∀ v ∈ acc, v < n) (v : Nat) (hv : v < n) : (othS i acc v).Nodup ∧ i ∉ othS i acc v ∧ (∀ u ∈ othS i acc v, u < n) ∧ (othS i acc v).length ≤ acc.length + 1 := by
  unfold othS
  split
  · exact ⟨h.1, h.2.1, h.2.2, Nat.le_succ _⟩
  · rename_i hh
    refine ⟨List.nodup_append.2 ⟨h.1, (List.nodup_cons.2 ⟨List.not_mem_nil, List.nodup_nil⟩), fun a ha b hb e => ?_⟩, fun e => ?_, fun u hu => ?_, by rw [List.length_append, List.length_singleton]; exact Nat.le_refl _⟩
    · rw [List.mem_singleton] at hb
      exact hh (.inr (by rw [← hb, ← e]; exact ha))
    · rcases List.mem_append.1 e with e | e
      · exact h.2.1 e
      · exact hh (.inl (List.mem_singleton.1 e).symm)
    · rcases List.mem_append.1 hu with e | e
      · exact h.2.2 u e
      · rw [List.mem_singleton.1 e]; exact hv
theorem oth_go {i n : Nat} : ∀ (V acc : List Nat), (acc.Nodup ∧ i ∉ acc ∧ ∀ v ∈ acc, v < n) → (∀ v ∈ V, v < n) → (V.foldl (othS i) acc).Nodup ∧ i ∉ V.foldl (othS i) acc ∧ (∀ u ∈ V.foldl (othS i) acc, u < n) ∧ (V.foldl (othS i) acc).length ≤ acc.length + V.length
  | [], acc, h, _ => ⟨h.1, h.2.1, h.2.2, Nat.le_refl _⟩
  | v :: V, acc, h, hv => by
    obtain ⟨a1, a2, a3, a4⟩ := othS_ok h v (hv v (List.mem_cons_self ..))
    obtain ⟨b1, b2, b3, b4⟩ := oth_go V (othS i acc v) ⟨a1, a2, a3⟩ fun u hu => hv u (List.mem_cons_of_mem _ hu)
    exact ⟨b1, b2, b3, by rw [List.length_cons]; show (V.foldl (othS i) (othS i acc v)).length ≤ _; omega⟩
theorem oth_ok {i n : Nat} {V : List Nat} (hV : ∀ v ∈ V, v < n) : (oth i V).Nodup ∧ i ∉ oth i V ∧ (∀ u ∈ oth i V, u < n) ∧ (oth i V).length ≤ V.length := by
  have := oth_go (i := i) V [] ⟨List.nodup_nil, List.not_mem_nil, fun v hv => by cases hv⟩ hV
  exact ⟨this.1, this.2.1, this.2.2.1, by have := this.2.2.2; rw [List.length_nil, Nat.zero_add] at this; exact this⟩
def Clu.elt (T : Nat) (C : Clu) (v : Nat) : Clu := C.put v { C.s v with term := T }
def Clu.elts (C : Clu) (T : Nat) (L : List Nat) : Clu := L.foldl (Clu.elt T) C
theorem elts_n : ∀ (L : List Nat) (C : Clu) (T : Nat), (C.elts T L).srv.length = C.srv.length ∧ (C.elts T L).lead = C.lead ∧ (C.elts T L).net = C.net
  | [], C, T => ⟨rfl, rfl, rfl⟩
  | v :: L, C, T => by
    obtain ⟨a1, a2, a3⟩ := elts_n L (Clu.elt T C v) T
    exact ⟨a1.trans (put_n ..), a2, a3⟩
theorem elts_s : ∀ (L : List Nat) (C : Clu) (T : Nat), (∀ v ∈ L, v < C.srv.length) → ∀ v, (C.elts T L).s v = if v ∈ L then { C.s v with term := T } else C.s v
  | [], C, T, _, v => by rw [if_neg List.not_mem_nil]; rfl
  | u :: L, C, T, hL, v => by
    have hu := hL u (List.mem_cons_self ..)
    have ih := elts_s L (Clu.elt T C u) T (fun x hx => by unfold Clu.elt; rw [put_n]; exact hL x (List.mem_cons_of_mem _ hx)) v
    show ((Clu.elt T C u).elts T L).s v = _
    rw [ih]
    unfold Clu.elt
    rw [put_s _ _ _ hu]
    by_cases e : v = u
    · subst e
      rw [upd_at, if_pos (List.mem_cons_self ..)]
      split <;> rfl
    · rw [upd_ne _ _ _ e]
      by_cases e2 : v ∈ L
      · rw [if_pos e2, if_pos (List.mem_cons_of_mem _ e2)]
      · rw [if_neg e2, if_neg (fun h => (List.mem_cons.1 h).elim e e2)]
/-- A won election. -/
def Clu.won (C : Clu) (i : Nat) (V : List Nat) : Clu :=
  let C1 : Clu := { C with lead := C.lead ++ [i] }
  let C2 := C1.elts C.lead.length (oth i V ++ [i])
  C2.put i { C2.s i with mat := List.replicate C.srv.length 0 }
def Clu.wins (C : Clu) (i : Nat) (V : List Nat) : Bool := (oth i V).all fun v => !newer (C.s v).log (C.s i).log
def Clu.electE (C : Clu) (i : Nat) (V : List Nat) : Int := if 2 * ((oth i V).length + 1) ≤ C.srv.length then 4 else if C.wins i V = true then (if 60 < C.lead.length then 18 else 0) else 21
def Clu.electC (C : Clu) (i : Nat) (V : List Nat) : Clu := if C.electE i V = 0 then C.won i V else C
theorem won_s (C : Clu) (i : Nat) (V : List Nat) (hi : i < C.srv.length) (hV : ∀ v ∈ V, v < C.srv.length) (v : Nat) :
    (C.won i V).s v = if v = i then { C.s i with term := C.lead.length, mat := List.replicate C.srv.length 0 } else if v ∈ oth i V then { C.s v with term := C.lead.length } else C.s v := by
  obtain ⟨o1, o2, o3, o4⟩ := oth_ok (i := i) hV
  have hL : ∀ v ∈ oth i V ++ [i], v < ({ C with lead := C.lead ++ [i] } : Clu).srv.length := fun v hv => by
    rcases List.mem_append.1 hv with e | e
    · exact o3 v e
    · rw [List.mem_singleton.1 e]; exact hi
  have hs := elts_s (oth i V ++ [i]) ({ C with lead := C.lead ++ [i] } : Clu) C.lead.length hL
  have hn := (elts_n (oth i V ++ [i]) ({ C with lead := C.lead ++ [i] } : Clu) C.lead.length).1
  unfold Clu.won
  show (Clu.put _ _ _).s v = _
  rw [put_s _ _ _ (by rw [hn]; exact hi)]
  by_cases e : v = i
  · subst e
    rw [upd_at, if_pos rfl, hs, if_pos (List.mem_append_right _ (List.mem_singleton.2 rfl))]
    rfl
  · rw [upd_ne _ _ _ e, if_neg e, hs]
    by_cases e2 : v ∈ oth i V
    · rw [if_pos e2, if_pos (List.mem_append_left _ e2)]; rfl
    · rw [if_neg e2, if_neg (fun h => (List.mem_append.1 h).elim e2 fun h => e (List.mem_singleton.1 h))]; rfl
theorem newer_no {a b : Lg} (h : newer a b = false) : lastT a < lastT b ∨ (lastT a = lastT b ∧ a.length ≤ b.length) := by
  unfold newer at h
  split at h
  · rename_i e
    have := of_decide_eq_false h
    exact .inr ⟨e, by omega⟩
  · rename_i e
    have := of_decide_eq_false h
    exact .inl (by omega)
section
variable {C : Clu} {LL : Nat → Lg} {ack : Nat → Nat → Nat}
theorem Ok.won (h : Ok C LL ack) (i : Nat) (hi : i < C.srv.length) (V : List Nat) (hV : ∀ v ∈ V, v < C.srv.length) (h0 : C.electE i V = 0) : ∃ ack', Nx C LL ack (C.won i V) (updL LL C.lead.length (C.s i).log) ack' ∧ (C.won i V).lead = C.lead ++ [i] := by
  obtain ⟨o1, o2, o3, o4⟩ := oth_ok (i := i) hV
  have hq : C.srv.length < 2 * ((oth i V).length + 1) ∧ C.wins i V = true ∧ C.lead.length ≤ 60 := by
    unfold Clu.electE at h0
    split at h0
    · cases h0
    · split at h0
      · split at h0
        · cases h0
        · exact ⟨by omega, by assumption, by omega⟩
      · cases h0
  have hs := won_s C i V hi hV
  have hn : (C.won i V).srv.length = C.srv.length := (put_n ..).trans (elts_n _ _ _).1
  have hl : (C.won i V).lead = C.lead ++ [i] := (elts_n (oth i V ++ [i]) ({ C with lead := C.lead ++ [i] } : Clu) C.lead.length).2.1
  have hnet : (C.won i V).net = C.net := (elts_n (oth i V ++ [i]) ({ C with lead := C.lead ++ [i] } : Clu) C.lead.length).2.2
  have hw := List.all_eq_true.1 hq.2.1
  obtain ⟨a1, a2⟩ := h.inv.elect i hi (by have := h.t2; omega) (i :: oth i V) (List.nodup_cons.2 ⟨o2, o1⟩) (fun v hv => (List.mem_cons.1 hv).elim (fun e => by rw [e]; exact hi) (o3 v)) (List.mem_cons_self ..) (by rw [List.length_cons]; exact hq.1)
    (fun v hv hne => newer_no (by have := hw v ((List.mem_cons.1 hv).resolve_left hne); simpa using this))
    (C.won i V).s (fun v hv => by
      rw [hs]
      by_cases e : v = i
      · rw [if_pos e]
      · rw [if_neg e, if_pos ((List.mem_cons.1 hv).resolve_left e)]) (fun v hv => by rw [hs, if_neg (fun e => hv (by rw [e]; exact List.mem_cons_self ..)), if_neg (fun e => hv (List.mem_cons_of_mem _ e))])
    (fun v => by
      rw [hs]
      split
      · rename_i e; rw [e]
      · split <;> rfl) (fun v => by
      rw [hs]
      split
      · rename_i e; rw [e]
      · split <;> rfl) (fun v hne => by
      rw [hs, if_neg hne]
      split <;> rfl) (by rw [hs, if_pos rfl])
    (C.won i V).ld (by unfold Clu.ld; rw [hl]; simp [List.getD]) (fun t ht => by unfold Clu.ld; rw [hl]; simp only [List.getD]; rw [List.getElem?_append_left ht])
  refine ⟨_, ⟨⟨?_, ?_, ?_, ?_, ?_, ?_⟩, a2, hn, ?_, fun v => ?_⟩, hl⟩
  · rw [hn, hl, hnet, List.length_append, List.length_singleton]; exact a1
  · rw [hn]; exact h.n1
  · rw [hn]; exact h.n5
  · rw [hl, List.length_append, List.length_singleton]; have := h.t2; omega
  · rw [hl, List.length_append, List.length_singleton]; omega
  · rw [hnet]; exact h.net
  · rw [hl, List.length_append]; exact Nat.le_add_right ..
  · rw [hs]
    split
    · rename_i e; rw [e]; exact Nat.le_refl _
    · split <;> exact Nat.le_refl _
theorem Ok.elect (h : Ok C LL ack) (i : Nat) (hi : i < C.srv.length) (V : List Nat) (hV : ∀ v ∈ V, v < C.srv.length) : ∃ LL' ack', Nx C LL ack (C.electC i V) LL' ack' := by
  unfold Clu.electC
  split
  · obtain ⟨ack', h1, _⟩ := h.won i hi V hV (by assumption)
    exact ⟨_, _, h1⟩
  · exact ⟨_, _, h.refl⟩
end
/-! ### A new cluster -/
def newC (n : Nat) : Clu := ⟨⟨1, 0, [], List.replicate n 0⟩ :: List.replicate (n - 1) ⟨1, 0, [], []⟩, [0, 0], []⟩
theorem newC_n {n : Nat} (h : 1 ≤ n) : (newC n).srv.length = n := by
  show (_ :: List.replicate (n - 1) _).length = n
  rw [List.length_cons, List.length_replicate]; omega
theorem newC_s {n v : Nat} (h : v < n) : (newC n).s v = ⟨1, 0, [], if v = 0 then List.replicate n 0 else []⟩ := by
  unfold Clu.s newC
  simp only [List.getD]
  cases v with
  | zero => rfl
  | succ v =>
    rw [List.getElem?_cons_succ, List.getElem?_replicate, if_pos (by omega), if_neg (by omega)]
    rfl
theorem newC_ld (n t : Nat) : (newC n).ld t = 0 := by
  unfold Clu.ld newC
  simp only [List.getD]
  match t with
  | 0 => rfl
  | 1 => rfl
  | t + 2 => rfl
theorem newC_ok (n : Nat) (h1 : 1 ≤ n) (h5 : n ≤ 5) : Ok (newC n) (fun _ => []) (fun _ _ => 0) := by
  have hn := newC_n h1
  have ho : ∀ t k, ¬ Own (fun _ => []) t k := fun t k h => by
    have := h.le
    have := h.1
    simp at *
    omega
  refine ⟨?_, by rw [hn]; exact h1, by rw [hn]; exact h5, Nat.le_refl _, by show 2 ≤ 61; decide, Nat.zero_le _⟩
  rw [hn]
  exact {
    ldn := fun t ht => by rw [newC_ld]; omega
    tm := fun v hv => by rw [newC_s hv]; exact ⟨Nat.le_refl _, by show 1 < 2; decide⟩
    ldt := fun t h1' h2 => by
      rw [newC_ld, newC_s (by omega)]
      have : t < 2 := h2
      show t ≤ 1
      omega
    ldl := fun v hv _ => by rw [newC_s hv]
    gl := fun v hv k e he => by rw [newC_s hv] at he; simp at he
    gL := fun t _ _ k e he => by simp at he
    tL := fun t _ _ e he => by cases he
    len := fun t _ _ => Nat.zero_le _
    mat := fun v hv hd => by
      rw [newC_ld] at hd
      subst hd
      rw [newC_s hv]
      refine ⟨List.length_replicate, fun j hj => ?_⟩
      show (List.replicate n 0).getD j 0 ≤ 0
      simp [List.getD, hj]
    akL := fun _ _ _ _ _ => Nat.zero_le _
    akt := fun _ _ _ h => by omega
    akl := fun v hv => by simp
    akd := fun _ _ _ => rfl
    maj := fun t h1' h2 => ⟨List.range n, List.nodup_range, fun v hv => ⟨List.mem_range.1 hv, by
      show t ≤ ((newC n).s v).term
      rw [newC_s (List.mem_range.1 hv)]
      have : t < 2 := h2
      show t ≤ 1
      omega⟩, by rw [List.length_range]; omega⟩
    i1 := fun t t' k _ _ _ h => (ho t k h).elim
    i2 := fun t v k _ _ _ h => (ho t k h).elim
    com := fun v hv => by rw [newC_s hv]; exact .inl rfl
    net := fun m hm => by cases hm }
end Go.Proofs.Ythhkekmeginooaa.Rp
