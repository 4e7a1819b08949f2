/- Replication: how the cluster lies in memory. -/
import Derived.Test.YthhkekmeginooaaRpc
import Derived.Test.YthhkekmeginooaaEl
import Derived.Test.YthhkekmeginooaaSl
namespace Go.Proofs.Ythhkekmeginooaa.Rp
open Go Go.RowKit Hp
set_option linter.unusedVariables false

/-! ### Rows of records of k cells -/
section
variable {α : Type} {k : Nat} {f : α → List Value}
theorem fm_len (hk : ∀ a, (f a).length = k) (l : List α) : (l.flatMap f).length = l.length * k := by
  induction l with
  | nil => simp
  | cons a l ih => rw [List.flatMap_cons, List.length_append, ih, hk, List.length_cons, Nat.add_mul, Nat.one_mul, Nat.add_comm]
theorem fm_take (hk : ∀ a, (f a).length = k) (l : List α) (i : Nat) : (l.flatMap f).take (i * k) = (l.take i).flatMap f := by
  induction l generalizing i with
  | nil => simp
  | cons a l ih => cases i with
    | zero => simp
    | succ i => rw [List.take_succ_cons, List.flatMap_cons, List.flatMap_cons, Nat.add_mul, Nat.one_mul, Nat.add_comm, ← hk a, List.take_length_add_append, hk a, ih]
theorem fm_drop (hk : ∀ a, (f a).length = k) (l : List α) (i : Nat) : (l.flatMap f).drop (i * k) = (l.drop i).flatMap f := by
  induction l generalizing i with
  | nil => simp
  | cons a l ih => cases i with
    | zero => simp
    | succ i => rw [List.drop_succ_cons, List.flatMap_cons, Nat.add_mul, Nat.one_mul, Nat.add_comm, ← hk a, List.drop_length_add_append, hk a, ih]
theorem fm_get (hk : ∀ a, (f a).length = k) (l : List α) (i j : Nat) (h : i < l.length) (hj : j < k) : (l.flatMap f)[i * k + j]? = (f l[i])[j]? := by
  induction l generalizing i with
  | nil => simp at h
  | cons a l ih => cases i with
    | zero => rw [List.flatMap_cons, Nat.zero_mul, Nat.zero_add, List.getElem?_append_left (by rw [hk]; exact hj)]; rfl
    | succ i =>
      rw [List.flatMap_cons, List.getElem?_append_right (by rw [hk, Nat.add_mul]; omega), hk, show (i + 1) * k + j - k = i * k + j by rw [Nat.add_mul]; omega, ih i (by simpa using h)]
      rfl
theorem fm_set (hk : ∀ a, (f a).length = k) (l : List α) (i j : Nat) (h : i < l.length) (hj : j < k) (u : Value) (a : α) (ha : f a = (f l[i]).set j u) : (l.flatMap f).set (i * k + j) u = (l.set i a).flatMap f := by
  induction l generalizing i with
  | nil => simp at h
  | cons b l ih => cases i with
    | zero => rw [List.flatMap_cons, Nat.zero_mul, Nat.zero_add, List.set_append_left _ _ (by rw [hk]; exact hj), List.set_cons_zero, List.flatMap_cons, ha]; rfl
    | succ i =>
      rw [List.flatMap_cons, List.set_append_right _ _ (by rw [hk, Nat.add_mul]; omega), hk, show (i + 1) * k + j - k = i * k + j by rw [Nat.add_mul]; omega, ih i (by simpa using h) (by simpa using ha), List.set_cons_succ, List.flatMap_cons]
theorem fm_same (l : List α) (i : Nat) (h : i < l.length) (a : α) (ha : f a = f l[i]) : (l.set i a).flatMap f = l.flatMap f := by
  induction l generalizing i with
  | nil => simp at h
  | cons b l ih => cases i with
    | zero => rw [List.set_cons_zero, List.flatMap_cons, List.flatMap_cons, ha]; rfl
    | succ i => rw [List.set_cons_succ, List.flatMap_cons, List.flatMap_cons, ih i (by simpa using h) (by simpa using ha)]
theorem fm_one (h1 : ∀ a, ∀ u ∈ f a, u.oneCell' = true) (l : List α) : ∀ u ∈ l.flatMap f, u.oneCell' = true := fun u hu => by
  obtain ⟨a, _, ha⟩ := List.mem_flatMap.1 hu
  exact h1 a u ha
end

structure MS where
  term : Nat
  com : Nat
  lv : Value
  log : Lg
  mv : Value
  mat : List Nat
structure MM where
  kind : Nat
  frm : Nat
  to : Nat
  term : Nat
  idx : Nat
  prev : Nat
  com : Nat
  ev : Value
  ents : Lg
abbrev nv (n : Nat) : Value := .int .i64 ((n : Nat) : Int)
def enC1 (e : Ent) : List Value := [nv e.term, .string e.pay]
def enC (l : Lg) : List Value := l.flatMap enC1
def icN (l : List Nat) : List Value := l.map nv
def msC1 (s : MS) : List Value := [nv s.term, nv s.com, s.lv, s.mv]
def msC (l : List MS) : List Value := l.flatMap msC1
def mmC1 (m : MM) : List Value := [nv m.kind, nv m.frm, nv m.to, nv m.term, nv m.idx, nv m.prev, nv m.com, m.ev]
def mmC (l : List MM) : List Value := l.flatMap mmC1
def erS (s : MS) : Srv := ⟨s.term, s.com, s.log, s.mat⟩
def erM (m : MM) : Msg := ⟨m.kind, m.frm, m.to, m.term, m.idx, m.prev, m.com, m.ents⟩
theorem enC_len (l : Lg) : (enC l).length = l.length * 2 := fm_len (k := 2) (fun _ => rfl) l
theorem enC_one (l : Lg) : ∀ u ∈ enC l, u.oneCell' = true := fm_one (fun a u hu => by simp [enC1] at hu; rcases hu with rfl | rfl <;> rfl) l
theorem enC_take (l : Lg) (i : Nat) : (enC l).take (i * 2) = enC (l.take i) := fm_take (k := 2) (fun _ => rfl) l i
theorem enC_drop (l : Lg) (i : Nat) : (enC l).drop (i * 2) = enC (l.drop i) := fm_drop (k := 2) (fun _ => rfl) l i
theorem enC_get (l : Lg) (i : Nat) (h : i < l.length) : (enC l)[i * 2]? = some (nv l[i].term) ∧ (enC l)[i * 2 + 1]? = some (.string l[i].pay) :=
  ⟨(fm_get (k := 2) (f := enC1) (fun _ => rfl) l i 0 h (by decide)).trans rfl, (fm_get (k := 2) (f := enC1) (fun _ => rfl) l i 1 h (by decide)).trans rfl⟩
theorem enC_app (a b : Lg) : enC (a ++ b) = enC a ++ enC b := List.flatMap_append
theorem icN_len (l : List Nat) : (icN l).length = l.length := List.length_map ..
theorem icN_get (l : List Nat) (i : Nat) (h : i < l.length) : (icN l)[i]? = some (nv l[i]) := by simp [icN, h]
theorem icN_one (l : List Nat) : ∀ u ∈ icN l, u.oneCell' = true := fun u hu => by
  obtain ⟨x, _, rfl⟩ := List.mem_map.1 hu
  rfl
theorem msC_len (l : List MS) : (msC l).length = l.length * 4 := fm_len (k := 4) (fun _ => rfl) l
theorem mmC_len (l : List MM) : (mmC l).length = l.length * 8 := fm_len (k := 8) (fun _ => rfl) l
/-- The cluster at p. -/
structure CluP (w : World) (p : Nat) (C : Clu) (F : Nat → Prop) (sv lv nw : Value) (ss : List MS) (ms : List MM) : Prop where
  er : ss.map erS = C.srv
  em : ms.map erM = C.net
  lt : ∀ k, F k → k < w.heap.size
  fp : F p
  blk : Blk w p [sv, lv, nw] 51
  srv : w.ownsRow 0 53 4 sv ss.length (msC ss)
  srvF : ∀ k, sv.ownBlock = some k → F k
  lead : w.ownsRow 0 3 1 lv C.lead.length (icN C.lead)
  leadF : ∀ k, lv.ownBlock = some k → F k
  net : w.ownsRow 0 59 8 nw ms.length (mmC ms)
  netF : ∀ k, nw.ownBlock = some k → F k
  logs : ∀ s ∈ ss, w.ownsRow 0 44 2 s.lv s.log.length (enC s.log)
  logF : ∀ s ∈ ss, ∀ k, s.lv.ownBlock = some k → F k
  logd : ∀ i j (hi : i < ss.length) (hj : j < ss.length), i ≠ j → ∀ k, ss[i].lv.ownBlock = some k → ss[j].lv.ownBlock ≠ some k
  mats : ∀ s ∈ ss, w.ownsRow 0 3 1 s.mv s.mat.length (icN s.mat)
  matF : ∀ s ∈ ss, ∀ k, s.mv.ownBlock = some k → F k
  matd : ∀ i j (hi : i < ss.length) (hj : j < ss.length), i ≠ j → ∀ k, ss[i].mv.ownBlock = some k → ss[j].mv.ownBlock ≠ some k
  matl : ∀ s ∈ ss, ∀ k, s.mv.ownBlock = some k → lv.ownBlock ≠ some k
  ents : ∀ m ∈ ms, w.ownsRow 0 44 2 m.ev m.ents.length (enC m.ents)
  entF : ∀ m ∈ ms, ∀ k, m.ev.ownBlock = some k → F k
  entl : ∀ m ∈ ms, ∀ k, m.ev.ownBlock = some k → ∀ s ∈ ss, s.lv.ownBlock ≠ some k
def CluR (w : World) (p : Nat) (C : Clu) (F : Nat → Prop) : Prop := ∃ sv lv nw ss ms, CluP w p C F sv lv nw ss ms
def CluPost (p : Nat) (C : Clu) (F : Nat → Prop) (w w' : World) : Prop := CluR w' p C (Fx F w w') ∧ Chg F w w'
theorem fx_lt {w w' : World} {F : Nat → Prop} (h : ∀ k, F k → k < w.heap.size) (hs : w.heap.size ≤ w'.heap.size) : ∀ k, Fx F w w' k → k < w'.heap.size := fun k hk => hk.elim (fun e => Nat.lt_of_lt_of_le (h k e) hs) fun e => e.2
section
variable {w w' w1 w2 : World} {p : Nat} {C C1 C2 : Clu} {F F' : Nat → Prop} {sv lv nw : Value} {ss : List MS} {ms : List MM}
theorem CluP.mono (h : CluP w p C F sv lv nw ss ms) (hF : ∀ k, F k → F' k) (hl : ∀ k, F' k → k < w.heap.size) : CluP w p C F' sv lv nw ss ms :=
  { h with lt := hl, fp := hF p h.fp, srvF := fun k hk => hF k (h.srvF k hk), leadF := fun k hk => hF k (h.leadF k hk), netF := fun k hk => hF k (h.netF k hk), logF := fun s hs k hk => hF k (h.logF s hs k hk), matF := fun s hs k hk => hF k (h.matF s hs k hk), entF := fun m hm k hk => hF k (h.entF m hm k hk) }
theorem CluP.chg {S : Nat → Prop} (h : CluP w p C F sv lv nw ss ms) (hc : Chg S w w') (hS : ∀ k, F k → ¬ S k) : CluP w' p C F sv lv nw ss ms :=
  { h with lt := fun k hk => Nat.lt_of_lt_of_le (h.lt k hk) hc.size, blk := h.blk.chg hc (hS p h.fp), srv := own_chg h.srv hc fun k hk => hS k (h.srvF k hk), lead := own_chg h.lead hc fun k hk => hS k (h.leadF k hk), net := own_chg h.net hc fun k hk => hS k (h.netF k hk), logs := fun s hs => own_chg (h.logs s hs) hc fun k hk => hS k (h.logF s hs k hk), mats := fun s hs => own_chg (h.mats s hs) hc fun k hk => hS k (h.matF s hs k hk), ents := fun m hm => own_chg (h.ents m hm) hc fun k hk => hS k (h.entF m hm k hk) }
theorem CluP.up (h : CluP w p C F sv lv nw ss ms) (hu : Up w w') : CluP w' p C F sv lv nw ss ms := h.chg (Below.chg (fun _ => False) hu) fun _ _ e => e
theorem CluR.up (h : CluR w p C F) (hu : Up w w') : CluR w' p C F := by obtain ⟨sv, lv, nw, ss, ms, h⟩ := h; exact ⟨sv, lv, nw, ss, ms, h.up hu⟩
theorem CluR.lt (h : CluR w p C F) : ∀ k, F k → k < w.heap.size := by obtain ⟨sv, lv, nw, ss, ms, h⟩ := h; exact h.lt
theorem CluR.chg {S : Nat → Prop} (h : CluR w p C F) (hc : Chg S w w') (hS : ∀ k, F k → ¬ S k) : CluR w' p C F := by obtain ⟨sv, lv, nw, ss, ms, h⟩ := h; exact ⟨sv, lv, nw, ss, ms, h.chg hc hS⟩
theorem CluR.mono (h : CluR w p C F) (hF : ∀ k, F k → F' k) (hl : ∀ k, F' k → k < w.heap.size) : CluR w p C F' := by obtain ⟨sv, lv, nw, ss, ms, h⟩ := h; exact ⟨sv, lv, nw, ss, ms, h.mono hF hl⟩
theorem CluR.self (h : CluR w p C F) : CluPost p C F w w := ⟨h.mono (fun k hk => .inl hk) (fx_lt h.lt (Nat.le_refl _)), Chg.refl F w⟩
theorem CluPost.trans (h1 : CluPost p C1 F w w1) (h2 : CluPost p C2 (Fx F w w1) w1 w2) (hl : ∀ k, F k → k < w.heap.size) : CluPost p C2 F w w2 := by
  have z1 := h1.2.size
  have z2 := h2.2.size
  refine ⟨h2.1.mono (fun k hk => ?_) (fx_lt hl (Nat.le_trans z1 z2)), h1.2.trans h2.2 fun k hk e => ?_⟩
  · rcases hk with (e | e) | e
    · exact .inl e
    · exact .inr ⟨e.1, by omega⟩
    · exact .inr ⟨by omega, e.2⟩
  · rcases e with e | e
    · exact e
    · omega
theorem CluPost.up (h1 : CluPost p C F w w1) (hu : Up w1 w2) (hl : ∀ k, F k → k < w.heap.size) : CluPost p C F w w2 := by
  have z1 := hu.size
  refine ⟨(h1.1.up hu).mono (fun k hk => hk.imp id fun e => ⟨e.1, by omega⟩) (fx_lt hl (Nat.le_trans h1.2.size hu.size)), h1.2.trans (Below.chg F hu) fun _ _ e => e⟩
theorem CluPost.behind (hu : Up w w1) (h : CluPost p C F w1 w2) (hl : ∀ k, F k → k < w.heap.size) : CluPost p C F w w2 := by
  have z1 := hu.size
  have z2 := h.2.size
  refine ⟨h.1.mono (fun k hk => ?_) (fx_lt hl (Nat.le_trans z1 z2)), (Below.chg F hu).trans h.2 fun k hk e => e⟩
  rcases hk with e | e
  · exact .inl e
  · exact .inr ⟨by omega, e.2⟩
theorem CluP.slen (h : CluP w p C F sv lv nw ss ms) : ss.length = C.srv.length := by rw [← h.er, List.length_map]
theorem CluP.mlen (h : CluP w p C F sv lv nw ss ms) : ms.length = C.net.length := by rw [← h.em, List.length_map]
/-- The server's four cells. -/
theorem CluP.cells (h : CluP w p C F sv lv nw ss ms) (i : Nat) (hi : i < ss.length) : ∃ g c, sv = .slice (some ⟨g, 0, none⟩) ss.length c ∧ ss.length ≤ c ∧ g < w.heap.size ∧ w.cell? ⟨g, i * 4, none⟩ = some (nv ss[i].term) ∧ w.cell? ⟨g, i * 4 + 1, none⟩ = some (nv ss[i].com) ∧ w.cell? ⟨g, i * 4 + 2, none⟩ = some ss[i].lv ∧ w.cell? ⟨g, i * 4 + 3, none⟩ = some ss[i].mv ∧ ∀ j, w.frozen? ⟨g, j, none⟩ = false := by
  obtain ⟨g, c, hv, h1, h2, h3, h4, h5⟩ := own_some h.srv (by omega)
  have hg := fun j (hj : j < 4) => fm_get (k := 4) (f := msC1) (fun _ => rfl) ss i j hi hj
  exact ⟨g, c, hv, h1, h3, h4 _ _ ((hg 0 (by decide)).trans rfl), h4 _ _ ((hg 1 (by decide)).trans rfl), h4 _ _ ((hg 2 (by decide)).trans rfl), h4 _ _ ((hg 3 (by decide)).trans rfl), h5⟩
theorem CluP.s (h : CluP w p C F sv lv nw ss ms) (i : Nat) (hi : i < ss.length) : C.s i = erS ss[i] := by
  unfold Clu.s
  rw [← h.er]
  simp [List.getD, hi]
end
end Go.Proofs.Ythhkekmeginooaa.Rp
