/- Replication: a server, the network, the leaders written anew. -/
import Derived.Test.YthhkekmeginooaaRpe
namespace Go.Proofs.Ythhkekmeginooaa.Rp
open Go Go.RowKit Hp
set_option linter.unusedVariables false

section
variable {w w' w1 w2 : World} {p : Nat} {C C1 C2 : Clu} {F F' : Nat → Prop} {sv lv nw : Value} {ss : List MS} {ms : List MM}
theorem CluP.neS (h : CluP w p C F sv lv nw ss ms) {k : Nat} (hk : sv.ownBlock = some k) {E : TypeId} (hE : 53 ≠ E) : ¬ Ty w k E := ((own_ty h.srv) k hk).1.ne hE
theorem CluP.pne (h : CluP w p C F sv lv nw ss ms) {E : TypeId} (hE : 51 ≠ E) : ¬ Ty w p E := (blk_ty h.blk).ne hE
/-- Server i written anew. -/
theorem CluP.serv {S : Nat → Prop} (h : CluP w p C F sv lv nw ss ms) (i : Nat) (hi : i < ss.length) (s' : MS) (hc : Chg S w w') (hS : ∀ k, k < w.heap.size → S k → sv.ownBlock = some k ∨ ss[i].lv.ownBlock = some k ∨ ss[i].mv.ownBlock = some k)
    (hrow : w'.ownsRow 0 53 4 sv ss.length (msC (ss.set i s'))) (hlog : w'.ownsRow 0 44 2 s'.lv s'.log.length (enC s'.log)) (hlF : ∀ k, s'.lv.ownBlock = some k → ss[i].lv.ownBlock = some k ∨ w.heap.size ≤ k)
    (hmat : w'.ownsRow 0 3 1 s'.mv s'.mat.length (icN s'.mat)) (hmF : ∀ k, s'.mv.ownBlock = some k → ss[i].mv.ownBlock = some k ∨ w.heap.size ≤ k) :
    CluP w' p (C.put i (erS s')) (Fx F w w') sv lv nw (ss.set i s') ms ∧ Chg F w w' := by
  have im := List.getElem_mem hi
  have tS : ∀ k, sv.ownBlock = some k → Ty w k 53 := fun k hk => ((own_ty h.srv) k hk).1
  have tL : ∀ s ∈ ss, ∀ k, s.lv.ownBlock = some k → Ty w k 44 := fun s hs k hk => ((own_ty (h.logs s hs)) k hk).1
  have tM : ∀ s ∈ ss, ∀ k, s.mv.ownBlock = some k → Ty w k 3 := fun s hs k hk => ((own_ty (h.mats s hs)) k hk).1
  have cS : ∀ k, S k → k < w.heap.size → Ty w k 53 ∨ ss[i].lv.ownBlock = some k ∨ ss[i].mv.ownBlock = some k := fun k hk hl => (hS k hl hk).imp (tS k) id
  have far : ∀ {k : Nat} {E : TypeId}, Ty w k E → E ≠ 53 → E ≠ 44 → E ≠ 3 → ¬ S k := fun ht h1 h2 h3 e => by
    rcases cS _ e ht.lt with g | g | g
    · exact ht.ne h1 g
    · exact ht.ne h2 (tL _ im _ g)
    · exact ht.ne h3 (tM _ im _ g)
  have farE : ∀ {k : Nat}, Ty w k 44 → ss[i].lv.ownBlock ≠ some k → ¬ S k := fun ht h1 e => by
    rcases cS _ e ht.lt with g | g | g
    · exact ht.ne (by decide) g
    · exact h1 g
    · exact ht.ne (by decide) (tM _ im _ g)
  have farI : ∀ {k : Nat}, Ty w k 3 → ss[i].mv.ownBlock ≠ some k → ¬ S k := fun ht h1 e => by
    rcases cS _ e ht.lt with g | g | g
    · exact ht.ne (by decide) g
    · exact ht.ne (by decide) (tL _ im _ g)
    · exact h1 g
  have hz := hc.size
  have nF : ∀ k, F k → Fx F w w' k := fun k hk => .inl hk
  have mem : ∀ s ∈ ss.set i s', s = s' ∨ ∃ j, ∃ hj : j < ss.length, j ≠ i ∧ s = ss[j] := fun s hs => by
    obtain ⟨j, hj, rfl⟩ := List.getElem_of_mem hs
    rw [List.getElem_set]
    rw [List.length_set] at hj
    by_cases e : i = j
    · rw [if_pos e]; exact .inl rfl
    · rw [if_neg e]; exact .inr ⟨j, hj, fun e' => e e'.symm, rfl⟩
  refine ⟨{
    er := by
      show (ss.set i s').map erS = C.srv.set i (erS s')
      rw [List.map_set, h.er]
    em := h.em
    lt := fx_lt h.lt hz
    fp := .inl h.fp
    blk := h.blk.chg hc (far (blk_ty h.blk) (by decide) (by decide) (by decide))
    srv := by rw [List.length_set]; exact hrow
    srvF := fun k hk => nF k (h.srvF k hk)
    lead := own_chg h.lead hc fun k hk => farI ((own_ty h.lead) k hk).1 fun e => h.matl _ im k e hk
    leadF := fun k hk => nF k (h.leadF k hk)
    net := own_chg h.net hc fun k hk => far ((own_ty h.net) k hk).1 (by decide) (by decide) (by decide)
    netF := fun k hk => nF k (h.netF k hk)
    logs := fun s hs => ?_
    logF := fun s hs k hk => ?_
    logd := fun a b ha hb hab k => ?_
    mats := fun s hs => ?_
    matF := fun s hs k hk => ?_
    matd := fun a b ha hb hab k => ?_
    matl := fun s hs k hk => ?_
    ents := fun m hm => own_chg (h.ents m hm) hc fun k hk => farE ((own_ty (h.ents m hm)) k hk).1 (h.entl m hm k hk _ im)
    entF := fun m hm k hk => nF k (h.entF m hm k hk)
    entl := fun m hm k hk s hs => ?_ }, hc.mono fun k hl hk => ?_⟩
  · rcases mem s hs with rfl | ⟨j, hj, hji, rfl⟩
    · exact hlog
    · have jm := List.getElem_mem hj
      exact own_chg (h.logs _ jm) hc fun k hk => farE (tL _ jm k hk) fun e => h.logd i j hi hj (fun e => hji e.symm) k e hk
  · rcases mem s hs with rfl | ⟨j, hj, hji, rfl⟩
    · rcases hlF k hk with e | e
      · exact nF k (h.logF _ im k e)
      · exact .inr ⟨e, own_lt hlog k hk⟩
    · exact nF k (h.logF _ (List.getElem_mem hj) k hk)
  · rw [List.length_set] at ha hb
    rw [List.getElem_set, List.getElem_set]
    by_cases ea : i = a
    · rw [if_pos ea, if_neg (fun e => hab (ea.symm.trans e))]
      intro hk e
      have hlt := own_lt (h.logs _ (List.getElem_mem hb)) k e
      rcases hlF k hk with g | g
      · exact h.logd i b hi hb (fun e => hab (ea.symm.trans e)) k g e
      · omega
    · rw [if_neg ea]
      by_cases eb : i = b
      · rw [if_pos eb]
        intro hk e
        have hlt := own_lt (h.logs _ (List.getElem_mem ha)) k hk
        rcases hlF k e with g | g
        · exact h.logd a i ha hi (fun e => ea e.symm) k hk g
        · omega
      · rw [if_neg eb]; exact h.logd a b ha hb hab k
  · rcases mem s hs with rfl | ⟨j, hj, hji, rfl⟩
    · exact hmat
    · have jm := List.getElem_mem hj
      exact own_chg (h.mats _ jm) hc fun k hk => farI (tM _ jm k hk) fun e => h.matd i j hi hj (fun e => hji e.symm) k e hk
  · rcases mem s hs with rfl | ⟨j, hj, hji, rfl⟩
    · rcases hmF k hk with e | e
      · exact nF k (h.matF _ im k e)
      · exact .inr ⟨e, own_lt hmat k hk⟩
    · exact nF k (h.matF _ (List.getElem_mem hj) k hk)
  · rw [List.length_set] at ha hb
    rw [List.getElem_set, List.getElem_set]
    by_cases ea : i = a
    · rw [if_pos ea, if_neg (fun e => hab (ea.symm.trans e))]
      intro hk e
      have hlt := own_lt (h.mats _ (List.getElem_mem hb)) k e
      rcases hmF k hk with g | g
      · exact h.matd i b hi hb (fun e => hab (ea.symm.trans e)) k g e
      · omega
    · rw [if_neg ea]
      by_cases eb : i = b
      · rw [if_pos eb]
        intro hk e
        have hlt := own_lt (h.mats _ (List.getElem_mem ha)) k hk
        rcases hmF k e with g | g
        · exact h.matd a i ha hi (fun e => ea e.symm) k hk g
        · omega
      · rw [if_neg eb]; exact h.matd a b ha hb hab k
  · rcases mem s hs with rfl | ⟨j, hj, hji, rfl⟩
    · intro e
      have hlt := own_lt h.lead k e
      rcases hmF k hk with g | g
      · exact h.matl _ im k g e
      · omega
    · exact h.matl _ (List.getElem_mem hj) k hk
  · rcases mem s hs with rfl | ⟨j, hj, hji, rfl⟩
    · intro e
      have hlt := own_lt (h.ents m hm) k hk
      rcases hlF k e with g | g
      · exact h.entl m hm k hk _ im g
      · omega
    · exact h.entl m hm k hk _ (List.getElem_mem hj)
  · rcases hS k hl hk with e | e | e
    · exact h.srvF k e
    · exact h.logF _ im k e
    · exact h.matF _ im k e
/-- The network written anew. -/
theorem CluP.netw {S : Nat → Prop} {nw' : Value} {ms' : List MM} (h : CluP w p C F sv lv nw ss ms) (hc : Chg S w w') (hS : ∀ k, k < w.heap.size → S k → k = p ∨ nw.ownBlock = some k) (hb : Blk w' p [sv, lv, nw'] 51)
    (hn : w'.ownsRow 0 59 8 nw' ms'.length (mmC ms')) (hnF : ∀ k, nw'.ownBlock = some k → nw.ownBlock = some k ∨ w.heap.size ≤ k)
    (he : ∀ m ∈ ms', m ∈ ms ∨ (w'.ownsRow 0 44 2 m.ev m.ents.length (enC m.ents) ∧ ∀ k, m.ev.ownBlock = some k → w.heap.size ≤ k)) :
    CluP w' p { C with net := ms'.map erM } (Fx F w w') sv lv nw' ss ms' ∧ Chg F w w' := by
  have far : ∀ {k : Nat} {E : TypeId}, Ty w k E → E ≠ 51 → E ≠ 59 → ¬ S k := fun {k E} ht h1 h2 e => by
    rcases hS k ht.lt e with g | g
    · subst g; exact ht.ne h1 (blk_ty h.blk)
    · exact ht.ne h2 ((own_ty h.net) k g).1
  have hz := hc.size
  have nF : ∀ k, F k → Fx F w w' k := fun k hk => .inl hk
  exact ⟨{
    er := h.er
    em := rfl
    lt := fx_lt h.lt hz
    fp := .inl h.fp
    blk := hb
    srv := own_chg h.srv hc fun k hk => far ((own_ty h.srv) k hk).1 (by decide) (by decide)
    srvF := fun k hk => nF k (h.srvF k hk)
    lead := own_chg h.lead hc fun k hk => far ((own_ty h.lead) k hk).1 (by decide) (by decide)
    leadF := fun k hk => nF k (h.leadF k hk)
    net := hn
    netF := fun k hk => (hnF k hk).elim (fun e => nF k (h.netF k e)) fun e => .inr ⟨e, own_lt hn k hk⟩
    logs := fun s hs => own_chg (h.logs s hs) hc fun k hk => far ((own_ty (h.logs s hs)) k hk).1 (by decide) (by decide)
    logF := fun s hs k hk => nF k (h.logF s hs k hk)
    logd := h.logd
    mats := fun s hs => own_chg (h.mats s hs) hc fun k hk => far ((own_ty (h.mats s hs)) k hk).1 (by decide) (by decide)
    matF := fun s hs k hk => nF k (h.matF s hs k hk)
    matd := h.matd
    matl := h.matl
    ents := fun m hm => (he m hm).elim (fun hm => own_chg (h.ents m hm) hc fun k hk => far ((own_ty (h.ents m hm)) k hk).1 (by decide) (by decide)) fun g => g.1
    entF := fun m hm k hk => (he m hm).elim (fun hm => nF k (h.entF m hm k hk)) fun g => .inr ⟨g.2 k hk, own_lt g.1 k hk⟩
    entl := fun m hm k hk s hs => (he m hm).elim (fun hm => h.entl m hm k hk s hs) fun g e => by have := own_lt (h.logs s hs) k e; have := g.2 k hk; omega }, hc.mono fun k hl hk => (hS k hl hk).elim (fun e => by rw [e]; exact h.fp) fun e => h.netF k e⟩
/-- The row of leaders written anew. -/
theorem CluP.leadw {S : Nat → Prop} {lv' : Value} {l' : List Nat} (h : CluP w p C F sv lv nw ss ms) (hc : Chg S w w') (hS : ∀ k, k < w.heap.size → S k → k = p ∨ lv.ownBlock = some k) (hb : Blk w' p [sv, lv', nw] 51)
    (hn : w'.ownsRow 0 3 1 lv' l'.length (icN l')) (hnF : ∀ k, lv'.ownBlock = some k → lv.ownBlock = some k ∨ w.heap.size ≤ k) :
    CluP w' p { C with lead := l' } (Fx F w w') sv lv' nw ss ms ∧ Chg F w w' := by
  have far : ∀ {k : Nat} {E : TypeId}, Ty w k E → E ≠ 51 → E ≠ 3 → ¬ S k := fun {k E} ht h1 h2 e => by
    rcases hS k ht.lt e with g | g
    · subst g; exact ht.ne h1 (blk_ty h.blk)
    · exact ht.ne h2 ((own_ty h.lead) k g).1
  have farM : ∀ s ∈ ss, ∀ k, s.mv.ownBlock = some k → ¬ S k := fun s hs k hk e => by
    have ht := ((own_ty (h.mats s hs)) k hk).1
    rcases hS k ht.lt e with g | g
    · subst g; exact ht.ne (by decide) (blk_ty h.blk)
    · exact h.matl s hs k hk g
  have hz := hc.size
  have nF : ∀ k, F k → Fx F w w' k := fun k hk => .inl hk
  exact ⟨{
    er := h.er
    em := h.em
    lt := fx_lt h.lt hz
    fp := .inl h.fp
    blk := hb
    srv := own_chg h.srv hc fun k hk => far ((own_ty h.srv) k hk).1 (by decide) (by decide)
    srvF := fun k hk => nF k (h.srvF k hk)
    lead := hn
    leadF := fun k hk => (hnF k hk).elim (fun e => nF k (h.leadF k e)) fun e => .inr ⟨e, own_lt hn k hk⟩
    net := own_chg h.net hc fun k hk => far ((own_ty h.net) k hk).1 (by decide) (by decide)
    netF := fun k hk => nF k (h.netF k hk)
    logs := fun s hs => own_chg (h.logs s hs) hc fun k hk => far ((own_ty (h.logs s hs)) k hk).1 (by decide) (by decide)
    logF := fun s hs k hk => nF k (h.logF s hs k hk)
    logd := h.logd
    mats := fun s hs => own_chg (h.mats s hs) hc (farM s hs)
    matF := fun s hs k hk => nF k (h.matF s hs k hk)
    matd := h.matd
    matl := fun s hs k hk e => by
      rcases hnF k e with g | g
      · exact h.matl s hs k hk g
      · have := own_lt (h.mats s hs) k hk; omega
    ents := fun m hm => own_chg (h.ents m hm) hc fun k hk => far ((own_ty (h.ents m hm)) k hk).1 (by decide) (by decide)
    entF := fun m hm k hk => nF k (h.entF m hm k hk)
    entl := h.entl }, hc.mono fun k hl hk => (hS k hl hk).elim (fun e => by rw [e]; exact h.fp) fun e => h.leadF k e⟩
end
end Go.Proofs.Ythhkekmeginooaa.Rp
