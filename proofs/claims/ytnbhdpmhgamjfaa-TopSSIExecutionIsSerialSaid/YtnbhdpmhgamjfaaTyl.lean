/- Top 16: a transaction ends: the contracts of Admit, Rollback, Put and Commit as the law meets them. -/
import Derived.Test.YtnbhdpmhgamjfaaTyj
import Derived.Test.YtnbhdpmhgamjfaaTyf
namespace Go.Proofs.Ytnbhdpmhgamjfaa.Sn
open Go Go.RowKit Hp
open Mv (Val PC PV Srt SOk pos has cnt fm_len fm_get rowC)
open C (Tx TxR Txs tx0 Valid admV admL cur wk cur_snoc ic)
set_option linter.unusedVariables false

/-- The transaction mr of slot s ends at time i as M. -/
structure EndH (d : Db) (oms : List (Option (Nat × MRec))) (ms : List MRec) (mr M : MRec) (i s q : Nat) : Prop where
  inv : LInv d (ms.map MRec.r) (oms.map recO) i
  i60 : i < 60
  ho : oms[s]? = some (some (q, mr))
  hl : ms.length ≠ 40
  e : Sn.stamp mr (i : Int) = M
/-- While its writes are put. -/
structure PSt (w wr : World) (K : Nat → Prop) (p b6 : Nat) (d dm : Db) (os : List (Option (Nat × MRec))) (va ve : Value) (ms : List MRec) (q : Nat) (M : MRec) (s0 : Int) (k : Nat) : Prop where
  sm : SMm w wr K p b6 dm os va ve ms
  box : BOk w wr K ve q M
  puts : Puts d dm M.r.id s0 (resV M.r) (M.r.tx.writes.take k)
section
variable {w w1 W : World} {K : Nat → Prop} {p b6 : Nat} {d dm : Db} {oms os : List (Option (Nat × MRec))} {va ve : Value} {ms ms' : List MRec} {mr M : MRec} {i s q k : Nat} {s0 : Int}
theorem EndH.slot (h : EndH d oms ms mr M i s q) : (oms.map recO)[s]? = some (some mr.r) := by rw [List.getElem?_map, h.ho]; rfl
theorem EndH.len (h : EndH d oms ms mr M i s q) : (ms.map MRec.r).length ≠ 40 := by rw [List.length_map]; exact h.hl
theorem EndH.valid (h : EndH d oms ms mr M i s q) : Valid (txs ((ms ++ [M]).map MRec.r)) := by
  obtain ⟨o, h1, h2, h3⟩ := h.inv.opn s mr.r h.slot
  have e := h.e
  subst e
  rw [List.map_append]
  exact valid_app h.inv.hv h.len (by have := h.i60; omega) o.st h1 rfl o.rl o.wl h.inv.coms
theorem EndH.admc (h : EndH d oms ms mr M i s q) (hS : SMm w w1 K p b6 d os va ve (ms ++ [M])) : Calls Try.prog 8 #[va] w1 fun e w' =>
    ∃ g, e = .returned (.tuple #[.slice (some ⟨g, 0, none⟩) (ms.length + 1 : Nat) (ms.length + 1), .int .i64 0]) ∧ Up w1 w' ∧ g < w'.heap.size ∧ w'.cell? ⟨g, ms.length, none⟩ = some (.bool ((admV (txs (ms.map MRec.r ++ [M.r]))).getD (ms.map MRec.r).length false)) := by
  have hl : (txs ((ms ++ [M]).map MRec.r)).length = ms.length + 1 := by rw [txs_len]; simp
  refine (C.admit_any va _ w1 hS.txs h.valid).mono ?_
  rintro e w' ⟨g, rfl, h1, h2, h3⟩
  refine ⟨g, by rw [hl], h3, h2.lt, ?_⟩
  have e1 : (ms ++ [M]).map MRec.r = ms.map MRec.r ++ [M.r] := by simp
  rw [e1] at h2
  have hn : ms.length < (admV (txs (ms.map MRec.r ++ [M.r]))).length := by
    have e2 := C.admN_length (txs (ms.map MRec.r ++ [M.r])) (txs (ms.map MRec.r ++ [M.r])).length
    have e3 : (txs (ms.map MRec.r ++ [M.r])).length = ms.length + 1 := by rw [txs_len]; simp
    unfold C.admV
    rw [e2, e3]
    omega
  refine (h2.cell ms.length).trans ?_
  rw [C.bv, List.getElem?_map, List.getElem?_eq_getElem hn, List.length_map, List.getD_eq_getElem?_getD, List.getElem?_eq_getElem hn]
  rfl
theorem EndH.rollc (h : EndH d oms ms mr M i s q) (hS : SMm w w1 K p b6 d (oms.set s none) va ve (ms ++ [M])) (ha : (admV (txs (ms.map MRec.r ++ [M.r]))).getD (ms.map MRec.r).length false = false) (hu : Up w1 W) :
    Calls Try.prog 9 #[.pointer (some ⟨p, 0, none⟩), .int .i64 M.r.id] W fun e w' => e = .returned (.int .i64 0) ∧ LST w w' p b6 va ve (i + 1) := by
  have hS' := hS.up hu
  have e := h.e
  subst e
  obtain ⟨h1, h2⟩ := h.inv.rej (t' := (Sn.stamp mr (i : Int)).r) hS.own.ok h.i60 h.slot h.len rfl rfl rfl rfl rfl rfl ha
  refine (rollbackO hS'.own (Sn.stamp mr (i : Int)).r.id).mono ?_
  rintro e w' ⟨rfl, h5⟩
  refine ⟨by rw [show (rolP d (Sn.stamp mr (i : Int)).r.id).2 = 0 from h1], lst_end (hS'.step h5) h2⟩
theorem EndH.put0 (h : EndH d oms ms mr M i s q) (hS : SMm w w1 K p b6 d (oms.set s none) va ve (ms ++ [M])) (hB : BOk w w1 K ve q M) :
    ∃ s0, tr d mr.r.id = some ⟨mr.r.id, s0, []⟩ ∧ M.r.tx.writes.length ≤ 3 ∧ (∀ k, k ∈ M.r.tx.writes → k.size ≤ 24) ∧ PSt w w1 K p b6 d d (oms.set s none) va ve (ms ++ [M]) q M s0 0 := by
  obtain ⟨o, h1, h2, h3⟩ := h.inv.opn s mr.r h.slot
  obtain ⟨s0, ht, _⟩ := o.tr
  have e := h.e
  subst e
  exact ⟨s0, ht, o.wl, fun k hk => o.ok.keys k (.inr hk), hS, hB, puts0 _ ht⟩
theorem PSt.up (h : PSt w w1 K p b6 d dm os va ve ms q M s0 k) (hu : Up w1 W) : PSt w W K p b6 d dm os va ve ms q M s0 k := ⟨h.sm.up hu, h.box.up hu, h.puts⟩
theorem PSt.putc (h : PSt w w1 K p b6 d dm os va ve ms q M s0 k) (hk : k < M.r.tx.writes.length) (hw : M.r.tx.writes.length ≤ 3) (hkey : ∀ k, k ∈ M.r.tx.writes → k.size ≤ 24) (hu : Up w1 W) {g : Nat}
    (hrow : Blk W g [.int .i64 1, .int .i64 (resV M.r), .string ByteArray.empty] 47) :
    Calls Try.prog 10 #[.pointer (some ⟨p, 0, none⟩), .int .i64 M.r.id, .string (M.r.tx.writes.getD k ByteArray.empty), .slice (some ⟨g, 0, none⟩) 1 1] W fun e w' => e = .returned (.int .i64 0) ∧ ∃ dm', PSt w w' K p b6 d dm' os va ve ms q M s0 (k + 1) := by
  have h' := h.up hu
  obtain ⟨w', ht, _⟩ := h.puts.w
  have hks : (M.r.tx.writes.getD k ByteArray.empty).size ≤ 24 := hkey _ (getD_mem2 hk)
  obtain ⟨e1, e2⟩ := h.puts.step h.sm.own.ok hks (by rw [List.length_take]; omega)
  refine (putO h'.sm.own ht hks (row := rowI (resV M.r)) (by show 1 ≤ 6; decide) (blk_src hrow rfl (by show 1 ≤ 1; exact Nat.le_refl _) (by decide))).mono ?_
  rintro e w' ⟨rfl, h5⟩
  refine ⟨by rw [e1], _, h'.sm.step h5, h'.box.step h5, ?_⟩
  rw [List.take_succ_eq_append_getElem hk, show M.r.tx.writes[k] = M.r.tx.writes.getD k ByteArray.empty by rw [List.getD_eq_getElem?_getD, List.getElem?_eq_getElem hk]; rfl]
  exact e2
theorem EndH.comc (h : EndH d oms ms mr M i s q) (hP : PSt w w1 K p b6 d dm (oms.set s none) va ve (ms ++ [M]) q M s0 M.r.tx.writes.length) (ht : tr d mr.r.id = some ⟨mr.r.id, s0, []⟩)
    (ha : (admV (txs (ms.map MRec.r ++ [M.r]))).getD (ms.map MRec.r).length false = true) (hu : Up w1 W) :
    Calls Try.prog 13 #[.pointer (some ⟨p, 0, none⟩), .int .i64 M.r.id] W fun e w' => (∃ x, e = .returned (.tuple #[.int .i64 x, .int .i64 0])) ∧ LST w w' p b6 va ve (i + 1) := by
  have hP' := hP.up hu
  have e := h.e
  subst e
  have P := hP.puts
  rw [List.take_length] at P
  obtain ⟨w', htm, _⟩ := P.w
  obtain ⟨h1, h2⟩ := h.inv.com (t' := (Sn.stamp mr (i : Int)).r) h.i60 h.slot h.len rfl rfl rfl rfl rfl rfl ha hP.sm.own.ok s0 ht P
  refine (commitO hP'.sm.own htm (by
    rw [P.clock]
    have a1 := h.inv.clock
    have a2 := h.inv.hv.len
    rw [txs_len] at a2
    omega)).mono ?_
  rintro e w' ⟨rfl, h5⟩
  exact ⟨⟨_, by rw [show (comP dm (Sn.stamp mr (i : Int)).r.id).2.2 = 0 from h1]⟩, lst_end (hP'.sm.step h5) h2⟩
end
/-- What rvResult gets. -/
theorem BOk.recv {w0 w : World} {K : Nat → Prop} {ve : Value} {q : Nat} {m : MRec} (h : BOk w0 w K ve q m) : RecV w (.agg #[.int .i64 m.r.id, .int .i64 m.r.tx.start, .int .i64 m.r.tx.commit, m.rv, m.wv, m.xv]) m.r :=
  ⟨m.rv, m.wv, m.xv, rfl, h.ok.vals⟩
end Go.Proofs.Ytnbhdpmhgamjfaa.Sn
