/- Locks: the manager in memory; modeOf, grant. -/
import Derived.Test.YtbimkciejfbodaaLkb
import Derived.Test.YtbimkciejfbodaaRs
namespace Go.Proofs.Ytbimkciejfbodaa.Lk
open Go Go.RowKit Hp
set_option linter.unusedVariables false

structure Mg where
  gr : List Lk
  qu : List Lk
structure ManP (w : World) (p : Nat) (F : Nat → Prop) (M : Mg) (gv qv : Value) : Prop where
  lt : ∀ k, F k → k < w.heap.size
  fp : F p
  blk : Blk w p [gv, qv] 56
  go : w.ownsRow 0 33 4 gv M.gr.length (lkC M.gr)
  gF : ∀ k, gv.ownBlock = some k → F k
  qo : w.ownsRow 0 33 4 qv M.qu.length (lkC M.qu)
  qF : ∀ k, qv.ownBlock = some k → F k
  dis : ∀ k, gv.ownBlock = some k → qv.ownBlock ≠ some k
def ManR (w : World) (p : Nat) (M : Mg) (F : Nat → Prop) : Prop := ∃ gv qv, ManP w p F M gv qv
def ManPost (p : Nat) (M' : Mg) (F : Nat → Prop) (w w' : World) : Prop := ManR w' p M' (Fx F w w') ∧ Chg F w w'
theorem ManP.chg {S : Nat → Prop} {w w' : World} {p : Nat} {F : Nat → Prop} {M : Mg} {gv qv : Value} (h : ManP w p F M gv qv) (hc : Chg S w w') (hS : ∀ k, F k → ¬ S k) : ManP w' p F M gv qv :=
  ⟨fun k hk => Nat.lt_of_lt_of_le (h.lt k hk) hc.size, h.fp, h.blk.chg hc (hS _ h.fp), own_chg h.go hc fun k hk => hS k (h.gF k hk), h.gF, own_chg h.qo hc fun k hk => hS k (h.qF k hk), h.qF, h.dis⟩
theorem ManP.up {w w' : World} {p : Nat} {F : Nat → Prop} {M : Mg} {gv qv : Value} (h : ManP w p F M gv qv) (hu : Up w w') : ManP w' p F M gv qv := h.chg (Below.chg (fun _ => False) hu) fun _ _ e => e
theorem ManP.mono {w : World} {p : Nat} {F F' : Nat → Prop} {M : Mg} {gv qv : Value} (h : ManP w p F M gv qv) (hF : ∀ k, F k → F' k) (hl : ∀ k, F' k → k < w.heap.size) : ManP w p F' M gv qv :=
  ⟨hl, hF _ h.fp, h.blk, h.go, fun k hk => hF k (h.gF k hk), h.qo, fun k hk => hF k (h.qF k hk), h.dis⟩
theorem ManR.chg {S : Nat → Prop} {w w' : World} {p : Nat} {F : Nat → Prop} {M : Mg} (h : ManR w p M F) (hc : Chg S w w') (hS : ∀ k, F k → ¬ S k) : ManR w' p M F := by obtain ⟨gv, qv, h⟩ := h; exact ⟨gv, qv, h.chg hc hS⟩
theorem ManR.up {w w' : World} {p : Nat} {F : Nat → Prop} {M : Mg} (h : ManR w p M F) (hu : Up w w') : ManR w' p M F := by obtain ⟨gv, qv, h⟩ := h; exact ⟨gv, qv, h.up hu⟩
theorem ManR.lt {w : World} {p : Nat} {F : Nat → Prop} {M : Mg} (h : ManR w p M F) : ∀ k, F k → k < w.heap.size := by obtain ⟨gv, qv, h⟩ := h; exact h.lt
theorem ManPost.of_up {w w' : World} {p : Nat} {F : Nat → Prop} {M : Mg} (h : ManR w p M F) (hu : Up w w') : ManPost p M F w w' := by
  obtain ⟨gv, qv, h⟩ := h
  exact ⟨⟨gv, qv, (h.up hu).mono (fun k hk => .inl hk) fun k hk => fx_ltp h.lt hu.size hk⟩, Below.chg F hu⟩
theorem ManPost.behind {w w1 w' : World} {p : Nat} {M' : Mg} {F : Nat → Prop} (hl : ∀ k, F k → k < w.heap.size) (hu : Up w w1) (h : ManPost p M' F w1 w') : ManPost p M' F w w' := by
  obtain ⟨⟨gv, qv, h1⟩, h2⟩ := h
  have C : Chg F w w' := (Below.chg F hu).trans h2 fun _ _ e => e
  refine ⟨⟨gv, qv, h1.mono (fun k hk => ?_) fun k hk => fx_ltp hl C.size hk⟩, C⟩
  rcases hk with hk | hk
  · exact .inl hk
  · exact .inr ⟨Nat.le_trans hu.size hk.1, hk.2⟩
theorem ManPost.ahead {w w1 w' : World} {p : Nat} {M' : Mg} {F : Nat → Prop} (hl : ∀ k, F k → k < w.heap.size) (h : ManPost p M' F w w1) (hu : Up w1 w') : ManPost p M' F w w' := by
  obtain ⟨⟨gv, qv, h1⟩, h2⟩ := h
  have C : Chg F w w' := h2.trans (Below.chg (fun _ => False) hu) fun _ _ e => e.elim
  exact ⟨⟨gv, qv, (h1.up hu).mono (fun k hk => fx_mono hu.size hk) fun k hk => fx_ltp hl C.size hk⟩, C⟩
/-- The first lock of the same holder. -/
def modeL (gr : List Lk) (l : Lk) : Int := match gr.find? (fun x => sameL x l) with | some x => x.mode | none => 0
def grantL (gr : List Lk) (l : Lk) : List Lk := match gr.findIdx? (fun x => sameL x l) with | some i => gr.set i { gr.getD i l with mode := l.mode } | none => gr ++ [l]
theorem modeL_hit {gr : List Lk} {l : Lk} {i : Nat} (hi : i < gr.length) (h1 : sameL gr[i] l = true) (h2 : ∀ j (h : j < gr.length), j < i → sameL gr[j] l = false) : modeL gr l = gr[i].mode := by
  have : gr.find? (fun x => sameL x l) = some gr[i] := by
    rw [List.find?_eq_some_iff_getElem]
    exact ⟨h1, i, hi, rfl, fun j hj => by simp [h2 j (by omega) hj]⟩
  unfold modeL
  rw [this]
theorem modeL_miss {gr : List Lk} {l : Lk} (h : ∀ j (h : j < gr.length), sameL gr[j] l = false) : modeL gr l = 0 := by
  have : gr.find? (fun x => sameL x l) = none := by
    rw [List.find?_eq_none]
    intro x hx
    obtain ⟨j, hj, rfl⟩ := List.getElem_of_mem hx
    simp [h j hj]
  unfold modeL
  rw [this]
theorem grantL_hit {gr : List Lk} {l : Lk} {i : Nat} (hi : i < gr.length) (h1 : sameL gr[i] l = true) (h2 : ∀ j (h : j < gr.length), j < i → sameL gr[j] l = false) : grantL gr l = gr.set i { gr[i] with mode := l.mode } := by
  have : gr.findIdx? (fun x => sameL x l) = some i := by
    rw [List.findIdx?_eq_some_iff_getElem]
    exact ⟨hi, h1, fun j hj => by simp [h2 j (by omega) hj]⟩
  unfold grantL
  rw [this]
  simp [List.getD, hi]
theorem grantL_miss {gr : List Lk} {l : Lk} (h : ∀ j (h : j < gr.length), sameL gr[j] l = false) : grantL gr l = gr ++ [l] := by
  have : gr.findIdx? (fun x => sameL x l) = none := by
    rw [List.findIdx?_eq_none_iff]
    intro x hx
    obtain ⟨j, hj, rfl⟩ := List.getElem_of_mem hx
    simp [h j hj]
  unfold grantL
  rw [this]
set_option maxRecDepth 100000 in
set_option maxHeartbeats 2000000 in
theorem mode_any (p : Nat) (M : Mg) (F : Nat → Prop) (l : Lk) (w : World) (h : ManR w p M F) (hl : M.gr.length ≤ 100000) :
    Calls Try.prog 36 #[.pointer (some ⟨p, 0, none⟩), lkV l] w fun e w' => e = .returned (.int .i64 (modeL M.gr l)) ∧ Up w w' := by
  obtain ⟨gv, qv, hP⟩ := h
  have HL := LB.new w l
  have U0 := (Up.refl w).alloc (.cells #[.int .i64 l.tx, .string l.tab, .string l.key, .int .i64 l.mode] 33)
  have HIX := Lib.hid (ix_M w.heap.size (fun x => sameL x l) gv M.gr _ (cl_M _ _ l HL) (own_src (own_up hP.go U0)) hl)
  obtain ⟨hpl, c0⟩ := hP.blk.at (i := 0) rfl
  have GO := Lib.hid hP.go
  obtain ⟨ga, gc, rfl, hg1, hg2, _⟩ := own_form hP.go
  have HU := Lib.hid U0
  rcases idx_cases (fun x => sameL x l) M.gr with ⟨hi, hn⟩ | ⟨i, hil, hi, ht, hn⟩
  · rw [hi] at HIX
    have HM := Lib.hid (modeL_miss hn)
    clear hi hn hP U0 HL
    unfold lkV
    go_enter Try.func36, Try.ntmps36
    go_wp2_with (first
      | (go_at_call 26; refine HIX.out.mono ?_; rintro e w2 ⟨rfl, h2⟩; have H2 := Lib.hid h2; clear h2)
      | fail)
    go_ret
    exact ⟨by rw [HM.out]; rfl, HU.out.trans H2.out⟩
  · rw [hi] at HIX
    have HM := Lib.hid (modeL_hit hil ht hn)
    obtain ⟨gg, gcap, hgv, _, _, hgl, hgat, _⟩ := own_some GO.out (by omega)
    simp only [Value.slice.injEq] at hgv
    obtain ⟨rfl, hkk, rfl⟩ := hgv
    clear hkk
    obtain ⟨g0, g1, g2, g3⟩ := lkC_get M.gr i hil
    have HG : Hid (At w gg (i * 4 + 3) (.int .i64 M.gr[i].mode)) := ⟨hgl, hgat _ _ g3⟩
    have hii : (i : Int) < (M.gr.length : Int) := by omega
    generalize M.gr[i].mode = m at *
    clear hi hn hP U0 HL ht g0 g1 g2 g3 hgat
    unfold lkV
    go_enter Try.func36, Try.ntmps36
    go_wp2_with (first
      | (go_at_call 26; refine HIX.out.mono ?_; rintro e w2 ⟨rfl, h2⟩; have H2 := Lib.hid h2; have c2 := ((HU.out.trans h2).cell (p := ⟨p, 0, none⟩) hpl).trans c0; have hp2 := Nat.lt_of_lt_of_le hpl (HU.out.trans h2).size; have c3 := (HG.out.grow (HU.out.trans h2)).2; have c4 := (HG.out.grow (HU.out.trans h2)).1; clear h2)
      | fail)
    go_ret
    exact ⟨by rw [HM.out]; rfl, HU.out.trans H2.out⟩
end Go.Proofs.Ytbimkciejfbodaa.Lk
