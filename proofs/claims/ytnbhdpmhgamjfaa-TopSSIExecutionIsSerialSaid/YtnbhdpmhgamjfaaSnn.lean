/- The snapshot database: Put, Delete, Rollback. -/
import Derived.Test.YtnbhdpmhgamjfaaSnl
import Derived.Test.YtnbhdpmhgamjfaaSnm
namespace Go.Proofs.Ytnbhdpmhgamjfaa.Sn
open Go Go.RowKit Hp So
open Mv (Val PC PV rowC rowC_one fm_len fm_take fm_drop fm_get fm_set fm_one RowIn StR Srt SOk pos has fx_lt fx_up ty_chg has_pos pos_le vacuumL cloneR)
set_option linter.unusedVariables false

theorem DbP.pack {w w1 w2 : World} {p q : Nat} {d' : Db} {F F1 G : Nat → Prop} {av' : Value} {ts' : List MT} (h2 : ∀ k, F1 k ∨ G k → F k) (h3 : ∀ k, F k → k < w.heap.size) (hu : Up w w1) (h : DbP w2 p q d' (Fx (Fx F1 w w1) w1 w2) G av' ts') (hC : Chg (Fx F1 w w1) w1 w2) : DbPost p d' F w w2 := by
  have hs1 := hu.size
  have hs2 := hC.size
  refine ⟨⟨q, _, G, av', ts', h, fun k hk => ?_, fx_lt h3 (Nat.le_trans hs1 hs2)⟩, (Below.chg F hu).trans hC fun k hk e => ?_⟩
  · rcases hk with ((hk | hk) | hk) | hk
    · exact .inl (h2 k (.inl hk))
    · exact .inr ⟨hk.1, by omega⟩
    · exact .inr ⟨by omega, hk.2⟩
    · exact .inl (h2 k (.inr hk))
  · rcases e with e | e
    · exact h2 k (.inl e)
    · omega
set_option maxRecDepth 100000 in
set_option maxHeartbeats 1000000 in
theorem put_any (p : Nat) (d : Db) (F : Nat → Prop) (id : Int) (k : ByteArray) (rv : Value) (row : List Val) (w : World) (h : DbR w p d F) (hi : 0 ≤ tidx d.act id) (hk : k.size ≤ 24) (hr : row.length ≤ 6) (hrow : Src w 3 rv row.length (rowC row)) :
    Calls Try.prog 10 #[.pointer (some ⟨p, 0, none⟩), .int .i64 id, .string k, rv] w fun e w' => e = .returned (.int .i64 (bufP d id k ⟨false, row⟩).2) ∧ DbPost p (bufP d id k ⟨false, row⟩).1 F w w' := by
  obtain ⟨q, F1, G, av, ts, h, hF, hlt⟩ := h
  have hc := cloneR rv _ _ w hrow (rowC_one _) (by omega)
  have HF := Lib.hid hF
  have HLT := Lib.hid hlt
  have HI := Lib.hid hi
  clear hrow hF hlt hi
  go_enter Try.func10, Try.ntmps10
  go_wp2_with (first
    | (go_at_call 24; refine hc.mono ?_; rintro e w1 ⟨nv, rfl, h1, h2⟩; obtain ⟨a, c, rfl, _, _, _⟩ := own_form h1; have H1 := Lib.hid h1; have H2 := Lib.hid h2; have HD := Lib.hid (h.fx h2); clear h1 h2)
    | (go_at_call 23; refine (buf_any p q d _ G av ts id k false a c row w1 HD.out HI.out hk hr ⟨own_src H1.out, fun x n c' e => by cases e; exact ⟨.inr ⟨((own_ty H1.out) _ rfl).2, own_lt H1.out _ rfl⟩, ((own_ty H1.out) _ rfl).1⟩⟩).mono ?_; rintro e w2 ⟨rfl, h3⟩; have H3 := Lib.hid h3; clear h3)
    | fail)
  go_ret
  obtain ⟨av', ts', h3, h4⟩ := H3.out
  exact ⟨rfl, h3.pack HF.out HLT.out H2.out h4⟩
theorem FinPost.out {w w1 w2 : World} {p q : Nat} {d : Db} {F F1 G : Nat → Prop} {av : Value} {ts : List MT} {i : Nat} {e : Ending} (h2 : ∀ k, F1 k ∨ G k → F k) (h3 : ∀ k, F k → k < w.heap.size) (h : DbP w p q d F1 G av ts) (hu : Up w w1) (hf : FinPost p q d F1 G av ts i w1 e w2) : e = .returned (.tuple #[]) ∧ DbPost p (finD d i) F w w2 := by
  obtain ⟨rfl, av', G', hd, hG, hC⟩ := hf
  refine ⟨rfl, ⟨q, F1, G', av', _, hd, fun k hk => ?_, fx_lt h3 (Nat.le_trans hu.size hC.size)⟩, (Below.chg F hu).trans hC fun k hk e => ?_⟩
  · rcases hk with hk | hk
    · exact .inl (h2 k (.inl hk))
    · rcases hG k hk with e | e
      · exact .inl (h2 k (.inr e))
      · exact .inr ⟨by have := hu.size; omega, e.2⟩
  · rcases e with (e | e) | e
    · exact h2 k (.inl (h.actF k e))
    · subst e; exact h2 _ (.inl h.fp)
    · exact h2 k (.inr e)
set_option maxRecDepth 100000 in
set_option maxHeartbeats 1000000 in
theorem rollback_any (p : Nat) (d : Db) (F : Nat → Prop) (id : Int) (w : World) (h : DbR w p d F) :
    Calls Try.prog 9 #[.pointer (some ⟨p, 0, none⟩), .int .i64 id] w fun e w' => e = .returned (.int .i64 (rolP d id).2) ∧ DbPost p (rolP d id).1 F w w' := by
  have HR := Lib.hid h
  obtain ⟨q, F1, G, av, ts, h, hF, hlt⟩ := h
  have HIX := Lib.hid (index_any p q d F1 G av ts id w h)
  have HS := Lib.hid h
  have HF := Lib.hid hF
  have HLT := Lib.hid hlt
  by_cases hi : tidx d.act id < 0
  · have HP : Hid (rolP d id = (d, 4)) := by unfold Hid rolP; rw [if_pos hi]
    rw [if_pos hi] at HIX
    clear h hF hlt hi
    go_enter Try.func9, Try.ntmps9
    go_wp2_with (first
      | (go_at_call 21; refine HIX.out.mono ?_; rintro e w1 ⟨rfl, h1⟩; have H1 := Lib.hid h1; clear h1)
      | fail)
    go_ret
    rw [HP.out]
    exact ⟨rfl, HR.out.upP H1.out⟩
  · have HP : Hid (rolP d id = (finD d (tidx d.act id).toNat, 0)) := by unfold Hid rolP; rw [if_neg hi]
    rw [if_neg hi] at HIX
    obtain ⟨i, g, n, cap, m, capw, aw, ws, T⟩ := h.at_ (by omega : 0 ≤ tidx d.act id)
    have hti : (tidx d.act id).toNat = i := by have := T.ti; omega
    rw [hti] at HP
    rw [T.ti] at HIX
    have hil := T.hi
    clear h hF hlt hi hti T
    go_enter Try.func9, Try.ntmps9
    go_wp2_with (first
      | (go_at_call 21; refine HIX.out.mono ?_; rintro e w1 ⟨rfl, h1⟩; have H1 := Lib.hid h1; clear h1)
      | (go_at_call 22; refine (fin_any p q d F1 G av ts i w1 (HS.out.up H1.out) hil).mono ?_; rintro e w2 h2; obtain ⟨rfl, h3⟩ := h2.out HF.out HLT.out HS.out H1.out; have H3 := Lib.hid h3; clear h2 h3)
      | fail)
    go_ret
    rw [HP.out]
    exact ⟨rfl, H3.out⟩
end Go.Proofs.Ytnbhdpmhgamjfaa.Sn
