/- Recovery: Rollback. -/
import Derived.Test.YtjalpppmgoepiaaRvl
namespace Go.Proofs.Ytjalpppmgoepiaa.Rv
open Go Go.RowKit Hp
set_option linter.unusedVariables false

def rolE (E : Eng) (t : Nat) : Eng := finE (undoE E t) t
set_option maxRecDepth 100000 in
set_option maxHeartbeats 2000000 in
theorem rollback_any (p : Nat) (E : Eng) (F : Nat → Prop) (t : Nat) (w : World) (h : EngR w p E F) (ht : t ∈ E.act) (hl : E.log.length ≤ 40000) (ha : E.act.length ≤ 1000) (hw : E.wri.length ≤ 1000) (hpg : ∀ r ∈ E.log, r.kind = 1 → r.page < E.buf.length) :
    Calls Try.prog 14 #[.pointer (some ⟨p, 0, none⟩), .int .i64 (t : Int)] w fun e w' => e = .returned (.int .i64 0) ∧ EngPost p (rolE E t) F w w' := by
  have HLT := Lib.hid h.lt
  have HR := Lib.hid h
  obtain ⟨bv, dv, lv, av, wv, hP⟩ := h
  obtain ⟨aa, ac, rfl, hg1, hg2, _⟩ := own_form hP.ao
  have c5 := (hP.blk.at (i := 5) rfl).2
  have hpl := hP.blk.lt
  have HAC := Lib.hid (contains_any (.slice aa E.act.length ac) E.act t w (own_src hP.ao) (by omega))
  rw [decide_eq_true ht] at HAC
  have HU := Lib.hid (fun W (hu : Up w W) => undo_any p E F t W (HR.out.up hu) hl hpg)
  have HSZ : Hid ((undoE E t).log.length ≤ 100000 ∧ (undoE E t).act.length ≤ 100000 ∧ (undoE E t).wri.length ≤ 1000) := by
    obtain ⟨Y, y1, _, y3⟩ := undo_adds E t
    have : cnt E.log t ≤ E.log.length := List.countP_le_length
    refine ⟨?_, by rw [y1.act]; omega, by rw [y1.wri]; exact hw⟩
    rw [y1.log, List.length_append]
    omega
  have HRE : Hid (rolE E t = finE (undoE E t) t) := rfl
  clear hP
  generalize undoE E t = E1 at *
  have HF := Lib.hid (fun W F' (hW : EngR W p E1 F') => fin_any p E1 F' t W hW HSZ.out.1 HSZ.out.2.1 HSZ.out.2.2)
  go_enter Try.func14, Try.ntmps14
  go_wp2_with (first
    | (go_at_call 24; refine HAC.out.mono ?_; rintro e w2 ⟨rfl, h2⟩; have U2 := Lib.hid h2; clear h2)
    | (go_at_call 25; refine (HF.out _ _ H3.out.1).mono ?_; rintro e w4 ⟨rfl, h4⟩; have H4 := Lib.hid h4; clear h4)
    | (go_at_call 22; refine (HU.out _ U2.out).mono ?_; rintro e w3 ⟨rfl, h3⟩; have H3 := Lib.hid h3; clear h3)
    | fail)
  go_ret
  refine ⟨rfl, ?_⟩
  rw [HRE.out]
  exact EngPost.behind HLT.out U2.out (EngPost.next (fun k hk => Nat.lt_of_lt_of_le (HLT.out k hk) U2.out.size) H3.out H4.out)
end Go.Proofs.Ytjalpppmgoepiaa.Rv
