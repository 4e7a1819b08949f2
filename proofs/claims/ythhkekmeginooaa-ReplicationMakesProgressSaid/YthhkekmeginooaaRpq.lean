/- Replication: Drop at any number. -/
import Derived.Test.YthhkekmeginooaaRpp
namespace Go.Proofs.Ythhkekmeginooaa.Rp
open Go Go.RowKit Hp
set_option linter.unusedVariables false

def Clu.dropC (C : Clu) (k : Nat) : Clu := if k < C.net.length then C.drop k else C
section
variable {w : World} {p : Nat} {C : Clu} {F : Nat → Prop}
set_option maxRecDepth 100000 in
set_option maxHeartbeats 1000000 in
theorem dropAll (h : CluR w p C F) (k : Nat) (hn : C.net.length ≤ 100) :
    Calls Try.prog 29 #[.pointer (some ⟨p, 0, none⟩), .int .i64 (k : Int)] w fun e w' => e = .returned (.int .i64 (C.netE k)) ∧ CluPost p (C.dropC k) F w w' := by
  by_cases hk : k < C.net.length
  · unfold Clu.netE Clu.dropC
    rw [if_pos hk, if_pos hk]
    exact drop_any h k hk hn
  · have HE : Hid (C.netE k = 4 ∧ C.dropC k = C) := ⟨by unfold Clu.netE; rw [if_neg hk], by unfold Clu.dropC; rw [if_neg hk]⟩
    have HSELF := Lib.hid h.self
    have h2 : ¬ (k : Int) < 0 := by omega
    obtain ⟨sv, lv, nw, ss, ms, h⟩ := h
    rw [← h.mlen] at hk hn
    obtain ⟨na, nc, rfl, _⟩ := own_form h.net
    have c2 := (h.blk.at (i := 2) rfl).2
    have hpl := h.blk.lt
    have h1 : ¬ (k : Int) < (ms.length : Int) := by omega
    have h3 : (ms.length : Int) ≤ (k : Int) := by omega
    clear h
    go_enter Try.func29, Try.ntmps29
    go_wp2
    go_ret
    exact ⟨by rw [HE.out.1]; rfl, by rw [HE.out.2]; exact HSELF.out⟩
end
end Go.Proofs.Ythhkekmeginooaa.Rp
