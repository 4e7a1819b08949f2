/- (*Tx).Do: its deferred closure. -/
import Derived.Test.YtoelcnfgjfccgaaSpo
import Derived.Defers
import Derived.Recover
namespace Go.Proofs.Ytoelcnfgjfccgaa.Sp
open Go Go.RowKit Hp So
set_option linter.unusedVariables false

/-- What the deferred closure finds: the variables of Do. -/
structure DoVars (w : World) (bR bE bN bS bT p : Nat) (ret : Bool) (r : Int) (ev sv : Value) : Prop where
  r1 : w.cell? ⟨bR, 0, none⟩ = some (.bool ret)
  e1 : w.cell? ⟨bE, 0, none⟩ = some (.int .i64 r)
  n1 : w.cell? ⟨bN, 0, none⟩ = some ev
  s1 : w.cell? ⟨bS, 0, none⟩ = some sv
  t1 : w.cell? ⟨bT, 0, none⟩ = some (.pointer (some ⟨p, 0, none⟩))

set_option maxRecDepth 100000 in
set_option maxHeartbeats 1000000 in
/-- The function has returned OK: nothing is undone. -/
theorem undo_ok (bR bE bN bS bT p : Nat) (ev sv : Value) (w : World) (h : DoVars w bR bE bN bS bT p true 0 ev sv) :
    CallsD Try.prog 50 #[.pointer (some ⟨bR, 0, none⟩), .pointer (some ⟨bE, 0, none⟩), .pointer (some ⟨bN, 0, none⟩), .pointer (some ⟨bS, 0, none⟩), .pointer (some ⟨bT, 0, none⟩)] .returning w fun e u' w' => u' = .returning ∧ e = .returned (.tuple #[]) ∧ w' = w := by
  obtain ⟨r1, e1, n1, s1, t1⟩ := h
  go_enter_d Try.func50, Try.ntmps50
  go_wp2
  go_end0
  exact ⟨rfl, rfl⟩

set_option maxRecDepth 100000 in
set_option maxHeartbeats 1000000 in
/-- The function has returned an error: the workspace gets its rows again. -/
theorem undo_err (bR bE bN bS bT p : Nat) (r : Int) (a0 : Option Addr) (n0 c0 : Nat) (a1 : Option Addr) (n1 c1 : Nat) (o0 o1 : Value) (w : World) (h : DoVars w bR bE bN bS bT p true r (.slice a0 n0 c0) (.slice a1 n1 c1)) (hr : r ≠ 0)
    (hb : Blk w p [o0, o1] 78) :
    CallsD Try.prog 50 #[.pointer (some ⟨bR, 0, none⟩), .pointer (some ⟨bE, 0, none⟩), .pointer (some ⟨bN, 0, none⟩), .pointer (some ⟨bS, 0, none⟩), .pointer (some ⟨bT, 0, none⟩)] .returning w fun e u' w' => u' = .returning ∧ e = .returned (.tuple #[]) ∧ w' = (w.setCell ⟨p, 0, none⟩ (.slice a0 n0 c0)).setCell ⟨p, 1, none⟩ (.slice a1 n1 c1) := by
  obtain ⟨r1, e1, n1, s1, t1⟩ := h
  have b0 := hb.cell 0
  rw [show ([o0, o1])[0]? = some o0 from rfl] at b0
  have b1 := hb.cell 1
  rw [show ([o0, o1])[1]? = some o1 from rfl] at b1
  have q0 := hb.free 0
  have q1 := hb.free 1
  have hr2 : (r != 0) = true := by simpa using hr
  have hr3 : (r == 0) = false := by simpa using hr
  clear hb
  go_enter_d Try.func50, Try.ntmps50
  go_wp2
  go_end0
  exact ⟨rfl, rfl⟩

set_option maxRecDepth 100000 in
set_option maxHeartbeats 1000000 in
/-- The function has panicked: the panic is recovered, the error laid, the workspace gets its rows again. -/
theorem undo_panic (bR bE bN bS bT p : Nat) (x : Int) (a0 : Option Addr) (n0 c0 : Nat) (a1 : Option Addr) (n1 c1 : Nat) (o0 o1 : Value) (w : World) (u : TypeId) (pv : Value) (older : List PanicEntry) (h : DoVars w bR bE bN bS bT p false x (.slice a0 n0 c0) (.slice a1 n1 c1))
    (hz : w.frozen? ⟨bE, 0, none⟩ = false) (d1 : bE ≠ bN) (d2 : bE ≠ bS) (d3 : bE ≠ bT) (d4 : bE ≠ p)
    (hb : Blk w p [o0, o1] 78) :
    CallsD Try.prog 50 #[.pointer (some ⟨bR, 0, none⟩), .pointer (some ⟨bE, 0, none⟩), .pointer (some ⟨bN, 0, none⟩), .pointer (some ⟨bS, 0, none⟩), .pointer (some ⟨bT, 0, none⟩)] (.panicking ({ v := .iface u pv, recovered := false } :: older)) w fun e u' w' =>
      e = .returned (.tuple #[]) ∧ u' = .panicking ({ v := .iface u pv, recovered := true } :: older) ∧ w' = (((w.setCell ⟨bE, 0, none⟩ (.int .i64 15)).setCell ⟨p, 0, none⟩ (.slice a0 n0 c0)).setCell ⟨p, 1, none⟩ (.slice a1 n1 c1)) := by
  obtain ⟨r1, e1, n1', s1, t1⟩ := h
  refine callsD_of_wpS Try.func50 rfl fun c₀ cs hu => ?_
  apply wpS_seq
  apply wpS_seq
  apply wpS_region
  simp [wpOpsS, go_sem, hu, Try.ntmps50, Exit.thenS, r1]
  refine wpS_cond (t := true) (by simp [Act.eval, Array.replicate]) ?_
  simp only [if_true]
  apply wpS_seq
  apply wpS_region
  simp [wpOpsS, go_sem, recoverD, hu, Exit.thenS]
  apply wpS_region
  simp [wpOpsS, go_sem, e1, hz, Exit.thenS]
  refine wpS_of_wp ?_
  have hb' := hb.other d4.symm 0 none (.int .i64 15)
  have k1 : (w.setCell ⟨bE, 0, none⟩ (.int .i64 15)).cell? ⟨bE, 0, none⟩ = some (.int .i64 15) := by simp [go_sem, e1]
  have k2 : (w.setCell ⟨bE, 0, none⟩ (.int .i64 15)).cell? ⟨bN, 0, none⟩ = some (.slice a0 n0 c0) := by rw [World.cell?_setCell_other]; exact n1'; (simp; try omega)
  have k3 : (w.setCell ⟨bE, 0, none⟩ (.int .i64 15)).cell? ⟨bS, 0, none⟩ = some (.slice a1 n1 c1) := by rw [World.cell?_setCell_other]; exact s1; (simp; try omega)
  have k4 : (w.setCell ⟨bE, 0, none⟩ (.int .i64 15)).cell? ⟨bT, 0, none⟩ = some (.pointer (some ⟨p, 0, none⟩)) := by rw [World.cell?_setCell_other]; exact t1; (simp; try omega)
  have b0 := hb'.cell 0
  rw [show ([o0, o1])[0]? = some o0 from rfl] at b0
  have b1 := hb'.cell 1
  rw [show ([o0, o1])[1]? = some o1 from rfl] at b1
  have q0 := hb'.free 0
  have q1 := hb'.free 1
  generalize w.setCell ⟨bE, 0, none⟩ (.int .i64 15) = W at *
  clear hb hb' e1 n1' s1 t1 r1 hz
  go_wp2
  cases c₀
  simp_all [bodyPostS, results, Try.results50]

end Go.Proofs.Ytoelcnfgjfccgaa.Sp
