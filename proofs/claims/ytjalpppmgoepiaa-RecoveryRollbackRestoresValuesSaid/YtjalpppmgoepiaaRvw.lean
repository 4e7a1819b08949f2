/- Recovery: the law's engine; recoveryWorks. -/
import Derived.Test.YtjalpppmgoepiaaRvm
namespace Go.Proofs.Ytjalpppmgoepiaa.Rv
open Go Go.RowKit Hp
set_option linter.unusedVariables false

/-- The engine that a law has made for itself. -/
structure OE (w W : World) (p : Nat) (E : Eng) (G : Nat → Prop) : Prop where
  er : EngR W p E G
  gf : ∀ j, G j → w.heap.size ≤ j
  up : Up w W
theorem OE.eng {w W W' : World} {p : Nat} {E E' : Eng} {G : Nat → Prop} (h : OE w W p E G) (hp : EngPost p E' G W W') : OE w W' p E' (Fx G W W') :=
  ⟨hp.1, fun j hj => by
    rcases hj with q | q
    · exact h.gf j q
    · have := h.up.size; omega, ((h.up.chg G).trans hp.2 fun _ _ e => e).up fun k hk e => by have := h.gf k e; omega⟩
theorem OE.upw {w W W' : World} {p : Nat} {E : Eng} {G : Nat → Prop} (h : OE w W p E G) (hu : Up W W') : OE w W' p E G := ⟨h.er.up hu, h.gf, h.up.trans hu⟩
def w1E : Eng := { newE 2 with last := (newE 2).last + 1, act := (newE 2).act ++ [(newE 2).last + 1] }
def w2E : Eng := wrE w1E 1 1 5
def w3E : Eng := comE w2E 1
set_option maxRecDepth 100000 in
set_option maxHeartbeats 2000000 in
theorem works_any (w : World) : Calls Try.prog 6 #[] w fun e w' => e = .returned (.bool true) ∧ Up w w' := by
  have c1 : bsy w1E 1 1 = false := by decide
  have c2 : CrH w3E := ⟨by decide, by decide, by decide, by decide, by decide, by decide⟩
  have c3 : 1 < (crE w3E).buf.length := by decide
  have c4 : (crE w3E).buf[1].1 = 5 := rfl
  have HB := Lib.hid (fun W p G (h : EngR W p (newE 2) G) => begin_any p (newE 2) G W h (by decide) (by decide))
  change Hid (∀ W p (G : Nat → Prop), EngR W p (newE 2) G → Calls Try.prog 11 #[.pointer (some ⟨p, 0, none⟩)] W fun e w' => e = .returned (.tuple #[.int .i64 1, .int .i64 0]) ∧ EngPost p w1E G W w') at HB
  have HW := Lib.hid (fun W p G (h : EngR W p w1E G) => (write_any p w1E G 1 1 5 W h (by decide) (by decide) (by decide) (by decide) (by decide)).mono (R' := fun e w' => e = .returned (.int .i64 0) ∧ EngPost p w2E G W w') fun e w' h => h.2 c1)
  have HC := Lib.hid (fun W p G (h : EngR W p w2E G) => commit_any p w2E G 1 W h (by decide) (by decide) (by decide) (by decide))
  have HK := Lib.hid (fun W p G (h : EngR W p w3E G) => crash_any p w3E G W h c2)
  have HR := Lib.hid (fun W p G (h : EngR W p (crE w3E) G) => read_any p (crE w3E) G 1 W h c3)
  rw [c4] at HR
  clear c1 c2 c4
  go_enter Try.func6, Try.ntmps6
  go_wp2_with (first
    | (go_at_call 7; refine (new_any 2 (by decide) (by decide) _).mono ?_; rintro e w1 ⟨p, rfl, F, h1, h2, h3⟩; have O1 : Hid (OE w w1 p (newE 2) F) := ⟨h1, h2, h3⟩; clear h1 h2 h3)
    | (go_at_call 11; refine (HB.out _ _ _ O1.out.er).mono ?_; rintro e w2 ⟨rfl, h2⟩; have O2 := Lib.hid (O1.out.eng h2); clear h2)
    | (go_at_call 12; refine (HW.out _ _ _ O2.out.er).mono ?_; rintro e w3 ⟨rfl, h3⟩; have O3 := Lib.hid (O2.out.eng h3); clear h3)
    | (go_at_call 16; refine (HC.out _ _ _ O3.out.er).mono ?_; rintro e w4 ⟨rfl, h4⟩; have O4 := Lib.hid (O3.out.eng h4); clear h4)
    | (go_at_call 9; refine (HK.out _ _ _ O4.out.er).mono ?_; rintro e w5 ⟨rd, rfl, h5⟩; have O5 := Lib.hid (O4.out.eng h5); clear h5)
    | (go_at_call 10; refine (HR.out _ _ _ O5.out.er).mono ?_; rintro e w6 ⟨rfl, h6⟩; have U6 := Lib.hid (O5.out.up.trans h6); clear h6)
    | fail)
  go_ret
  exact ⟨rfl, U6.out⟩
end Go.Proofs.Ytjalpppmgoepiaa.Rv
