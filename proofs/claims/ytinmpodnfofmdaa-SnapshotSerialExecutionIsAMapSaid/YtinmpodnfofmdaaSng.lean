/- The snapshot database: a transaction's search. -/
import Derived.Test.YtinmpodnfofmdaaSnf
namespace Go.Proofs.Ytinmpodnfofmdaa.Sn
open Go Go.RowKit Hp So
open Mv (Val PC PV rowC fm_len fm_take fm_drop fm_get fm_set fm_one RowIn StR Srt pos has)
set_option linter.unusedVariables false

set_option maxRecDepth 100000 in
set_option maxHeartbeats 1000000 in
theorem search_any (g off : Nat) (wv : Value) (ws : List MW) (t : ByteArray) (w : World) (hc0 : At w g (off + 2) wv) (hown : w.ownsRow 0 105 3 wv ws.length (mwC ws)) (hs : Srt (ws.map erW)) (hl : ws.length ≤ 1000) :
    Calls Try.prog 56 #[.pointer (some ⟨g, off, none⟩), .string t] w fun e w' => e = .returned (.tuple #[.int .i64 (pos (ws.map erW) t : Nat), .bool (has (ws.map erW) t)]) ∧ Up w w' := by
  have hc : Calls Try.prog 74 #[wv, .string t, .func (.func 75) #[] #[]] w fun e w' => e = .returned (.tuple #[.int .i64 (pos (ws.map erW) t : Nat), .bool (has (ws.map erW) t)]) ∧ Up w w' := by
    refine (bs_any wv ws.length (mwC ws) (fun i => ((ws.map erW).getD i (t, ⟨false, []⟩)).1) (fun i => .bool ((ws.map (·.del)).getD i false)) (fun i => (ws.map (·.rv)).getD i undef) t w hown (by omega) (fun i hi => ?_) (fun a b h1 h2 h3 => Mv.mono_scmp hs t (t, ⟨false, []⟩) a b h1 (by rw [List.length_map]; exact h2) h3)).mono ?_
    · have := mwC_get ws i hi
      simp only [List.getD, List.getElem?_map, List.getElem?_eq_getElem hi, Option.map_some, Option.getD_some]
      exact this
    · rintro e w' ⟨i, h1, h2, h3, rfl, h4⟩
      obtain ⟨e1, e2⟩ := Mv.pos_get (l := ws.map erW) (x := ⟨false, []⟩) (by rw [List.length_map]; exact h1) h2 (fun j a b => h3 j a (by rw [List.length_map] at b; exact b))
      rw [List.length_map] at e2
      exact ⟨by rw [e1, ← e2], h4⟩
  have c0 := hc0.2
  clear hc0 hown hs
  go_enter Try.func56, Try.ntmps56
  go_wp2_with (first
    | (go_at_call 74; refine hc.mono ?_; rintro e w' ⟨rfl, h4⟩)
    | fail)
  go_wp2
  go_ret2
  exact ⟨rfl, h4⟩
end Go.Proofs.Ytinmpodnfofmdaa.Sn
