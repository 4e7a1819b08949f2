/- The workspace's search, Get, All. -/
import Derived.Test.YtoelcnfgjfccgaaSpe
namespace Go.Proofs.Ytoelcnfgjfccgaa.Sp
open Go Go.RowKit Hp So
set_option linter.unusedVariables false

theorem pos_get {l : Ws} {t : ByteArray} {i : Nat} (hi : i ≤ l.length) (h1 : ∀ j, j < i → scmp (l.getD j (t, 0)).1 t < 0) (h2 : ∀ j, i ≤ j → j < l.length → 0 ≤ scmp (l.getD j (t, 0)).1 t) :
    pos l t = i ∧ (decide (i < l.length) && decide (scmp (l.getD i (t, 0)).1 t = 0)) = has l t := by
  have gd : ∀ j (h : j < l.length), l.getD j (t, 0) = l[j] := fun j h => by simp [List.getD, h]
  have e : pos l t = i := pos_eq hi (fun j hj hji => by have := h1 j hji; rw [gd j hj, scmp_lt] at this; exact this) (fun h hs => by have := h2 i (Nat.le_refl _) h; rw [gd i h] at this; rw [← scmp_lt] at hs; omega)
  refine ⟨e, ?_⟩
  unfold has
  by_cases h : i < l.length
  · have hpl : pos l t < l.length := by omega
    have eg : l[pos l t] = l[i] := by congr 1
    rw [gd i h]
    by_cases hq : l[i].1 = t
    · have hs : scmp l[i].1 t = 0 := scmp_eq.2 hq
      have hh : ∃ h : pos l t < l.length, l[pos l t].1 = t := ⟨hpl, by rw [eg]; exact hq⟩
      rw [decide_eq_true h, decide_eq_true hs, decide_eq_true hh]; rfl
    · have hs : ¬ scmp l[i].1 t = 0 := fun e => hq (scmp_eq.1 e)
      have hh : ¬ ∃ h : pos l t < l.length, l[pos l t].1 = t := fun ⟨a, b⟩ => hq (by rw [eg] at b; exact b)
      rw [decide_eq_false hs, decide_eq_false hh, Bool.and_false]
  · have hh : ¬ ∃ h : pos l t < l.length, l[pos l t].1 = t := fun ⟨a, _⟩ => h (by omega)
    rw [decide_eq_false h, decide_eq_false hh, Bool.false_and]

set_option maxRecDepth 100000 in
set_option maxHeartbeats 1000000 in
theorem search_any (p : Nat) (l : Ws) (sp : List Ws) (F : Nat → Prop) (t : ByteArray) (w : World) (h : TxR w p l sp F) :
    Calls Try.prog 48 #[.pointer (some ⟨p, 0, none⟩), .string t] w fun e w' => e = .returned (.tuple #[.int .i64 (pos l t : Nat), .bool (has l t)]) ∧ Up w w' := by
  obtain ⟨ev, sv, ys, h⟩ := h
  have hlen := h.ok.len
  have HS := Lib.hid h
  have hc : Calls Try.prog 57 #[ev, .string t, .func (.func 58) #[] #[]] w fun e w' => e = .returned (.tuple #[.int .i64 (pos l t : Nat), .bool (has l t)]) ∧ Up w w' := by
    refine (bs_any ev l.length (ec l) (fun i => (l.getD i (t, 0)).1) (fun i => .int .i64 (l.getD i (t, 0)).2) t w h.ent (by omega) (fun i hi => ?_) (mono_scmp h.ok.srt t (t, 0))).mono ?_
    · have := ec_get l i hi
      rw [show l.getD i (t, 0) = l[i] by simp [List.getD, hi]]; exact this
    · rintro e w' ⟨i, h1, h2, h3, rfl, h4⟩
      obtain ⟨e1, e2⟩ := pos_get h1 h2 h3
      exact ⟨by rw [e1, ← e2], h4⟩
  have c0 := h.blk.cell 0
  rw [show ([ev, sv])[0]? = some ev from rfl] at c0
  clear h
  go_enter Try.func48, Try.ntmps48
  go_wp2_with (go_at_call 57; refine hc.mono ?_; rintro e w' ⟨rfl, h4⟩)
  go_wp2
  go_ret2
  exact ⟨rfl, h4⟩

set_option maxRecDepth 100000 in
set_option maxHeartbeats 1000000 in
theorem get_any (p : Nat) (l : Ws) (sp : List Ws) (F : Nat → Prop) (t : ByteArray) (w : World) (h : TxR w p l sp F) :
    Calls Try.prog 25 #[.pointer (some ⟨p, 0, none⟩), .string t] w fun e w' => e = .returned (.tuple #[.int .i64 (getL l t).1, .int .i64 (getL l t).2]) ∧ Up w w' := by
  have hc := search_any p l sp F t w h
  obtain ⟨ev, sv, ys, h⟩ := h
  have hlen := h.ok.len
  have HS := Lib.hid h
  by_cases hh : has l t = true
  · have HG : Hid (getL l t = ((l.getD (pos l t) (t, 0)).2, 0)) := by unfold Hid getL; simp only [hh, if_true]
    obtain ⟨hp, hk⟩ := has_pos hh
    rw [hh] at hc
    obtain ⟨g, cap, rfl, _, _, hgl, hcell, _⟩ := own_some h.ent (by omega)
    have e1 := hcell _ _ (ec_get l (pos l t) hp).2
    rw [show l[pos l t].2 = (l.getD (pos l t) (t, 0)).2 by simp [List.getD, hp]] at e1
    have c0 := h.blk.cell 0
    rw [show ([Value.slice (some ⟨g, 0, none⟩) l.length cap, sv])[0]? = some (.slice (some ⟨g, 0, none⟩) l.length cap) from rfl] at c0
    have hpl := h.blk.lt
    generalize hps : pos l t = ps at *
    generalize hvv : (l.getD ps (t, 0)).2 = vv at *
    have C0 := Lib.hid c0
    have E1 := Lib.hid e1
    clear h hcell hk c0 e1 hps hvv hh
    go_enter Try.func25, Try.ntmps25
    have b2 : (ps : Int) < (l.length : Int) := by omega
    go_wp2_with (go_at_call 48; refine hc.mono ?_; rintro e w' ⟨rfl, h4⟩; have c0 := (h4.cell (p := ⟨p, 0, none⟩) hpl).trans C0.out; have e1 := (h4.cell (p := ⟨g, ps * 2 + 1, none⟩) hgl).trans E1.out; have H4 := Lib.hid h4; clear h4)
    go_ret2
    exact ⟨by rw [HG.out]; rfl, H4.out⟩
  · have hf : has l t = false := by simpa using hh
    have HG : Hid (getL l t = (0, 4)) := by unfold Hid getL; simp only [hf, Bool.false_eq_true, if_false]
    rw [hf] at hc
    clear h hh hf
    go_enter Try.func25, Try.ntmps25
    go_wp2_with (go_at_call 48; refine hc.mono ?_; rintro e w' ⟨rfl, h4⟩)
    go_ret2
    exact ⟨by rw [HG.out]; rfl, h4⟩

set_option maxRecDepth 100000 in
set_option maxHeartbeats 1000000 in
theorem all_any (p : Nat) (l : Ws) (sp : List Ws) (F : Nat → Prop) (w : World) (h : TxR w p l sp F) :
    Calls Try.prog 24 #[.pointer (some ⟨p, 0, none⟩)] w fun e w' => ∃ v, e = .returned v ∧ w'.ownsRow w.heap.size 48 2 v l.length (ec l) ∧ Up w w' := by
  obtain ⟨ev, sv, ys, h⟩ := h
  have hlen := h.ok.len
  have hc := cloneE ev l.length (ec l) w (own_src h.ent) (ec_one l) (by omega)
  have c0 := h.blk.cell 0
  rw [show ([ev, sv])[0]? = some ev from rfl] at c0
  clear h
  go_enter Try.func24, Try.ntmps24
  go_wp2_with (go_at_call 47; refine hc.mono ?_; rintro e w' ⟨v, rfl, h1, h2⟩)
  go_ret
  exact ⟨_, rfl, h1, h2⟩

end Go.Proofs.Ytoelcnfgjfccgaa.Sp
