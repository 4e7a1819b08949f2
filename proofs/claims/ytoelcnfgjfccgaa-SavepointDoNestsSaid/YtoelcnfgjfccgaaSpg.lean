/- The workspace's Put, Delete. -/
import Derived.Test.YtoelcnfgjfccgaaSpf
namespace Go.Proofs.Ytoelcnfgjfccgaa.Sp
open Go Go.RowKit Hp So
set_option linter.unusedVariables false

def PutPost (p : Nat) (l' : Ws) (r : Int) (sp : List Ws) (F : Nat → Prop) (w : World) (e : Ending) (w' : World) : Prop := e = .returned (.int .i64 r) ∧ TxR w' p l' sp (Fx F w w') ∧ Chg F w w'
theorem TxR.upP {w w' : World} {p : Nat} {l : Ws} {sp : List Ws} {F : Nat → Prop} (h : TxR w p l sp F) (hu : Up w w') : TxR w' p l sp (Fx F w w') ∧ Chg F w w' := by
  have hl : ∀ k, F k → k < w.heap.size := by obtain ⟨_, _, _, h⟩ := h; exact h.lt
  exact ⟨(h.up hu).mono (fun _ hk => .inl hk) (fx_lt hl hu.size), Below.chg F hu⟩
theorem fx_up {F : Nat → Prop} {w w1 w' : World} (h : w.heap.size ≤ w1.heap.size) : ∀ k, Fx F w1 w' k → Fx F w w' k := fun k hk => by
  rcases hk with hk | hk
  · exact .inl hk
  · exact .inr ⟨by omega, hk.2⟩
theorem TxR.lt {w : World} {p : Nat} {l : Ws} {sp : List Ws} {F : Nat → Prop} (h : TxR w p l sp F) : ∀ k, F k → k < w.heap.size := by obtain ⟨_, _, _, h⟩ := h; exact h.lt
/-- Behind a first step that only grows. -/
theorem TxR.behind {w w1 w' : World} {p : Nat} {l' : Ws} {sp' : List Ws} {F : Nat → Prop} (hl : ∀ k, F k → k < w.heap.size) (hu : Up w w1) (h : TxR w' p l' sp' (Fx F w1 w') ∧ Chg F w1 w') : TxR w' p l' sp' (Fx F w w') ∧ Chg F w w' :=
  ⟨h.1.mono (fx_up hu.size) (fx_lt hl (Nat.le_trans hu.size h.2.size)), (Below.chg F hu).trans h.2 fun _ _ e => e⟩

set_option maxRecDepth 100000 in
set_option maxHeartbeats 1000000 in
theorem put_big (p : Nat) (l : Ws) (sp : List Ws) (F : Nat → Prop) (t : ByteArray) (v : Int) (w : World) (h : TxR w p l sp F) (hk : 24 < t.size) :
    Calls Try.prog 44 #[.pointer (some ⟨p, 0, none⟩), .string t, .int .i64 v] w (PutPost p (putL l t v).1 (putL l t v).2 sp F w) := by
  have hk2 : (24 : Int) < (t.size : Int) := by omega
  have HP : Hid (putL l t v = (l, 2)) := by unfold Hid putL; simp only [hk, if_true]
  go_enter Try.func44, Try.ntmps44
  go_wp2
  go_ret
  rw [HP.out]
  exact ⟨rfl, h.upP (Up.refl w)⟩

set_option maxRecDepth 100000 in
set_option maxHeartbeats 1000000 in
theorem put_set (p : Nat) (l : Ws) (sp : List Ws) (F : Nat → Prop) (t : ByteArray) (v : Int) (w : World) (h : TxR w p l sp F) (hk : ¬ 24 < t.size) (hh : has l t = true) :
    Calls Try.prog 44 #[.pointer (some ⟨p, 0, none⟩), .string t, .int .i64 v] w (PutPost p (putL l t v).1 (putL l t v).2 sp F w) := by
  have hk2 : ¬ (24 : Int) < (t.size : Int) := by omega
  have HP : Hid (putL l t v = (l.set (pos l t) (t, v), 0)) := by unfold Hid putL; simp only [hk, hh, if_true, if_false]
  have HW := Lib.hid (by obtain ⟨_, _, _, h⟩ := h; exact h.ok.put t v)
  have hc := search_any p l sp F t w h
  obtain ⟨ev, sv, ys, h⟩ := h
  have hlen := h.ok.len
  have HS := Lib.hid h
  obtain ⟨hp, hkk⟩ := has_pos hh
  rw [hh] at hc
  have HKK := Lib.hid hkk
  obtain ⟨g, cap, rfl, _, _, hgl, hcl, hfr⟩ := own_some h.ent (by omega)
  have e2 := hcl _ _ (ec_get l (pos l t) hp).2
  generalize l[pos l t].2 = old at e2
  have c0 := h.blk.cell 0
  rw [show ([Value.slice (some ⟨g, 0, none⟩) l.length cap, sv])[0]? = some (.slice (some ⟨g, 0, none⟩) l.length cap) from rfl] at c0
  have e1 := hfr (pos l t * 2 + 1)
  have hpl := h.blk.lt
  obtain ⟨ps, hps⟩ : ∃ ps, ps = pos l t := ⟨_, rfl⟩
  have HPS := Lib.hid hps
  rw [← hps] at hc e1 hp e2
  have E2 := Lib.hid e2
  have C0 := Lib.hid c0
  have E1 := Lib.hid e1
  clear h hkk c0 e1 e2 hps hh hfr hcl
  have b2 : (ps : Int) < (l.length : Int) := by omega
  go_enter Try.func44, Try.ntmps44
  go_wp2_with (go_at_call 48; refine hc.mono ?_; rintro e w' ⟨rfl, h4⟩; have c0 := (h4.cell (p := ⟨p, 0, none⟩) hpl).trans C0.out; have e1 := (h4.frozen (p := ⟨g, ps * 2 + 1, none⟩) hgl).trans E1.out; have e2 := (h4.cell (p := ⟨g, ps * 2 + 1, none⟩) hgl).trans E2.out; have H4 := Lib.hid h4; clear h4)
  go_ret
  rw [HP.out]
  have hps := HPS.out
  subst hps
  have h1 := (HS.out.chg (Below.chg (fun _ => False) H4.out) fun _ _ e => e)
  have h2 := (h1.chg (S := fun _ => False) (w' := w'.drew) (Chg.refl _ _).drew fun _ _ e => e)
  have hW := HW.out
  rw [HP.out] at hW
  first
    | (obtain ⟨a1, a2⟩ := h2.setVal hp t HKK.out v hW; exact ⟨rfl, TxR.behind HS.out.lt (H4.out.drew) ⟨⟨_, _, _, a1.mono (fun _ hk => .inl hk) (fx_lt h2.lt a2.size)⟩, a2⟩⟩)
    | (obtain ⟨a1, a2⟩ := h1.setVal hp t HKK.out v hW; exact ⟨rfl, TxR.behind HS.out.lt H4.out ⟨⟨_, _, _, a1.mono (fun _ hk => .inl hk) (fx_lt h1.lt a2.size)⟩, a2⟩⟩)

set_option maxRecDepth 100000 in
set_option maxHeartbeats 1000000 in
theorem put_full (p : Nat) (l : Ws) (sp : List Ws) (F : Nat → Prop) (t : ByteArray) (v : Int) (w : World) (h : TxR w p l sp F) (hk : ¬ 24 < t.size) (hh : has l t = false) (hf : l.length = 40) :
    Calls Try.prog 44 #[.pointer (some ⟨p, 0, none⟩), .string t, .int .i64 v] w (PutPost p (putL l t v).1 (putL l t v).2 sp F w) := by
  have hk2 : ¬ (24 : Int) < (t.size : Int) := by omega
  have HP : Hid (putL l t v = (l, 18)) := by unfold Hid putL; simp only [hk, hh, hf, if_true, if_false, Bool.false_eq_true]
  have hc := search_any p l sp F t w h
  have HR := Lib.hid h
  obtain ⟨ev, sv, ys, h⟩ := h
  rw [hh] at hc
  obtain ⟨a, cap, rfl, _, _, _⟩ := own_form h.ent
  have c0 := h.blk.cell 0
  rw [show ([Value.slice a l.length cap, sv])[0]? = some (.slice a l.length cap) from rfl, hf] at c0
  have hpl := h.blk.lt
  have C0 := Lib.hid c0
  clear h c0 hf hh
  go_enter Try.func44, Try.ntmps44
  go_wp2_with (go_at_call 48; refine hc.mono ?_; rintro e w' ⟨rfl, h4⟩; have c0 := (h4.cell (p := ⟨p, 0, none⟩) hpl).trans C0.out; have H4 := Lib.hid h4; clear h4)
  go_ret
  rw [HP.out]
  exact ⟨rfl, HR.out.upP H4.out⟩

set_option maxRecDepth 100000 in
set_option maxHeartbeats 2000000 in
theorem put_new (p : Nat) (l : Ws) (sp : List Ws) (F : Nat → Prop) (t : ByteArray) (v : Int) (w : World) (h : TxR w p l sp F) (hk : ¬ 24 < t.size) (hh : has l t = false) (hf : ¬ l.length = 40) :
    Calls Try.prog 44 #[.pointer (some ⟨p, 0, none⟩), .string t, .int .i64 v] w (PutPost p (putL l t v).1 (putL l t v).2 sp F w) := by
  have hk2 : ¬ (24 : Int) < (t.size : Int) := by omega
  have HP : Hid (putL l t v = (l.take (pos l t) ++ (t, v) :: l.drop (pos l t), 0)) := by unfold Hid putL; simp only [hk, hh, hf, if_true, if_false, Bool.false_eq_true]
  have HW := Lib.hid (by obtain ⟨_, _, _, h⟩ := h; exact h.ok.put t v)
  have hc := search_any p l sp F t w h
  obtain ⟨ev, sv, ys, h⟩ := h
  have hlen := h.ok.len
  have HS := Lib.hid h
  rw [hh] at hc
  obtain ⟨a, cap, rfl, _, _, _⟩ := own_form h.ent
  have c0 := h.blk.cell 0
  rw [show ([Value.slice a l.length cap, sv])[0]? = some (.slice a l.length cap) from rfl] at c0
  have hpl := h.blk.lt
  have hple := pos_le l t
  have TK := Lib.hid (ec_take l (pos l t))
  have DR := Lib.hid (ec_drop l (pos l t))
  obtain ⟨ps, hps⟩ : ∃ ps, ps = pos l t := ⟨_, rfl⟩
  rw [← hps] at hc hple HP TK DR
  have C0 := Lib.hid c0
  have hf2 : ¬ (l.length : Int) = 40 := by omega
  have hq : ((l.length : Int) == 40) = false := beq_eq_false_iff_ne.2 hf2
  clear h c0 hps hh hf
  go_enter Try.func44, Try.ntmps44
  go_wp2_with (first
    | (go_at_call 48; refine hc.mono ?_; rintro e w1 ⟨rfl, h4⟩; have c0 := (h4.cell (p := ⟨p, 0, none⟩) hpl).trans C0.out; have HT := Lib.hid (HS.out.chg (Below.chg (fun _ => False) h4) fun _ _ e => e); have hp1 := HT.out.blk.lt; have H4 := Lib.hid h4; clear h4)
    | (go_at_call 55; refine (ins_any _ l.length ps (ec l) [.string t, .int .i64 v] _ _ (own_up HT.out.ent ((Up.refl _).alloc _)) hple (by omega) (Blk.new _ _ _) rfl (fun e => by have := own_lt HT.out.ent _ e; simp at this) (ec_one l) (ec_one [(t, v)])).mono ?_;
       rintro e w2 ⟨v', rfl, h1, h2, h3⟩; obtain ⟨a', c', rfl, _, _, _⟩ := own_form h1; have HB := Lib.hid (fld_far HT.out.blk (by decide) HT.out.ent ((Up.refl _).alloc _) h2); have q0 := HB.out.free 0; have q1 := HB.out.cell 0; rw [show ([Value.slice a l.length cap, sv])[0]? = some (.slice a l.length cap) from rfl] at q1; have H1 := Lib.hid h1; have H2 := Lib.hid h2; have H3 := Lib.hid h3; clear h1 h2 h3))
  go_ret
  have hW := HW.out
  rw [HP.out] at hW ⊢
  have e0 : (l.take ps ++ (t, v) :: l.drop ps).length = l.length + 1 := by simp only [List.length_append, List.length_take, List.length_cons, List.length_drop]; show min _ _ + _ = _; omega
  have hown : w2.ownsRow 0 48 2 (.slice a' (l.length + 1) c') (l.take ps ++ (t, v) :: l.drop ps).length (ec (l.take ps ++ (t, v) :: l.drop ps)) := by
    rw [e0, ec_app, ec_cons]
    have := H1.out
    rw [TK.out, DR.out] at this
    simpa [List.append_assoc] using this
  obtain ⟨a1, a2⟩ := HT.out.setEnt (((Chg.refl _ w1).alloc _).grown H2.out fun k hk => .inl hk) hown (fun k hk => by
    rcases H3.out with e | ⟨g, e, hg⟩
    · exact .inl (e.symm.trans hk)
    · rw [e] at hk; cases hk; exact .inr (by simp at hg; omega)) hW
  exact ⟨rfl, TxR.behind HS.out.lt H4.out ⟨⟨_, _, _, a1⟩, a2⟩⟩
theorem put_any (p : Nat) (l : Ws) (sp : List Ws) (F : Nat → Prop) (t : ByteArray) (v : Int) (w : World) (h : TxR w p l sp F) :
    Calls Try.prog 44 #[.pointer (some ⟨p, 0, none⟩), .string t, .int .i64 v] w (PutPost p (putL l t v).1 (putL l t v).2 sp F w) := by
  by_cases hk : 24 < t.size
  · exact put_big p l sp F t v w h hk
  · cases hh : has l t with
    | true => exact put_set p l sp F t v w h hk hh
    | false =>
      by_cases hf : l.length = 40
      · exact put_full p l sp F t v w h hk hh hf
      · exact put_new p l sp F t v w h hk hh hf

set_option maxRecDepth 100000 in
set_option maxHeartbeats 1000000 in
theorem del_no (p : Nat) (l : Ws) (sp : List Ws) (F : Nat → Prop) (t : ByteArray) (w : World) (h : TxR w p l sp F) (hh : has l t = false) :
    Calls Try.prog 45 #[.pointer (some ⟨p, 0, none⟩), .string t] w (PutPost p (delL l t).1 (delL l t).2 sp F w) := by
  have HP : Hid (delL l t = (l, 4)) := by unfold Hid delL; simp only [hh, if_false, Bool.false_eq_true]
  have hc := search_any p l sp F t w h
  rw [hh] at hc
  go_enter Try.func45, Try.ntmps45
  go_wp2_with (go_at_call 48; refine hc.mono ?_; rintro e w' ⟨rfl, h4⟩)
  go_ret
  rw [HP.out]
  exact ⟨rfl, h.upP h4⟩

set_option maxRecDepth 100000 in
set_option maxHeartbeats 2000000 in
theorem del_yes (p : Nat) (l : Ws) (sp : List Ws) (F : Nat → Prop) (t : ByteArray) (w : World) (h : TxR w p l sp F) (hh : has l t = true) :
    Calls Try.prog 45 #[.pointer (some ⟨p, 0, none⟩), .string t] w (PutPost p (delL l t).1 (delL l t).2 sp F w) := by
  have HP : Hid (delL l t = (l.take (pos l t) ++ l.drop (pos l t + 1), 0)) := by unfold Hid delL; simp only [hh, if_true]
  have HW := Lib.hid (by obtain ⟨_, _, _, h⟩ := h; exact h.ok.del t)
  have hc := search_any p l sp F t w h
  obtain ⟨ev, sv, ys, h⟩ := h
  have hlen := h.ok.len
  have HS := Lib.hid h
  obtain ⟨hp, _⟩ := has_pos hh
  rw [hh] at hc
  obtain ⟨a, cap, rfl, _, _, _⟩ := own_form h.ent
  have c0 := h.blk.cell 0
  rw [show ([Value.slice a l.length cap, sv])[0]? = some (.slice a l.length cap) from rfl] at c0
  have hpl := h.blk.lt
  have TK := Lib.hid (ec_take l (pos l t))
  have DR := Lib.hid (ec_drop l (pos l t + 1))
  obtain ⟨ps, hps⟩ : ∃ ps, ps = pos l t := ⟨_, rfl⟩
  rw [← hps] at hc hp HP TK DR
  have C0 := Lib.hid c0
  clear h c0 hps hh
  go_enter Try.func45, Try.ntmps45
  go_wp2_with (first
    | (go_at_call 48; refine hc.mono ?_; rintro e w1 ⟨rfl, h4⟩; have c0 := (h4.cell (p := ⟨p, 0, none⟩) hpl).trans C0.out; have HT := Lib.hid (HS.out.chg (Below.chg (fun _ => False) h4) fun _ _ e => e); have hp1 := HT.out.blk.lt; have H4 := Lib.hid h4; clear h4)
    | (go_at_call 56; refine (del_any _ l.length ps (ec l) _ HT.out.ent hp (by omega) (ec_one l)).mono ?_;
       rintro e w2 ⟨v', rfl, h1, h2, h3⟩; obtain ⟨a', c', rfl, _, _, _⟩ := own_form h1; have HB := Lib.hid (fld_far HT.out.blk (by decide) HT.out.ent (Up.refl _) h2); have q0 := HB.out.free 0; have q1 := HB.out.cell 0; rw [show ([Value.slice a l.length cap, sv])[0]? = some (.slice a l.length cap) from rfl] at q1; have H1 := Lib.hid h1; have H2 := Lib.hid h2; have H3 := Lib.hid h3; clear h1 h2 h3))
  go_ret
  have hW := HW.out
  rw [HP.out] at hW ⊢
  have e0 : (l.take ps ++ l.drop (ps + 1)).length = l.length - 1 := by simp only [List.length_append, List.length_take, List.length_drop]; show min _ _ + _ = _; omega
  have hown : w2.ownsRow 0 48 2 (.slice a' (l.length - 1) c') (l.take ps ++ l.drop (ps + 1)).length (ec (l.take ps ++ l.drop (ps + 1))) := by
    rw [e0, ec_app]
    have := H1.out
    rw [TK.out, DR.out] at this
    exact this
  obtain ⟨a1, a2⟩ := HT.out.setEnt ((Chg.refl _ w1).grown H2.out fun k hk => .inl hk) hown (fun k hk => .inl (H3.out.symm.trans hk)) hW
  exact ⟨rfl, TxR.behind HS.out.lt H4.out ⟨⟨_, _, _, a1⟩, a2⟩⟩
theorem tdel_any (p : Nat) (l : Ws) (sp : List Ws) (F : Nat → Prop) (t : ByteArray) (w : World) (h : TxR w p l sp F) :
    Calls Try.prog 45 #[.pointer (some ⟨p, 0, none⟩), .string t] w (PutPost p (delL l t).1 (delL l t).2 sp F w) := by
  cases hh : has l t with
  | true => exact del_yes p l sp F t w h hh
  | false => exact del_no p l sp F t w h hh

end Go.Proofs.Ytoelcnfgjfccgaa.Sp
