/- The checkpoint store: All, Sync, LogLength, Get, BeginCheckpoint. -/
import Derived.Test.YtmaeeidaegigcaaCkg
namespace Go.Proofs.Ytmaeeidaegigcaa.Ck
open Go Go.RowKit Hp So
open Dk (Dsk DiskR)
open Wl (Log LogR LogPost fx_lt St)
set_option linter.unusedVariables false

section
variable {n i d : Nat} {rs : List (List Int)} {p : Nat} {C : Ck} {F : Nat → Prop} {w : World}
theorem all_any (h : CkR w p C F) (hl : C.ents.length ≤ 1000) :
    Calls Try.prog 39 #[.pointer (some ⟨p, 0, none⟩)] w fun e w' => ∃ v, e = .returned v ∧ Hid (w'.ownsRow w.heap.size 62 2 v C.ents.length (ec C.ents)) ∧ Hid (Up w w') := by
  obtain ⟨q, r, Fl, Fd, ev, pv, h⟩ := h
  obtain ⟨ea, eb, rfl, _, _, _⟩ := own_form h.ent
  have c0 := (h.blk.at (i := 0) rfl).2
  have hpl := h.blk.lt
  have HC := Lib.hid (clone_own _ _ _ h.ent hl)
  clear h
  go_enter Try.func39, Try.ntmps39
  go_wp2_with (first
    | (go_at_call 54; refine HC.out.mono ?_; rintro e w2 ⟨v2, rfl, O2, U2⟩)
    | fail)
  go_ret
  exact ⟨_, rfl, O2, U2⟩
theorem csync_any (h : CkR w p C F) (hs : St n i C.log d rs) :
    Calls Try.prog 37 #[.pointer (some ⟨p, 0, none⟩)] w fun e w' => e = .returned (.tuple #[]) ∧ ∃ L', Hid (St n (i + 1) L' rs.length rs) ∧ Hid (CkPost p { C with log := L' } F w w') := by
  obtain ⟨q, r, Fl, Fd, ev, pv, h⟩ := h
  have c1 := (h.blk.at (i := 1) rfl).2
  have hpl := h.blk.lt
  have HS := Lib.hid (Wl.sync_st hs (Wl.LogPost.self h.log) h.log.lt)
  have H := Lib.hid h
  clear h
  go_enter Try.func37, Try.ntmps37
  go_wp2_with (first
    | (go_at_call 27; refine HS.out.mono ?_; rintro e w2 ⟨rfl, L2, S2, P2⟩)
    | fail)
  go_end0
  exact ⟨rfl, L2, S2, ⟨_, _, _, _, _, _, (H.out.logStep P2.out).1⟩, (H.out.logStep P2.out).2⟩
theorem recs_len (hs : St n i C.log d rs) {q : Nat} {Fl : Nat → Prop} (h : LogR w q C.log Fl) (hi : i ≤ 1000) :
    Calls Try.prog 26 #[.pointer (some ⟨q, 0, none⟩)] w fun e w' => ∃ a c, e = .returned (.slice a rs.length c) ∧ Hid (Up w w') := by
  refine (Wl.recs_st hs (Wl.LogPost.self h) hi).mono ?_
  rintro e w' ⟨v, rfl, h1, h2⟩
  obtain ⟨a, c, rfl, _⟩ := Wl.bs_form h1.out.bs
  exact ⟨a, c, rfl, h2⟩
theorem loglen_any (h : CkR w p C F) (hs : St n i C.log d rs) (hi : i ≤ 1000) :
    Calls Try.prog 36 #[.pointer (some ⟨p, 0, none⟩)] w fun e w' => e = .returned (.int .i64 (rs.length : Int)) ∧ Hid (Up w w') := by
  obtain ⟨q, r, Fl, Fd, ev, pv, h⟩ := h
  have c1 := (h.blk.at (i := 1) rfl).2
  have hpl := h.blk.lt
  have HS := Lib.hid (recs_len hs h.log hi)
  clear h
  go_enter Try.func36, Try.ntmps36
  go_wp2_with (first
    | (go_at_call 26; refine HS.out.mono ?_; rintro e w2 ⟨a2, c2, rfl, U2⟩)
    | fail)
  go_ret
  exact ⟨rfl, U2⟩
set_option maxRecDepth 100000 in
set_option maxHeartbeats 2000000 in
theorem begin_any (h : CkR w p C F) (hs : St n i C.log d rs) (hi : i ≤ 1000) (hl : C.ents.length ≤ 1000) (hn : C.next < 0) :
    Calls Try.prog 34 #[.pointer (some ⟨p, 0, none⟩)] w fun e w' => e = .returned (.int .i64 0) ∧ CkPost p { C with pend := C.ents, next := 0, cov := rs.length } F w w' := by
  obtain ⟨q, r, Fl, Fd, ev, pv, h⟩ := h
  obtain ⟨ea, eb, rfl, _, _, _⟩ := own_form h.ent
  have c0 := (h.blk.at (i := 0) rfl).2
  have c1 := (h.blk.at (i := 1) rfl).2
  have c5 := (h.blk.at (i := 5) rfl).2
  have hpl := h.blk.lt
  have HC := Lib.hid (fun W (hu : Up w W) => clone_own _ _ W (own_up h.ent hu) hl)
  have HR := Lib.hid (fun W (hu : Up w W) => recs_len hs (h.log.up hu) hi)
  have H := Lib.hid h
  have hng : ¬ 0 ≤ C.next := by omega
  clear h
  go_enter Try.func34, Try.ntmps34
  go_upto_region 3 with fail
  go_region_law (first
    | (go_simp; go_at_call 26; refine (HR.out _ U2.out).mono ?_; rintro e w3 ⟨a3, c3, rfl, U3'⟩; have U3 := Lib.hid (U2.out.trans U3'.out); have B3 := (H.out.up U3.out).blk; have m4 := (B3.at (i := 4) rfl).2; have m5 := (B3.at (i := 5) rfl).2; have m6 := (B3.at (i := 6) rfl).2; have k4 := B3.free 4; have k5 := B3.free 5; have k6 := B3.free 6; have kl := B3.lt; have O3 := Lib.hid (own_up O2.out U3'.out); clear B3 U3')
    | (go_simp; go_at_call 54; refine (HC.out _ ((Up.refl w).drew)).mono ?_; rintro e w2 ⟨v2, rfl, O2', U2'⟩; have O2 : Hid (w2.ownsRow w.heap.size 62 2 v2 C.ents.length (ec C.ents)) := O2'; have U2 : Hid (Up w w2) := ((Up.refl w).drew).trans U2'.out; clear O2' U2'; obtain ⟨va, vb, rfl, _, _, _⟩ := own_form O2.out; have B2 := (H.out.up U2.out).blk; have t1 := (B2.at (i := 1) rfl).2; have tl := B2.lt; clear B2)
    | fail)
  all_goals
    go_wp2
    go_ret
    have hc : Chg (· = p) w (((w3.setCell ⟨p, 4, none⟩ (.slice va C.ents.length vb)).setCell ⟨p, 5, none⟩ (.int .i64 0)).setCell ⟨p, 6, none⟩ (.int .i64 (rs.length : Int))) := (((Below.chg (· = p) U3.out).trans (chg_set _ p 4 none _) fun _ _ e => e).trans (chg_set _ p 5 none _) fun _ _ e => e).trans (chg_set _ p 6 none _) fun _ _ e => e
    have hc3 : Chg (· = p) w3 (((w3.setCell ⟨p, 4, none⟩ (.slice va C.ents.length vb)).setCell ⟨p, 5, none⟩ (.int .i64 0)).setCell ⟨p, 6, none⟩ (.int .i64 (rs.length : Int))) := ((chg_set _ p 4 none _).trans (chg_set _ p 5 none _) fun _ _ e => e).trans (chg_set _ p 6 none _) fun _ _ e => e
    have hpl := H.out.blk.lt
    have key := H.out.own (C' := { C with pend := C.ents, next := 0, cov := rs.length }) hc (fun k _ e => e) rfl rfl ((((H.out.blk.up U3.out).set 4 _).set 5 _).set 6 _) (own_chg (own_up H.out.ent U3.out) hc3 fun k hk e => H.out.ene k hk e) (own_base' (own_chg O3.out hc3 fun k hk e => by have := ((own_ty O3.out) k hk).2; omega) fun _ _ => Nat.zero_le _) (fun k hk => .inl (H.out.ef k hk)) (fun k hk => .inr ((own_ty O3.out) k hk).2)
    exact ⟨rfl, ⟨_, _, _, _, _, _, key.1⟩, key.2⟩
end
end Go.Proofs.Ytmaeeidaegigcaa.Ck
