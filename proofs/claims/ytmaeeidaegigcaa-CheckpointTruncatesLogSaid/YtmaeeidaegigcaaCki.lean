/- The checkpoint store: Put. -/
import Derived.Test.YtmaeeidaegigcaaCkh
import Derived.Lib.AppendStr
namespace Go.Proofs.Ytmaeeidaegigcaa.Ck
open Go Go.RowKit Hp So
open Dk (Dsk DiskR bc Bytes)
open Wl (Log LogR LogPost fx_lt St IsB)
set_option linter.unusedVariables false

/-- A string's bytes. -/
def byL (s : ByteArray) : List Int := s.data.toList.map fun b => ((b.toNat : Nat) : Int)
theorem byL_len (s : ByteArray) : (byL s).length = s.size := by
  unfold byL
  rw [List.length_map, Array.length_toList]
  rfl
theorem byL_isB (s : ByteArray) : IsB (byL s) := fun x hx => by
  obtain ⟨b, _, rfl⟩ := List.mem_map.1 hx
  have := b.toNat_lt
  omega
theorem bc_byL (s : ByteArray) : bc (byL s) = Lib.strCells s := by
  unfold byL Lib.strCells bc
  rw [List.map_map]
  rfl
/-- The record of an update. -/
def recU (u : ByteArray × ByteArray) : List Int := (u.1.size : Int) :: byL (u.1 ++ u.2)
theorem recU_len (u : ByteArray × ByteArray) : (recU u).length = 1 + u.1.size + u.2.size := by
  unfold recU
  rw [List.length_cons, byL_len, ByteArray.size_append]
  omega
theorem recU_isB (u : ByteArray × ByteArray) (h : u.1.size ≤ 12) : IsB (recU u) := fun x hx => by
  rcases List.mem_cons.1 hx with rfl | hx
  · omega
  · exact byL_isB _ x hx
/-- An append of any bytes. -/
theorem app_val {n i d q : Nat} {L : Log} {rs : List (List Int)} {Fl : Nat → Prop} (h : St n i L d rs) (hn1 : 4 ≤ n) (hn2 : n ≤ 256) (hi : i ≤ 1000) (w' : World) (hR : LogR w' q L Fl) (vd : Value) (r : List Int) (hvd : Bytes w' vd r) (hvF : ∀ a n c, vd = .slice (some a) n c → ¬ Fl a.block) (hr : r.length ≤ 40) (hrb : IsB r) :
    Calls Try.prog 24 #[.pointer (some ⟨q, 0, none⟩), vd] w' fun e w'' => if L.full r.length then e = .returned (.int .i64 18) ∧ Up w' w'' else e = .returned (.int .i64 0) ∧ ∃ L', St n (i + 1) L' d (rs ++ [r]) ∧ LogPost q L' Fl w' w'' := by
  obtain ⟨R, S, o, hs⟩ := h.ok
  have h1 := h.len
  have h2 := h.hd
  have h3 := h.inc
  have h4 := h.en
  have h5 := h.cnt
  have h6 := h.d
  refine (Wl.append_any q L Fl vd r w' hR hvd hvF (by rw [h.dur]; omega) (by rw [h.dur]; exact hn2) (by omega) (by omega) h.pl (by omega) (by rw [h.ends, Wl.endsG_len]; omega)).mono ?_
  intro e w'' hh
  cases hf : L.full r.length with
  | true =>
    rw [hf, if_pos rfl] at hh
    rw [if_pos rfl]
    exact hh
  | false =>
    rw [hf, if_neg (by decide)] at hh
    rw [if_neg (by decide)]
    obtain ⟨a1, a2, a3, a4, a5, a6⟩ := Wl.app_same L r
    refine ⟨hh.1, L.app r, ⟨⟨R, S, o.app r (by omega) hrb hf (by omega) (by omega), ?_⟩, by rw [List.length_append]; omega, by rw [a6]; exact h.dur, by rw [a1]; omega, by rw [a2]; omega, ?_, by rw [List.length_append, List.length_singleton]; omega⟩, hh.2⟩
    · rw [a3, List.take_append_of_le_length h6]
      exact hs
    · show (L.app r).st + (L.app r).dat.length ≤ _
      rw [a3, a4, Wl.put_len]
      omega
theorem CkPost.behind {w w1 w2 : World} {p : Nat} {C : Ck} {F : Nat → Prop} (hu : Up w w1) (h : CkPost p C F w1 w2) (hl : ∀ k, F k → k < w.heap.size) : CkPost p C F w w2 := by
  obtain ⟨⟨q, r, Fl, Fd, ev, pv, h⟩, c⟩ := h
  have z1 := hu.size
  have z2 := c.size
  refine ⟨⟨q, r, Fl, Fd, ev, pv, h.mono (fun k hk => ?_) (fx_lt hl (Nat.le_trans z1 z2))⟩, (Below.chg F hu).trans c fun k hk e => e⟩
  rcases hk with e | e
  · exact .inl e
  · exact .inr ⟨by omega, e.2⟩
/-- The bytes of a record, built. -/
theorem rec_built (w1 : World) (k x : ByteArray) (hcat : (k ++ x).size ≤ 1000) : ∃ a c w3, (Builtin.append_ #[28, 9] 28 #[.slice (some ⟨w1.heap.size, 0, none⟩) 1 1, .string (k ++ x)]).run Try.prog ((w1.alloc (.cells #[.int .u8 (k.size : Int)] 5)).drew) = .ok (.slice a (1 + (k.size + x.size)) c) w3 ∧
    Bytes w3 (.slice a (1 + (k.size + x.size)) c) (recU (k, x)) ∧ Up w1 w3 ∧ ∀ b, a = some b → w1.heap.size ≤ b.block := by
  obtain ⟨i1, hi1, hz3, hz4, hz5⟩ := info_parts Wl.Try.info8
  have hb := (Blk.new w1 #[.int .u8 (k.size : Int)] 5).drew
  have hu := ((Up.refl w1).alloc (.cells #[.int .u8 (k.size : Int)] 5)).drew
  obtain ⟨v', w3, r1, r2, r3, _⟩ := Lib.run_append_own_string (P := Try.prog) _ w1.heap.size 28 9 28 5 i1 Try.underlying28 Try.underlying9 hi1 hz3 hz4 hz5 (.slice (some ⟨w1.heap.size, 0, none⟩) 1 1) 1 [.int .u8 (k.size : Int)] (own_of_blk hb rfl (by decide)) (k ++ x) (by unfold maxLen; omega) (by omega) hu.size
  have e : [Value.int .u8 (k.size : Int)] ++ Lib.strCells (k ++ x) = bc (recU (k, x)) := by
    unfold recU
    show _ = .int .u8 _ :: bc (byL _)
    rw [bc_byL]
    rfl
  rw [e] at r2
  rw [ByteArray.size_append] at r2 hcat
  obtain ⟨a, c, rfl, _⟩ := own_form r2
  have hl : (recU (k, x)).length = 1 + (k.size + x.size) := by rw [recU_len]; show 1 + k.size + x.size = _; omega
  have r2' := r2
  rw [← hl] at r2'
  refine ⟨a, c, w3, r1, ?_, Below.grown hu r3 hu.size fun j hj => by cases hj; exact Nat.le_refl _, fun b hb => ?_⟩
  · have := Dk.bytes_own r2'
    rw [hl] at this
    exact this
  · subst hb
    rcases r2.2 with ⟨h, _⟩ | ⟨g, cap, cur, h, hbg, _⟩
    · cases h
    · cases h; exact hbg
section
variable {n i d : Nat} {rs : List (List Int)} {p : Nat} {C : Ck} {F : Nat → Prop} {w : World}
set_option maxRecDepth 100000 in
set_option maxHeartbeats 4000000 in
theorem put_any (h : CkR w p C F) (hs : St n i C.log d rs) (hn1 : 4 ≤ n) (hn2 : n ≤ 256) (hi : i ≤ 1000) (ok : WOk C.ents) (k x : ByteArray) (hk : k.size ≤ 12) (hx : x.size ≤ 12) (hf : fullL C.ents (k, x) = false) :
    Calls Try.prog 51 #[.pointer (some ⟨p, 0, none⟩), .string k, .string x] w fun e w' => if C.log.full (recU (k, x)).length then e = .returned (.int .i64 18) ∧ Hid (Up w w') else e = .returned (.int .i64 0) ∧ ∃ L', Hid (St n (i + 1) L' d (rs ++ [recU (k, x)])) ∧ Hid (CkPost p { C with log := L', ents := apL C.ents (k, x) } F w w') := by
  obtain ⟨q, r, Fl, Fd, ev, pv, h⟩ := h
  obtain ⟨ea, eb, rfl, _, _, _⟩ := own_form h.ent
  have hlen := ok.len
  have c0 := (h.blk.at (i := 0) rfl).2
  have hpl := h.blk.lt
  have HS := Lib.hid (search_any _ C.ents k w h.ent ok.srt (by omega))
  have H := Lib.hid h
  have hk2 : ¬ (12 : Int) < (k.size : Int) := by omega
  have hx2 : ¬ (12 : Int) < (x.size : Int) := by omega
  have hll : (C.ents.length : Int) ≤ 20 := by omega
  obtain ⟨hb, hhb⟩ : ∃ hb, hb = has C.ents k := ⟨_, rfl⟩
  obtain ⟨ps, hps⟩ : ∃ ps, ps = pos C.ents k := ⟨_, rfl⟩
  rw [← hhb, ← hps] at HS
  have HF : Hid ((!hb && !decide (x = ByteArray.empty) && decide (C.ents.length = 20)) = false) := by
    unfold fullL at hf
    rw [← hhb] at hf
    exact hf
  have hcase : hb = true ∨ (hb = false ∧ x = ByteArray.empty) ∨ (hb = false ∧ ¬ x = ByteArray.empty ∧ ¬ C.ents.length = 20) := by
    have := HF.out
    cases hb with
    | true => exact .inl rfl
    | false =>
      by_cases he : x = ByteArray.empty
      · exact .inr (.inl ⟨rfl, he⟩)
      · refine .inr (.inr ⟨rfl, he, fun e => ?_⟩)
        simp [he, e] at this
  have HCS := Lib.hid hcase
  clear h hhb hps hf hcase
  obtain ⟨u, hu⟩ : ∃ u : ByteArray × ByteArray, u = (k, x) := ⟨_, rfl⟩
  have hul := recU_len (k, x)
  have hub := recU_isB (k, x) hk
  rw [← hu] at hul hub ⊢
  have hum : u.1.size + u.2.size ≤ 24 := by rw [hu]; show k.size + x.size ≤ 24; omega
  have HU := Lib.hid hu
  have HUL := Lib.hid hul
  have HUB := Lib.hid hub
  have hcat : (k ++ x).size ≤ 24 := by rw [ByteArray.size_append]; omega
  have hk9 : (k.size : Int) ≤ 12 := by omega
  have hkw : IntKind.u8.wrap (k.size : Int) = (k.size : Int) := by simp [IntKind.wrap, IntKind.bits, IntKind.signed]; omega
  have hcat2 : ¬ 9223372036854775807 < k.size + x.size := by omega
  have HREC : Hid (bc (recU u) = [.int .u8 (k.size : Int)] ++ Lib.strCells (k ++ x)) := by
    rw [HU.out]
    unfold recU
    show .int .u8 _ :: bc (byL _) = _
    rw [bc_byL]
    rfl
  clear hu hul hub
  go_enter Try.func51, Try.ntmps51
  have hx3 : x = ByteArray.empty → x.toList.isEmpty = true := fun e => by rw [e, tl]; rfl
  have hx4 : ¬ x = ByteArray.empty → x.toList.isEmpty = false := emp_no
  have HX3 := Lib.hid hx3
  have HX4 := Lib.hid hx4
  clear hx3 hx4
  have HW : Hid (∀ (w1 : World), Up w w1 → LogR w1 q C.log Fl ∧ w1.cell? ⟨p, 0, none⟩ = some (.slice ea C.ents.length eb) ∧ w1.cell? ⟨p, 1, none⟩ = some (.pointer (some ⟨q, 0, none⟩)) ∧ w1.frozen? ⟨p, 0, none⟩ = false ∧ p < w1.heap.size) := fun w1 hu => by
    have hb := (H.out.up hu).blk
    exact ⟨(H.out.up hu).log, (hb.at (i := 0) rfl).2, (hb.at (i := 1) rfl).2, hb.free 0, hb.lt⟩
  have HAPP : Hid (∀ w1 w3 a c, Up w w1 → Up w1 w3 → Bytes w3 (.slice a (1 + (k.size + x.size)) c) (recU (k, x)) → (∀ b, a = some b → w1.heap.size ≤ b.block) → Calls Try.prog 24 #[.pointer (some ⟨q, 0, none⟩), .slice a (1 + (k.size + x.size)) c] w3 fun e w'' => if C.log.full (recU u).length then e = .returned (.int .i64 18) ∧ Up w3 w'' else e = .returned (.int .i64 0) ∧ ∃ L', St n (i + 1) L' d (rs ++ [recU u]) ∧ LogPost q L' Fl w3 w'') := by
    intro w1 w3 a c hu1 hu3 hby hb3
    rw [HU.out]
    have hlt := H.out.log.lt
    exact app_val hs hn1 hn2 hi w3 (H.out.log.up (hu1.trans hu3)) _ _ hby (fun b n' c' e g => by cases e; have := hb3 _ rfl; have := hlt _ g; have := hu1.size; omega) (by rw [← HU.out, HUL.out]; omega) (by rw [← HU.out]; exact HUB.out)
  have hcs' : hb = true ∨ (hb = false ∧ x.toList.isEmpty = true) ∨ (hb = false ∧ x.toList.isEmpty = false ∧ ((C.ents.length : Int) == 20) = false ∧ ¬ (C.ents.length : Int) = 20) := by
    rcases HCS.out with e | ⟨e, e2⟩ | ⟨e, e2, e3⟩
    · exact .inl e
    · exact .inr (.inl ⟨e, HX3.out e2⟩)
    · have : ¬ (C.ents.length : Int) = 20 := by omega
      exact .inr (.inr ⟨e, HX4.out e2, by rw [beq_eq_false_iff_ne]; exact this, this⟩)
  cases hfl : C.log.full (recU u).length with
  | true =>
    rw [hfl] at HAPP
    rcases hcs' with rfl | ⟨rfl, hxe⟩ | ⟨rfl, hxe, hle, hle2⟩
    all_goals
      go_upto_region 6 with (first
        | (go_at_call 69; refine HS.out.mono ?_; rintro e w1 ⟨rfl, h1⟩; have U1 := Lib.hid h1; obtain ⟨L1, x0, x1, xf, xl⟩ := HW.out w1 h1; have LL := Lib.hid L1; clear h1 L1)
        | fail)
      obtain ⟨a3, c3, w3, hcp, hby, hu3, hb3⟩ := rec_built w1 k x (by omega)
      have HAP1 := Lib.hid (HAPP.out w1 w3 a3 c3 U1.out hu3 hby hb3)
      have U3 := Lib.hid hu3
      have t1 := (hu3.cell (p := ⟨p, 1, none⟩) xl).trans x1
      have HCP := Lib.hid hcp
      clear hby hu3 hb3 hcp
      go_region_law (first
        | (refine step_append_run rfl (.tmp 48) (.tmp 51) 28 9 rfl _ _ (by simp [Act.eval]) (by simp [Act.eval]) HCP.out ?_)
        | (go_simp; go_at_call 24; refine HAP1.out.mono ?_; rintro e w4 ⟨rfl, h4⟩; have U4 := Lib.hid h4; clear h4)
        | fail)
      all_goals
        go_wp2
        go_ret
        exact ⟨rfl, (U1.out.trans U3.out).trans U4.out⟩
  | false =>
    rw [hfl] at HAPP
    have HOK := Lib.hid ok
    rcases hcs' with rfl | ⟨rfl, hxe⟩ | ⟨rfl, hxe, hle, hle2⟩
    all_goals
      go_upto_region 6 with (first
        | (go_at_call 69; refine HS.out.mono ?_; rintro e w1 ⟨rfl, h1⟩; have U1 := Lib.hid h1; obtain ⟨L1, x0, x1, xf, xl⟩ := HW.out w1 h1; have LL := Lib.hid L1; clear h1 L1)
        | fail)
      obtain ⟨a3, c3, w3, hcp, hby, hu3, hb3⟩ := rec_built w1 k x (by omega)
      have HAP1 := Lib.hid (HAPP.out w1 w3 a3 c3 U1.out hu3 hby hb3)
      have U3 := Lib.hid hu3
      have t1 := (hu3.cell (p := ⟨p, 1, none⟩) xl).trans x1
      have HCP := Lib.hid hcp
      clear hby hu3 hb3 hcp
      go_region_law (first
        | (refine step_append_run rfl (.tmp 48) (.tmp 51) 28 9 rfl _ _ (by simp [Act.eval]) (by simp [Act.eval]) HCP.out ?_)
        | (go_simp; go_at_call 24; refine HAP1.out.mono ?_; rintro e w4 ⟨rfl, L4, S4', P4'⟩; have S4 := Lib.hid S4'; have P4 := Lib.hid P4'; have J4 := Lib.hid (((H.out.up (U1.out.trans U3.out)).logStep P4')); have q0 := (J4.out.1.blk.at (i := 0) rfl).2; have qf := J4.out.1.blk.free 0; have ql := J4.out.1.blk.lt; have AP := Lib.hid (applied_any _ C.ents (k, x) w4 J4.out.1.ent HOK.out.srt (by omega)); clear S4' P4')
        | fail)
      all_goals
        go_wp2_with (first
          | (go_at_call 62; refine AP.out.mono ?_; rintro e w5 ⟨v5, rfl, h51, h52, h53⟩; have O5 := Lib.hid h51; have U5 := Lib.hid h52; have F5 := Lib.hid h53; obtain ⟨a5, c5, rfl, _, _, _⟩ := own_form h51; have B5 := (J4.out.1.up h52).blk; have s0 := (B5.at (i := 0) rfl).2; have sf := B5.free 0; have sl := B5.lt; clear h51 h52 h53 B5)
          | fail)
        go_ret
        refine ⟨rfl, L4, S4.out, ?_⟩
        have hlt3 : ∀ k, F k → k < w3.heap.size := fun k hk => Nat.lt_of_lt_of_le (H.out.lt k hk) (U1.out.trans U3.out).size
        have hc6 := chg_set w5 p 0 none (.slice a5 (apL C.ents (k, x)).length c5)
        have key := CkP.join (J4.out.1.own (C' := { C with log := L4, ents := apL C.ents (k, x) }) ((Below.chg (· = p) U5.out).trans hc6 fun _ _ e => e) (fun k _ e => e) rfl rfl ((J4.out.1.blk.up U5.out).set 0 _) (own_chg O5.out hc6 fun j hj e => by
          subst e
          exact ((own_ty O5.out) _ hj).1.ne (E' := 92) (by decide) (blk_ty (J4.out.1.blk.up U5.out))) (own_chg (own_up J4.out.1.pnd U5.out) hc6 fun j hj e => J4.out.1.pne j hj e) (fun j hj => (F5.out j hj).imp (J4.out.1.ef j) id) (fun j hj => .inl (J4.out.1.pf j hj))) J4.out.2 hlt3
        have huu := HU.out
        subst huu
        exact CkPost.behind (U1.out.trans U3.out) ⟨⟨_, _, _, _, _, _, key.1⟩, key.2⟩ H.out.lt
end
end Go.Proofs.Ytmaeeidaegigcaa.Ck
