/- The checkpoint store: Crash. -/
import Derived.Test.YtmaeeidaegigcaaCkl
namespace Go.Proofs.Ytmaeeidaegigcaa.Ck
open Go Go.RowKit Hp So
open Dk (Dsk DiskR bc Bytes pad bstr)
open Wl (Log LogR LogPost fx_lt St IsB BytD BsR)
set_option linter.unusedVariables false

theorem push_ba (a : ByteArray) (x : UInt8) : a.push x = ⟨a.data.push x⟩ := rfl
theorem bstr_data : ∀ (l : List UInt8) (a : ByteArray), ((l.map fun b => ((b.toNat : Nat) : Int)).foldl (fun r n => r.push (UInt8.ofNat n.toNat)) a).data.toList = a.data.toList ++ l
  | [], a => by simp
  | b :: l, a => by
    rw [List.map_cons, List.foldl_cons, bstr_data l]
    rw [push_ba]
    simp
theorem bstr_byL (s : ByteArray) : bstr (byL s) = s := by
  refine ba_inj ?_
  unfold bstr byL
  rw [bstr_data]
  rw [show ByteArray.empty.data.toList = [] from rfl, List.nil_append]
theorem byL_app (a b : ByteArray) : byL (a ++ b) = byL a ++ byL b := by
  unfold byL
  rw [← List.map_append]
  congr 1
theorem recU_key (u : ByteArray × ByteArray) : ((recU u).drop 1).take u.1.size = byL u.1 := by
  unfold recU
  rw [List.drop_succ_cons, List.drop_zero, byL_app, ← byL_len u.1, List.take_left]
theorem recU_val (u : ByteArray × ByteArray) : (recU u).drop (1 + u.1.size) = byL u.2 := by
  unfold recU
  rw [Nat.add_comm, List.drop_succ_cons, byL_app, ← byL_len u.1, List.drop_left]
theorem recE_key (u : ByteArray × ByteArray) (t : List Int) : ((recE u ++ t).drop 2).take u.1.size = byL u.1 := by
  unfold recE
  rw [List.cons_append, List.cons_append, List.drop_succ_cons, List.drop_succ_cons, List.drop_zero, byL_app, List.append_assoc, ← byL_len u.1, List.take_left]
theorem recE_val (u : ByteArray × ByteArray) (t : List Int) : ((recE u ++ t).drop (2 + u.1.size)).take u.2.size = byL u.2 := by
  unfold recE
  rw [List.cons_append, List.cons_append, Nat.add_comm, List.drop_succ_cons, List.drop_succ_cons, byL_app, List.append_assoc, ← byL_len u.1, List.drop_left, ← byL_len u.2, List.take_left]
/-- A part of a row of bytes. -/
theorem bytes_sub {w : World} {b off n cap : Nat} {l : List Int} (h : Bytes w (.slice (some ⟨b, off, none⟩) n cap) l) (i m c : Nat) (him : i + m ≤ n) (hc : m ≤ c) (hc2 : c ≤ 9223372036854775807) : Bytes w (.slice (some ⟨b, off + i, none⟩) m c) ((l.drop i).take m) := by
  obtain ⟨a, cp, e, h1, h2, h3, h4⟩ := h
  simp only [Value.slice.injEq] at e
  obtain ⟨rfl, rfl, rfl⟩ := e
  have hl : ((l.drop i).take m).length = m := by rw [List.length_take, List.length_drop]; omega
  refine ⟨_, c, by rw [hl], by omega, hc2, (fun e => (by cases e)), fun j hj => ?_⟩
  rw [hl] at hj
  obtain ⟨b', off', e, hr⟩ := h4 (i + j) (by omega)
  cases e
  refine ⟨_, _, rfl, ?_⟩
  rw [List.getElem_take, List.getElem_drop]
  rw [Nat.mul_one] at hr ⊢
  rw [Nat.add_assoc]
  exact hr
theorem bools_chg {S : Nat → Prop} {w w' : World} {v : Value} {sv : List Bool} (h : Bools w v sv) (hc : Chg S w w') (hS : sv ≠ [] → ∀ a n c, v = .slice (some a) n c → ¬ S a.block) : Bools w' v sv := by
  obtain ⟨a, cap, e, h1, h2, h3, h4⟩ := h
  refine ⟨a, cap, e, h1, h2, h3, fun i hi => ?_⟩
  obtain ⟨b, off, ha, hr⟩ := h4 i hi
  refine ⟨b, off, ha, At.chg hr hc ?_⟩
  exact hS (fun e => by rw [e] at hi; exact absurd hi (Nat.not_lt_zero _)) ⟨b, off, none⟩ _ _ (by rw [e, ha])
theorem hdN_nn (l : List Int) (h : IsB l) : 0 ≤ hdN l := by
  have hg : ∀ i, 0 ≤ l.getD i 0 := fun i => by
    rw [List.getD_eq_getElem?_getD]
    cases hl : l[i]? with
    | none => exact Int.le_refl 0
    | some x => exact (h x (List.mem_of_getElem? hl)).1
  have h0 := hg 0
  have h1 := hg 1
  have h2 := hg 2
  unfold hdN
  omega
/-- The store's own cells and rows written anew. -/
theorem CkP.own2 {w w' : World} {p q r : Nat} {F Fl Fd : Nat → Prop} {C C' : Ck} {ev pv ev' pv' : Value} {S : Nat → Prop} (h : CkP w p F C q r Fl Fd ev pv) (hc : Chg S w w') (hS : ∀ k, k < w.heap.size → S k → F k ∧ ¬ Fl k ∧ ¬ Fd k) (hl : C'.log = C.log) (hd : C'.dsk = C.dsk) (hb : Blk w' p [ev', .pointer (some ⟨q, 0, none⟩), .pointer (some ⟨r, 0, none⟩), .int .i64 (C'.cks : Int), pv', .int .i64 C'.next, .int .i64 (C'.cov : Int)] 92)
    (he : w'.ownsRow 0 62 2 ev' C'.ents.length (ec C'.ents)) (hp : w'.ownsRow 0 62 2 pv' C'.pend.length (ec C'.pend)) (hef : ∀ k, ev'.ownBlock = some k → (F k ∧ ¬ Fl k ∧ ¬ Fd k) ∨ w.heap.size ≤ k) (hpf : ∀ k, pv'.ownBlock = some k → (F k ∧ ¬ Fl k ∧ ¬ Fd k) ∨ w.heap.size ≤ k) :
    CkP w' p (Fx F w w') C' q r Fl Fd ev' pv' ∧ Chg F w w' := by
  have nl : ∀ k, Fl k → ¬ S k := fun k hk e => (hS k (h.lt k (h.lf k hk)) e).2.1 hk
  have nd : ∀ k, Fd k → ¬ S k := fun k hk e => (hS k (h.lt k (h.df k hk)) e).2.2 hk
  have fr : ∀ {v : Value} {n : Nat} {xs : List Value}, w'.ownsRow 0 62 2 v n xs → (∀ k, v.ownBlock = some k → (F k ∧ ¬ Fl k ∧ ¬ Fd k) ∨ w.heap.size ≤ k) → ∀ k, v.ownBlock = some k → Fx F w w' k ∧ ¬ Fl k ∧ ¬ Fd k := fun ho hf k hk => by
    rcases hf k hk with e | e
    · exact ⟨.inl e.1, e.2⟩
    · exact ⟨.inr ⟨e, own_lt ho k hk⟩, fun g => by have := h.lt k (h.lf k g); omega, fun g => by have := h.lt k (h.df k g); omega⟩
  exact ⟨⟨fx_lt h.lt hc.size, .inl h.fp, hb, by rw [hl]; exact h.log.chg hc nl, by rw [hd]; exact h.dk.chg hc nd, he, hp, fun k hk => .inl (h.lf k hk), fun k hk => .inl (h.df k hk), h.np, h.dis, fr he hef, fr hp hpf⟩, hc.mono fun k hk e => (hS k hk e).1⟩
/-- The header that counts: the second where its number is higher. -/
def hdr2 (D : Dsk) : Int × Int := if hdN (D.read 0) < hdN (D.read 1) then (hdN (D.read 1), (D.read 1).getD 3 0) else (hdN (D.read 0), (D.read 0).getD 3 0)
section
variable {n i d : Nat} {rs : List (List Int)} {p : Nat} {C : Ck} {F : Nat → Prop} {w : World}
set_option maxRecDepth 100000 in
set_option maxHeartbeats 4000000 in
theorem ccrash_any (h : CkR w p C F) (hs : St n i C.log d rs) (hn1 : 4 ≤ n) (hn2 : n ≤ 256) (hi : i ≤ 900) (cw lw : List Bool) (cv lv : Value) (hcv : Bools w cv cw) (hlv : Bools w lv lw) (hcF : cw ≠ [] → ∀ a n c, cv = .slice (some a) n c → ¬ F a.block) (hlF : lw ≠ [] → ∀ a n c, lv = .slice (some a) n c → ¬ F a.block)
    (hb : BytD C.dsk) (hdl : C.dsk.dur.length = 42) (base us : Ws) (num : Nat) (hnum : num ≤ 100000) (hN : hdr2 (C.dsk.crash cw) = ((num : Int), (base.length : Int))) (hbase : ∀ i (h : i < base.length), (C.dsk.crash cw).read (area num + i) = pad (recE base[i])) (hbk : ∀ e ∈ base, e.1.size ≤ 12 ∧ e.2.size ≤ 12) (hb20 : base.length ≤ 20)
    (hus : rs = us.map recU) (hup : ∀ u ∈ us, 1 ≤ u.1.size ∧ u.1.size ≤ 12 ∧ u.2.size ≤ 12) (hok : ∀ j, j ≤ us.length → WOk ((us.take j).foldl apL base)) :
    Calls Try.prog 41 #[.pointer (some ⟨p, 0, none⟩), cv, lv] w fun e w' => e = .returned (.tuple #[]) ∧ ∃ L' j, d ≤ j ∧ j ≤ us.length ∧ Hid (St n (i + 1) L' j (rs.take j)) ∧ Hid (CkPost p ⟨(us.take j).foldl apL base, L', C.dsk.crash cw, num, [], -1, C.cov⟩ F w w') := by
  obtain ⟨q, r, Fl, Fd, ev, pv, h⟩ := h
  have H := Lib.hid h
  have c1 := (h.blk.at (i := 1) rfl).2
  have c2 := (h.blk.at (i := 2) rfl).2
  have hpl := h.blk.lt
  have HS := Lib.hid hs
  have HLT := Lib.hid h.lt
  have HCR := Lib.hid (Dk.crash_any r C.dsk Fd cw cv w h.dk hcv fun hne a n' c' e g => hcF hne a n' c' e (h.df _ g))
  have HB := Lib.hid (hb.crash cw)
  have HDL : Hid ((C.dsk.crash cw).dur.length = 42) := (Dk.applyW_len _ _).trans hdl
  have HPE : Hid ((C.dsk.crash cw).pend = []) := rfl
  have HLV := Lib.hid hlv
  have HLF := Lib.hid hlF
  have HBASE := Lib.hid hbase
  have HBK := Lib.hid hbk
  have HUS := Lib.hid hus
  have HUP := Lib.hid hup
  have HOK := Lib.hid hok
  obtain ⟨D, hD⟩ : ∃ D, D = C.dsk.crash cw := ⟨_, rfl⟩
  rw [← hD] at HCR HB HDL HPE HBASE hN ⊢
  unfold hdr2 at hN
  have HN := Lib.hid hN
  have hcv2 := hcv
  have hlv2 := hlv
  obtain ⟨ca, cc, rfl, _, _, _, _⟩ := hcv2
  obtain ⟨la, lc, rfl, _, _, _, _⟩ := hlv2
  have HLC : Hid (∀ w1 C1 Fd1, CkP w1 p (Fx F w w1) C1 q r Fl Fd1 ev pv → C1.log = C.log → Chg F w w1 → Calls Try.prog 28 #[.pointer (some ⟨q, 0, none⟩), .slice la lw.length lc] w1 fun e w' => e = .returned (.int .i64 0) ∧ ∃ L' j, d ≤ j ∧ j ≤ rs.length ∧ Hid (St n (i + 1) L' j (rs.take j)) ∧ Hid (LogPost q L' Fl w1 w')) := fun w1 C1 Fd1 h1 he hc => by
    have hl1 := h1.log
    rw [he] at hl1
    exact Wl.crash_st hs (Wl.LogPost.self hl1) hl1.lt hn1 hn2 (by omega) lw _ (bools_chg hlv hc hlF) fun hne a n' c' e g => by
      rcases g with g | g
      · exact hlF hne a n' c' e (H.out.lf _ g)
      · omega
  clear h hs hb hdl hlv hlF hbase hbk hus hup hok hN hD hcv hcF
  go_enter Try.func41, Try.ntmps41
  go_upto_region 1 with (first
    | (go_at_call 20; refine HCR.out.mono ?_; rintro e w1 ⟨rfl, h1, h2⟩; have J1 := Lib.hid (H.out.dskStep h1 h2); clear h1 h2)
    | fail)
  have b1 := J1.out.1.blk
  have y1 := (b1.at (i := 1) rfl).2
  have yl := b1.lt
  clear b1
  go_upto_region 2 with (first
    | (go_at_call 28; refine (HLC.out w1 _ _ J1.out.1 rfl J1.out.2).mono ?_; rintro e w2 ⟨rfl, L2, j, hj1, hj2, S2, P2⟩; have J2 := Lib.hid (CkP.join (J1.out.1.logStep P2.out) J1.out.2 HLT.out))
    | fail)
  have hj1' := Lib.hid hj1
  have hj2' := Lib.hid hj2
  clear hj1 hj2 y1 yl c1 c2
  have HH0 := Lib.hid (header_any ⟨_, _, _, _, _, _, J2.out.1⟩ 0 (by show 0 < D.dur.length; rw [HDL.out]; decide) (by show D.dur.length ≤ 1000; rw [HDL.out]; decide) (by show D.pend.length ≤ 1000; rw [HPE.out]; decide) (HB.out.read (by rw [HDL.out]; decide)).2 (HB.out.read (by rw [HDL.out]; decide)).1)
  have HH1 := Lib.hid (fun W (hu : Up w2 W) => header_any ⟨_, _, _, _, _, _, J2.out.1.up hu⟩ 1 (by show 1 < D.dur.length; rw [HDL.out]; decide) (by show D.dur.length ≤ 1000; rw [HDL.out]; decide) (by show D.pend.length ≤ 1000; rw [HPE.out]; decide) (HB.out.read (by rw [HDL.out]; decide)).2 (HB.out.read (by rw [HDL.out]; decide)).1)
  generalize hdN (D.read 0) = x0 at *
  generalize hdN (D.read 1) = x1 at *
  generalize (D.read 0).getD 3 0 = k0 at *
  generalize (D.read 1).getD 3 0 = k1 at *
  go_upto_if 42 with (first
    | (go_at_call 61; refine (HH1.out w3 U3.out).mono ?_; rintro e w4 ⟨rfl, h4⟩; have U4 := Lib.hid (U3.out.trans h4); clear h4)
    | (go_at_call 61; refine HH0.out.mono ?_; rintro e w3 ⟨rfl, h3⟩; have U3 := Lib.hid h3; clear h3)
    | fail)
  go_cut [6, 7] from 43 to 44 (fun s6 s7 wx => s6 = .int .i64 (num : Int) ∧ s7 = .int .i64 (base.length : Int) ∧ w4 = wx)
  case first =>
    by_cases hx : x0 < x1
    · have HN2 := Lib.hid (Prod.mk.inj ((if_pos hx).symm.trans HN.out))
      go_wp2
      go_meet
      exact ⟨by rw [HN2.out.1], by rw [HN2.out.2], rfl⟩
    · have HN2 := Lib.hid (Prod.mk.inj ((if_neg hx).symm.trans HN.out))
      go_wp2
      go_meet
      exact ⟨by rw [HN2.out.1], by rw [HN2.out.2], rfl⟩
  case rest =>
    obtain ⟨rfl, rfl, rfl⟩ := hcut
    have J4 := Lib.hid (J2.out.1.ups J2.out.2 U4.out HLT.out)
    have b4 := J4.out.1.blk
    have y3 := (b4.at (i := 3) rfl).2
    have y5 := (b4.at (i := 5) rfl).2
    have y4 := (b4.at (i := 4) rfl).2
    have y0 := (b4.at (i := 0) rfl).2
    have f0 := b4.free 0
    have f3 := b4.free 3
    have f4 := b4.free 4
    have f5 := b4.free 5
    have yl := b4.lt
    clear b4 HH0 HH1 hpl
    go_upto_region 7 with fail
    have hc6 := ((((chg_set w4 p 3 none (.int .i64 (num : Int))).trans (chg_set _ p 5 none (.int .i64 (-1))) fun _ _ e => e).trans (chg_set _ p 4 none (.slice none 0 0)) fun _ _ e => e).trans (chg_set _ p 0 none (.slice none 0 0)) fun _ _ e => e)
    have J6 := Lib.hid (CkP.join (J4.out.1.own (C' := ⟨[], L2, D, num, [], -1, C.cov⟩) hc6 (fun k _ e => e) rfl rfl ((((J4.out.1.blk.set 3 _).set 5 _).set 4 _).set 0 _) (World.ownsRow_nil _ _ _ _) (World.ownsRow_nil _ _ _ _) (fun j hj => by cases hj) (fun j hj => by cases hj)) J4.out.2 HLT.out)
    clear hc6 y3 y4 y5 y0 f0 f3 f4 f5 yl
    generalize (((w4.setCell ⟨p, 3, none⟩ (.int .i64 (num : Int))).setCell ⟨p, 5, none⟩ (.int .i64 (-1))).setCell ⟨p, 4, none⟩ (.slice none 0 0)).setCell ⟨p, 0, none⟩ (.slice none 0 0) = w6 at *
    have hbl : (base.length : Int) ≤ 20 := by omega
    have HAR : Hid (∀ W, Calls Try.prog 55 #[.int .i64 (num : Int)] W fun e w' => e = .returned (.int .i64 (area num : Int)) ∧ W = w') := fun W => area_any num W (by omega)
    have harl : area num + 20 ≤ 42 := by have : num % 2 < 2 := Nat.mod_lt _ (by decide); unfold area; omega
    obtain ⟨ar, har⟩ : ∃ ar, ar = area num := ⟨_, rfl⟩
    rw [← har] at HAR HBASE harl
    clear har
    obtain ⟨ie, hie, hze0, hze1, hze2⟩ := info_parts Try.infoEntry
    go_wp2
    go_loopw [59] (fun s59 wr => ∃ i : Nat, s59 = .int .i64 i ∧ i ≤ base.length ∧ ∃ ev1, Hid (CkP wr p (Fx F w wr) ⟨base.take i, L2, D, num, [], -1, C.cov⟩ q r (Fx Fl w1 w2) (Fx Fd w w1) ev1 (.slice none 0 0)) ∧ Hid (Chg F w wr)) (fun s59 _ => base.length - (intOf s59).toNat)
    case atStart => exact ⟨0, rfl, Nat.zero_le _, _, J6.out.1, J6.out.2⟩
    case round =>
      obtain ⟨m, rfl, hmb, ev1, JR, CR⟩ := hrel
      obtain ⟨ea, eb, hev, _, _, _⟩ := own_form JR.out.ent
      rw [show (List.take m base).length = m by rw [List.length_take]; omega] at hev
      subst hev
      by_cases hlt : m < base.length
      · obtain ⟨u, hu⟩ : ∃ u, u = base[m]'hlt := ⟨_, rfl⟩
        have hrow := HBASE.out m hlt
        have hku := HBK.out _ (List.getElem_mem hlt)
        rw [← hu] at hrow hku
        have HU := Lib.hid hu
        have hmi : (m : Int) < (base.length : Int) := by omega
        have b6 := JR.out.blk
        have y2 := (b6.at (i := 2) rfl).2
        have yl := b6.lt
        have hsum : IntKind.i64.wrap ((ar : Int) + (m : Int)) = (ar : Int) + (m : Int) := IntWalk.i64_in _ (by omega)
        have HRD : Hid (∀ W, Up wr W → Calls Try.prog 17 #[.pointer (some ⟨r, 0, none⟩), .int .i64 ((ar : Int) + (m : Int))] W fun e w' => ∃ g c, e = .returned (.tuple #[.slice (some ⟨g, 0, none⟩) 32 c, .int .i64 0]) ∧ 32 ≤ c ∧ c ≤ 9223372036854775807 ∧ Hid (w'.ownsRow 0 5 1 (.slice (some ⟨g, 0, none⟩) 32 c) 32 (bc (pad (recE u)))) ∧ Hid (Up wr w')) := by
          intro W hW
          have := Dk.read_any r (ar + m) D _ W (JR.out.dk.up hW) (by rw [HDL.out]; omega) (by rw [HDL.out]; decide) (by rw [HPE.out]; decide)
          rw [hrow] at this
          rw [show ((ar + m : Nat) : Int) = (ar : Int) + (m : Int) by omega] at this
          refine this.mono ?_
          rintro e w' ⟨v, rfl, h1, h2⟩
          obtain ⟨g, c, rfl, g1, g2, _⟩ := own_some h1 (by decide)
          exact ⟨g, c, rfl, g1, g2, own_base' h1 fun _ _ => Nat.zero_le _, hW.trans h2⟩
        clear hu hrow b6
        go_upto_block 1 with fail
        go_cut [59] from 59 to 106 (fun s59 wx => s59 = .int .i64 (m : Int) ∧ ∃ ev2, Hid (CkP wx p (Fx F w wx) ⟨base.take (m + 1), L2, D, num, [], -1, C.cov⟩ q r (Fx Fl w1 w2) (Fx Fd w w1) ev2 (.slice none 0 0)) ∧ Hid (Chg F w wx))
        case first =>
          go_upto_region 10 with fail
          go_region_held3 (fun w' => w'.cell? ⟨p, 2, none⟩ = some (.pointer (some ⟨r, 0, none⟩))) (first | exact y2 | exact z2 | go_keep) (first
            | (go_at_call 17; refine (HRD.out _ (Up.refl wr).drew).mono ?_; rintro e w7 ⟨g, c, rfl, hc1, hc2, O7, U7⟩; have z2 := (U7.out.cell (p := ⟨p, 2, none⟩) yl).trans y2)
            | (go_at_call 55; refine (HAR.out _).mono ?_; rintro e w7' ⟨rfl, rfl⟩)
            | fail)
          all_goals
            have r0 : ∀ j u', (bc (pad (recE u)))[j]? = some u' → w7.cell? ⟨g, j, none⟩ = some u' := fun j u' hj => by
              obtain ⟨g', c', e, _, _, _, hcl, _⟩ := own_some O7.out (by decide)
              simp only [Value.slice.injEq, Option.some.injEq, Addr.mk.injEq, and_true, true_and] at e
              obtain ⟨rfl, _⟩ := e
              exact hcl j u' hj
            have a0 := r0 0 (.int .u8 (u.1.size : Int)) rfl
            have a1 := r0 1 (.int .u8 (u.2.size : Int)) rfl
            clear r0
            go_upto_region 11 with fail
            go_quiet (fail)
            go_upto_region 12 with fail
            have UA : Hid (Up wr (w7.drewN nq)) := U7.out.drewN nq
            have BY8 : Hid (Bytes (w7.drewN nq) (.slice (some ⟨g, 0, none⟩) 32 c) (pad (recE u))) := by
              have o7 := own_up O7.out ((Up.refl w7).drewN nq)
              have hp32 : (pad (recE u)).length = 32 := Dk.pad_len (by rw [recE_len]; omega)
              refine Dk.bytes_own (base := 0) ?_
              rw [hp32]
              exact o7
            generalize w7.drewN nq = w8 at *
            have J8 := Lib.hid (JR.out.ups CR.out UA.out HLT.out)
            have htl : (base.take m).length = m := by rw [List.length_take]; omega
            have OE : Hid (w8.ownsRow 0 62 2 (.slice ea m eb) m (ec (base.take m))) := by
              have := J8.out.1.ent
              rw [htl] at this
              exact this
            clear htl
            have b8 := J8.out.1.blk
            have y0 := (b8.at (i := 0) rfl).2
            have yl8 := b8.lt
            clear b8 z2 y2 yl a0 a1
            have hk9 : (u.1.size : Int) ≤ 12 := by omega
            have hx9 : (u.2.size : Int) ≤ 12 := by omega
            have hb1 : IntKind.i64.wrap (2 + (u.1.size : Int)) = 2 + (u.1.size : Int) := IntWalk.i64_in _ (by omega)
            have hb2 : IntKind.i64.wrap (2 + (u.1.size : Int) + (u.2.size : Int)) = 2 + (u.1.size : Int) + (u.2.size : Int) := IntWalk.i64_in _ (by omega)
            have hb3 : (0 : Int) ≤ 2 + (u.1.size : Int) := by omega
            have hb4 : 2 + (u.1.size : Int) ≤ (c : Int) := by omega
            have hb5 : max (2 + (u.1.size : Int)) 0 = 2 + (u.1.size : Int) := by omega
            have hb6 : (2 : Int) ≤ 2 + (u.1.size : Int) := by omega
            have hb7 : (2 + (u.1.size : Int)).toNat = 2 + u.1.size := by omega
            have hb8 : (0 : Int) ≤ 2 + (u.1.size : Int) + (u.2.size : Int) := by omega
            have hb9 : 2 + (u.1.size : Int) + (u.2.size : Int) ≤ (c : Int) := by omega
            have hba : max (2 + (u.1.size : Int) + (u.2.size : Int)) 0 = 2 + (u.1.size : Int) + (u.2.size : Int) := by omega
            have hbb : 2 + (u.1.size : Int) ≤ 2 + (u.1.size : Int) + (u.2.size : Int) := by omega
            have hbc : (2 + (u.1.size : Int) + (u.2.size : Int)).toNat = 2 + u.1.size + u.2.size := by omega
            have hbd : ¬ c = 2 := by omega
            have hbe : ¬ c = 2 + u.1.size := by omega
            have hcv1 : (convert 28 9 (.slice (some ⟨g, 2, none⟩) u.1.size (c - 2))).run Try.prog w8.drew = .ok (.string u.1) w8.drew := by
              have := Dk.convB w8 _ _ (bytes_sub BY8.out 2 u.1.size (c - 2) (by omega) (by omega) (by omega))
              rw [show pad (recE u) = recE u ++ List.replicate (32 - (recE u).length) 0 from rfl, recE_key, bstr_byL] at this
              exact Dk.convB w8.drew _ _ (bytes_sub BY8.out 2 u.1.size (c - 2) (by omega) (by omega) (by omega)) |>.trans (by rw [show pad (recE u) = recE u ++ List.replicate (32 - (recE u).length) 0 from rfl, recE_key, bstr_byL])
            have hcv2 : (convert 28 9 (.slice (some ⟨g, 2 + u.1.size, none⟩) u.2.size (c - (2 + u.1.size)))).run Try.prog w8.drew = .ok (.string u.2) w8.drew := by
              have hsub := bytes_sub BY8.out (2 + u.1.size) u.2.size (c - (2 + u.1.size)) (by omega) (by omega) (by omega)
              rw [Nat.zero_add] at hsub
              exact Dk.convB w8.drew _ _ hsub |>.trans (by rw [show pad (recE u) = recE u ++ List.replicate (32 - (recE u).length) 0 from rfl, recE_val, bstr_byL])
            have HNEWS := Lib.hid (cells_new w8 #[.string u.1, .string u.2] 62)
            have OWN8 : Hid (((w8.alloc (.cells #[.string u.1, .string u.2] 62)).drew).ownsRow 0 62 2 (.slice ea m eb) m (ec (base.take m))) := own_up OE.out ((Up.refl w8).alloc _).drew
            have HFAR : Hid (∀ w2, ((w8.alloc (.cells #[.string u.1, .string u.2] 62)).drew).grownBy w2 (Value.slice ea m eb).ownBlock → Blk w2 p _ 92) := fun w2 hg => fld_far J8.out.1.blk (by decide) OE.out ((Up.refl w8).alloc _).drew hg
            clear hj1' hj2' S2 P2 J1 J2 J4 J6 HN HLC HCR HLV HLF HUS HUP HOK HS HRD HAR U3 U4 U7
            go_region_law (first
              | (refine step_append_lies _ rfl (.tmp 86) (.tmp 102) 67 rfl 0 62 ie (.agg #[.string ByteArray.empty, .string ByteArray.empty]) 2 32 Try.underlying67 hie hze0 hze1 hze2 rfl (by decide) (.slice ea m eb) m _ (by simp [Act.eval]) OWN8.out ⟨w8.heap.size, 0, none⟩ 1 1 [.string u.1, .string u.2] (by simp [Act.eval]) rfl HNEWS.out (by intro u' hu'; simp at hu'; rcases hu' with rfl | rfl <;> rfl) (by decide) (by unfold maxLen; omega) (by omega) (by omega) _ rfl ?_
                 intro g9 c9 w9 hown9 hgrow9 hat9 hlt9
                 have HO9 := Lib.hid hown9
                 have HG9 := Lib.hid hgrow9
                 have HA9 := Lib.hid hat9
                 have b9 := HFAR.out w9 hgrow9
                 have q0 := (b9.at (i := 0) rfl).2
                 have qf := b9.free 0
                 have ql := b9.lt
                 clear hown9 hgrow9 hat9 b9)
              | fail)
            all_goals
              go_wp2
              go_meet
              obtain ⟨g1, g2, g3, g4, g5, g6, g7⟩ := fld_append (i := 0) J8.out.1.blk (by decide) OE.out ((Up.refl w8).alloc (.cells #[.string u.1, .string u.2] 62)).drew HO9.out HG9.out HA9.out ((Up.refl w8).alloc (.cells #[.string u.1, .string u.2] 62)).drew.size
              have e1 : base.take (m + 1) = base.take m ++ [u] := by rw [List.take_add_one, HU.out, List.getElem?_eq_getElem hlt]; rfl
              have e2 : ec (base.take m) ++ [Value.string u.1, .string u.2] = ec (base.take (m + 1)) := by rw [e1, ec_app]; rfl
              have e3 : (base.take (m + 1)).length = m + 1 := by rw [List.length_take]; omega
              have key := CkP.join (J8.out.1.own2 (C' := ⟨base.take (m + 1), L2, D, num, [], -1, C.cov⟩) g4 (fun k hk e => by
                rcases e with e | e
                · exact J8.out.1.ef k e
                · subst e; exact ⟨J8.out.1.fp, J8.out.1.np⟩) rfl rfl g1 (by
                  show World.ownsRow _ 0 _ 2 _ (base.take (m + 1)).length (ec (base.take (m + 1)))
                  rw [e3, ← e2]; exact g2) (World.ownsRow_nil _ _ _ _) (fun j hj => by
                  obtain rfl : g9 = j := Option.some.inj hj
                  rcases g5 with e | e
                  · exact .inl (J8.out.1.ef _ e)
                  · exact .inr e) (fun j hj => by cases hj)) J8.out.2 HLT.out
              exact ⟨rfl, _, key.1, key.2⟩
        case rest =>
          obtain ⟨rfl, ev2, J9, C9⟩ := hcut
          go_wp2
          go_roundw
          case rel => exact ⟨m + 1, by rw [show ((m : Int) + 1) = ((m + 1 : Nat) : Int) by omega], hlt, ev2, J9, C9⟩
          case measure => simp [intOf]; omega
      · obtain rfl : m = base.length := by omega
        have JR2 : Hid (CkP wr p (Fx F w wr) ⟨base, L2, D, num, [], -1, C.cov⟩ q r (Fx Fl w1 w2) (Fx Fd w w1) (.slice ea base.length eb) (.slice none 0 0)) := by
          have := JR.out
          rw [List.take_length] at this
          exact this
        obtain ⟨wo, hwo⟩ : ∃ wo, wo = wr := ⟨_, rfl⟩
        rw [← hwo] at JR2 CR ⊢
        clear hwo JR J6 J4 J2 J1
        have b6 := JR2.out.blk
        have y1 := (b6.at (i := 1) rfl).2
        have yl := b6.lt
        clear b6
        have HJU : Hid ((rs.take j).length = j) := by unfold Hid; rw [List.length_take]; have := hj2'.out; omega
        have hjb : j ≤ 1000 := by have := S2.out.cnt; rw [HJU.out] at this; omega
        have HRC := Lib.hid (Wl.recs_st S2.out (Wl.LogPost.self JR2.out.log) (by omega) )
        go_wp2_with (first
          | (go_at_call 26; refine HRC.out.mono ?_; rintro e w9 ⟨v9, rfl, R9, U9⟩; obtain ⟨a9, c9, hv9, hl9, ha9⟩ := Wl.bs_form R9.out.bs; rw [HJU.out] at hv9; subst hv9; have HA9 := Lib.hid ha9; clear hl9 ha9)
          | fail)
        have J9 := Lib.hid (JR2.out.ups CR.out U9.out HLT.out)
        have hpo : p < wo.heap.size := yl
        clear y1 yl HRC
        have hji : (j : Int) ≤ 1000 := by omega
        go_loopw [113] (fun s113 wt => ∃ k : Nat, s113 = .int .i64 k ∧ k ≤ j ∧ ∃ ev2, Hid (CkP wt p (Fx F w wt) ⟨(us.take k).foldl apL base, L2, D, num, [], -1, C.cov⟩ q r (Fx Fl w1 w2) (Fx Fd w w1) ev2 (.slice none 0 0)) ∧ Hid (Chg F w wt) ∧ Hid (Chg (· = p) w9 wt)) (fun s113 _ => j - (intOf s113).toNat)
        case atStart => exact ⟨0, rfl, Nat.zero_le _, _, J9.out.1, J9.out.2, Chg.refl _ _⟩
        case round =>
          obtain ⟨k, rfl, hkj, ev2, JT, CT, CP⟩ := hrel
          obtain ⟨ea2, eb2, hev2, _, _, _⟩ := own_form JT.out.ent
          have hjus : Hid (j ≤ us.length) := by have := hj2'.out; rw [HUS.out, List.length_map] at this; exact this
          by_cases hlt2 : k < j
          · have hkus : k < us.length := by have := hjus.out; omega
            obtain ⟨u, hu⟩ : ∃ u, u = us[k]'hkus := ⟨_, rfl⟩
            have hku := HUP.out _ (List.getElem_mem hkus)
            rw [← hu] at hku
            have hrk : Hid (∃ hk : k < (rs.take j).length, (rs.take j)[k] = recU u) := by
              refine ⟨by rw [HJU.out]; exact hlt2, ?_⟩
              rw [List.getElem_take, hu]
              have := HUS.out
              subst this
              rw [List.getElem_map]
            have hap : Hid (apL ((us.take k).foldl apL base) u = (us.take (k + 1)).foldl apL base) := by
              unfold Hid
              rw [List.take_add_one, List.getElem?_eq_getElem hkus, ← hu, List.foldl_append]
              rfl
            have HU := Lib.hid hu
            clear hu
            have RT := Lib.hid (Wl.RecP.chg R9.out CP.out fun k' h1 h2 e => by subst e; omega)
            obtain ⟨b9, o9, hab⟩ := HA9.out k hrk.out.1
            subst hab
            have hbs : BsR wr (.slice (some ⟨b9, o9, none⟩) (rs.take j).length c9) (rs.take j) := by rw [HJU.out]; exact RT.out.bs
            obtain ⟨x, hx1, hx2, hx3⟩ := Wl.bs_at hbs k hrk.out.1
            rw [hrk.out.2] at hx3
            have hul := recU_len u
            obtain ⟨ax, cx, hxe, hc1, hc2, hc3, hc4⟩ := hx3
            rw [hul] at hxe hc1
            obtain ⟨bx, ox, hax, hbx, hr0⟩ := hc4 0 (by omega)
            subst hax
            subst hxe
            have BX : Hid (Bytes wr (.slice (some ⟨bx, ox, none⟩) (1 + u.1.size + u.2.size) cx) (recU u)) := ⟨_, _, by rw [hul], by rw [hul]; exact hc1, hc2, hc3, hc4⟩
            have a0 : wr.cell? ⟨bx, ox, none⟩ = some (.int .u8 (u.1.size : Int)) := by rw [Nat.zero_mul, Nat.add_zero] at hr0; exact hr0
            have hkji : (k : Int) < (j : Int) := by omega
            clear hc4 hr0 hc3 hul
            have hk9 : (u.1.size : Int) ≤ 12 := by omega
            have hx9 : (u.2.size : Int) ≤ 12 := by omega
            have bt := JT.out.blk
            rw [hev2] at bt
            have y0 := (bt.at (i := 0) rfl).2
            have yf := bt.free 0
            have yl := bt.lt
            clear bt
            have AP := Lib.hid (applied_any _ _ u wr JT.out.ent (HOK.out k (by have := hjus.out; omega)).srt (Nat.le_trans (HOK.out k (by have := hjus.out; omega)).len (by decide)))
            rw [hap.out] at AP
            rw [hev2] at AP
            go_upto_block 3 with fail
            go_cut [113] from 113 to 139 (fun s113 wx => s113 = .int .i64 (k : Int) ∧ ∃ ev3, Hid (CkP wx p (Fx F w wx) ⟨(us.take (k + 1)).foldl apL base, L2, D, num, [], -1, C.cov⟩ q r (Fx Fl w1 w2) (Fx Fd w w1) ev3 (.slice none 0 0)) ∧ Hid (Chg F w wx) ∧ Hid (Chg (· = p) w9 wx))
            case first =>
              go_upto_region 18 with fail
              have JW := Lib.hid JT
              clear hkji a0 hx1 hx2 AP
              have AP := Lib.hid (applied_any _ _ u wr.drew (own_up JT.out.ent (Up.refl wr).drew) (HOK.out k (by have := hjus.out; omega)).srt (Nat.le_trans (HOK.out k (by have := hjus.out; omega)).len (by decide)))
              rw [hap.out, hev2] at AP
              have hb1 : (0 : Int) ≤ 1 + (u.1.size : Int) := by omega
              have hb2 : 1 + (u.1.size : Int) ≤ (cx : Int) := by omega
              have hb3 : max (1 + (u.1.size : Int)) 0 = 1 + (u.1.size : Int) := by omega
              have hb4 : (1 : Int) ≤ 1 + (u.1.size : Int) := by omega
              have hb5 : (1 + (u.1.size : Int)).toNat = 1 + u.1.size := by omega
              have hb6 : 1 + (u.1.size : Int) ≤ ((1 + u.1.size + u.2.size : Nat) : Int) := by omega
              have hb7 : 1 + (u.1.size : Int) ≤ 1 + (u.1.size : Int) + (u.2.size : Int) := by omega
              have hb8 : ¬ cx = 1 := by omega
              have hcv1 : (convert 28 9 (.slice (some ⟨bx, ox + 1, none⟩) u.1.size (cx - 1))).run Try.prog wr.drew = .ok (.string u.1) wr.drew := by
                exact Dk.convB wr.drew _ _ (bytes_sub BX.out 1 u.1.size (cx - 1) (by omega) (by omega) (by omega)) |>.trans (by rw [recU_key, bstr_byL])
              have hcv2 : (convert 28 9 (.slice (if cx = 1 + u.1.size then some ⟨bx, ox, none⟩ else some ⟨bx, ox + (1 + u.1.size), none⟩) u.2.size (cx - (1 + u.1.size)))).run Try.prog wr.drew = .ok (.string u.2) wr.drew := by
                have hd2 : (recU u).drop (1 + u.1.size) = byL u.2 := recU_val u
                have hb2' : bstr (byL u.2) = u.2 := bstr_byL u.2
                by_cases hcx : cx = 1 + u.1.size
                · have h0 : u.2.size = 0 := by omega
                  have hn : byL u.2 = [] := List.eq_nil_of_length_eq_zero (by rw [byL_len]; exact h0)
                  rw [hn] at hb2'
                  rw [if_pos hcx]
                  refine (Dk.convB wr.drew _ [] ?_).trans (by rw [hb2'])
                  exact ⟨_, _, by rw [h0]; rfl, Nat.zero_le _, by omega, (fun e => (by cases e)), fun j hj => absurd hj (Nat.not_lt_zero _)⟩
                · rw [if_neg hcx]
                  refine (Dk.convB wr.drew _ _ (bytes_sub BX.out (1 + u.1.size) u.2.size (cx - (1 + u.1.size)) (by omega) (by omega) (by omega))).trans ?_
                  rw [hd2, List.take_of_length_le (by rw [byL_len]; exact Nat.le_refl _), hb2']
              obtain ⟨A2, hif⟩ : ∃ A2, (if cx = 1 + u.1.size then some (⟨bx, ox, none⟩ : Addr) else some ⟨bx, ox + (1 + u.1.size), none⟩) = A2 := ⟨_, rfl⟩
              rw [hif] at hcv2
              clear hj1' hj2' S2 P2 HN HLC HCR HLV HLF HUS HUP HS HAR U3 U4 BX
              go_region_law (first
                | (go_simp; go_at_call 62; refine AP.out.mono ?_; rintro e w11 ⟨v11, rfl, h111, h112, h113⟩; have O11 := Lib.hid h111; have U11 : Hid (Up wr w11) := (Up.refl wr).drew.trans h112; have F11 := Lib.hid h113; obtain ⟨a11, c11, rfl, _, _, _⟩ := own_form h111; have B11 := (JT.out.up U11.out).blk; have s0 := (B11.at (i := 0) rfl).2; have sf := B11.free 0; have sl := B11.lt; clear h111 h112 h113 B11)
                | fail)
              all_goals
                clear hif
                go_wp2
                go_meet
                have hc6 := chg_set w11 p 0 none (.slice a11 ((us.take (k + 1)).foldl apL base).length c11)
                have hcc : Chg (· = p) wr (w11.setCell ⟨p, 0, none⟩ (.slice a11 ((us.take (k + 1)).foldl apL base).length c11)) := (Below.chg (· = p) U11.out).trans hc6 fun _ _ e => e
                have key := CkP.join (JT.out.own (C' := ⟨(us.take (k + 1)).foldl apL base, L2, D, num, [], -1, C.cov⟩) hcc (fun k _ e => e) rfl rfl ((JT.out.blk.up U11.out).set 0 _) (own_chg O11.out hc6 fun j' hj e => by
                  subst e
                  exact ((own_ty O11.out) _ hj).1.ne (E' := 92) (by decide) (blk_ty (JT.out.blk.up U11.out))) (World.ownsRow_nil _ _ _ _) (fun j' hj => by
                  rw [← hev2] at F11
                  exact (F11.out j' hj).imp (JT.out.ef j') id) (fun j' hj => by cases hj)) CT.out HLT.out
                exact ⟨rfl, _, key.1, key.2, CP.out.trans hcc fun _ _ e => e⟩
            case rest =>
              obtain ⟨rfl, ev3, J10, C10, P10⟩ := hcut
              go_wp2
              go_roundw
              case rel => exact ⟨k + 1, by rw [show ((k : Int) + 1) = ((k + 1 : Nat) : Int) by omega], hlt2, ev3, J10, C10, P10⟩
              case measure => simp [intOf]; omega
          · obtain rfl : k = j := by omega
            go_wp2
            go_end0
            exact ⟨rfl, L2, k, hj1'.out, hjus.out, S2, ⟨_, _, _, _, _, _, JT.out⟩, CT.out⟩
end
end Go.Proofs.Ytmaeeidaegigcaa.Ck
