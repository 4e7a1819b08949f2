/- Replication: committed entries are never lost: the plain part, and the walk. -/
import Derived.Test.YthhkekmeginooaaRqd
namespace Go.Proofs.Ythhkekmeginooaa.Rp
open Go Go.RowKit Hp
set_option linter.unusedVariables false

/-- A list that is committed. -/
def Cert (n T : Nat) (LL : Nat → Lg) (ack : Nat → Nat → Nat) (l : Lg) : Prop := l = [] ∨ ∃ t0 k0 c, 1 ≤ t0 ∧ t0 < T ∧ c ≤ k0 ∧ Own LL t0 k0 ∧ Quor n ack t0 k0 ∧ l = (LL t0).take c
theorem Cert.ext {n T T' : Nat} {LL LL' : Nat → Lg} {ack ack' : Nat → Nat → Nat} {l : Lg} (h : Cert n T LL ack l) (x : Ext n T LL LL' ack ack') (hT : T ≤ T') : Cert n T' LL' ack' l := by
  rcases h with h | ⟨t0, k0, c, h1, h2, h3, h4, h5, h6⟩
  · exact .inl h
  · have hp := x.L t0 h1 h2
    exact .inr ⟨t0, k0, c, h1, by omega, h3, h4.ext hp, h5.mono fun v hv hk => Nat.le_trans hk (x.A t0 v hv), by rw [h6, pre_take hp c (Nat.le_trans h3 h4.le)]⟩
theorem ComOk.cert {n T t c : Nat} {LL : Nat → Lg} {ack : Nat → Nat → Nat} {log : Lg} (h : ComOk n LL ack t c log) (hT : t < T) : Cert n T LL ack (log.take c) := by
  rcases h with h | ⟨t0, k0, h0, h1, h2, h3, h4, h5⟩
  · left; rw [h]; rfl
  · right
    refine ⟨t0, k0, c, h0, by omega, h2, h3, h4, ?_⟩
    have hl : ((LL t0).take c).length = c := by rw [List.length_take]; have := h3.le; omega
    have := pre_take h5 c (by omega)
    rw [this, List.take_take, Nat.min_self]
theorem Cert.two {n T : Nat} {lead : Nat → Nat} {sv : Nat → Srv} {net : List Msg} {LL : Nat → Lg} {ack : Nat → Nat → Nat} (h : Inv n T lead sv net LL ack) {a b : Lg} (ha : Cert n T LL ack a) (hb : Cert n T LL ack b) : a <+: b ∨ b <+: a := by
  rcases ha with rfl | ⟨t1, k1, c1, a1, a2, a3, a4, a5, rfl⟩
  · exact .inl (List.nil_prefix)
  · rcases hb with rfl | ⟨t2, k2, c2, b1, b2, b3, b4, b5, rfl⟩
    · exact .inr (List.nil_prefix)
    · rcases Nat.le_total c1 c2 with e | e
      · exact .inl (h.two a1 a2 b1 b2 a4 b4 a5 b5 a3 b3 e)
      · exact .inr (h.two b1 b2 a1 a2 b4 a4 b5 a5 b3 a3 e)
structure Cm (C : Clu) (LL : Nat → Lg) (ack : Nat → Nat → Nat) (CL : Lg) (cs : List Nat) : Prop where
  ok : Ok C LL ack
  cert : Cert C.srv.length C.lead.length LL ack CL
  len : cs.length = C.srv.length
  le : ∀ i, i < C.srv.length → cs.getD i 0 ≤ (C.s i).com
def CmE (C : Clu) (CL : Lg) (cs : List Nat) : Prop := ∃ LL ack, Cm C LL ack CL cs
theorem CmE.new {n : Nat} (h1 : 1 ≤ n) (h5 : n ≤ 5) : CmE (newC n) [] (List.replicate n 0) :=
  ⟨_, _, newC_ok n h1 h5, .inl rfl, by rw [List.length_replicate, newC_n h1], fun i hi => by rw [newC_n h1] at hi; simp [List.getD, hi]⟩
theorem CmE.next {C C' : Clu} {CL : Lg} {cs : List Nat} (h : CmE C CL cs) (k : Next C C') : CmE C' CL cs := by
  obtain ⟨LL, ack, h⟩ := h
  obtain ⟨LL', ack', x⟩ := k.ok LL ack h.ok
  refine ⟨LL', ack', x.ok, ?_, by rw [k.n]; exact h.len, fun i hi => Nat.le_trans (h.le i (by rw [← k.n]; exact hi)) (x.com i)⟩
  rw [k.n]
  exact h.cert.ext x.ext x.T
theorem CmE.len60 {C : Clu} {CL : Lg} {cs : List Nat} (h : CmE C CL cs) : CL.length ≤ 60 := by
  obtain ⟨LL, ack, h⟩ := h
  rcases h.cert with rfl | ⟨t0, k0, c, h1, h2, _, _, _, rfl⟩
  · exact Nat.zero_le _
  · have := h.ok.inv.len t0 h1 h2
    rw [List.length_take]; omega
theorem getD_set_nat (l : List Nat) (i j x : Nat) (h : i < l.length) : (l.set i x).getD j 0 = if j = i then x else l.getD j 0 := by
  simp only [List.getD]
  rw [List.getElem?_set]
  by_cases e : i = j
  · rw [if_pos e, if_pos h, if_pos e.symm]; rfl
  · rw [if_neg e, if_neg (fun h => e h.symm)]
/-- What is seen at server i. -/
theorem CmE.look {C : Clu} {CL : Lg} {cs : List Nat} (h : CmE C CL cs) {i : Nat} (hi : i < C.srv.length) :
    (C.s i).com ≤ (C.s i).log.length ∧ cs.getD i 0 ≤ (C.s i).com ∧ (pre ((C.s i).log.take (C.s i).com) CL = false → pre CL ((C.s i).log.take (C.s i).com) = true) ∧
    CmE C CL (cs.set i (C.s i).com) ∧ CmE C ((C.s i).log.take (C.s i).com) (cs.set i (C.s i).com) := by
  obtain ⟨LL, ack, h⟩ := h
  have hc := (h.ok.inv.com i hi).cert (h.ok.inv.tm i hi).2
  have hl : i < cs.length := by rw [h.len]; exact hi
  have hle : ∀ j, j < C.srv.length → (cs.set i (C.s i).com).getD j 0 ≤ (C.s j).com := fun j hj => by
    rw [getD_set_nat _ _ _ _ hl]
    split
    · rename_i e; rw [e]; exact Nat.le_refl _
    · exact h.le j hj
  refine ⟨(h.ok.inv.com i hi).le, h.le i hi, fun hp => ?_, ⟨LL, ack, h.ok, h.cert, by rw [List.length_set]; exact h.len, hle⟩, ⟨LL, ack, h.ok, hc, by rw [List.length_set]; exact h.len, hle⟩⟩
  unfold pre at hp ⊢
  have := of_decide_eq_false hp
  exact decide_eq_true ((Cert.two h.ok.inv hc h.cert).resolve_right this)
theorem stepF {w wr : World} {p n : Nat} {C : Clu} {F : Nat → Prop} (h : Hist w wr p n C F) (op : Int) :
    Calls Try.prog 16 #[.pointer (some ⟨p, 0, none⟩), .int .i64 (n : Int), .int .i64 op] wr fun e w' => e = .returned (.tuple #[]) ∧ ∃ C', Hid (Hist w w' p n C' (Fx F wr w')) ∧ Hid (Next C C') ∧ Hid (Chg F wr w') := by
  obtain ⟨LL, ack, ok⟩ := h.ok
  have := step_any h.own.clu ok h.net op
  rw [h.n] at this
  exact this.mono fun e w' ⟨a, C', b, c⟩ => ⟨a, C', h.step (h.own.step b) c, c, b.2⟩
/-- What the law keeps: the longest committed list and the commit indices seen. -/
structure K52 (w wr : World) (p n B : Nat) (C : Clu) (F : Nat → Prop) (CL : Lg) (cs : List Nat) (cv : Value) : Prop where
  h : Hist w wr p n C F
  cm : CmE C CL cs
  co : wr.ownsRow w.heap.size 44 2 cv CL.length (enC CL)
  cF : ∀ k, cv.ownBlock = some k → ¬ F k
  bo : wr.ownsRow w.heap.size 3 1 (.slice (some ⟨B, 0, none⟩) n n) n (icN cs)
  bF : ¬ F B
section
variable {w wr w' : World} {p n B : Nat} {C C' : Clu} {F : Nat → Prop} {CL : Lg} {cs : List Nat} {cv : Value}
theorem K52.step (h : K52 w wr p n B C F CL cs cv) (H : Hist w w' p n C' (Fx F wr w')) (N : Next C C') (hc : Chg F wr w') : K52 w w' p n B C' (Fx F wr w') CL cs cv := by
  refine ⟨H, h.cm.next N, own_chg h.co hc h.cF, fun k hk e => e.elim (h.cF k hk) fun e => by have := own_lt h.co k hk; omega, own_chg h.bo hc fun k hk => ?_, fun e => e.elim h.bF fun e => by have := own_lt h.bo B rfl; omega⟩
  obtain rfl : B = k := by simpa [Value.ownBlock] using hk
  exact h.bF
theorem K52.up (h : K52 w wr p n B C F CL cs cv) (hu : Up wr w') : K52 w w' p n B C F CL cs cv :=
  ⟨⟨h.h.own.grow hu, h.h.ok, h.h.net, h.h.n⟩, h.cm, own_up h.co hu, h.cF, own_up h.bo hu, h.bF⟩
theorem K52.set (h : K52 w wr p n B C F CL cs cv) (i : Nat) (hi : i < n) : K52 w (wr.setCell ⟨B, i, none⟩ (nv (C.s i).com)) p n B C F CL (cs.set i (C.s i).com) cv := by
  have hc := chg_set wr B i none (nv (C.s i).com)
  have hi' : i < C.srv.length := by rw [h.h.n]; exact hi
  have hb := ((own_ty h.bo) B rfl).2
  have hlen : i < (icN cs).length := by
    obtain ⟨LL, ack, g⟩ := h.cm
    rw [icN_len, g.len]; exact hi'
  refine ⟨⟨⟨h.h.own.clu.chg hc fun k hk e => ?_, h.h.own.base, Up.set h.h.own.up hb _ _ _⟩, h.h.ok, h.h.net, h.h.n⟩, (h.cm.look hi').2.2.2.1, own_chg h.co hc fun k hk e => ?_, h.cF, ?_, h.bF⟩
  · subst e; exact h.bF hk
  · subst e
    exact ((own_ty h.co) _ hk).1.ne (E' := 3) (by decide) ((own_ty h.bo) _ rfl).1
  · have := own_set h.bo i hlen (nv (C.s i).com)
    rw [show (icN cs).set i (nv (C.s i).com) = icN (cs.set i (C.s i).com) by unfold icN; rw [List.map_set]] at this
    exact this
theorem K52.get (h : K52 w wr p n B C F CL cs cv) (i : Nat) (hi : i < n) : wr.cell? ⟨B, i, none⟩ = some (nv (cs.getD i 0)) ∧ B < wr.heap.size ∧ wr.frozen? ⟨B, i, none⟩ = false := by
  obtain ⟨LL, ack, g⟩ := h.cm
  have hl : i < cs.length := by rw [g.len, h.h.n]; exact hi
  refine ⟨?_, own_lt h.bo B rfl, own_free h.bo i⟩
  have := own_cell h.bo (icN_get cs i hl)
  rw [this]
  simp [List.getD, hl]
theorem K52.more {i : Nat} {cv' : Value} (h : K52 w wr p n B C F CL (cs.set i (C.s i).com) cv) (h0 : CmE C CL cs) (hi : i < C.srv.length) (ho : wr.ownsRow w.heap.size 44 2 cv' ((C.s i).log.take (C.s i).com).length (enC ((C.s i).log.take (C.s i).com))) (hF : ∀ k, cv'.ownBlock = some k → ¬ F k) :
    K52 w wr p n B C F ((C.s i).log.take (C.s i).com) (cs.set i (C.s i).com) cv' := ⟨h.h, (h0.look hi).2.2.2.2, ho, hF, h.bo, h.bF⟩
end
set_option maxRecDepth 100000 in
set_option maxHeartbeats 4000000 in
theorem walk52 (s : Int) (a : Option Addr) (len cap : Nat) (zs : List Int) (w : World) (hE : Elems w a len zs) (hl : len ≤ cap) (hm : cap ≤ 9223372036854775807) :
    Calls Try.prog 5 #[.int .i64 s, .slice a len cap] w fun e w' => e = .returned (.bool true) ∧ Up w w' := by
  have HE := Lib.hid hE
  clear hE
  obtain ⟨m, hmin, hm1, hm2⟩ := min_len 200 len
  have hmc : (m : Int) ≤ (cap : Int) := by omega
  have hmin2 : min (len : Int) 200 = (m : Int) := by rw [← hmin]; simp only [Int.min_def]; split <;> split <;> omega
  obtain ⟨x, hx1, hx2⟩ := modV_nat s 5 (by omega)
  have HX := Lib.hid hx1
  clear hx1
  obtain ⟨n, hn⟩ : ∃ n, n = 1 + x := ⟨_, rfl⟩
  have hxn : (1 : Int) + (x : Int) = (n : Int) := by omega
  have HN : Hid (1 ≤ n ∧ n ≤ 5) := ⟨by omega, by omega⟩
  have hx3 : (x : Int) ≤ 4 := by omega
  have hmk := mkI n (by omega)
  clear hn hx2
  go_enter Try.func5, Try.ntmps5
  go_wp2_with (first
    | (go_at_call 10; refine (new_any n HN.out.1 HN.out.2 _).mono ?_; rintro e w1 ⟨p, F0, rfl, hO0⟩; have H0 : Hid (Hist w w1 p n (newC n) F0) := Hist.new HN.out.1 HN.out.2 U1.out hO0; clear hO0)
    | (go_at_call 8; refine (works_any _).mono ?_; rintro e w1 ⟨rfl, h1⟩; have U1 := Lib.hid h1; clear h1)
    | (go_at_call 9; refine (mod_any s 5 _ (by omega) (by omega)).mono ?_; rw [HX.out]; rintro e w' ⟨rfl, rfl⟩)
    | fail)
  clear hmin hmin2 hmk
  have K0 : Hid (K52 w (w1.alloc (.cells (icN (List.replicate n 0)).toArray 3)) p n w1.heap.size (newC n) F0 [] (List.replicate n 0) (.slice none 0 0)) := by
    have hb := Blk.new w1 (icN (List.replicate n 0)).toArray 3
    refine ⟨⟨H0.out.own.grow ((Up.refl w1).alloc _), H0.out.ok, H0.out.net, H0.out.n⟩, CmE.new HN.out.1 HN.out.2, World.ownsRow_nil _ _ _ _, fun k hk => (by cases hk), own_base' (own_of_blk hb (by rw [icN_len, List.length_replicate, Nat.mul_one]) (by have := HN.out; omega)) fun k hk => ?_, fun e => ?_⟩
    · obtain rfl : w1.heap.size = k := by simpa [Value.ownBlock] using hk
      exact H0.out.own.up.size
    · have := H0.out.own.clu.lt _ e; omega
  generalize w1.heap.size = B at *
  go_loopw [7, 40] (fun cv iv wr => ∃ (k : Nat) (C : Clu) (F : Nat → Prop) (CL : Lg) (cs : List Nat), k ≤ m ∧ iv = .int .i64 k ∧ Hid (K52 w wr p n B C F CL cs cv)) (fun _ iv _ => m - (intOf iv).toNat)
  case atStart => exact ⟨0, _, _, _, _, Nat.zero_le _, rfl, K0.out⟩
  case round =>
    obtain ⟨k, C, F, CL, cs, hk, rfl, HK⟩ := hrel
    obtain ⟨wo, hwo⟩ : ∃ wo : World, wo = wr := ⟨_, rfl⟩
    rw [← hwo] at HK ⊢
    clear hwo
    obtain ⟨ca, cc, rfl, _, _, _⟩ := own_form HK.out.co
    by_cases hlt : k < m
    · obtain ⟨b, off, rfl, hbl, hcell⟩ := elems_up HE.out HK.out.h.own.up k (by omega)
      have hkm : (k : Int) < (m : Int) := by omega
      generalize zs.getD k 0 = z at *
      go_wp2_with (first
        | (go_at_call 16; refine (stepF HK.out.h z).mono ?_; rintro e w3 ⟨rfl, C', H3, N3, G3⟩)
        | fail)
      have HK3 := Lib.hid (HK.out.step H3.out N3.out G3.out)
      generalize Fx F wo w3 = F' at *
      clear H3 N3 G3 HK
      go_loopw [7, 49] (fun cv iv wr => ∃ (i : Nat) (CL : Lg) (cs : List Nat), i ≤ n ∧ iv = .int .i64 i ∧ Hid (K52 w wr p n B C' F' CL cs cv)) (fun _ iv _ => n - (intOf iv).toNat)
      case atStart => exact ⟨0, _, _, Nat.zero_le _, rfl, HK3.out⟩
      case round =>
        obtain ⟨i, CL, cs, hi, rfl, HK4⟩ := hrel
        obtain ⟨wi, hwi⟩ : ∃ wi : World, wi = wr := ⟨_, rfl⟩
        rw [← hwi] at HK4 ⊢
        clear hwi HK3
        obtain ⟨ca, cc, rfl, _, _, _⟩ := own_form HK4.out.co
        by_cases hlt2 : i < n
        · have hin : (i : Int) < (n : Int) := by omega
          have HIC : Hid (i < C'.srv.length) := by unfold Hid; rw [HK4.out.h.n]; exact hlt2
          have HLK := Lib.hid (HK4.out.cm.look HIC.out)
          have h60 := HK4.out.h.ok.loglen HIC.out
          go_upto_region 17 with (first
            | (go_at_call 15; refine (logO HK4.out.h.own HK4.out.h.ok i HIC.out).mono ?_; rintro e w4 ⟨va, rfl, L4, U4, O4⟩; obtain ⟨la, lc, rfl, hlc1, hlc2, _⟩ := own_form L4.out)
            | fail)
          have HK5 := Lib.hid (HK4.out.up U4.out)
          obtain ⟨d0, d1, d2⟩ := HK5.out.get i hlt2
          have g1 : ((cs.getD i 0 : Nat) : Int) ≤ ((C'.s i).com : Int) := by have := HLK.out.2.1; omega
          have g2 : ((C'.s i).com : Int) ≤ ((C'.s i).log.length : Int) := by have := HLK.out.1; omega
          have g3 : ((C'.s i).com : Int) ≤ (lc : Int) := by omega
          have g4 : ((C'.s i).com : Int) ≤ 60 := by omega
          generalize cs.getD i 0 = y at d0 g1
          have n1 : ¬ (C'.s i).com < y := by omega
          have n2 : ¬ (C'.s i).log.length < (C'.s i).com := by omega
          have n3 : decide ((C'.s i).com < y) = false := decide_eq_false n1
          have n4 : decide ((C'.s i).log.length < (C'.s i).com) = false := decide_eq_false n2
          go_upto_region 21 with fail
          clear n1 n2 n3 n4
          have HK6 := Lib.hid (HK5.out.set i hlt2)
          have HL6 : Hid ((w4.setCell ⟨B, i, none⟩ (nv (C'.s i).com)).ownsRow wi.heap.size 44 2 (.slice la (C'.s i).log.length lc) (C'.s i).log.length (enC (C'.s i).log)) := own_chg L4.out (chg_set w4 B i none (nv (C'.s i).com)) fun k hk e => by
            subst e
            exact ((own_ty L4.out) _ hk).1.ne (E' := 3) (by decide) ((own_ty HK5.out.bo) _ rfl).1
          generalize w4.setCell ⟨B, i, none⟩ (nv (C'.s i).com) = w6 at *
          have HPL : Hid (((C'.s i).log.take (C'.s i).com).length = (C'.s i).com) := by unfold Hid; rw [List.length_take]; omega
          have S1 : Hid (Src w6 2 (.slice la (C'.s i).com lc) ((C'.s i).log.take (C'.s i).com).length (enC ((C'.s i).log.take (C'.s i).com))) := by
            have := src_preE (own_src HL6.out) (m := (C'.s i).com) (by omega)
            unfold Hid
            rw [HPL.out]
            exact this
          have S2 : Hid (Src w6 2 (.slice ca CL.length cc) CL.length (enC CL)) := own_src HK6.out.co
          have hcl60 : CL.length ≤ 60 := HK6.out.cm.len60
          have HS1 := Lib.hid (starts_any (.slice la (C'.s i).com lc) (.slice ca CL.length cc) ((C'.s i).log.take (C'.s i).com) CL w6 S1.out S2.out (by rw [HPL.out]; omega) (by omega))
          have HS2 := Lib.hid (fun (W : World) (hu : Up w6 W) => starts_any (.slice ca CL.length cc) (.slice la (C'.s i).com lc) CL ((C'.s i).log.take (C'.s i).com) W (S2.out.up hu) (S1.out.up hu) (by omega) (by rw [HPL.out]; omega))
          clear d0 d1 d2 HK5 HL6 L4 O4 U4
          cases hb : pre ((C'.s i).log.take (C'.s i).com) CL with
          | true =>
            rw [hb] at HS1
            clear HS2 hb
            go_upto_region 23 with (first
              | (go_at_call 20; refine HS1.out.mono ?_; rintro e w7 ⟨rfl, h7⟩; have U7 := Lib.hid h7; clear h7)
              | fail)
            by_cases hgt : CL.length < (C'.s i).com
            · have hgti : (CL.length : Int) < ((C'.s i).com : Int) := by omega
              have HCL := Lib.hid (cloneE (.slice la (C'.s i).com lc) ((C'.s i).log.take (C'.s i).com).length (enC ((C'.s i).log.take (C'.s i).com)) w7 (S1.out.up U7.out) (enC_one _) (by rw [HPL.out]; omega))
              clear hgt
              go_wp2_with (first
                | (go_at_call 21; refine HCL.out.mono ?_; rintro e w8 ⟨v8, rfl, o8, u8⟩; have O8 := Lib.hid o8; have U8 := Lib.hid u8; clear o8 u8)
                | fail)
              have HK8 : Hid (K52 w w8 p n B C' F' ((C'.s i).log.take (C'.s i).com) (cs.set i (C'.s i).com) v8) := (HK6.out.up (U7.out.trans U8.out)).more HK4.out.cm HIC.out (own_base' O8.out fun k hk => Nat.le_trans HK6.out.h.own.up.size (Nat.le_trans U7.out.size ((own_ty O8.out) k hk).2)) fun k hk e => by
                have h1 := ((own_ty O8.out) k hk).2
                have h2 := HK6.out.h.own.clu.lt k e
                have h3 := U7.out.size
                omega
              go_roundw
              case rel => exact ⟨i + 1, _, _, by omega, by go_num, HK8.out⟩
              case measure => simp [intOf]; omega
            · have hgti : ¬ (CL.length : Int) < ((C'.s i).com : Int) := by omega
              clear hgt
              go_wp2
              go_roundw
              case rel => exact ⟨i + 1, _, _, by omega, by go_num, HK6.out.up U7.out⟩
              case measure => simp [intOf]; omega
          | false =>
            have hb2 := HLK.out.2.2.1 hb
            rw [hb] at HS1
            rw [hb2] at HS2
            clear hb hb2
            go_upto_region 23 with (first
              | (go_at_call 20; have q9 := V1; clear q9; refine (HS2.out _ U6.out).mono ?_; rintro e w7 ⟨rfl, h7⟩; have U7 := Lib.hid (U6.out.trans h7); clear h7)
              | (go_at_call 20; refine HS1.out.mono ?_; rintro e w7 ⟨rfl, h7⟩; have U6 := Lib.hid h7; clear h7; have V1 : Hid True := trivial)
              | fail)
            by_cases hgt : CL.length < (C'.s i).com
            · have hgti : (CL.length : Int) < ((C'.s i).com : Int) := by omega
              have HCL := Lib.hid (cloneE (.slice la (C'.s i).com lc) ((C'.s i).log.take (C'.s i).com).length (enC ((C'.s i).log.take (C'.s i).com)) w7 (S1.out.up U7.out) (enC_one _) (by rw [HPL.out]; omega))
              clear hgt
              go_wp2_with (first
                | (go_at_call 21; refine HCL.out.mono ?_; rintro e w8 ⟨v8, rfl, o8, u8⟩; have O8 := Lib.hid o8; have U8 := Lib.hid u8; clear o8 u8)
                | fail)
              have HK8 : Hid (K52 w w8 p n B C' F' ((C'.s i).log.take (C'.s i).com) (cs.set i (C'.s i).com) v8) := (HK6.out.up (U7.out.trans U8.out)).more HK4.out.cm HIC.out (own_base' O8.out fun k hk => Nat.le_trans HK6.out.h.own.up.size (Nat.le_trans U7.out.size ((own_ty O8.out) k hk).2)) fun k hk e => by
                have h1 := ((own_ty O8.out) k hk).2
                have h2 := HK6.out.h.own.clu.lt k e
                have h3 := U7.out.size
                omega
              go_roundw
              case rel => exact ⟨i + 1, _, _, by omega, by go_num, HK8.out⟩
              case measure => simp [intOf]; omega
            · have hgti : ¬ (CL.length : Int) < ((C'.s i).com : Int) := by omega
              clear hgt
              go_wp2
              go_roundw
              case rel => exact ⟨i + 1, _, _, by omega, by go_num, HK6.out.up U7.out⟩
              case measure => simp [intOf]; omega
        · obtain rfl : i = n := by omega
          go_wp2
          go_roundw
          case rel => exact ⟨k + 1, _, _, _, _, by omega, by go_num, HK4.out⟩
          case measure => simp [intOf]; omega
    · obtain rfl : k = m := by omega
      go_wp2
      go_ret
      exact ⟨rfl, HK.out.h.own.up⟩
end Go.Proofs.Ythhkekmeginooaa.Rp
