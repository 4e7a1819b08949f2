/- Recovery: rolling back gives every page its value again. -/
import Derived.Test.YtjalpppmgoepiaaRvz
namespace Go.Proofs.Ytjalpppmgoepiaa.Rv
open Go Go.RowKit Hp
set_option linter.unusedVariables false

/-- One transaction writes, behind the crash. -/
structure WI (E : Eng) (c : Nat → Int) (t k : Nat) : Prop where
  ei : EI E
  ac : E.act = [t]
  cm : ∀ p, (lsl E.log).cm p = c p
  ll : E.log.length ≤ 900 + k
theorem WI.start {E : Eng} {c : Nat → Int} (h : CR E c) : WI { E with last := E.last + 1, act := E.act ++ [E.last + 1] } c (E.last + 1) 0 :=
  ⟨h.ei.begin, by show E.act ++ _ = _; rw [h.ac]; rfl, h.cm, h.ll⟩
theorem WI.own {E : Eng} {c : Nat → Int} {t k : Nat} (h : WI E c t k) (p : Nat) : (lsl E.log).own p = 0 ∨ (lsl E.log).own p = t := by
  by_cases e : (lsl E.log).own p = 0
  · exact .inl e
  · have := h.ei.oa p e
    rw [h.ac] at this
    exact .inr (List.mem_singleton.1 this)
theorem WI.mem {E : Eng} {c : Nat → Int} {t k : Nat} (h : WI E c t k) : t ∈ E.act := by rw [h.ac]; exact List.mem_singleton.2 rfl
theorem WI.free {E : Eng} {c : Nat → Int} {t k : Nat} (h : WI E c t k) {pg : Nat} (hp : pg < 6) : bsy E t pg = false := by
  unfold bsy
  rw [h.ei.wr pg hp]
  rcases h.own pg with e | e <;> simp [e]
theorem WI.write {E : Eng} {c : Nat → Int} {t k : Nat} (h : WI E c t k) {pg : Nat} (hp : pg < 6) (v : Int) : WI (wrE E t pg v) c t (k + 1) := by
  obtain ⟨e1, _, e3, _⟩ := h.ei.write h.mem hp (h.free hp) v
  have hL : (wrE E t pg v).log = E.log ++ [⟨1, t, pg, (at_ E.buf pg).1, v⟩] := rfl
  refine ⟨e1, h.ac, fun p => by rw [e3]; exact h.cm p, ?_⟩
  have := h.ll
  rw [hL, List.length_append]
  simp only [List.length_cons, List.length_nil]
  omega
theorem WI.roll {E : Eng} {c : Nat → Int} {t k : Nat} (h : WI E c t k) : (rolE E t).buf.length = 6 ∧ ∀ k, k < 6 → ∀ hb : k < (rolE E t).buf.length, (rolE E t).buf[k].1 = c k := by
  obtain ⟨e1, e2, e3, _⟩ := h.ei.rollback h.mem
  refine ⟨e1.bl, fun k hk hb => ?_⟩
  rw [e1.val (fun p => ?_) hk hb, e3]
  · exact h.cm k
  · rw [e2]
    show (if (lsl E.log).own p = t then 0 else (lsl E.log).own p) = 0
    rcases h.own p with e | e
    · rw [e]; split <;> rfl
    · rw [if_pos e]
theorem roll_any {E : Eng} {c : Nat → Int} {t k : Nat} (h : WI E c t k) (hk : k ≤ 50) (p : Nat) (F : Nat → Prop) (w : World) (hr : EngR w p E F) :
    Calls Try.prog 14 #[.pointer (some ⟨p, 0, none⟩), .int .i64 (t : Int)] w fun e w' => ∃ E2, e = .returned (.int .i64 0) ∧ EngPost p E2 F w w' ∧ E2.buf.length = 6 ∧ ∀ k, k < 6 → ∀ hb : k < E2.buf.length, E2.buf[k].1 = c k :=
  (rollback_any p E F t w hr h.mem (by have := h.ll; omega) (by rw [h.ac]; show 1 ≤ 1000; decide) (by rw [h.ei.wl]; decide) fun r hr _ => by
    obtain ⟨l1, l2, e⟩ := List.append_of_mem hr
    rw [h.ei.bl]
    exact (h.ei.lg l1 r l2 e).pg).mono fun e w' ⟨h1, h2⟩ => ⟨_, h1, h2, h.roll⟩
theorem wr_any {E : Eng} {c : Nat → Int} {t k pg : Nat} (h : WI E c t k) (hk : k ≤ 50) (hp : pg < 6) (v : Int) (p : Nat) (F : Nat → Prop) (w : World) (hr : EngR w p E F) :
    Calls Try.prog 12 #[.pointer (some ⟨p, 0, none⟩), .int .i64 (t : Int), .int .i64 (pg : Int), .int .i64 v] w fun e w' => ∃ E2, e = .returned (.int .i64 0) ∧ EngPost p E2 F w w' ∧ WI E2 c t (k + 1) :=
  (write_any p E F t pg v w hr h.mem (by rw [h.ei.bl]; exact hp) (by rw [h.ei.wl, h.ei.bl]) (by have := h.ll; omega) (by rw [h.ac]; show 1 ≤ 1000; decide)).mono fun e w' hh => by
    obtain ⟨h1, h2⟩ := hh.2 (h.free hp)
    exact ⟨_, h1, h2, h.write hp v⟩
set_option maxRecDepth 100000 in
set_option maxHeartbeats 4000000 in
theorem walk19 (a : Option Addr) (len cap : Nat) (zs : List Int) (b : Option Addr) (lenb capb : Nat) (zb : List Int) (w : World) (hE : Elems w a len zs) (hl : len ≤ cap) (hm : cap ≤ 9223372036854775807) (hEb : Elems w b lenb zb) (hlb : lenb ≤ capb) (hmb : capb ≤ 9223372036854775807) :
    Calls Try.prog 4 #[.slice a len cap, .slice b lenb capb] w fun e w' => e = .returned (.bool true) ∧ Up w w' := by
  have HRUN := Lib.hid (fun p F W h => run_law p F a len cap zs w W h hE hl hm)
  have HE := Lib.hid hEb
  have HU6 := Lib.hid Try.arr6
  obtain ⟨dI, hI, hdI⟩ := Try.intT
  have HI3 := Lib.hid hI
  have HS3 := Lib.hid Try.intS
  obtain ⟨m, hmin', hm1, hm2⟩ := min_len 50 lenb
  have hmin : (if (50 : Int) < (lenb : Int) then (50 : Int) else (lenb : Int)) = (m : Int) := hmin'
  clear hmin'
  have hmc : (m : Int) ≤ (capb : Int) := by omega
  have hmin2 : min (lenb : Int) 50 = (m : Int) := by rw [← hmin]; simp only [Int.min_def]; split <;> split <;> omega
  have HM := Lib.hid (And.intro hmin (And.intro hmc hmin2))
  clear hE hI hEb hmin hmc hmin2
  go_enter Try.func4, Try.ntmps4
  go_wp2_with (first
    | (go_at_call 6; refine (works_any _).mono ?_; rintro e w1 ⟨rfl, h1⟩; have U1 := Lib.hid h1; clear h1)
    | (go_at_call 7; refine (new_any 6 (by decide) (by decide) _).mono ?_; rintro e w2 ⟨p, rfl, F, h1, h2, h3⟩; have O2 : Hid (OE w w2 p (newE 6) F) := ⟨h1, fun j hj => Nat.le_trans U1.out.size (h2 j hj), U1.out.trans h3⟩; clear h1 h2 h3)
    | (go_at_call 8; refine (HRUN.out _ _ _ O2.out).mono ?_; rintro e w3 ⟨E, c0, c1, c2, c3, c4, c5, A, g, G, rfl, h1, h2⟩; have P3 := Lib.hid h1; have O3 := Lib.hid (h2.upw ((Up.refl w3).alloc (.cells #[.int .i64 c0, .int .i64 c1, .int .i64 c2, .int .i64 c3, .int .i64 c4, .int .i64 c5] 28))); clear h1 h2)
    | (go_at_call 9; refine (crash_any p E G _ O3.out.er P3.out.crh).mono ?_; rintro e w4 ⟨rd, rfl, h5⟩; have O4 := Lib.hid (O3.out.eng h5); have HG4 := Lib.hid O4.out.er.lt; clear h5)
    | fail)
  have HCR := Lib.hid (CR.of P3.out)
  have HB0 := Lib.hid (BR.new O4.out)
  generalize crE E = E1 at *
  generalize (lsl E.log).cm = c at *
  go_loopw [40] (fun kv wr => ∃ k : Nat, k ≤ 6 ∧ kv = .int .i64 k ∧ Hid (BR w wr p E1 (Fx G (w3.alloc (.cells #[.int .i64 c0, .int .i64 c1, .int .i64 c2, .int .i64 c3, .int .i64 c4, .int .i64 c5] 28)) w4) w4.heap.size (rdV c k))) (fun kv _ => 6 - (intOf kv).toNat)
  case atStart => exact ⟨0, by omega, rfl, HB0.out⟩
  case round =>
    obtain ⟨k, hk, rfl, HB⟩ := hrel
    by_cases hlt : k < 6
    · have hki : (k : Int) < 6 := by omega
      have hb : k < E1.buf.length := by rw [HCR.out.bl]; exact hlt
      have HRD := read_any p E1 _ k wr HB.out.oe.er hb
      rw [HCR.out.hb k hlt hb] at HRD
      have HRD := Lib.hid HRD
      have HVK : Hid ((rdV c k).set k (c k) = rdV c (k + 1)) := rdV_succ c k hlt
      clear hb
      generalize c k = vk at *
      go_wp2_with (first
        | (go_at_call 10; refine HRD.out.mono ?_; rintro e w6 ⟨rfl, h6⟩
           have B6 := Lib.hid (HB.out.upw h6)
           have e0 := (B6.out.bk.at (iv_get (rdV c k) k (by rw [rdV_len]; exact hlt))).2
           have e1 := B6.out.bk.free k
           have el := B6.out.bk.lt
           have B7 := Lib.hid (B6.out.set k vk)
           rw [HVK.out] at B7
           clear h6)
        | fail)
      go_roundw
      case rel => exact ⟨k + 1, by omega, by go_num, B7.out⟩
      case measure => simp [intOf]; omega
    · obtain rfl : k = 6 := by omega
      clear hk hlt
      have HBG := begin_any p E1 _ wr HB.out.oe.er (by rw [HCR.out.ac]; show 0 < 10; decide) (by have := HCR.out.la; omega)
      have hlc : ((E1.last + 1 : Nat) : Int) = (E1.last : Int) + 1 := by omega
      have HW0 := Lib.hid (WI.start HCR.out)
      generalize { E1 with last := E1.last + 1, act := E1.act ++ [E1.last + 1] } = E2 at *
      generalize E1.last + 1 = t at *
      have HBG := Lib.hid HBG
      clear hlc
      have hmin := HM.out.1
      have hmc := HM.out.2.1
      have hmin2 := HM.out.2.2
      go_wp2_with (first
        | (go_at_call 11; refine HBG.out.mono ?_; rintro e w7 ⟨rfl, h7⟩
           have B7 := Lib.hid (HB.out.eng h7)
           clear h7)
        | fail)
      clear hmin hmin2
      go_loopw [65] (fun kv wr => ∃ (k : Nat) (E3 : Eng) (G3 : Nat → Prop), k ≤ m ∧ kv = .int .i64 k ∧ Hid (WI E3 c t k) ∧ Hid (BR w wr p E3 G3 w4.heap.size (rdV c 6))) (fun kv _ => m - (intOf kv).toNat)
      case atStart => exact ⟨0, _, _, by omega, rfl, HW0.out, B7.out⟩
      case round =>
        obtain ⟨k, E3, G3, hk, rfl, HW, HB3⟩ := hrel
        by_cases hlt : k < m
        · have hki : (k : Int) < (m : Int) := by omega
          have hk50 : k ≤ 50 := by omega
          obtain ⟨b1, off, rfl, hb0, hcell0⟩ := HE.out k (by omega)
          have hzz := (HB3.out.oe.up.cell (p := ⟨b1, off + k, none⟩) hb0).trans hcell0
          have hzl := Nat.lt_of_lt_of_le hb0 HB3.out.oe.up.size
          clear hcell0
          generalize zb.getD k 0 = z at *
          obtain ⟨pg, hpg, hpg6⟩ := modV_nat z 6 (by omega)
          have PG := Lib.hid hpg
          obtain ⟨vv, hvv⟩ : ∃ vv, vv = modV (wrap64 (z.tdiv 8)) 100 := ⟨_, rfl⟩
          have VV : Hid (modV (wrap64 (z.tdiv 8)) 100 = vv) := hvv.symm
          have HWA := Lib.hid (wr_any HW.out hk50 (pg := pg) (by omega) vv p G3 wr HB3.out.oe.er)
          clear hpg hvv
          go_wp2_with (first
            | (go_at_call 13; refine (mod_any _ _ _ (by omega) (by omega)).mono ?_; (first | rw [PG.out] | rw [VV.out]); rintro e w' ⟨rfl, rfl⟩)
            | (go_at_call 12; refine HWA.out.mono ?_; rintro e w9 ⟨E4, rfl, h91, h92⟩; have B9 := Lib.hid (HB3.out.eng h91); have W9 := Lib.hid h92; clear h91 h92)
            | fail)
          go_roundw
          case rel => exact ⟨k + 1, _, _, by omega, by go_num, W9.out, B9.out⟩
          case measure => simp [intOf]; omega
        · obtain rfl : k = m := by omega
          have HRL := Lib.hid (roll_any HW.out (by omega) p G3 wr HB3.out.oe.er)
          go_wp2_with (first
            | (go_at_call 14; refine HRL.out.mono ?_; rintro e w9 ⟨E4, rfl, h91, h92, h93⟩
               have B9 := Lib.hid (HB3.out.eng h91)
               have HE4 := Lib.hid (And.intro h92 h93)
               have x0 := (B9.out.bk.at (i := 0) (v := .int .i64 (c 0)) rfl).2
               have x1 := (B9.out.bk.at (i := 1) (v := .int .i64 (c 1)) rfl).2
               have x2 := (B9.out.bk.at (i := 2) (v := .int .i64 (c 2)) rfl).2
               have x3 := (B9.out.bk.at (i := 3) (v := .int .i64 (c 3)) rfl).2
               have x4 := (B9.out.bk.at (i := 4) (v := .int .i64 (c 4)) rfl).2
               have x5 := (B9.out.bk.at (i := 5) (v := .int .i64 (c 5)) rfl).2
               have xl := B9.out.bk.lt
               clear h91 h92 h93)
            | fail)
          have HX := Lib.hid (rd_six c)
          go_loopw [84] (fun kv wr => ∃ k : Nat, k ≤ 6 ∧ kv = .int .i64 k ∧ Hid (Up w9 wr)) (fun kv _ => 6 - (intOf kv).toNat)
          case atStart => exact ⟨0, by omega, rfl, Up.refl w9⟩
          case round =>
            obtain ⟨k, hk, rfl, HU⟩ := hrel
            clear x0 x1 x2 x3 x4 x5 xl
            by_cases hlt : k < 6
            · have hki : (k : Int) < 6 := by omega
              have hb : k < E4.buf.length := by rw [HE4.out.1]; exact hlt
              have HRD := read_any p E4 _ k _ (B9.out.oe.er.up HU.out) hb
              rw [HE4.out.2 k hlt hb] at HRD
              have HRD := Lib.hid HRD
              have HXK := Lib.hid (HX.out k hlt)
              clear hb
              generalize hck : c k = vk at *
              clear hck
              go_wp2_with (first
                | (with_reducible refine wl_index_one rfl 28 _ _ rfl [.int .i64 (c 0), .int .i64 (c 1), .int .i64 (c 2), .int .i64 (c 3), .int .i64 (c 4), .int .i64 (c 5)] k _ 6 3 _ rfl rfl HU6.out hlt HI3.out hdI HS3.out HXK.out ?_)
                | (go_at_call 10; refine HRD.out.mono ?_; rintro e w6 ⟨rfl, h6⟩; have O6 := Lib.hid (HU.out.trans h6); clear h6)
                | fail)
              go_roundw
              case rel => exact ⟨k + 1, by omega, by go_num, O6.out⟩
              case measure => simp [intOf]; omega
            · obtain rfl : k = 6 := by omega
              go_wp2
              go_ret
              exact ⟨rfl, B9.out.oe.up.trans HU.out⟩
end Go.Proofs.Ytjalpppmgoepiaa.Rv
