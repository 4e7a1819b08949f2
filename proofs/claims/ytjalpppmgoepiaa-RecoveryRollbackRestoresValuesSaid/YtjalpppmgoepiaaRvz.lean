/- Recovery: a second crash changes nothing. -/
import Derived.Test.YtjalpppmgoepiaaRvy
namespace Go.Proofs.Ytjalpppmgoepiaa.Rv
open Go Go.RowKit Hp
set_option linter.unusedVariables false

/-- The values that the law has read, ahead of page k. -/
def rdV (c : Nat → Int) (k : Nat) : List Int := (List.range 6).map fun i => if i < k then c i else 0
theorem rdV_len (c : Nat → Int) (k : Nat) : (rdV c k).length = 6 := by simp [rdV]
theorem rdV_zero (c : Nat → Int) : rdV c 0 = List.replicate 6 0 := rfl
theorem rdV_succ (c : Nat → Int) (k : Nat) (h : k < 6) : (rdV c k).set k (c k) = rdV c (k + 1) := by
  refine List.ext_getElem (by rw [List.length_set, rdV_len, rdV_len]) fun i h1 h2 => ?_
  rw [List.getElem_set]
  simp only [rdV, List.getElem_map, List.getElem_range]
  by_cases e : k = i
  · subst e; simp
  · rw [if_neg e]
    by_cases e2 : i < k
    · rw [if_pos e2, if_pos (by omega)]
    · rw [if_neg e2, if_neg (by omega)]
theorem rdV_get (c : Nat → Int) (k : Nat) (h : k < 6) : (rdV c 6).getD k 0 = c k := by
  rw [List.getD_eq_getElem?_getD]
  simp [rdV, h]
theorem rd_six (c : Nat → Int) (k : Nat) (h : k < 6) : ([Value.int .i64 (c 0), .int .i64 (c 1), .int .i64 (c 2), .int .i64 (c 3), .int .i64 (c 4), .int .i64 (c 5)])[k]? = some (.int .i64 (c k)) := by
  have hx := iv_get (rdV c 6) k (by rw [rdV_len]; exact h)
  rw [rdV_get c k h] at hx
  exact hx
theorem rdV_six (c : Nat → Int) : rdV c 6 = [c 0, c 1, c 2, c 3, c 4, c 5] := rfl
/-- Behind the first crash. -/
structure CR (E : Eng) (c : Nat → Int) : Prop where
  ei : EI E
  hb : ∀ k, k < 6 → ∀ h : k < E.buf.length, E.buf[k].1 = c k
  bl : E.buf.length = 6
  ow : ∀ p, (lsl E.log).own p = 0
  cm : ∀ p, (lsl E.log).cm p = c p
  ac : E.act = []
  fl : E.fl = E.log.length
  en : ∀ r ∈ E.log, (lsl E.log).en r.tx = true
  ll : E.log.length ≤ 900
  la : E.last ≤ 150
theorem CR.of {E : Eng} {C : List Int} {A : List Nat} {g : Nat → Nat → Option Int} (h : PI E C A g 150) : CR (crE E) (lsl E.log).cm := by
  obtain ⟨e1, e2, e3, e4, e5, e6⟩ := h.ei.crash
  have hL : (crE E).log.length ≤ 3 * (lgE E).length := (los_len (cr1 E) (endK (lgE E) (lgE E).length) (lgE E).length (Nat.le_refl _)).1
  have hl : (lgE E).length ≤ E.log.length := by unfold lgE; rw [List.length_take]; exact Nat.min_le_right _ _
  have := h.ph
  have h1 : (crE E).last = E.last := by
    obtain ⟨⟨X, x1, _, _⟩, _⟩ := los_inv (cr1 E) (endK (lgE E) (lgE E).length) (lgE E).length
    exact x1.last
  exact ⟨e1, fun k hk hb => by rw [e1.val e2 hk hb, e3], e1.bl, e2, fun p => by rw [e3], e4, e5, e6, by omega, by rw [h1]; exact h.la⟩
theorem CR.crh {E : Eng} {c : Nat → Int} (h : CR E c) : CrH E := h.ei.crh (by have := h.ll; omega) (by have := h.la; omega)
theorem CR.again {E : Eng} {c : Nat → Int} (h : CR E c) : undone E = 0 ∧ (crE E).log = E.log ∧ (crE E).buf = E.buf ∧ (crE E).fl = E.log.length := by
  obtain ⟨a1, a2, a3⟩ := crash_again h.ei h.fl h.en
  exact ⟨a1, a2, a3, by rw [h.ei.crash.2.2.2.2.1, a2]⟩
/-- The array of the values read. -/
structure BR (w W : World) (p : Nat) (E : Eng) (G : Nat → Prop) (b : Nat) (V : List Int) : Prop where
  oe : OE w W p E G
  ng : ¬ G b
  hb : w.heap.size ≤ b
  bk : Blk W b (iv V) 28
section
variable {w W W' : World} {p : Nat} {E E' : Eng} {G : Nat → Prop} {b : Nat} {V : List Int}
theorem BR.new (h : OE w W p E G) : BR w (W.alloc (.cells #[.int .i64 0, .int .i64 0, .int .i64 0, .int .i64 0, .int .i64 0, .int .i64 0] 28)) p E G W.heap.size (List.replicate 6 0) :=
  ⟨h.upw ((Up.refl W).alloc _), fun e => by have := h.er.lt _ e; omega, h.up.size, Blk.new W #[.int .i64 0, .int .i64 0, .int .i64 0, .int .i64 0, .int .i64 0, .int .i64 0] 28⟩
theorem BR.upw (h : BR w W p E G b V) (hu : Up W W') : BR w W' p E G b V := ⟨h.oe.upw hu, h.ng, h.hb, h.bk.up hu⟩
theorem BR.eng (h : BR w W p E G b V) (hp : EngPost p E' G W W') : BR w W' p E' (Fx G W W') b V :=
  ⟨h.oe.eng hp, fun e => by
    rcases e with q | q
    · exact h.ng q
    · have := h.bk.lt; omega, h.hb, h.bk.chg hp.2 h.ng⟩
theorem BR.set (h : BR w W p E G b V) (k : Nat) (v : Int) : BR w (W.setCell ⟨b, k, none⟩ (.int .i64 v)) p E G b (V.set k v) := by
  have C1 := chg_set W b k none (.int .i64 v)
  refine ⟨⟨h.oe.er.chg C1 (fun j hj e => h.ng (e ▸ hj)), h.oe.gf, ((h.oe.up.chg (fun j => j = b)).trans C1 fun _ _ e => e).up fun j hj e => by have := h.hb; omega⟩, h.ng, h.hb, ?_⟩
  rw [← iv_set]
  exact h.bk.set k (.int .i64 v)
end
theorem crash_twice {E : Eng} {c : Nat → Int} (hc : CR E c) (p : Nat) (F : Nat → Prop) (w : World) (h : EngR w p E F) :
    Calls Try.prog 9 #[.pointer (some ⟨p, 0, none⟩)] w fun e w' => ∃ (rd : Nat) (E2 : Eng), e = .returned (.tuple #[.int .i64 (rd : Int), .int .i64 0]) ∧ EngPost p E2 F w w' ∧ (∀ k, k < 6 → ∀ h : k < E2.buf.length, E2.buf[k].1 = c k) ∧ E2.buf.length = 6 ∧ E2.log.length = E.log.length ∧ E2.fl = E.log.length := by
  obtain ⟨a1, a2, a3, a4⟩ := hc.again
  refine (crash_any p E F w h hc.crh).mono fun e w' ⟨rd, h1, h2⟩ => ⟨rd, crE E, by rw [h1, a1]; rfl, h2, ?_, by rw [a3]; exact hc.bl, by rw [a2], a4⟩
  rw [a3]
  exact hc.hb
theorem len_twice {E : Eng} {n : Nat} (h1 : E.log.length = n) (h2 : E.fl = n) (p : Nat) (F : Nat → Prop) (w : World) (h : EngR w p E F) :
    Calls Try.prog 15 #[.pointer (some ⟨p, 0, none⟩)] w fun e w' => e = .returned (.tuple #[.int .i64 (n : Int), .int .i64 (n : Int)]) ∧ Up w w' := by
  have := len_any p E F w h
  rw [h1, h2] at this
  exact this
set_option maxRecDepth 100000 in
set_option maxHeartbeats 4000000 in
theorem walk20 (a : Option Addr) (len cap : Nat) (zs : List Int) (w : World) (hE : Elems w a len zs) (hl : len ≤ cap) (hm : cap ≤ 9223372036854775807) :
    Calls Try.prog 5 #[.slice a len cap] w fun e w' => e = .returned (.bool true) ∧ Up w w' := by
  have HRUN := Lib.hid (fun p F W h => run_law p F a len cap zs w W h hE hl hm)
  have HU6 := Lib.hid Try.arr6
  obtain ⟨dI, hI, hdI⟩ := Try.intT
  have HI3 := Lib.hid hI
  have HS3 := Lib.hid Try.intS
  clear hE hI
  go_enter Try.func5, Try.ntmps5
  go_wp2_with (first
    | (go_at_call 6; refine (works_any _).mono ?_; rintro e w1 ⟨rfl, h1⟩; have U1 := Lib.hid h1; clear h1)
    | (go_at_call 7; refine (new_any 6 (by decide) (by decide) _).mono ?_; rintro e w2 ⟨p, rfl, F, h1, h2, h3⟩; have O2 : Hid (OE w w2 p (newE 6) F) := ⟨h1, fun j hj => Nat.le_trans U1.out.size (h2 j hj), U1.out.trans h3⟩; clear h1 h2 h3)
    | (go_at_call 8; refine (HRUN.out _ _ _ O2.out).mono ?_; rintro e w3 ⟨E, c0, c1, c2, c3, c4, c5, A, g, G, rfl, h1, h2⟩; have P3 := Lib.hid h1; have O3 := Lib.hid (h2.upw ((Up.refl w3).alloc (.cells #[.int .i64 c0, .int .i64 c1, .int .i64 c2, .int .i64 c3, .int .i64 c4, .int .i64 c5] 28))); clear h1 h2)
    | (go_at_call 9; refine (crash_any p E G _ O3.out.er P3.out.crh).mono ?_; rintro e w4 ⟨rd, rfl, h5⟩; have O4 := Lib.hid (O3.out.eng h5); have HG4 := Lib.hid O4.out.er.lt; clear h5)
    | fail)
  have HCR := Lib.hid (CR.of P3.out)
  have HB0 := Lib.hid (BR.new O4.out)
  generalize crE E = E1 at *
  generalize (lsl E.log).cm = c at *
  generalize hn1 : E1.log.length = n1 at *
  have HN1 := Lib.hid hn1
  clear hn1
  go_loopw [41] (fun kv wr => ∃ k : Nat, k ≤ 6 ∧ kv = .int .i64 k ∧ Hid (BR w wr p E1 (Fx G (w3.alloc (.cells #[.int .i64 c0, .int .i64 c1, .int .i64 c2, .int .i64 c3, .int .i64 c4, .int .i64 c5] 28)) w4) w4.heap.size (rdV c k))) (fun kv _ => 6 - (intOf kv).toNat)
  case atStart => exact ⟨0, by omega, rfl, HB0.out⟩
  case round =>
    obtain ⟨k, hk, rfl, HB⟩ := hrel
    by_cases hlt : k < 6
    · have hki : (k : Int) < 6 := by omega
      have hb : k < E1.buf.length := by rw [HCR.out.bl]; exact hlt
      have HRD := read_any p E1 _ k wr HB.out.oe.er hb
      rw [HCR.out.hb k hlt hb] at HRD
      have HRD := Lib.hid HRD
      have HVK : Hid ((rdV c k).set k (c k) = rdV c (k + 1)) := rdV_succ c k hlt
      clear hb
      generalize c k = vk at *
      go_wp2_with (first
        | (go_at_call 10; refine HRD.out.mono ?_; rintro e w6 ⟨rfl, h6⟩
           have B6 := Lib.hid (HB.out.upw h6)
           have e0 := (B6.out.bk.at (iv_get (rdV c k) k (by rw [rdV_len]; exact hlt))).2
           have e1 := B6.out.bk.free k
           have el := B6.out.bk.lt
           have B7 := Lib.hid (B6.out.set k vk)
           rw [HVK.out] at B7
           clear h6)
        | fail)
      go_roundw
      case rel => exact ⟨k + 1, by omega, by go_num, B7.out⟩
      case measure => simp [intOf]; omega
    · obtain rfl : k = 6 := by omega
      clear hk hlt
      go_wp2_with (first
        | (go_at_call 15; refine (len_twice HE2.out.2.2.1 HE2.out.2.2.2 p _ _ B8.out.oe.er).mono ?_; rintro e w9 ⟨rfl, h9⟩
           have B9 := Lib.hid (B8.out.upw h9)
           have x0 := (B9.out.bk.at (i := 0) (v := .int .i64 (c 0)) rfl).2
           have x1 := (B9.out.bk.at (i := 1) (v := .int .i64 (c 1)) rfl).2
           have x2 := (B9.out.bk.at (i := 2) (v := .int .i64 (c 2)) rfl).2
           have x3 := (B9.out.bk.at (i := 3) (v := .int .i64 (c 3)) rfl).2
           have x4 := (B9.out.bk.at (i := 4) (v := .int .i64 (c 4)) rfl).2
           have x5 := (B9.out.bk.at (i := 5) (v := .int .i64 (c 5)) rfl).2
           have xl := B9.out.bk.lt
           clear h9)
        | (go_at_call 15; refine (len_twice HN1.out (HCR.out.fl.trans HN1.out) p _ _ HB.out.oe.er).mono ?_; rintro e w7 ⟨rfl, h7⟩
           have B7 := Lib.hid (HB.out.upw h7)
           clear h7)
        | (go_at_call 9; refine (crash_twice HCR.out p _ _ B7.out.oe.er).mono ?_; rintro e w8 ⟨rd2, E2, rfl, h81, h82, h83, h84, h85⟩
           have B8 := Lib.hid (B7.out.eng h81)
           rw [HN1.out] at h84 h85
           have HE2 := Lib.hid (And.intro h82 (And.intro h83 (And.intro h84 h85)))
           clear h81 h82 h83 h84 h85)
        | fail)
      have HX := Lib.hid (rd_six c)
      go_loopw [69] (fun kv wr => ∃ k : Nat, k ≤ 6 ∧ kv = .int .i64 k ∧ Hid (Up w9 wr)) (fun kv _ => 6 - (intOf kv).toNat)
      case atStart => exact ⟨0, by omega, rfl, Up.refl w9⟩
      case round =>
        obtain ⟨k, hk, rfl, HU⟩ := hrel
        clear x0 x1 x2 x3 x4 x5 xl
        by_cases hlt : k < 6
        · have hki : (k : Int) < 6 := by omega
          have hb : k < E2.buf.length := by rw [HE2.out.2.1]; exact hlt
          have HRD := read_any p E2 _ k _ (B9.out.oe.er.up HU.out) hb
          rw [HE2.out.1 k hlt hb] at HRD
          have HRD := Lib.hid HRD
          have HXK := Lib.hid (HX.out k hlt)
          clear hb
          generalize hck : c k = vk at *
          clear hck
          go_wp2_with (first
            | (with_reducible refine wl_index_one rfl 28 _ _ rfl [.int .i64 (c 0), .int .i64 (c 1), .int .i64 (c 2), .int .i64 (c 3), .int .i64 (c 4), .int .i64 (c 5)] k _ 6 3 _ rfl rfl HU6.out hlt HI3.out hdI HS3.out HXK.out ?_)
            | (go_at_call 10; refine HRD.out.mono ?_; rintro e w6 ⟨rfl, h6⟩; have O6 := Lib.hid (HU.out.trans h6); clear h6)
            | fail)
          go_roundw
          case rel => exact ⟨k + 1, by omega, by go_num, O6.out⟩
          case measure => simp [intOf]; omega
        · obtain rfl : k = 6 := by omega
          go_wp2
          go_ret
          exact ⟨rfl, B9.out.oe.up.trans HU.out⟩
end Go.Proofs.Ytjalpppmgoepiaa.Rv
